/- Rows of rows of bytes: a slice of slices that reads as rows; one that the call itself makes; append of a row. -/
import Derived.Test.YtjkkclfndlfjhaaGreatDoorApp
import Derived.Test.YtjkkclfndlfjhaaGreatDoorCrc
import Derived.Maps.OwnIn
set_option linter.all false
namespace Go.Proofs.YtjkkclfndlfjhaaGreatDoor
open Go.RowKit Crc

theorem info29 : (Tryz.prog.info? 72).map (fun i => (i.zero, i.size, i.bytes)) = some (some (.slice none 0 0), 1, 24) := by kernel_rfl

/-- The slice v is of slices that hold these rows of bytes. -/
def IsRows (w : World) (v : Value) (rs : List (List UInt8)) : Prop :=
  ∃ A cap, v = .slice A rs.length cap ∧ rs.length ≤ cap ∧ cap ≤ maxLen ∧
    (0 < rs.length → ∃ b off, A = some ⟨b, off, none⟩ ∧ ∀ (i : Nat) r, rs[i]? = some r → ∃ u, w.cell? ⟨b, off + i, none⟩ = some u ∧ IsBytes w u r)

theorem IsBytes.oneCell {w : World} {u : Value} {r : List UInt8} (h : IsBytes w u r) : u.oneCell' = true := by
  obtain ⟨A, cap, rfl, _⟩ := h
  rfl

theorem IsBytes.block {w : World} {u : Value} {r : List UInt8} (h : IsBytes w u r) (hp : 0 < r.length) : ∃ b, u.ownBlock = some b ∧ b < w.heap.size := by
  obtain ⟨A, cap, rfl, _, _, hr⟩ := h
  obtain ⟨b, off, rfl, hcell⟩ := hr hp
  refine ⟨b, rfl, ?_⟩
  have := hcell 0 _ (List.getElem?_eq_getElem hp)
  rcases Nat.lt_or_ge b w.heap.size with h' | h'
  · exact h'
  · simp [World.cell?, Array.getElem?_eq_none h'] at this

/-- What does not lie in the block that has turned reads as it read. -/
theorem IsBytes.kept {w w' : World} {u : Value} {r : List UInt8} {row : Option Nat} (h : IsBytes w u r) (hg : w.grownBy w' row) (hne : 0 < r.length → u.ownBlock ≠ row) : IsBytes w' u r := by
  by_cases hp : 0 < r.length
  · obtain ⟨b, hb, hlt⟩ := h.block hp
    obtain ⟨A, cap, rfl, hl, hc, hr⟩ := h
    obtain ⟨b', off, rfl, hcell⟩ := hr hp
    have hne' := hne hp
    simp only [Value.ownBlock, Option.some.injEq] at hb hne'
    subst hb
    refine ⟨_, _, rfl, hl, hc, fun _ => ⟨_, _, rfl, fun i c hi => ?_⟩⟩
    have hh := hg.block b' hlt hne'
    rw [← hcell i c hi]
    simp only [World.cell?]
    rw [hh]
  · obtain ⟨A, cap, rfl, hl, hc, hr⟩ := h
    exact ⟨_, _, rfl, hl, hc, fun h' => absurd h' hp⟩

theorem cell_lt {w : World} {b off : Nat} {u : Value} (h : w.cell? ⟨b, off, none⟩ = some u) : b < w.heap.size := by
  rcases Nat.lt_or_ge b w.heap.size with h' | h'
  · exact h'
  · simp [World.cell?, Array.getElem?_eq_none h'] at h

theorem IsRows.below {w w' : World} {v : Value} {rs : List (List UInt8)} (h : IsRows w v rs) (hb : Below w.heap.size w w') : IsRows w' v rs := by
  obtain ⟨A, cap, rfl, hl, hc, hr⟩ := h
  refine ⟨_, _, rfl, hl, hc, fun hp => ?_⟩
  obtain ⟨b, off, rfl, hcell⟩ := hr hp
  refine ⟨_, _, rfl, fun i r hi => ?_⟩
  obtain ⟨u, hu, hbu⟩ := hcell i r hi
  exact ⟨u, (hb.cell (p := ⟨b, off + i, none⟩) (cell_lt hu)).trans hu, hbu.below hb⟩

theorem IsRows.take {w : World} {A : Option Addr} {cap : Nat} {rs : List (List UInt8)} (h : IsRows w (.slice A rs.length cap) rs) (k : Nat) (hk : k ≤ rs.length) : IsRows w (.slice A k cap) (rs.take k) := by
  obtain ⟨A', cap', hv, hl, hc, hr⟩ := h
  simp only [Value.slice.injEq, true_and] at hv
  obtain ⟨rfl, rfl⟩ := hv
  have hlen : (rs.take k).length = k := by rw [List.length_take]; omega
  refine ⟨_, _, by rw [hlen], by omega, hc, fun hp => ?_⟩
  obtain ⟨b, off, rfl, hcell⟩ := hr (by omega)
  refine ⟨_, _, rfl, fun i r hi => hcell i r ?_⟩
  rw [List.getElem?_take] at hi
  split at hi
  · exact hi
  · cases hi

/-- One of the rows: its cell, what it holds. -/
theorem IsRows.at_ {w : World} {A : Option Addr} {n cap : Nat} {rs : List (List UInt8)} (h : IsRows w (.slice A n cap) rs) {i : Nat} {r : List UInt8} (hi : rs[i]? = some r) :
    ∃ b off u, A = some ⟨b, off, none⟩ ∧ w.cell? ⟨b, off + i, none⟩ = some u ∧ IsBytes w u r := by
  obtain ⟨A', cap', hv, hl, hc, hr⟩ := h
  simp only [Value.slice.injEq] at hv
  obtain ⟨rfl, rfl, rfl⟩ := hv
  obtain ⟨b, off, rfl, hcell⟩ := hr (by have := (List.getElem?_eq_some_iff.1 hi).1; omega)
  obtain ⟨u, hu, hbu⟩ := hcell i r hi
  exact ⟨b, off, u, rfl, hu, hbu⟩

/-- The slice v is nil or a row of the call's own, and its slices hold these rows of bytes, none of them in v's own block. -/
def OwnRows (w : World) (base : Nat) (v : Value) (rs : List (List UInt8)) : Prop :=
  ∃ us : List Value, w.ownsRow base 72 1 v rs.length us ∧ ∀ (i : Nat) u r, us[i]? = some u → rs[i]? = some r → IsBytes w u r ∧ (0 < r.length → u.ownBlock ≠ v.ownBlock)

theorem OwnRows.nil (w : World) (base : Nat) : OwnRows w base (.slice none 0 0) [] := ⟨[], World.ownsRow_nil w base 72 1, fun i u r h => by simp at h⟩

theorem OwnRows.rows {w : World} {base : Nat} {v : Value} {rs : List (List UInt8)} (h : OwnRows w base v rs) : IsRows w v rs := by
  obtain ⟨us, ho, he⟩ := h
  have hul : us.length = rs.length := by rw [ho.1, Nat.mul_one]
  rcases ho.2 with ⟨rfl, h0⟩ | ⟨g, cap, cur, rfl, _, hg, hnc, hcm, hcs, htake⟩
  · have : rs = [] := List.eq_nil_of_length_eq_zero h0
    subst this
    exact ⟨none, 0, rfl, by simp, by decide, fun h => by simp at h⟩
  · refine ⟨_, cap, rfl, hnc, hcm, fun _ => ⟨g, 0, rfl, fun i r hi => ?_⟩⟩
    have hlt : i < us.length := by have := (List.getElem?_eq_some_iff.1 hi).1; omega
    have hu : us[i]? = some (us[i]'hlt) := List.getElem?_eq_getElem hlt
    refine ⟨_, ?_, (he i _ r hu hi).1⟩
    have := World.ownsRow.cells ho (g := g) rfl i _ hu
    rw [add_zero_off] at this
    rw [Nat.zero_add]
    exact this

theorem OwnRows.form {w : World} {base : Nat} {v : Value} {rs : List (List UInt8)} (h : OwnRows w base v rs) (hn : 0 < rs.length) : ∃ g cap, v = .slice (some ⟨g, 0, none⟩) rs.length cap ∧ base ≤ g ∧ g < w.heap.size := by
  obtain ⟨us, ho, _⟩ := h
  exact World.ownsRow.form ho hn

theorem OwnRows.lt {w : World} {base : Nat} {v : Value} {rs : List (List UInt8)} (h : OwnRows w base v rs) : ∀ k, v.ownBlock = some k → base ≤ k ∧ k < w.heap.size := by
  obtain ⟨us, ho, _⟩ := h
  exact World.ownsRow.lt ho

theorem OwnRows.below {w w' : World} {base B : Nat} {v : Value} {rs : List (List UInt8)} (h : OwnRows w base v rs) (hb : Below B w w') (hB : w.heap.size ≤ B) : OwnRows w' base v rs := by
  obtain ⟨us, ho, he⟩ := h
  have hg : w.grownBy w' none := ⟨hb.os, hb.tape, hb.output, hb.size, fun k hk _ => hb.block k (by omega)⟩
  exact ⟨us, ho.kept hg (by cases hv : v.ownBlock <;> simp), fun i u r hu hr => ⟨(he i u r hu hr).1.below (hb.mono hB), (he i u r hu hr).2⟩⟩

/-- What a step that has turned another block leaves. -/
theorem OwnRows.kept {w w' : World} {base g : Nat} {v : Value} {rs : List (List UInt8)} (h : OwnRows w base v rs) (hg : w.grownBy w' (some g)) (hne : v.ownBlock ≠ some g) (hno : ∀ u r, IsBytes w u r → 0 < r.length → u.ownBlock ≠ some g) : OwnRows w' base v rs := by
  obtain ⟨us, ho, he⟩ := h
  exact ⟨us, ho.kept hg (.inr hne), fun i u r hu hr => ⟨(he i u r hu hr).1.kept hg (hno u r (he i u r hu hr).1), (he i u r hu hr).2⟩⟩

/-- APPEND OF A ROW. -/
theorem run_append_row (w : World) (ty : TypeId) (base : Nat) (v : Value) (rs : List (List UInt8)) (hown : OwnRows w base v rs) (u : Value) (r : List UInt8) (ad : Addr) (c : Nat) (hcell : w.cell? (ad.add 0) = some u) (hu : IsBytes w u r)
    (hoff : 0 < r.length → u.ownBlock ≠ v.ownBlock) (hlen : (rs.length + 1) * 24 ≤ 140737488355328) (hbase : base ≤ w.heap.size) :
    ∃ v' w', (Builtin.append_ #[79, 79] ty #[v, .slice (some ad) 1 c]).run Tryz.prog w = .ok v' w' ∧ OwnRows w' base v' (rs ++ [r]) ∧ w.grownBy w' v.ownBlock ∧ (v'.ownBlock = v.ownBlock ∨ v'.ownBlock = some w.heap.size) := by
  obtain ⟨i0, hi0, hz0, hz1, hz2⟩ := info_parts info29
  obtain ⟨us, ho, he⟩ := hown
  have hul : us.length = rs.length := by rw [ho.1, Nat.mul_one]
  obtain ⟨v', w', hrun, h2, h3, _, h5⟩ := run_append_own_at (P := Tryz.prog) w base 79 ty 72 i0 (.slice none 0 0) 1 24 Tryz.underlying79 hi0 hz0 hz1 hz2 rfl (by omega) v rs.length us ho ad 1 c [u] rfl
    (fun j x hx => by
      cases j with
      | zero => simp at hx; subst hx; exact hcell
      | succ j => simp at hx)
    (by intro x hx; simp at hx; subst hx; exact hu.oneCell) (by simp only [maxLen]; omega) hlen hbase
  refine ⟨v', w', hrun, ⟨us ++ [u], by rw [List.length_append]; exact h2, ?_⟩, h3, h5⟩
  have key : ∀ x y, IsBytes w x y → (0 < y.length → x.ownBlock ≠ v.ownBlock) → IsBytes w' x y ∧ (0 < y.length → x.ownBlock ≠ v'.ownBlock) := by
    intro x y hx hxo
    refine ⟨hx.kept h3 hxo, fun hp => ?_⟩
    rcases h5 with h5 | h5
    · rw [h5]; exact hxo hp
    · obtain ⟨b, hb, hlt⟩ := hx.block hp
      rw [h5, hb]
      intro e
      simp at e
      omega
  intro i x y hx hy
  rcases Nat.lt_trichotomy i us.length with hi | hi | hi
  · rw [List.getElem?_append_left hi] at hx
    rw [List.getElem?_append_left (by omega)] at hy
    have := he i x y hx hy
    exact key x y this.1 this.2
  · subst hi
    rw [List.getElem?_concat_length] at hx
    rw [hul, List.getElem?_concat_length] at hy
    cases hx
    cases hy
    exact key u r hu hoff
  · rw [List.getElem?_eq_none (by rw [List.length_append]; simp; omega)] at hx
    cases hx

theorem wpl_append_row {ops : Array Oper} {rest : List Oper} {o : Oper} {a : Act} {Q : Exit → Act → World → Prop} (w : World) (hgd : o.guard = none) (s x : Operand)
    (ho : o.op = .call { callee := .builtin .append, args := #[s, x], argTypes := #[79, 79] })
    (base : Nat) (v : Value) (rs : List (List UInt8)) (hs : a.eval s = v) (hown : OwnRows w base v rs) (u : Value) (r : List UInt8) (ad : Addr) (c : Nat) (hx : a.eval x = .slice (some ad) 1 c) (hcell : w.cell? (ad.add 0) = some u) (hu : IsBytes w u r)
    (hoff : 0 < r.length → u.ownBlock ≠ v.ownBlock) (hlen : (rs.length + 1) * 24 ≤ 140737488355328) (hbase : base ≤ w.heap.size)
    (h : ∀ v' w', OwnRows w' base v' (rs ++ [r]) → w.grownBy w' v.ownBlock → (v'.ownBlock = v.ownBlock ∨ v'.ownBlock = some w.heap.size) → wpList Tryz.prog ops Q rest (a.put o.dst v') w') : wpList Tryz.prog ops Q (o :: rest) a w :=
  wpList_plain hgd fun K hK => by
    obtain ⟨v', w', hrun, h2, h3, h4⟩ := run_append_row w o.type base v rs hown u r ad c hcell hu hoff hlen hbase
    unfold Oper.wp execOp
    simp only [ho, resolve, invoke, builtin, Sem.run_bind, Sem.run_pure, Result.andThen_ok, List.map_toArray, List.map_cons, List.map_nil, hs, hx, hrun]
    exact hK _ _ (h v' w' h2 h3 h4)

/-- The same in a round of a loop over an iterator. -/
theorem wplIn_append_row {F : Fence} {n : Nat} {ops : Array Oper} {rest : List Oper} {o : Oper} {a : Act} {Q : Exit → Act → World → Prop} (w : World) (hgd : o.guard = none) (s x : Operand)
    (ho : o.op = .call { callee := .builtin .append, args := #[s, x], argTypes := #[79, 79] })
    (base : Nat) (v : Value) (rs : List (List UInt8)) (hs : a.eval s = v) (hown : OwnRows w base v rs) (u : Value) (r : List UInt8) (ad : Addr) (c : Nat) (hx : a.eval x = .slice (some ad) 1 c) (hcell : w.cell? (ad.add 0) = some u) (hu : IsBytes w u r)
    (hoff : 0 < r.length → u.ownBlock ≠ v.ownBlock) (hlen : (rs.length + 1) * 24 ≤ 140737488355328) (hbase : base ≤ w.heap.size)
    (h : ∀ v' w', OwnRows w' base v' (rs ++ [r]) → w.grownBy w' v.ownBlock → (v'.ownBlock = v.ownBlock ∨ v'.ownBlock = some w.heap.size) → wpListIn F n Tryz.prog ops Q rest (a.put o.dst v') w') : wpListIn F n Tryz.prog ops Q (o :: rest) a w := by
  refine wpListIn_plain hgd fun K hK => ?_
  obtain ⟨v', w', hrun, h2, h3, h4⟩ := run_append_row w o.type base v rs hown u r ad c hcell hu hoff hlen hbase
  unfold Oper.wpIn
  refine ⟨by simp [Oper.about, ho, resolve, Target.leads, Sem.run_pure], ?_⟩
  rw [Oper.semAt_plain F _ _ (by rw [ho]; intro c hc'; cases hc')]
  simp [execOp, ho, resolve, invoke, builtin, hs, hx, hrun, Result.andThen]
  exact hK _ _ (h v' w' h2 h3 h4)

end Go.Proofs.YtjkkclfndlfjhaaGreatDoor
