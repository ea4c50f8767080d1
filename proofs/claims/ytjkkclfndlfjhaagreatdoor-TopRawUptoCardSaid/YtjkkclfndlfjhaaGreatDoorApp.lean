/- Words for slices of bytes that the call itself makes: append of bytes, whatever the source; what is owned reads as bytes. -/
import Derived.Test.YtjkkclfndlfjhaaGreatDoorKit
import Derived.Maps.AppendAt
import Derived.Deep.AppendLies
set_option linter.all false
namespace Go.Proofs.YtjkkclfndlfjhaaGreatDoor
open Go.RowKit Crc

theorem info5 : (Tryz.prog.info? 5).map (fun i => (i.zero, i.size, i.bytes)) = some (some (.int .u8 0), 1, 1) := by kernel_rfl

/-- The slice v is nil or a row of the call's own, from block 'base' on, and holds these bytes. -/
def Owns (w : World) (base : Nat) (v : Value) (bs : List UInt8) : Prop := w.ownsRow base 5 1 v bs.length (cellsOf bs)

theorem length_cellsOf (bs : List UInt8) : (cellsOf bs).length = bs.length := by simp [cellsOf]
theorem cellsOf_append (xs ys : List UInt8) : cellsOf (xs ++ ys) = cellsOf xs ++ cellsOf ys := by simp [cellsOf]
theorem cellsOf_set (bs : List UInt8) (j : Nat) (c : UInt8) : cellsOf (bs.set j c) = (cellsOf bs).set j (.int .u8 (c.toNat : Int)) := by
  simp [cellsOf, List.map_set]
theorem cellsOf_one (bs : List UInt8) : ∀ u ∈ cellsOf bs, u.oneCell' = true := by
  intro u hu
  simp only [cellsOf, List.mem_map] at hu
  obtain ⟨c, _, rfl⟩ := hu
  rfl
theorem cellsOf_inv {bs : List UInt8} {j : Nat} {u : Value} (h : (cellsOf bs)[j]? = some u) : ∃ c, bs[j]? = some c ∧ u = .int .u8 (c.toNat : Int) := by
  rw [cellsOf, List.getElem?_map] at h
  cases hc : bs[j]? with
  | none => rw [hc] at h; cases h
  | some c => rw [hc] at h; exact ⟨c, rfl, (Option.some.inj h).symm⟩

theorem Owns.nil (w : World) (base : Nat) : Owns w base (.slice none 0 0) [] := World.ownsRow_nil w base 5 1

theorem Owns.form {w : World} {base : Nat} {v : Value} {bs : List UInt8} (h : Owns w base v bs) (hn : 0 < bs.length) : ∃ g cap, v = .slice (some ⟨g, 0, none⟩) bs.length cap ∧ base ≤ g ∧ g < w.heap.size :=
  World.ownsRow.form h hn

theorem add_zero_off (g j : Nat) : (⟨g, 0, none⟩ : Addr).add j = ⟨g, j, none⟩ := by unfold Addr.add; split <;> simp_all

theorem Owns.bytes {w : World} {base : Nat} {v : Value} {bs : List UInt8} (h : Owns w base v bs) : IsBytes w v bs := by
  rcases h.2 with ⟨hv, h0⟩ | ⟨g, cap, cur, hv, _, hg, hnc, hcm, hcs, htake⟩
  · have : bs = [] := List.eq_nil_of_length_eq_zero h0
    subst this
    exact ⟨none, 0, hv, by simp, by decide, fun h => by simp at h⟩
  · refine ⟨some ⟨g, 0, none⟩, cap, hv, hnc, hcm, fun _ => ⟨g, 0, rfl, fun i c hi => ?_⟩⟩
    subst hv
    have := World.ownsRow.cells h (g := g) rfl i _ (cellsOf_get hi)
    rw [add_zero_off] at this
    rw [Nat.zero_add]
    exact this

theorem Owns.kept {w w' : World} {base : Nat} {v : Value} {bs : List UInt8} {row : Option Nat} (h : Owns w base v bs) (hg : w.grownBy w' row) (hne : v.ownBlock = none ∨ v.ownBlock ≠ row) : Owns w' base v bs :=
  World.ownsRow.kept h hg hne
theorem Owns.alloc {w : World} {base : Nat} {v : Value} {bs : List UInt8} (h : Owns w base v bs) (o : Obj) : Owns (w.alloc o) base v bs := World.ownsRow.alloc h o
theorem Owns.drew {w : World} {base : Nat} {v : Value} {bs : List UInt8} (h : Owns w base v bs) : Owns w.drew base v bs := h
theorem Owns.drewN {w : World} {base : Nat} {v : Value} {bs : List UInt8} (h : Owns w base v bs) (n : Nat) : Owns (w.drewN n) base v bs := h
theorem Owns.lt {w : World} {base : Nat} {v : Value} {bs : List UInt8} (h : Owns w base v bs) : ∀ k, v.ownBlock = some k → base ≤ k ∧ k < w.heap.size := World.ownsRow.lt h
theorem Owns.below {w w' : World} {base B : Nat} {v : Value} {bs : List UInt8} (h : Owns w base v bs) (hb : Below B w w') (hB : w.heap.size ≤ B) : Owns w' base v bs :=
  h.kept (row := none) ⟨hb.os, hb.tape, hb.output, hb.size, fun k hk _ => hb.block k (by omega)⟩ (by cases hv : v.ownBlock <;> simp)

theorem run_append_bytes (w : World) (ty : TypeId) (base : Nat) (v : Value) (xs : List UInt8) (hown : Owns w base v xs) (u : Value) (bs : List UInt8) (hb : IsBytes w u bs)
    (hlen : xs.length + bs.length ≤ 140737488355328) (hbase : base ≤ w.heap.size) :
    ∃ v' w', (Builtin.append_ #[72, 72] ty #[v, u]).run Tryz.prog w = .ok v' w' ∧ Owns w' base v' (xs ++ bs) ∧ w.grownBy w' v.ownBlock ∧ (v'.ownBlock = v.ownBlock ∨ v'.ownBlock = some w.heap.size) := by
  obtain ⟨i0, hi0, hz0, hz1, hz2⟩ := info_parts info5
  obtain ⟨A, cap, rfl, _, _, hr⟩ := hb
  cases A with
  | none =>
    have : bs = [] := by
      cases bs with
      | nil => rfl
      | cons c cs => obtain ⟨b, off, h, _⟩ := hr (by simp); cases h
    subst this
    refine ⟨v, w, ?_, by simpa using hown, World.grownBy.refl w _, .inl rfl⟩
    rcases hown.2 with ⟨rfl, h0⟩ | ⟨g, cap', cur, rfl, _, _, hnc, _⟩
    · have h1 := run_underlying (P := Tryz.prog) Tryz.underlying72 w
      simp [Builtin.append_, h1, sizeOf, typeInfo, hi0, Builtin.lenOf, Builtin.firstCells]
    · have h1 := run_underlying (P := Tryz.prog) Tryz.underlying72 w
      simp [Builtin.append_, h1, sizeOf, typeInfo, hi0, Builtin.lenOf, Builtin.firstCells, hnc, storeCells]
  | some ad =>
    obtain ⟨v', w', hrun, h2, h3, _, h5⟩ := run_append_own_at (P := Tryz.prog) w base 72 ty 5 i0 (.int .u8 0) 1 1 Tryz.underlying72 hi0 hz0 hz1 hz2 rfl (by omega) v xs.length (cellsOf xs) hown ad bs.length cap (cellsOf bs)
      (by rw [length_cellsOf]; omega)
      (fun j u hu => by
        obtain ⟨c, hc, rfl⟩ := cellsOf_inv hu
        have hj : j < bs.length := (List.getElem?_eq_some_iff.1 hc).1
        obtain ⟨b, off, hA, hcell⟩ := hr (by omega)
        obtain rfl := Option.some.inj hA
        have := hcell j c hc
        rw [Go.WideShapes.add_plain]
        exact this)
      (cellsOf_one bs) (by simp only [maxLen]; omega) (by omega) hbase
    refine ⟨v', w', hrun, ?_, h3, h5⟩
    unfold Owns
    rw [List.length_append, cellsOf_append]
    exact h2

theorem wp_append_bytes {o : Oper} {a : Act} {K : Act → World → Prop} {Q : Exit → Act → World → Prop} (w : World) (s x : Operand)
    (ho : o.op = .call { callee := .builtin .append, args := #[s, x], argTypes := #[72, 72] })
    (base : Nat) (v : Value) (xs : List UInt8) (hs : a.eval s = v) (hown : Owns w base v xs) (u : Value) (bs : List UInt8) (hx : a.eval x = u) (hb : IsBytes w u bs)
    (hlen : xs.length + bs.length ≤ 140737488355328) (hbase : base ≤ w.heap.size)
    (h : ∀ v' w', Owns w' base v' (xs ++ bs) → w.grownBy w' v.ownBlock → (v'.ownBlock = v.ownBlock ∨ v'.ownBlock = some w.heap.size) → K (a.put o.dst v') w') : o.wp Tryz.prog a w K Q := by
  obtain ⟨v', w', hrun, h2, h3, h4⟩ := run_append_bytes w o.type base v xs hown u bs hb hlen hbase
  unfold Oper.wp execOp
  simp only [ho, resolve, invoke, builtin, Sem.run_bind, Sem.run_pure, Result.andThen_ok, List.map_toArray, List.map_cons, List.map_nil, hs, hx, hrun]
  exact h v' w' h2 h3 h4

/-- 'append' of bytes onto a slice of the call's own, in a plain region. -/
theorem wpl_append_bytes {ops : Array Oper} {rest : List Oper} {o : Oper} {a : Act} {Q : Exit → Act → World → Prop} (w : World) (hgd : o.guard = none) (s x : Operand)
    (ho : o.op = .call { callee := .builtin .append, args := #[s, x], argTypes := #[72, 72] })
    (base : Nat) (v : Value) (xs : List UInt8) (hs : a.eval s = v) (hown : Owns w base v xs) (u : Value) (bs : List UInt8) (hx : a.eval x = u) (hb : IsBytes w u bs)
    (hlen : xs.length + bs.length ≤ 140737488355328) (hbase : base ≤ w.heap.size)
    (h : ∀ v' w', Owns w' base v' (xs ++ bs) → w.grownBy w' v.ownBlock → (v'.ownBlock = v.ownBlock ∨ v'.ownBlock = some w.heap.size) → wpList Tryz.prog ops Q rest (a.put o.dst v') w') : wpList Tryz.prog ops Q (o :: rest) a w :=
  wpList_plain hgd fun _ hK => wp_append_bytes w s x ho base v xs hs hown u bs hx hb hlen hbase fun v' w' h2 h3 h4 => hK _ _ (h v' w' h2 h3 h4)

/-- The same at a step of a region that draws its order. -/
theorem step_append_bytes {ops : Array Oper} {o : Oper} {a : Act} {K : Act → World → Prop} {Q : Exit → Act → World → Prop} {E : Prop} (w : World) (hgd : o.guard = none) (s x : Operand)
    (ho : o.op = .call { callee := .builtin .append, args := #[s, x], argTypes := #[72, 72] })
    (base : Nat) (v : Value) (xs : List UInt8) (hs : a.eval s = v) (hown : Owns w base v xs) (u : Value) (bs : List UInt8) (hx : a.eval x = u) (hb : IsBytes w u bs)
    (hlen : xs.length + bs.length ≤ 140737488355328) (hbase : base ≤ w.heap.size)
    (h : ∀ v' w', Owns w' base v' (xs ++ bs) → w.grownBy w' v.ownBlock → (v'.ownBlock = v.ownBlock ∨ v'.ownBlock = some w.heap.size) → K (a.put o.dst v') w') :
    if Region.wanted o (yielded ops a.tmps) = true then Oper.wp Tryz.prog o a w K Q else E := by
  have hw : Region.wanted o (yielded ops a.tmps) = true := by simp [Region.wanted, hgd]
  rw [if_pos hw]
  exact wp_append_bytes w s x ho base v xs hs hown u bs hx hb hlen hbase h

/-- Behind an append: what lay below the call's own blocks has not turned. -/
theorem below_append {B : Nat} {a w w' : World} {base : Nat} {v : Value} {bs : List UInt8} (h : Below B a w) (hown : Owns w base v bs) (hB : B ≤ base) (hg : w.grownBy w' v.ownBlock) (hs : B ≤ w.heap.size) : Below B a w' :=
  h.grown hg hs (fun k hk => by have := (hown.lt k hk).1; omega)

/-- A byte of what is owned: it is there, it may be written; what is owned behind the store. -/
theorem Owns.at_ {w : World} {base g cap : Nat} {bs : List UInt8} (h : Owns w base (.slice (some ⟨g, 0, none⟩) bs.length cap) bs) (j : Nat) (hj : j < bs.length) :
    w.cell? ⟨g, j, none⟩ = some (.int .u8 ((bs[j]'hj).toNat : Int)) ∧ w.frozen? ⟨g, j, none⟩ = false := by
  refine ⟨?_, World.ownsRow.frozenAt h j⟩
  rw [World.ownsRow.cellAt h j (by omega)]
  exact cellsOf_get (List.getElem?_eq_getElem hj)
theorem Owns.store {w : World} {base g cap : Nat} {bs : List UInt8} (h : Owns w base (.slice (some ⟨g, 0, none⟩) bs.length cap) bs) (j : Nat) (c : UInt8) :
    Owns (w.setCell ⟨g, j, none⟩ (.int .u8 (c.toNat : Int))) base (.slice (some ⟨g, 0, none⟩) (bs.set j c).length cap) (bs.set j c) := by
  have := (World.ownsRow.stored h j (.int .u8 (c.toNat : Int))).1
  unfold Owns
  rw [List.length_set, cellsOf_set]
  exact this

theorem Owns.len {w : World} {base g n cap : Nat} {bs : List UInt8} (h : Owns w base (.slice (some ⟨g, 0, none⟩) n cap) bs) : n = bs.length := by
  rcases h.2 with ⟨h', _⟩ | ⟨g', cap', cur, h', _⟩
  · simp at h'
  · simp only [Value.slice.injEq] at h'
    exact h'.2.1
theorem Owns.get {w : World} {base g n cap : Nat} {bs : List UInt8} (h : Owns w base (.slice (some ⟨g, 0, none⟩) n cap) bs) {j : Nat} {c : UInt8} (hj : bs[j]? = some c) :
    w.cell? ⟨g, j, none⟩ = some (.int .u8 (c.toNat : Int)) ∧ w.frozen? ⟨g, j, none⟩ = false := by
  have hl := h.len
  subst hl
  have hlt : j < bs.length := (List.getElem?_eq_some_iff.1 hj).1
  have := h.at_ j hlt
  rw [(List.getElem?_eq_some_iff.1 hj).2] at this
  exact this
theorem Owns.put {w : World} {base g n cap : Nat} {bs : List UInt8} (h : Owns w base (.slice (some ⟨g, 0, none⟩) n cap) bs) (j : Nat) (c : UInt8) :
    Owns (w.setCell ⟨g, j, none⟩ (.int .u8 (c.toNat : Int))) base (.slice (some ⟨g, 0, none⟩) n cap) (bs.set j c) := by
  have hl := h.len
  subst hl
  have := h.store j c
  rw [List.length_set] at this
  exact this
theorem Owns.other {w : World} {base g : Nat} {v : Value} {bs : List UInt8} (h : Owns w base v bs) (hne : v.ownBlock ≠ some g) (j : Nat) (u : Value) : Owns (w.setCell ⟨g, j, none⟩ u) base v bs :=
  h.kept (row := some g) ⟨rfl, rfl, rfl, by simp, fun k _ hk => heap_setCell_other w ⟨g, j, none⟩ k u (fun e => hk (by simp [e]))⟩ (.inr hne)

end Go.Proofs.YtjkkclfndlfjhaaGreatDoor
