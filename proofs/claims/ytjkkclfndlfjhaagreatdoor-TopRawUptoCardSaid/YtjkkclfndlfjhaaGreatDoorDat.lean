/- Lists of flat elements: a slice that reads as a list; one that the call itself makes; what a step leaves of them. -/
import Derived.Maps.AppendAt
import Derived.Deep.AppendLies
import Derived.RowKit
import Derived.Below
import Derived.ProofKit
set_option linter.all false
namespace Go.Proofs.YtjkkclfndlfjhaaGreatDoor
open Go.RowKit

/-- How an element lies: so many cells, and which. -/
structure Lay (α : Type) where
  k : Nat
  cells : α → List Value
  len : ∀ x, (cells x).length = k
  pos : 0 < k
  one : ∀ x, ∀ u ∈ cells x, u.oneCell' = true

variable {α : Type} {L : Lay α}

/-- The cells of all elements. -/
def Lay.flat (L : Lay α) (xs : List α) : List Value := xs.flatMap L.cells
theorem Lay.flat_nil : L.flat [] = [] := rfl
theorem Lay.flat_cons (x : α) (xs : List α) : L.flat (x :: xs) = L.cells x ++ L.flat xs := by simp [Lay.flat]
theorem Lay.flat_append (xs ys : List α) : L.flat (xs ++ ys) = L.flat xs ++ L.flat ys := by simp [Lay.flat]
theorem Lay.flat_one (x : α) : L.flat [x] = L.cells x := by simp [Lay.flat]
theorem Lay.flat_len : ∀ xs : List α, (L.flat xs).length = xs.length * L.k
  | [] => by simp [Lay.flat]
  | x :: xs => by rw [Lay.flat_cons, List.length_append, L.len, Lay.flat_len xs, List.length_cons, Nat.succ_mul, Nat.add_comm]
theorem Lay.flat_all (xs : List α) : ∀ u ∈ L.flat xs, u.oneCell' = true := by
  intro u hu
  obtain ⟨x, _, h⟩ := List.mem_flatMap.1 hu
  exact L.one x u h
theorem Lay.flat_get : ∀ {xs : List α} {i : Nat} {x : α} {j : Nat} {u : Value}, xs[i]? = some x → (L.cells x)[j]? = some u → (L.flat xs)[i * L.k + j]? = some u
  | [], i, x, j, u, h, _ => by simp at h
  | y :: ys, 0, x, j, u, h, hj => by
    cases h
    have : j < (L.cells y).length := (List.getElem?_eq_some_iff.1 hj).1
    rw [Lay.flat_cons, Nat.zero_mul, Nat.zero_add, List.getElem?_append_left this]
    exact hj
  | y :: ys, i + 1, x, j, u, h, hj => by
    rw [Lay.flat_cons, List.getElem?_append_right (by rw [L.len, Nat.succ_mul]; omega), L.len, show (i + 1) * L.k + j - L.k = i * L.k + j by rw [Nat.succ_mul]; omega]
    exact Lay.flat_get (by simpa using h) hj

/-- The slice v reads as this list. -/
def IsL (w : World) (L : Lay α) (v : Value) (xs : List α) : Prop :=
  ∃ A cap, v = .slice A xs.length cap ∧ xs.length ≤ cap ∧ cap ≤ maxLen ∧
    (0 < xs.length → ∃ b off, A = some ⟨b, off, none⟩ ∧ ∀ j u, (L.flat xs)[j]? = some u → w.cell? ⟨b, off + j, none⟩ = some u)

theorem IsL.nil (w : World) (L : Lay α) : IsL w L (.slice none 0 0) [] := ⟨none, 0, rfl, by simp, by decide, fun h => by simp at h⟩

theorem IsL.at_ {w : World} {A : Option Addr} {n cap : Nat} {xs : List α} (h : IsL w L (.slice A n cap) xs) {i : Nat} {x : α} (hi : xs[i]? = some x) :
    ∃ b off, A = some ⟨b, off, none⟩ ∧ ∀ j u, (L.cells x)[j]? = some u → w.cell? ⟨b, off + (i * L.k + j), none⟩ = some u := by
  obtain ⟨A', cap', hv, hl, hc, hr⟩ := h
  simp only [Value.slice.injEq] at hv
  obtain ⟨rfl, rfl, rfl⟩ := hv
  obtain ⟨b, off, rfl, hcell⟩ := hr (by have := (List.getElem?_eq_some_iff.1 hi).1; omega)
  exact ⟨b, off, rfl, fun j u hj => hcell _ _ (Lay.flat_get hi hj)⟩
theorem IsL.some_ {w : World} {v : Value} {xs : List α} (h : IsL w L v xs) (hp : 0 < xs.length) : ∃ b off cap, v = .slice (some ⟨b, off, none⟩) xs.length cap ∧ xs.length ≤ cap ∧ cap ≤ maxLen := by
  obtain ⟨A', cap', hv, hl, hc, hr⟩ := h
  obtain ⟨b, off, rfl, _⟩ := hr hp
  exact ⟨b, off, cap', hv, hl, hc⟩

theorem IsL.block {w : World} {v : Value} {xs : List α} (h : IsL w L v xs) (hp : 0 < xs.length) : ∃ b, v.ownBlock = some b ∧ b < w.heap.size := by
  obtain ⟨A, cap, rfl, _, _, hr⟩ := h
  obtain ⟨b, off, rfl, hcell⟩ := hr hp
  refine ⟨b, rfl, ?_⟩
  have hl : 0 < (L.flat xs).length := by rw [Lay.flat_len]; exact Nat.mul_pos hp L.pos
  have := hcell 0 _ (List.getElem?_eq_getElem hl)
  rcases Nat.lt_or_ge b w.heap.size with h' | h'
  · exact h'
  · simp [World.cell?, Array.getElem?_eq_none h'] at this

theorem IsL.kept {w w' : World} {v : Value} {xs : List α} {row : Option Nat} (h : IsL w L v xs) (hg : w.grownBy w' row) (hne : 0 < xs.length → v.ownBlock ≠ row) : IsL w' L v xs := by
  by_cases hp : 0 < xs.length
  · obtain ⟨b, hb, hlt⟩ := h.block hp
    obtain ⟨A, cap, rfl, hl, hc, hr⟩ := h
    obtain ⟨b', off, rfl, hcell⟩ := hr hp
    have hne' := hne hp
    simp only [Value.ownBlock, Option.some.injEq] at hb hne'
    subst hb
    refine ⟨_, _, rfl, hl, hc, fun _ => ⟨_, _, rfl, fun i c hi => ?_⟩⟩
    have hh := hg.block b' hlt hne'
    rw [← hcell i c hi]
    simp only [World.cell?]
    rw [hh]
  · obtain ⟨A, cap, rfl, hl, hc, hr⟩ := h
    exact ⟨_, _, rfl, hl, hc, fun h' => absurd h' hp⟩

theorem grown_of_below {B : Nat} {w w' : World} (hb : Below B w w') (hB : w.heap.size ≤ B) (row : Option Nat) : w.grownBy w' row :=
  ⟨hb.os, hb.tape, hb.output, hb.size, fun k hk _ => hb.block k (by omega)⟩
theorem below_of_grown {w w' : World} {row : Option Nat} {n : Nat} (h : w.grownBy w' row) (hr : ∀ k, row = some k → n ≤ k) (hn : n ≤ w.heap.size) : Below n w w' :=
  ⟨h.os, h.tape, h.output, h.size, fun k hk => h.block k (by omega) (fun e => by have := hr k e.symm; omega)⟩
theorem grown_trans {w0 w1 w2 : World} {r r2 : Option Nat} (h1 : w0.grownBy w1 r) (h2 : w1.grownBy w2 r2) (h : ∀ k, r2 = some k → k < w0.heap.size → r = some k) : w0.grownBy w2 r :=
  ⟨h2.os.trans h1.os, h2.tape.trans h1.tape, h2.output.trans h1.output, Nat.le_trans h1.size h2.size, fun k hk hne => (h2.block k (Nat.lt_of_lt_of_le hk h1.size) (fun e => hne (h k e.symm hk).symm)).trans (h1.block k hk hne)⟩
theorem grown_alloc {w0 w1 : World} {r : Option Nat} (h1 : w0.grownBy w1 r) (o : Obj) : w0.grownBy (w1.alloc o) r :=
  grown_trans h1 (grown_of_below ((Below.refl w1.heap.size w1).alloc (Nat.le_refl _) o) (Nat.le_refl _) none) (fun k e => by cases e)
theorem grown_drew {w0 w1 : World} {r : Option Nat} (h1 : w0.grownBy w1 r) : w0.grownBy w1.drew r :=
  grown_trans h1 (grown_of_below ((Below.refl w1.heap.size w1).drew) (Nat.le_refl _) none) (fun k e => by cases e)

/-- FRAME: nothing but the blocks of S has turned, and new ones. -/
structure Fr (S : Nat → Prop) (W W' : World) : Prop where
  os : W'.os = W.os
  tape : W'.tape = W.tape
  output : W'.output = W.output
  size : W.heap.size ≤ W'.heap.size
  block : ∀ k, k < W.heap.size → ¬ S k → W'.heap[k]? = W.heap[k]?

theorem Fr.refl (S : Nat → Prop) (W : World) : Fr S W W := ⟨rfl, rfl, rfl, Nat.le_refl _, fun _ _ _ => rfl⟩
theorem Fr.trans {S S2 : Nat → Prop} {a b c : World} (h1 : Fr S a b) (h2 : Fr S2 b c) (h : ∀ k, k < a.heap.size → S2 k → S k) : Fr S a c :=
  ⟨h2.os.trans h1.os, h2.tape.trans h1.tape, h2.output.trans h1.output, Nat.le_trans h1.size h2.size, fun k hk hn => (h2.block k (Nat.lt_of_lt_of_le hk h1.size) (fun e => hn (h k hk e))).trans (h1.block k hk hn)⟩
theorem Fr.mono {S S2 : Nat → Prop} {a b : World} (h1 : Fr S a b) (h : ∀ k, k < a.heap.size → S k → S2 k) : Fr S2 a b := ⟨h1.os, h1.tape, h1.output, h1.size, fun k hk hn => h1.block k hk fun e => hn (h k hk e)⟩
theorem Fr.ofBelow {n : Nat} {a b : World} (h : Below n a b) : Fr (fun k => n ≤ k) a b := ⟨h.os, h.tape, h.output, h.size, fun k _ hn => h.block k (by omega)⟩
theorem Fr.ofGrown {r : Option Nat} {a b : World} (h : a.grownBy b r) : Fr (fun k => some k = r) a b := ⟨h.os, h.tape, h.output, h.size, fun k hk hn => h.block k hk hn⟩
theorem Fr.toBelow {S : Nat → Prop} {n : Nat} {a b : World} (h : Fr S a b) (hS : ∀ k, S k → n ≤ k) (hn : n ≤ a.heap.size) : Below n a b :=
  ⟨h.os, h.tape, h.output, h.size, fun k hk => h.block k (by omega) fun e => by have := hS k e; omega⟩
theorem Fr.below {S : Nat → Prop} {n : Nat} {a b c : World} (h1 : Fr S a b) (h2 : Below n b c) (hn : a.heap.size ≤ n) : Fr S a c := h1.trans (Fr.ofBelow h2) fun k hk h => by omega
theorem Fr.alloc {S : Nat → Prop} {a b : World} (h : Fr S a b) (o : Obj) : Fr S a (b.alloc o) := h.below ((Below.refl b.heap.size b).alloc (Nat.le_refl _) o) h.size
theorem Fr.drew {S : Nat → Prop} {a b : World} (h : Fr S a b) : Fr S a b.drew := h.below ((Below.refl b.heap.size b).drew) h.size
theorem Fr.grown {S : Nat → Prop} {r : Option Nat} {a b c : World} (h1 : Fr S a b) (h2 : b.grownBy c r) (h : ∀ k, k < a.heap.size → r = some k → S k) : Fr S a c := h1.trans (Fr.ofGrown h2) fun k hk e => h k hk e.symm
theorem Fr.grownBy {a b : World} {g : Nat} (h : Fr (fun k => k = g) a b) : a.grownBy b (some g) := ⟨h.os, h.tape, h.output, h.size, fun k hk hne => h.block k hk fun e => hne (by rw [e])⟩

theorem IsL.fr {S : Nat → Prop} {w w' : World} {v : Value} {xs : List α} (h : IsL w L v xs) (f : Fr S w w') (hne : 0 < xs.length → ∀ b, v.ownBlock = some b → ¬ S b) : IsL w' L v xs := by
  by_cases hp : 0 < xs.length
  · obtain ⟨b, hb, hlt⟩ := h.block hp
    have hn := hne hp b hb
    obtain ⟨A, cap, rfl, hl, hc, hr⟩ := h
    obtain ⟨b', off, rfl, hcell⟩ := hr hp
    simp only [Value.ownBlock, Option.some.injEq] at hb
    subst hb
    refine ⟨_, _, rfl, hl, hc, fun _ => ⟨_, _, rfl, fun i c hi => ?_⟩⟩
    have hh := f.block b' hlt hn
    rw [← hcell i c hi]
    simp only [World.cell?]
    rw [hh]
  · obtain ⟨A, cap, rfl, hl, hc, hr⟩ := h
    exact ⟨_, _, rfl, hl, hc, fun h' => absurd h' hp⟩

theorem IsL.below {w w' : World} {v : Value} {xs : List α} (h : IsL w L v xs) {B : Nat} (hb : Below B w w') (hB : w.heap.size ≤ B) : IsL w' L v xs :=
  h.kept (grown_of_below hb hB none) (fun hp e => by obtain ⟨b, h1, _⟩ := h.block hp; rw [h1] at e; cases e)

/-- The slice v is nil or a row of the call's own, from block 'base' on, and reads as this list. -/
def OwnL (w : World) (base : Nat) (e : TypeId) (L : Lay α) (v : Value) (xs : List α) : Prop := w.ownsRow base e L.k v xs.length (L.flat xs)

theorem OwnL.nil (w : World) (base : Nat) (e : TypeId) (L : Lay α) : OwnL w base e L (.slice none 0 0) [] := World.ownsRow_nil w base e L.k
theorem OwnL.form {w : World} {base : Nat} {e : TypeId} {v : Value} {xs : List α} (h : OwnL w base e L v xs) (hn : 0 < xs.length) : ∃ g cap, v = .slice (some ⟨g, 0, none⟩) xs.length cap ∧ base ≤ g ∧ g < w.heap.size :=
  World.ownsRow.form h hn
theorem OwnL.lt {w : World} {base : Nat} {e : TypeId} {v : Value} {xs : List α} (h : OwnL w base e L v xs) : ∀ k, v.ownBlock = some k → base ≤ k ∧ k < w.heap.size := World.ownsRow.lt h
theorem OwnL.kept {w w' : World} {base : Nat} {e : TypeId} {v : Value} {xs : List α} {row : Option Nat} (h : OwnL w base e L v xs) (hg : w.grownBy w' row) (hne : v.ownBlock = none ∨ v.ownBlock ≠ row) : OwnL w' base e L v xs :=
  World.ownsRow.kept h hg hne
theorem OwnL.alloc {w : World} {base : Nat} {e : TypeId} {v : Value} {xs : List α} (h : OwnL w base e L v xs) (o : Obj) : OwnL (w.alloc o) base e L v xs := World.ownsRow.alloc h o
theorem OwnL.below {w w' : World} {base B : Nat} {e : TypeId} {v : Value} {xs : List α} (h : OwnL w base e L v xs) (hb : Below B w w') (hB : w.heap.size ≤ B) : OwnL w' base e L v xs :=
  h.kept (row := none) (grown_of_below hb hB none) (by cases hv : v.ownBlock <;> simp)
theorem OwnL.fr {S : Nat → Prop} {w w' : World} {base : Nat} {e : TypeId} {v : Value} {xs : List α} (h : OwnL w base e L v xs) (f : Fr S w w') (hne : ∀ b, v.ownBlock = some b → ¬ S b) : OwnL w' base e L v xs := by
  refine ⟨h.1, ?_⟩
  rcases h.2 with h' | ⟨g, cap, cur, rfl, e2, e3, e4⟩
  · exact .inl h'
  · exact .inr ⟨g, cap, cur, rfl, e2, (f.block g (Array.getElem?_eq_some_iff.1 e3).1 (hne g rfl)).trans e3, e4⟩
/-- The block of what is owned bears its type. -/
theorem OwnL.typed {w : World} {base : Nat} {e : TypeId} {v : Value} {xs : List α} (h : OwnL w base e L v xs) : ∀ b, v.ownBlock = some b → ∃ cs, w.heap[b]? = some (.cells cs e (0, 0)) := by
  intro b hb
  rcases h.2 with ⟨rfl, _⟩ | ⟨g, cap, cur, rfl, e2, e3, e4⟩
  · cases hb
  · cases hb; exact ⟨_, e3⟩
theorem OwnL.base {w : World} {B B' : Nat} {e : TypeId} {v : Value} {xs : List α} (h : OwnL w B e L v xs) (hB : B' ≤ B) : OwnL w B' e L v xs := by
  refine ⟨h.1, ?_⟩
  rcases h.2 with h' | ⟨g, cap, cur, e1, e2, e3⟩
  · exact .inl h'
  · exact .inr ⟨g, cap, cur, e1, by omega, e3⟩
theorem OwnL.list {w : World} {base : Nat} {e : TypeId} {v : Value} {xs : List α} (h : OwnL w base e L v xs) : IsL w L v xs := by
  rcases h.2 with ⟨hv, h0⟩ | ⟨g, cap, cur, hv, _, hg, hnc, hcm, hcs, htake⟩
  · have : xs = [] := List.eq_nil_of_length_eq_zero h0
    subst this
    exact ⟨none, 0, hv, by simp, by decide, fun h => by simp at h⟩
  · refine ⟨some ⟨g, 0, none⟩, cap, hv, hnc, hcm, fun _ => ⟨g, 0, rfl, fun i c hi => ?_⟩⟩
    subst hv
    have := World.ownsRow.cells h (g := g) rfl i _ hi
    rw [Nat.zero_add]
    rw [show (⟨g, i, none⟩ : Addr) = (⟨g, 0, none⟩ : Addr).add i from by unfold Addr.add; split <;> simp_all]
    exact this

section
variable {P : Program}
/-- APPEND OF AN ELEMENT. -/
theorem run_append_el (w : World) (ty t : TypeId) (e : TypeId) (base : Nat) (v : Value) (xs : List α) (x : α) (i0 : TypeInfo) (z : Value) (bytes : Nat) (ht : P.underlying t = some (.slice e)) (hi0 : P.info? e = some i0) (hz0 : i0.zero = some z) (hz1 : i0.size = L.k) (hz2 : i0.bytes = bytes) (hzs : z.cells.size = L.k)
    (hown : OwnL w base e L v xs) (ad : Addr) (c : Nat) (hcell : ∀ j u, (L.cells x)[j]? = some u → w.cell? (ad.add j) = some u)
    (hlen : (xs.length + 1) * bytes ≤ 140737488355328) (hby : 0 < bytes) (hbase : base ≤ w.heap.size) :
    ∃ v' w', (Builtin.append_ #[t, t] ty #[v, .slice (some ad) 1 c]).run P w = .ok v' w' ∧ OwnL w' base e L v' (xs ++ [x]) ∧ w.grownBy w' v.ownBlock ∧ (v'.ownBlock = v.ownBlock ∨ v'.ownBlock = some w.heap.size) := by
  have h63 : xs.length + 1 ≤ maxLen := by
    have : xs.length + 1 ≤ (xs.length + 1) * bytes := Nat.le_mul_of_pos_right _ hby
    simp only [maxLen]; omega
  obtain ⟨v', w', hrun, h2, h3, _, h5⟩ := run_append_own_at (P := P) w base t ty e i0 z L.k bytes ht hi0 hz0 hz1 hz2 hzs L.pos v xs.length (L.flat xs) hown ad 1 c (L.cells x) (by rw [L.len, Nat.one_mul]) hcell (L.one x) h63 hlen hbase
  refine ⟨v', w', hrun, ?_, h3, h5⟩
  unfold OwnL
  rw [List.length_append, Lay.flat_append, Lay.flat_one]
  exact h2
theorem wpl_append_el {ops : Array Oper} {rest : List Oper} {o : Oper} {a : Act} {Q : Exit → Act → World → Prop} (w : World) (hgd : o.guard = none) (t e : TypeId) (s y : Operand)
    (ho : o.op = .call { callee := .builtin .append, args := #[s, y], argTypes := #[t, t] })
    (base : Nat) (v : Value) (xs : List α) (x : α) (i0 : TypeInfo) (z : Value) (bytes : Nat) (ht : P.underlying t = some (.slice e)) (hi0 : P.info? e = some i0) (hz0 : i0.zero = some z) (hz1 : i0.size = L.k) (hz2 : i0.bytes = bytes) (hzs : z.cells.size = L.k) (hby : 0 < bytes)
    (hs : a.eval s = v) (hown : OwnL w base e L v xs) (ad : Addr) (c : Nat) (hx : a.eval y = .slice (some ad) 1 c) (hcell : ∀ j u, (L.cells x)[j]? = some u → w.cell? (ad.add j) = some u)
    (hlen : (xs.length + 1) * bytes ≤ 140737488355328) (hbase : base ≤ w.heap.size)
    (h : ∀ v' w', OwnL w' base e L v' (xs ++ [x]) → w.grownBy w' v.ownBlock → (v'.ownBlock = v.ownBlock ∨ v'.ownBlock = some w.heap.size) → wpList P ops Q rest (a.put o.dst v') w') : wpList P ops Q (o :: rest) a w :=
  wpList_plain hgd fun K hK => by
    obtain ⟨v', w', hrun, h2, h3, h4⟩ := run_append_el (P := P) w o.type t e base v xs x i0 z bytes ht hi0 hz0 hz1 hz2 hzs hown ad c hcell hlen hby hbase
    unfold Oper.wp execOp
    simp only [ho, resolve, invoke, builtin, Sem.run_bind, Sem.run_pure, Result.andThen_ok, List.map_toArray, List.map_cons, List.map_nil, hs, hx, hrun]
    exact hK _ _ (h v' w' h2 h3 h4)
end
end Go.Proofs.YtjkkclfndlfjhaaGreatDoor
/- Plain law of pack: what a Reader reads of bytes, and that what is read lays these bytes again. -/
namespace Go.Proofs.YtjkkclfndlfjhaaGreatDoor
open Go.RowKit

/-- The byte at a place of a number. -/
def byteOf (n : Int) (k : Nat) : UInt8 := UInt8.ofNat ((n / 2 ^ (8 * k)) % 256).toNat
theorem byteOf_val (n : Int) (k : Nat) : (((byteOf n k).toNat : Nat) : Int) = (n / 2 ^ (8 * k)) % 256 := by
  unfold byteOf
  rw [UInt8.toNat_ofNat']
  omega
/-- A number's bytes, from the highest on: so many of them. -/
def beTo (n : Int) (j : Nat) : List UInt8 := (List.range j).map fun i => byteOf n (7 - i)
theorem beTo_succ (n : Int) (j : Nat) : beTo n (j + 1) = beTo n j ++ [byteOf n (7 - j)] := by simp [beTo, List.range_succ]
theorem beTo_len (n : Int) (j : Nat) : (beTo n j).length = j := by simp [beTo]

/-- A text, and how long it is. -/
def txt (s : ByteArray) : List UInt8 := beTo (s.size : Int) 8 ++ s.data.toList
theorem txt_len (s : ByteArray) : (txt s).length = 8 + s.size := by rw [txt, List.length_append, beTo_len, Array.length_toList]; rfl

/-- What a Reader has still, and whether something was not there. -/
structure Rs where
  rest : List UInt8
  bad : Bool

def Rs.take (r : Rs) (n : Int) : List UInt8 × Rs :=
  if r.bad || decide (n < 0) || decide ((r.rest.length : Int) < n) then ([], ⟨r.rest, true⟩) else (r.rest.take n.toNat, ⟨r.rest.drop n.toNat, false⟩)
def numStep (n : Int) (c : UInt8) : Int := IntKind.i64.wrap (n * 256 + (c.toNat : Int))
def numOf (bs : List UInt8) : Int := bs.foldl numStep 0
def Rs.num (r : Rs) : Int × Rs := (numOf (r.take 8).1, (r.take 8).2)
def Rs.byte (r : Rs) : UInt8 × Rs := ((r.take 1).1.headD 0, (r.take 1).2)
def Rs.text (r : Rs) : ByteArray × Rs := (⟨(r.num.2.take r.num.1).1.toArray⟩, (r.num.2.take r.num.1).2)

theorem Rs.take_len (r : Rs) (n : Int) : (r.take n).2.rest.length ≤ r.rest.length := by
  unfold Rs.take; split
  · exact Nat.le_refl _
  · simp only [List.length_drop]; omega
theorem Rs.take_out (r : Rs) (n : Int) : (r.take n).1.length ≤ r.rest.length := by
  unfold Rs.take; split
  · exact Nat.zero_le _
  · simp only [List.length_take]; omega
theorem Rs.take_spec (r : Rs) (n : Int) (h : (r.take n).2.bad = false) : r.bad = false ∧ r.rest = (r.take n).1 ++ (r.take n).2.rest ∧ ((r.take n).1.length : Int) = n := by
  unfold Rs.take at h ⊢
  split at h
  · cases h
  · rename_i h'
    rw [if_neg h']
    simp only [Bool.or_eq_true, decide_eq_true_eq, not_or, Bool.not_eq_true] at h'
    refine ⟨h'.1.1, (List.take_append_drop _ _).symm, ?_⟩
    simp only [List.length_take]
    omega
theorem Rs.num_len (r : Rs) : r.num.2.rest.length ≤ r.rest.length := r.take_len 8
theorem Rs.byte_len (r : Rs) : r.byte.2.rest.length ≤ r.rest.length := r.take_len 1
theorem Rs.text_len (r : Rs) : r.text.2.rest.length ≤ r.rest.length := Nat.le_trans (Rs.take_len _ _) r.num_len
theorem Rs.text_size (r : Rs) : r.text.1.size ≤ r.rest.length := Nat.le_trans (Rs.take_out _ _) r.num_len

theorem wrap_bytes (n : Int) : -9223372036854775808 ≤ IntKind.i64.wrap n ∧ IntKind.i64.wrap n ≤ 9223372036854775807 := by rw [IntKind.wrap_i64]; omega
theorem numOf_bounds : ∀ bs : List UInt8, -9223372036854775808 ≤ numOf bs ∧ numOf bs ≤ 9223372036854775807 := by
  intro bs
  unfold numOf
  rcases List.eq_nil_or_concat bs with rfl | ⟨xs, c, rfl⟩
  · simp
  · rw [List.concat_eq_append, List.foldl_append]
    exact wrap_bytes _
theorem Rs.num_bounds (r : Rs) : -9223372036854775808 ≤ r.num.1 ∧ r.num.1 ≤ 9223372036854775807 := numOf_bounds _

theorem wrap_step (a b : Int) : IntKind.i64.wrap (IntKind.i64.wrap a * 256 + b) = IntKind.i64.wrap (a * 256 + b) := by
  rw [IntKind.wrap_i64, IntKind.wrap_i64, IntKind.wrap_i64]; omega
theorem byteOf_wrap (S : Int) (k : Nat) (hk : k ≤ 7) : byteOf (IntKind.i64.wrap S) k = byteOf S k := by
  apply UInt8.toNat_inj.1
  have h1 := byteOf_val (IntKind.i64.wrap S) k
  have h2 := byteOf_val S k
  have : (IntKind.i64.wrap S / 2 ^ (8 * k)) % 256 = (S / 2 ^ (8 * k)) % 256 := by
    rw [IntKind.wrap_i64]
    obtain rfl | rfl | rfl | rfl | rfl | rfl | rfl | rfl : k = 0 ∨ k = 1 ∨ k = 2 ∨ k = 3 ∨ k = 4 ∨ k = 5 ∨ k = 6 ∨ k = 7 := by omega
    all_goals simp only [Nat.reduceMul]; omega
  omega
theorem beTo_eight (n : Int) : beTo n 8 = [byteOf n 7, byteOf n 6, byteOf n 5, byteOf n 4, byteOf n 3, byteOf n 2, byteOf n 1, byteOf n 0] := rfl
theorem beTo_numOf (bs : List UInt8) (h : bs.length = 8) : beTo (numOf bs) 8 = bs := by
  match bs, h with
  | [a, b, c, d, e, f, g, i], _ =>
    simp only [numOf, List.foldl_cons, List.foldl_nil, numStep, wrap_step]
    rw [beTo_eight]
    simp only [byteOf_wrap _ _ (by decide : 7 ≤ 7), byteOf_wrap _ _ (by decide : 6 ≤ 7), byteOf_wrap _ _ (by decide : 5 ≤ 7), byteOf_wrap _ _ (by decide : 4 ≤ 7), byteOf_wrap _ _ (by decide : 3 ≤ 7), byteOf_wrap _ _ (by decide : 2 ≤ 7), byteOf_wrap _ _ (by decide : 1 ≤ 7), byteOf_wrap _ _ (by decide : 0 ≤ 7)]
    have ha := a.toNat_lt; have hb := b.toNat_lt; have hc := c.toNat_lt; have hd := d.toNat_lt; have he := e.toNat_lt; have hf := f.toNat_lt; have hg := g.toNat_lt; have hi := i.toNat_lt
    have key : ∀ (S : Int) (k : Nat) (x : UInt8), (S / 2 ^ (8 * k)) % 256 = (x.toNat : Int) → byteOf S k = x := fun S k x hx => by
      apply UInt8.toNat_inj.1
      have := byteOf_val S k
      omega
    simp only [List.cons.injEq, and_true]
    refine ⟨key _ _ _ ?_, key _ _ _ ?_, key _ _ _ ?_, key _ _ _ ?_, key _ _ _ ?_, key _ _ _ ?_, key _ _ _ ?_, key _ _ _ ?_⟩
    all_goals simp only [Nat.reduceMul]; omega

theorem Rs.num_spec (r : Rs) (h : r.num.2.bad = false) : r.bad = false ∧ r.rest = beTo r.num.1 8 ++ r.num.2.rest := by
  obtain ⟨h1, h2, h3⟩ := r.take_spec 8 h
  refine ⟨h1, ?_⟩
  have : (r.take 8).1.length = 8 := by omega
  show _ = beTo (numOf (r.take 8).1) 8 ++ _
  rw [beTo_numOf _ this]
  exact h2
theorem Rs.byte_spec (r : Rs) (h : r.byte.2.bad = false) : r.bad = false ∧ r.rest = r.byte.1 :: r.byte.2.rest := by
  obtain ⟨h1, h2, h3⟩ := r.take_spec 1 h
  refine ⟨h1, ?_⟩
  obtain ⟨c, hc⟩ : ∃ c, (r.take 1).1 = [c] := List.length_eq_one_iff.1 (by omega)
  show _ = (r.take 1).1.headD 0 :: _
  rw [hc] at h2 ⊢
  exact h2
theorem Rs.text_spec (r : Rs) (h : r.text.2.bad = false) : r.bad = false ∧ r.rest = txt r.text.1 ++ r.text.2.rest := by
  obtain ⟨h1, h2, h3⟩ := r.num.2.take_spec r.num.1 h
  obtain ⟨h4, h5⟩ := r.num_spec h1
  refine ⟨h4, ?_⟩
  have hs : ((r.text.1.size : Nat) : Int) = r.num.1 := by rw [← h3]; rfl
  rw [h5, h2, txt, hs, List.append_assoc]
  rfl
theorem Rs.num_less (r : Rs) (h : r.num.2.bad = false) : r.num.2.rest.length + 8 = r.rest.length := by
  have := (r.num_spec h).2
  rw [this, List.length_append, beTo_len]; omega
end Go.Proofs.YtjkkclfndlfjhaaGreatDoor
/- The plain data of the layers, how they lie in memory and what bytes they have. -/
namespace Go.Proofs.YtjkkclfndlfjhaaGreatDoor
open Go.RowKit

structure Pr where
  key : ByteArray
  val : ByteArray
  gone : Bool
structure Ss where
  client : Int
  seq : Int
  err : Int
  val : ByteArray
structure Cm where
  op : Int
  client : Int
  seq : Int
  key : ByteArray
  val : ByteArray
  old : ByteArray
structure En where
  index : Int
  term : Int
  cmd : Cm
structure Rf where
  name : ByteArray
  kind : Int
  lo : Int
  hi : Int

def layPr : Lay Pr := ⟨3, fun p => [.string p.key, .string p.val, .bool p.gone], fun _ => rfl, by decide, fun _ u h => by simp at h; rcases h with rfl | rfl | rfl <;> rfl⟩
def laySs : Lay Ss := ⟨4, fun p => [.int .i64 p.client, .int .i64 p.seq, .int .i64 p.err, .string p.val], fun _ => rfl, by decide, fun _ u h => by simp at h; rcases h with rfl | rfl | rfl | rfl <;> rfl⟩
def layEn : Lay En := ⟨8, fun p => [.int .i64 p.index, .int .i64 p.term, .int .i64 p.cmd.op, .int .i64 p.cmd.client, .int .i64 p.cmd.seq, .string p.cmd.key, .string p.cmd.val, .string p.cmd.old], fun _ => rfl, by decide,
  fun _ u h => by simp at h; rcases h with rfl | rfl | rfl | rfl | rfl | rfl | rfl | rfl <;> rfl⟩
def layRf : Lay Rf := ⟨4, fun p => [.string p.name, .int .i64 p.kind, .int .i64 p.lo, .int .i64 p.hi], fun _ => rfl, by decide, fun _ u h => by simp at h; rcases h with rfl | rfl | rfl | rfl <;> rfl⟩
def layStr : Lay ByteArray := ⟨1, fun p => [.string p], fun _ => rfl, by decide, fun _ u h => by simp at h; rcases h with rfl; rfl⟩
/-- A key of a map of texts, and its value; a client and its session. -/
def layTt : Lay (ByteArray × ByteArray) := ⟨2, fun p => [.string p.1, .string p.2], fun _ => rfl, by decide, fun _ u h => by simp at h; rcases h with rfl | rfl <;> rfl⟩
def layIs : Lay (Int × Ss) := ⟨5, fun p => [.int .i64 p.1, .int .i64 p.2.client, .int .i64 p.2.seq, .int .i64 p.2.err, .string p.2.val], fun _ => rfl, by decide, fun _ u h => by simp at h; rcases h with rfl | rfl | rfl | rfl | rfl <;> rfl⟩

def Cm.v (c : Cm) : Value := .agg #[.int .i64 c.op, .int .i64 c.client, .int .i64 c.seq, .string c.key, .string c.val, .string c.old]
def En.v (p : En) : Value := .agg #[.int .i64 p.index, .int .i64 p.term, .int .i64 p.cmd.op, .int .i64 p.cmd.client, .int .i64 p.cmd.seq, .string p.cmd.key, .string p.cmd.val, .string p.cmd.old]
def Pr.v (p : Pr) : Value := .agg #[.string p.key, .string p.val, .bool p.gone]
def Ss.v (x : Ss) : Value := .agg #[.int .i64 x.client, .int .i64 x.seq, .int .i64 x.err, .string x.val]
def Rf.v (r : Rf) : Value := .agg #[.string r.name, .int .i64 r.kind, .int .i64 r.lo, .int .i64 r.hi]

def putPair (p : Pr) : List UInt8 := txt p.key ++ txt p.val ++ [if p.gone then 1 else 0]
def putSess (x : Ss) : List UInt8 := beTo x.client 8 ++ beTo x.seq 8 ++ beTo x.err 8 ++ txt x.val
def putRows (ps : List Pr) (xs : List Ss) : List UInt8 := beTo (ps.length : Int) 8 ++ ps.flatMap putPair ++ beTo (xs.length : Int) 8 ++ xs.flatMap putSess
def putRef (r : Rf) : List UInt8 := txt r.name ++ [byteOf r.kind 0] ++ beTo r.lo 8 ++ beTo r.hi 8
def stBytes (index term : Int) (ps : List Pr) (xs : List Ss) : List UInt8 := beTo index 8 ++ beTo term 8 ++ putRows ps xs
def deBytes (a b t : Int) (ps : List Pr) (xs : List Ss) : List UInt8 := beTo a 8 ++ beTo b 8 ++ beTo t 8 ++ putRows ps xs
def cmBytes (c : Cm) : List UInt8 := [byteOf c.op 0] ++ beTo c.client 8 ++ beTo c.seq 8 ++ txt c.key ++ txt c.val ++ txt c.old
def enBytes (e : En) : List UInt8 := beTo e.index 8 ++ beTo e.term 8 ++ cmBytes e.cmd
def edBytes (floor : Int) (add : List Rf) (drop : List ByteArray) : List UInt8 := beTo floor 8 ++ beTo (add.length : Int) 8 ++ add.flatMap putRef ++ beTo (drop.length : Int) 8 ++ drop.flatMap txt
def headBytes (k a b : Int) : List UInt8 := [byteOf k 0] ++ beTo a 8 ++ beTo b 8

theorem flat_take_succ {α β : Type} (f : α → List β) {xs : List α} {j : Nat} {x : α} (hj : xs[j]? = some x) : (xs.take (j + 1)).flatMap f = (xs.take j).flatMap f ++ f x := by
  rw [List.take_add_one, hj]; simp
theorem flat_take_le {α β : Type} (f : α → List β) (xs : List α) (j : Nat) : ((xs.take j).flatMap f).length ≤ (xs.flatMap f).length := by
  have h : (xs.flatMap f).length = ((xs.take j).flatMap f).length + ((xs.drop j).flatMap f).length := by
    rw [← List.length_append, ← List.flatMap_append, List.take_append_drop]
  omega
theorem flat_bound {α β : Type} (f : α → List β) (B : Nat) : ∀ (xs : List α), (∀ x ∈ xs, (f x).length ≤ B) → (xs.flatMap f).length ≤ xs.length * B
  | [], _ => by simp
  | x :: xs, h => by
    have h1 := h x (List.mem_cons_self ..)
    have h2 := flat_bound f B xs fun y hy => h y (List.mem_cons_of_mem _ hy)
    rw [List.flatMap_cons, List.length_append, List.length_cons, Nat.succ_mul]
    omega
theorem flat_least {α β : Type} (f : α → List β) (B : Nat) (h : ∀ x, B ≤ (f x).length) : ∀ (xs : List α), xs.length * B ≤ (xs.flatMap f).length
  | [] => by simp
  | x :: xs => by
    have h1 := h x
    have h2 := flat_least f B h xs
    rw [List.flatMap_cons, List.length_append, List.length_cons, Nat.succ_mul]
    omega
theorem putPair_len (p : Pr) : (putPair p).length = 17 + p.key.size + p.val.size := by
  simp only [putPair, List.length_append, txt_len, List.length_singleton]; omega
theorem putSess_len (x : Ss) : (putSess x).length = 32 + x.val.size := by
  simp only [putSess, List.length_append, txt_len, beTo_len]; omega
theorem putRef_len (r : Rf) : (putRef r).length = 25 + r.name.size := by
  simp only [putRef, List.length_append, txt_len, beTo_len, List.length_singleton]; omega

/-- The entry that is read. -/
def Rs.cmd (r : Rs) : Cm × Rs :=
  let a := r.byte; let b := a.2.num; let c := b.2.num; let d := c.2.text; let e := d.2.text; let f := e.2.text
  (⟨(a.1.toNat : Int), b.1, c.1, d.1, e.1, f.1⟩, f.2)
def Rs.ent (r : Rs) : En × Rs :=
  let a := r.num; let b := a.2.num; let c := b.2.cmd
  (⟨a.1, b.1, c.1⟩, c.2)
theorem byteOf_byte (c : UInt8) : byteOf (c.toNat : Int) 0 = c := by
  apply UInt8.toNat_inj.1
  have := byteOf_val (c.toNat : Int) 0
  have := c.toNat_lt
  simp at *
  omega
theorem Rs.cmd_spec (r : Rs) (h : r.cmd.2.bad = false) : r.bad = false ∧ r.rest = cmBytes r.cmd.1 ++ r.cmd.2.rest := by
  obtain ⟨h6, e6⟩ := Rs.text_spec _ h
  obtain ⟨h5, e5⟩ := Rs.text_spec _ h6
  obtain ⟨h4, e4⟩ := Rs.text_spec _ h5
  obtain ⟨h3, e3⟩ := Rs.num_spec _ h4
  obtain ⟨h2, e2⟩ := Rs.num_spec _ h3
  obtain ⟨h1, e1⟩ := Rs.byte_spec _ h2
  refine ⟨h1, ?_⟩
  rw [e1, e2, e3, e4, e5, e6]
  simp only [Rs.cmd, cmBytes, byteOf_byte, List.append_assoc, List.cons_append, List.nil_append]
theorem Rs.ent_spec (r : Rs) (h : r.ent.2.bad = false) : r.bad = false ∧ r.rest = enBytes r.ent.1 ++ r.ent.2.rest := by
  obtain ⟨h3, e3⟩ := Rs.cmd_spec _ h
  obtain ⟨h2, e2⟩ := Rs.num_spec _ h3
  obtain ⟨h1, e1⟩ := Rs.num_spec _ h2
  refine ⟨h1, ?_⟩
  rw [e1, e2, e3]
  simp only [Rs.ent, enBytes, List.append_assoc]

def mayC (c : Cm) : Bool :=
  if c.op < 0 ∨ 4 ≤ c.op ∨ 16 < c.val.size ∨ 16 < c.old.size then false
  else if c.op = 0 then decide (c.client = 0 ∧ c.seq = 0 ∧ c.key = ByteArray.empty ∧ c.val = ByteArray.empty ∧ c.old = ByteArray.empty)
  else decide (0 ≤ c.client ∧ c.client < 4 ∧ 0 ≤ c.seq ∧ c.seq ≤ 1048576 ∧ c.key ≠ ByteArray.empty ∧ c.key.size ≤ 8)
def rightE (e : En) : Bool := decide (1 ≤ e.index ∧ e.index ≤ 1048576 ∧ 0 ≤ e.term ∧ e.term ≤ 1048576) && mayC e.cmd
/-- Whether entries stand behind one another from an index on, behind a term. -/
def rowE : List En → Int → Option Int → Bool
  | [], _, _ => true
  | e :: es, k, t => rightE e && decide (e.index = IntKind.i64.wrap k) && (match t with | none => true | some t => decide (t ≤ e.term)) && rowE es (k + 1) (some e.term)
end Go.Proofs.YtjkkclfndlfjhaaGreatDoor
