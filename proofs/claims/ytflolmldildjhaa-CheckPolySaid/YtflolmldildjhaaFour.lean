/- Words for four rows of bytes that the call itself makes and appends to in one statement, whatever the order. -/
import Derived.Test.YtflolmldildjhaaApp
import Derived.Test.YtflolmldildjhaaBurst
namespace Go.Proofs.Ytflolmldildjhaa
open Go.RowKit Crc

/-- Two slices lie in different rows. -/
def Apart (v v' : Value) : Prop := ∀ k, v.ownBlock = some k → v'.ownBlock = some k → False
theorem Apart.symm {v v' : Value} (h : Apart v v') : Apart v' v := fun k h1 h2 => h k h2 h1
theorem Apart.ne {v v' : Value} (h : Apart v v') : v.ownBlock = none ∨ v.ownBlock ≠ v'.ownBlock := by
  cases hv : v.ownBlock with
  | none => exact .inl rfl
  | some k => exact .inr fun e => h k hv e.symm
theorem apart_nil (v : Value) : Apart (.slice none 0 0) v := fun k h _ => by cases h

structure Rows4 (w : World) (B : Nat) (v1 : Value) (b1 : List UInt8) (v2 : Value) (b2 : List UInt8) (v3 : Value) (b3 : List UInt8) (v4 : Value) (b4 : List UInt8) : Prop where
  o1 : Owns w B v1 b1
  o2 : Owns w B v2 b2
  o3 : Owns w B v3 b3
  o4 : Owns w B v4 b4
  a12 : Apart v1 v2
  a13 : Apart v1 v3
  a14 : Apart v1 v4
  a23 : Apart v2 v3
  a24 : Apart v2 v4
  a34 : Apart v3 v4

section
variable {w w' : World} {B : Nat} {v1 v2 v3 v4 : Value} {b1 b2 b3 b4 : List UInt8}
theorem Rows4.nil (w : World) (B : Nat) : Rows4 w B (.slice none 0 0) [] (.slice none 0 0) [] (.slice none 0 0) [] (.slice none 0 0) [] :=
  ⟨Owns.nil w B, Owns.nil w B, Owns.nil w B, Owns.nil w B, apart_nil _, apart_nil _, apart_nil _, apart_nil _, apart_nil _, apart_nil _⟩
theorem Rows4.alloc (h : Rows4 w B v1 b1 v2 b2 v3 b3 v4 b4) (o : Obj) : Rows4 (w.alloc o) B v1 b1 v2 b2 v3 b3 v4 b4 :=
  ⟨h.o1.alloc o, h.o2.alloc o, h.o3.alloc o, h.o4.alloc o, h.a12, h.a13, h.a14, h.a23, h.a24, h.a34⟩
theorem Rows4.drew (h : Rows4 w B v1 b1 v2 b2 v3 b3 v4 b4) : Rows4 w.drew B v1 b1 v2 b2 v3 b3 v4 b4 :=
  ⟨h.o1.drew, h.o2.drew, h.o3.drew, h.o4.drew, h.a12, h.a13, h.a14, h.a23, h.a24, h.a34⟩
theorem Rows4.rot (h : Rows4 w B v1 b1 v2 b2 v3 b3 v4 b4) : Rows4 w B v2 b2 v3 b3 v4 b4 v1 b1 :=
  ⟨h.o2, h.o3, h.o4, h.o1, h.a23, h.a24, h.a12.symm, h.a34, h.a13.symm, h.a14.symm⟩
theorem apart_new {v v' x : Value} {c : List UInt8} (h : Apart v x) (hx : Owns w B x c) (ha : v'.ownBlock = v.ownBlock ∨ v'.ownBlock = some w.heap.size) : Apart v' x := fun k h1 h2 => by
  rcases ha with ha | ha
  · exact h k (ha ▸ h1) h2
  · have := (hx.lt k h2).2
    rw [ha] at h1
    have := Option.some.inj h1
    omega
theorem Rows4.append {v' : Value} {b' : List UInt8} (hg : w.grownBy w' v1.ownBlock) (ho : Owns w' B v' b') (ha : v'.ownBlock = v1.ownBlock ∨ v'.ownBlock = some w.heap.size)
    (h : Rows4 w B v1 b1 v2 b2 v3 b3 v4 b4) : Rows4 w' B v' b' v2 b2 v3 b3 v4 b4 :=
  ⟨ho, h.o2.kept hg h.a12.symm.ne, h.o3.kept hg h.a13.symm.ne, h.o4.kept hg h.a14.symm.ne, apart_new h.a12 h.o2 ha, apart_new h.a13 h.o3 ha, apart_new h.a14 h.o4 ha, h.a23, h.a24, h.a34⟩
theorem Rows4.append2 {v' : Value} {b' : List UInt8} (hg : w.grownBy w' v2.ownBlock) (ho : Owns w' B v' b') (ha : v'.ownBlock = v2.ownBlock ∨ v'.ownBlock = some w.heap.size)
    (h : Rows4 w B v1 b1 v2 b2 v3 b3 v4 b4) : Rows4 w' B v1 b1 v' b' v3 b3 v4 b4 := (h.rot.append hg ho ha).rot.rot.rot
theorem Rows4.append3 {v' : Value} {b' : List UInt8} (hg : w.grownBy w' v3.ownBlock) (ho : Owns w' B v' b') (ha : v'.ownBlock = v3.ownBlock ∨ v'.ownBlock = some w.heap.size)
    (h : Rows4 w B v1 b1 v2 b2 v3 b3 v4 b4) : Rows4 w' B v1 b1 v2 b2 v' b' v4 b4 := (h.rot.rot.append hg ho ha).rot.rot
theorem Rows4.append4 {v' : Value} {b' : List UInt8} (hg : w.grownBy w' v4.ownBlock) (ho : Owns w' B v' b') (ha : v'.ownBlock = v4.ownBlock ∨ v'.ownBlock = some w.heap.size)
    (h : Rows4 w B v1 b1 v2 b2 v3 b3 v4 b4) : Rows4 w' B v1 b1 v2 b2 v3 b3 v' b' := (h.rot.rot.rot.append hg ho ha).rot
end

/-- Four rows of the call's own, and that nothing older has turned. -/
structure R4 (w0 w : World) (v1 : Value) (b1 : List UInt8) (v2 : Value) (b2 : List UInt8) (v3 : Value) (b3 : List UInt8) (v4 : Value) (b4 : List UInt8) : Prop where
  rows : Rows4 w w0.heap.size v1 b1 v2 b2 v3 b3 v4 b4
  bel : Below w0.heap.size w0 w
section
variable {w0 w w' : World} {v1 v2 v3 v4 v' : Value} {b1 b2 b3 b4 b' : List UInt8}
theorem R4.alloc (h : R4 w0 w v1 b1 v2 b2 v3 b3 v4 b4) (o : Obj) : R4 w0 (w.alloc o) v1 b1 v2 b2 v3 b3 v4 b4 := ⟨h.rows.alloc o, h.bel.alloc h.bel.size o⟩
theorem R4.drew (h : R4 w0 w v1 b1 v2 b2 v3 b3 v4 b4) : R4 w0 w.drew v1 b1 v2 b2 v3 b3 v4 b4 := ⟨h.rows.drew, h.bel.drew⟩
theorem R4.rot (h : R4 w0 w v1 b1 v2 b2 v3 b3 v4 b4) : R4 w0 w v2 b2 v3 b3 v4 b4 v1 b1 := ⟨h.rows.rot, h.bel⟩
theorem R4.append (hg : w.grownBy w' v1.ownBlock) (ho : Owns w' w0.heap.size v' b') (ha : v'.ownBlock = v1.ownBlock ∨ v'.ownBlock = some w.heap.size)
    (h : R4 w0 w v1 b1 v2 b2 v3 b3 v4 b4) : R4 w0 w' v' b' v2 b2 v3 b3 v4 b4 := ⟨h.rows.append hg ho ha, below_append h.bel h.rows.o1 (Nat.le_refl _) hg h.bel.size⟩
theorem R4.append2 (hg : w.grownBy w' v2.ownBlock) (ho : Owns w' w0.heap.size v' b') (ha : v'.ownBlock = v2.ownBlock ∨ v'.ownBlock = some w.heap.size)
    (h : R4 w0 w v1 b1 v2 b2 v3 b3 v4 b4) : R4 w0 w' v1 b1 v' b' v3 b3 v4 b4 := (h.rot.append hg ho ha).rot.rot.rot
theorem R4.append3 (hg : w.grownBy w' v3.ownBlock) (ho : Owns w' w0.heap.size v' b') (ha : v'.ownBlock = v3.ownBlock ∨ v'.ownBlock = some w.heap.size)
    (h : R4 w0 w v1 b1 v2 b2 v3 b3 v4 b4) : R4 w0 w' v1 b1 v2 b2 v' b' v4 b4 := (h.rot.rot.append hg ho ha).rot.rot
theorem R4.append4 (hg : w.grownBy w' v4.ownBlock) (ho : Owns w' w0.heap.size v' b') (ha : v'.ownBlock = v4.ownBlock ∨ v'.ownBlock = some w.heap.size)
    (h : R4 w0 w v1 b1 v2 b2 v3 b3 v4 b4) : R4 w0 w' v1 b1 v2 b2 v3 b3 v' b' := (h.rot.rot.rot.append hg ho ha).rot
end

/-- A slice of one byte in a block from N on. -/
def Single (w : World) (N : Nat) (v : Value) (n : Int) : Prop := ∃ g, v = .slice (some ⟨g, 0, none⟩) 1 1 ∧ N ≤ g ∧ w.cell? ⟨g, 0, none⟩ = some (.int .u8 n)
section
variable {w w' : World} {N : Nat} {v : Value} {n : Int}
theorem Single.new (w : World) (N g : Nat) (n : Int) (t : TypeId) (hN : N ≤ w.heap.size) (hg : g = w.heap.size) : Single (w.alloc (.cells #[.int .u8 n] t)) N (.slice (some ⟨g, 0, none⟩) 1 1) n := by
  subst hg
  exact ⟨_, rfl, hN, by rw [cell_of_row _ _ 0 _ t (0, 0) (heap_alloc_last w _)]; rfl⟩
theorem Single.alloc (h : Single w N v n) (o : Obj) : Single (w.alloc o) N v n := by
  obtain ⟨g, hv, hg, hc⟩ := h
  exact ⟨g, hv, hg, Lib.cell?_alloc_marked o hc⟩
theorem Single.drew (h : Single w N v n) : Single w.drew N v n := h
theorem Single.grown {row : Option Nat} (hg : w.grownBy w' row) (hr : ∀ k, row = some k → k < N) (h : Single w N v n) : Single w' N v n := by
  obtain ⟨g, hv, hN, hc⟩ := h
  refine ⟨g, hv, hN, hg.cell hc (fun e => ?_)⟩
  have := hr g e.symm
  omega
theorem Single.bytes (h : Single w N v n) {c : UInt8} (hc : n = (c.toNat : Int)) : IsBytes w v [c] := by
  obtain ⟨g, hv, _, hcell⟩ := h
  refine ⟨some ⟨g, 0, none⟩, 1, hv, by simp, by decide, fun _ => ⟨g, 0, rfl, fun i d hi => ?_⟩⟩
  cases i with
  | zero => simp at hi; subst hi; rw [hcell, hc]
  | succ i => simp at hi
end

/-- The first j bytes of a number, from the lowest on. -/
def rowOf (n j : Nat) : List UInt8 := (List.range j).map (byteAt n)
theorem rowOf_succ (n j : Nat) : rowOf n (j + 1) = rowOf n j ++ [byteAt n j] := by simp [rowOf, List.range_succ]
theorem length_rowOf (n j : Nat) : (rowOf n j).length = j := by simp [rowOf]

theorem byteAt_xor (a b i : Nat) : byteAt (a ^^^ b) i = byteAt a i ^^^ byteAt b i := by
  apply UInt8.toNat_inj.1
  simp only [byteAt, UInt8.toNat_xor, UInt8.toNat_ofNat']
  rw [← Nat.xor_mod_two_pow]
  congr 1
  apply Nat.eq_of_testBit_eq
  intro t
  rw [Nat.testBit_div_two_pow, Nat.testBit_xor, Nat.testBit_xor, Nat.testBit_div_two_pow, Nat.testBit_div_two_pow]
theorem rowOf_xor (a b j : Nat) : rowOf (a ^^^ b) j = List.zipWith (· ^^^ ·) (rowOf a j) (rowOf b j) := by
  apply List.ext_getElem?
  intro i
  rw [List.getElem?_zipWith, rowOf, rowOf, rowOf, List.getElem?_map, List.getElem?_map, List.getElem?_map]
  cases (List.range j)[i]? with
  | none => rfl
  | some t => simp [byteAt_xor]

/-- THREE ROWS ADDED. -/
theorem sum_three (p a b c j : Nat) : sum p (rowOf (a ^^^ b ^^^ c) j) = sum p (rowOf a j) ^^^ sum p (rowOf b j) ^^^ sum p (rowOf c j) := by
  have h1 := fold_xor p (rowOf (a ^^^ b) j) (rowOf c j) (by rw [length_rowOf, length_rowOf]) (4294967295 ^^^ 4294967295) 4294967295
  have h2 := fold_xor p (rowOf a j) (rowOf b j) (by rw [length_rowOf, length_rowOf]) 4294967295 4294967295
  rw [← rowOf_xor] at h1 h2
  rw [h2, Nat.xor_self, Nat.zero_xor] at h1
  unfold sum
  rw [h1]
  generalize fold p 4294967295 (rowOf a j) = fa
  generalize fold p 4294967295 (rowOf b j) = fb
  generalize fold p 4294967295 (rowOf c j) = fc
  rw [xor_swap 4294967295 fa 4294967295 fb, Nat.xor_self, Nat.zero_xor, ← Nat.xor_assoc (fa ^^^ fb) 4294967295 fc, Nat.xor_comm (fa ^^^ fb) 4294967295, Nat.xor_assoc 4294967295]

/-- TWO ROWS ADDED, AND THE ROW OF ZEROS. -/
theorem sum_two (p a b j : Nat) : sum p (rowOf (a ^^^ b) j) ^^^ sum p (rowOf 0 j) = sum p (rowOf a j) ^^^ sum p (rowOf b j) := by
  have h1 := fold_xor p (rowOf (a ^^^ b) j) (rowOf 0 j) (by rw [length_rowOf, length_rowOf]) 4294967295 4294967295
  have h2 := fold_xor p (rowOf a j) (rowOf b j) (by rw [length_rowOf, length_rowOf]) 4294967295 4294967295
  rw [← rowOf_xor] at h1 h2
  rw [Nat.xor_zero] at h1
  unfold sum
  rw [xor_swap, xor_swap 4294967295 (fold p 4294967295 (rowOf a j)), ← h1, ← h2]

/-- A number's byte as Go takes it. -/
theorem go_byte (n j : Nat) : ((n : Int) / 2 ^ (8 * j) % 256) = ((byteAt n j).toNat : Int) := by
  rw [byteAt, UInt8.toNat_ofNat', Int.natCast_emod, Int.natCast_ediv, Int.natCast_pow]; rfl

theorem go_byte' (n j : Nat) : IntKind.u8.wrap ((n : Int) / 2 ^ (8 * (j : Int)).toNat) = ((byteAt n j).toNat : Int) := by
  rw [IntKind.wrap_u8, show (8 * (j : Int)).toNat = 8 * j by omega, go_byte]

end Go.Proofs.Ytflolmldildjhaa
