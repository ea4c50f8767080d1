/- The document's examples of layer 3 hold: awake returns true. -/
import Derived.Test.YtflolmldildjhaaOne
namespace Go.Proofs.Ytflolmldildjhaa
open Go.RowKit Crc Frm

/-- The first bytes of a slice. -/
theorem IsBytes.take {w : World} {A : Option Addr} {n cap : Nat} {bs : List UInt8} (h : IsBytes w (.slice A n cap) bs) (m : Nat) (hm : m ≤ n) : IsBytes w (.slice A m cap) (bs.take m) := by
  obtain ⟨A', cap', hv, hl, hc, hr⟩ := h
  simp only [Value.slice.injEq] at hv
  obtain ⟨rfl, rfl, rfl⟩ := hv
  have hlm : (bs.take m).length = m := by rw [List.length_take]; omega
  refine ⟨A, cap, by rw [hlm], by omega, hc, fun hp => ?_⟩
  obtain ⟨b, off, hA, hcell⟩ := hr (by omega)
  refine ⟨b, off, hA, fun i c hi => hcell i c ?_⟩
  have him : i < m := by
    have := (List.getElem?_eq_some_iff.1 hi).1
    omega
  rw [List.getElem?_take_of_lt him] at hi
  exact hi

theorem ex_one : one (frame [97, 98]) = ([97, 98], 11, 0) := by decide +kernel
theorem ex_torn : one ((frame [97, 98]).take 10) = ([], 0, 3) := by decide +kernel
theorem ex_len : (frame [97, 98]).length = 11 := by decide +kernel
theorem ex_end : (frame [97, 98])[10]? = some 229 := by decide +kernel
theorem ex_str : (strOf [97, 98]).toList = [97, 98] := by rw [ByteArray.toList_eq]; rfl

set_option maxHeartbeats 800000 in
theorem awake3_any (w : World) : Calls Try.prog 24 #[] w fun e w' => e = .returned (.bool true) ∧ Below w.heap.size w w' := by
  have kc := fun (w : World) (C : Array Value) (n c : Nat) => Lib.run_convert_bytes_const (P := Try.prog) w 29 5 C n c Try.underlying29 Try.underlying5
  go_enter Try.func24, Try.ntmps24
  go_wp2_with fail
  refine (make_any _ [97, 98] (by decide) _ (isBytes_new w [97, 98] 5 (2, 3) (by decide))).mono ?_
  rintro e w1 ⟨v, rfl, ho, hb1'⟩
  have hb1 : Below w.heap.size w w1 := ((Below.refl _ w).alloc (Nat.le_refl _) _).trans (hb1'.mono (by simp))
  obtain ⟨g, cap, rfl, hg1, hg2⟩ := ho.form (by rw [ex_len]; omega)
  rw [ex_len] at ho ⊢
  have hcell := (ho.get ex_end).1
  have HO := Lib.hid ho
  have hcm : ¬ cap = 0 := by
    rcases ho.2 with ⟨h, _⟩ | ⟨_, _, _, h, _, _, h2, _⟩
    · cases h
    · simp only [Value.slice.injEq] at h; have := ex_len; omega
  have hc10 : (10 : Int) ≤ (cap : Int) := by
    rcases ho.2 with ⟨h, _⟩ | ⟨_, _, _, h, _, _, h2, _⟩
    · cases h
    · simp only [Value.slice.injEq] at h; have := ex_len; omega
  clear ho kc hb1'
  go_wp2_with fail
  refine (one_any _ (frame [97, 98]) (by rw [ex_len]; omega) _ HO.out.bytes).mono ?_
  rintro e w2 ⟨v2, rfl, ho2, hb2'⟩
  rw [ex_one] at ho2 ⊢
  obtain ⟨g2, cap2, rfl, _, _⟩ := ho2.form (by decide)
  have hb2 := hb1.trans (hb2'.mono hb1.size)
  have hcell2 := cell_later hb2' hcell
  have hbt := (HO.out.bytes.below hb2').take 10 (by omega)
  have HT := Lib.hid hbt
  have HO2 := Lib.hid ho2
  clear hcell hbt ho2 hb2'
  go_wp2_with fail
  refine (one_any _ ((frame [97, 98]).take 10) (by rw [List.length_take, ex_len]; omega) _ HT.out).mono ?_
  rintro e w3 ⟨v3, rfl, ho3, hb3'⟩
  rw [ex_torn]
  have hb3 := hb2.trans (hb3'.mono hb2.size)
  have hcell3 : w3.cell? ⟨g, 10, none⟩ = some (.int .u8 229) := cell_later hb3' hcell2
  have hcv : (convert 29 9 (.slice (some ⟨g2, 0, none⟩) 2 cap2)).run Try.prog w3 = .ok (.string (strOf [97, 98])) w3 := run_conv _ _ _ (HO2.out.bytes.below hb3')
  clear hcell2 hb3' ho3
  have hstr := ex_str
  go_wp2
  go_ret
  exact ⟨rfl, hb3⟩
end Go.Proofs.Ytflolmldildjhaa
