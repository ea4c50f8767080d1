/- The document's examples of layer 2 hold: awake returns true. -/
import Derived.Test.YtflolmldildjhaaSum
import Derived.Lib.SlBytesConst
namespace Go.Proofs.Ytflolmldildjhaa
open Go.RowKit Crc

theorem ex_sum : sum 3988292384 [49, 50, 51, 52, 53, 54, 55, 56, 57] = 3421780262 := by decide +kernel
theorem ex_tab : steps 3988292384 8 1 = 1996959894 := by decide +kernel
theorem ex_nil : sum 3988292384 [] = 0 := by decide +kernel

set_option maxRecDepth 100000 in
set_option maxHeartbeats 400000 in
theorem awake_any (w : World) : Calls Try.prog 18 #[] w fun e w' => e = .returned (.bool true) ∧ Below w.heap.size w w' := by
  have hz := (zero_of_info info25).1
  go_enter Try.func18, Try.ntmps18
  go_wp2_with fail
  refine (of_any 3988292384 (by decide) _).mono ?_
  rintro e w1 ⟨rfl, hb1⟩
  have hg := heap_alloc_last w1 (.cells (tabTo 0 0) 25)
  have hr := setRow_heap (w1.alloc (.cells (tabTo 0 0) 25)) w1.heap.size _ (tab 3988292384) 25 _ hg
  have kc := fun (w : World) (C : Array Value) (n c : Nat) => Lib.run_convert_bytes_const (P := Try.prog) w 29 5 C n c Try.underlying29 Try.underlying5
  have HR := Lib.hid hr
  clear hr
  go_wp2_with (
    (refine wpList_store_row rfl 25 _ _ rfl w1.heap.size (tab 3988292384) rfl rfl 25 _ hg (by rw [size_tab]; exact size25) (by rw [size_tab, size_tabTo]) (one_tabTo _ _) ?_
     obtain ⟨w2, hw2⟩ : ∃ w2, w2 = (w1.alloc (.cells (tabTo 0 0) 25)).setRow w1.heap.size (tab 3988292384) := ⟨_, rfl⟩
     have hb2 : Below w.heap.size w w2 := by rw [hw2]; exact below_row (hb1.alloc hb1.size _) hb1.size _
     have ht2 : Hid (IsTab w2 3988292384 w1.heap.size) := isTab_of_row (by rw [hw2]; exact HR.out)
     have hs2 : w1.heap.size < w2.heap.size := by rw [hw2]; simp
     rw [← hw2]
     clear hw2 HR hg hz))
  refine (csum_any _ [49, 50, 51, 52, 53, 54, 55, 56, 57] (by decide) _ (isBytes_new w2 [49, 50, 51, 52, 53, 54, 55, 56, 57] 5 (9, 10) (by decide))).mono ?_
  rintro e w3 ⟨rfl, hb3⟩
  rw [ex_sum]
  have hb23 : Below w2.heap.size w2 w3 := ((Below.refl _ w2).alloc (Nat.le_refl _) _).trans (hb3.mono (by simp))
  have ht3 : Hid (IsTab w3 3988292384 w1.heap.size) := fun j hj => cell_later hb23 (ht2.out j hj)
  have hc1 := ht3.out 1 (by omega)
  rw [ex_tab] at hc1
  clear hb3 kc
  go_wp2_with fail

  refine (tsum_any 3988292384 (by decide) w1.heap.size (.slice none 0 0) [] (by decide) _ ht3.out ⟨none, 0, rfl, by decide, by decide, fun h => by cases h⟩).mono ?_
  rintro e w4 ⟨rfl, rfl⟩
  rw [ex_nil]
  go_wp2
  go_ret
  exact ⟨rfl, hb2.trans (hb23.mono hb2.size)⟩

end Go.Proofs.Ytflolmldildjhaa
