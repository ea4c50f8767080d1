/- CheckSum: the sum of bytes by any table, and by the package's own, is what the document says. Every slice of bytes, every polynomial. -/
import Derived.Test.YtflolmldildjhaaKit
namespace Go.Proofs.Ytflolmldildjhaa.lawCheckSum
open Go.ChangeShapes Go.WideShapes Go.ChangeAt Go.RowKit Crc

set_option maxRecDepth 100000 in
set_option maxHeartbeats 400000 in
theorem walk (v : Value) (bs : List UInt8) (hl : bs.length ≤ 140737488351232) (p : Nat) (hp : p ≤ 4294967295) (w : World) (hv : IsBytes w v bs) :
    Calls Try.prog 4 #[v, .int .u32 (p : Int)] w fun e w' => e = .returned (.bool true) ∧ Below w.heap.size w w' := by
  have hz := (zero_of_info info25).1
  go_enter Try.func4, Try.ntmps4
  go_wp2_with fail
  refine (awake_any _).mono ?_
  rintro e w0 ⟨rfl, hb0⟩
  go_wp2_with fail
  refine (of_any p (by omega) _).mono ?_
  rintro e w1 ⟨rfl, hb1'⟩
  have hb1 := hb0.trans (hb1'.mono hb0.size)
  clear hb0 hb1'
  have hg := heap_alloc_last w1 (.cells (tabTo 0 0) 25)
  have hr := setRow_heap (w1.alloc (.cells (tabTo 0 0) 25)) w1.heap.size _ (tab p) 25 _ hg
  have HR := Lib.hid hr
  clear hr
  go_wp2_with (
    (refine wpList_store_row rfl 25 _ _ rfl w1.heap.size (tab p) rfl rfl 25 _ hg (by rw [size_tab]; exact size25) (by rw [size_tab, size_tabTo]) (one_tabTo _ _) ?_
     obtain ⟨w2, hw2⟩ : ∃ w2, w2 = (w1.alloc (.cells (tabTo 0 0) 25)).setRow w1.heap.size (tab p) := ⟨_, rfl⟩
     have hb2 : Below w.heap.size w w2 := by rw [hw2]; exact below_row (hb1.alloc hb1.size _) hb1.size _
     have ht2 : Hid (IsTab w2 p w1.heap.size) := isTab_of_row (by rw [hw2]; exact HR.out)
     rw [← hw2]
     clear hw2 HR hg hz))
  have hv2 := hv.below hb2
  refine (tsum_any p (by omega) _ v bs (by omega) _ ht2.out hv2).mono ?_
  rintro e w3 ⟨rfl, rfl⟩
  go_wp2_with fail
  refine (lsum_any p (by omega) v bs (by omega) _ hv2).mono ?_
  rintro e w3 ⟨rfl, rfl⟩
  go_wp2_with fail
  refine (csum_any v bs (by omega) _ hv2).mono ?_
  rintro e w3 ⟨rfl, hb3⟩
  go_wp2_with fail
  refine (lsum_any 3988292384 (by omega) v bs (by omega) _ (hv2.below hb3)).mono ?_
  rintro e w4 ⟨rfl, rfl⟩
  go_wp2
  go_ret
  exact ⟨rfl, hb2.trans (hb3.mono hb2.size)⟩

set_option maxRecDepth 100000 in
theorem lifted (os : Os) (started : os.Started) (H : Type) (enc : TypeId × Value → H) :
    ReturnsInHanded {} Try.checked os 4 .any (Rows.checkSumSpec.pre6 enc Try.prog Try.f4 Rows.checkSumRow.domain false) (Rows.checkSumSpec.post enc Try.prog Try.f4 false true false false) := by
  refine returnsInHanded_of_change_sized (C := Try.checked) own started (by kernel_rfl) Try.func4
    (ChangeSpec.witness6 (enc := enc) (C := Try.checked) false ⟨#[], #[.slice none 0 0, .int .u32 0], []⟩ 8 (by kernel_rfl) (by kernel_rfl) (by kernel_rfl) (by kernel_rfl)) ?_
  intro W base args ds gs before hval0 hW _ hsz0 _
  have hval : ∀ (j : Nat) t v, Try.f4.params[j]? = some t → args[j]? = some v → Value.okWide Try.prog W .any base t v := hval0
  have hsz : (DataW.weightsEach Try.prog (Try.f4.params.toList ++ Rows.checkSumSpec.plain.varTypes Try.prog) (ds ++ gs)).all (· ≤ reachBytes) = true := hsz0
  have hW' := hW
  obtain ⟨p, q, hA0, hV, rfl, hfz, hnd⟩ := hW
  have hA : DataW.TrodAll enc Try.prog W 0 (fun _ => true) true Try.f4.params.toList args.toList ds p := hA0
  have hA1 := hA
  rw [Try.params4] at hA hA1 hval hsz
  obtain ⟨v0, v1, d0, d1, p0, p1, rfl, rfl, rfl, h0, h1⟩ := trodAll_two hA
  obtain ⟨rfl, rfl⟩ := trodVars_none hV
  simp only [List.append_nil] at hW'
  obtain ⟨bs0, hb0, hl0⟩ := arg_bytes (hval 0 29 v0 rfl rfl) h0 (fun elems spare e => by subst e; exact sized_slice hsz (j := 0) (t := 29) (e := 5) rfl rfl Try.underlying29)
  obtain ⟨z1, rfl, rfl, rfl, wz1⟩ := open_int Try.underlying22 (hval 1 22 v1 rfl rfl) h1
  have bz1 := bounds_u32 wz1
  obtain ⟨x1, rfl⟩ := Int.eq_ofNat_of_zero_le bz1.1
  refine (walk v0 bs0 hl0 x1 (by omega) W hb0).mono fun e W' ⟨he, hb⟩ => ?_
  subst he
  exact ⟨_, rfl, post_of_below (pv := []) hW' (fun _ _ _ => trodAll_mk1 (shut_bool Try.underlying4 _)) (fun sp hs => args_stay laidOut hb _ _ _ _ (by simp [ok22, ok29]) hA1 (fun x hx => hW'.lt x (by simpa using hx)) (fun x hx => hs x (by simpa using hx))) (fun _ _ => rfl) (by simp)
    hb (ok_one (by kernel_rfl) rfl (okWide_bool_mk Try.underlying4 _))⟩

theorem holds : Rows.CheckSumSaid :=
  OpenClaim.holds_of_wide 4 Try.f4 rfl rfl rfl rfl rfl rfl rfl ⟨rfl, rfl, rfl, rfl, rfl⟩ rfl rfl rfl rfl rfl (by kernel_rfl) Try.func4 (by kernel_rfl)
    (of_decide_eq_true (by kernel_rfl)) (by unfold Func.isWrapper; first | (rw [if_pos (by decide +kernel)]; kernel_rfl) | (rw [if_neg (by decide +kernel)]; exact ⟨rfl, rfl⟩))
    (fun os started H enc _ => lifted os started H enc)
#print axioms holds
end Go.Proofs.Ytflolmldildjhaa.lawCheckSum
