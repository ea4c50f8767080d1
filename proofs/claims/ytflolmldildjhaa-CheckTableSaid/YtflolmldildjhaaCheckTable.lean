/- CheckTable: a table's element is what eight steps make of its index; the element 0 is 0. Every polynomial, every index. -/
import Derived.Test.YtflolmldildjhaaKit
namespace Go.Proofs.Ytflolmldildjhaa.lawCheckTable
open Go.ChangeShapes Go.WideShapes Go.ChangeAt Go.RowKit Crc

set_option maxRecDepth 100000 in
set_option maxHeartbeats 400000 in
theorem walk (p a : Nat) (hp : p < 4294967296) (ha : a < 256) (w : World) :
    Calls Try.prog 3 #[.int .u32 (p : Int), .int .u8 (a : Int)] w fun e w' => e = .returned (.bool true) ∧ Below w.heap.size w w' := by
  have hz := (zero_of_info info25).1
  go_enter Try.func3, Try.ntmps3
  go_wp2_with fail
  refine (awake_any _).mono ?_
  rintro e w0 ⟨rfl, hb0⟩
  go_wp2_with fail
  refine (of_any p hp _).mono ?_
  rintro e w1 ⟨rfl, hb1'⟩
  have hb1 := hb0.trans (hb1'.mono hb0.size)
  clear hb0 hb1'
  have hg := heap_alloc_last w1 (.cells (tabTo 0 0) 25)
  have hr := setRow_heap (w1.alloc (.cells (tabTo 0 0) 25)) w1.heap.size _ (tab p) 25 _ hg
  have HR := Lib.hid hr
  clear hr
  go_wp2_with (
    (refine wpList_store_row rfl 25 _ _ rfl w1.heap.size (tab p) rfl rfl 25 _ hg (by rw [size_tab]; exact size25) (by rw [size_tab, size_tabTo]) (one_tabTo _ _) ?_
     obtain ⟨w2, hw2⟩ : ∃ w2, w2 = (w1.alloc (.cells (tabTo 0 0) 25)).setRow w1.heap.size (tab p) := ⟨_, rfl⟩
     have hb2 : Below w.heap.size w w2 := by rw [hw2]; exact below_row (hb1.alloc hb1.size _) hb1.size _
     have ht2 : IsTab w2 p w1.heap.size := isTab_of_row (by rw [hw2]; exact HR.out)
     have hc0 := ht2 0 (by omega)
     have hca := ht2 a ha
     rw [steps_zero] at hc0
     clear ht2
     rw [← hw2]
     clear hw2 HR hg hz))
  go_frame
  go_quiet ((go_at_call 20; exact quiet_left (halve_any p a hp (by omega) _)))
  go_wp2
  go_ret
  exact ⟨rfl, below_drewN hb2 _⟩

theorem own : ownKnob Try.prog.godebug = none := by kernel_rfl

set_option maxRecDepth 100000 in
theorem lifted (os : Os) (started : os.Started) (H : Type) (enc : TypeId × Value → H) :
    ReturnsInHanded {} Try.checked os 3 .any (Rows.checkTableSpec.pre6 enc Try.prog Try.f3 Rows.checkTableRow.domain false) (Rows.checkTableSpec.post enc Try.prog Try.f3 false true false false) := by
  refine returnsInHanded_of_change (C := Try.checked) own started (by kernel_rfl) Try.func3
    (ChangeSpec.witness6 (enc := enc) (C := Try.checked) false ⟨#[], #[.int .u32 0, .int .u8 0], []⟩ 8 (by kernel_rfl) (by kernel_rfl) (by kernel_rfl) (by kernel_rfl)) ?_
  intro W base args ds gs before hval0 hW _ _
  have hval : ∀ (j : Nat) t v, Try.f3.params[j]? = some t → args[j]? = some v → Value.okWide Try.prog W .any base t v := hval0
  have hW' := hW
  obtain ⟨p, q, hA0, hV, rfl, hfz, hnd⟩ := hW
  have hA : DataW.TrodAll enc Try.prog W 0 (fun _ => true) true Try.f3.params.toList args.toList ds p := hA0
  rw [Try.params3] at hA hval
  obtain ⟨v0, v1, d0, d1, p0, p1, rfl, rfl, rfl, h0, h1⟩ := trodAll_two hA
  obtain ⟨rfl, rfl⟩ := trodVars_none hV
  obtain ⟨a, rfl, rfl, rfl, wa⟩ := open_int Try.underlying22 (hval 0 22 v0 rfl rfl) h0
  obtain ⟨b, rfl, rfl, rfl, wb⟩ := open_int Try.underlying5 (hval 1 5 v1 rfl rfl) h1
  clear hA0 hval0
  simp only [List.append_nil] at hW'
  have ba := bounds_u32 wa
  have bb := bounds_u8 wb
  obtain ⟨x, rfl⟩ := Int.eq_ofNat_of_zero_le ba.1
  obtain ⟨y, rfl⟩ := Int.eq_ofNat_of_zero_le bb.1
  refine (walk x y (by omega) (by omega) W).mono fun e W' ⟨he, hb⟩ => ?_
  subst he
  exact ⟨_, rfl, post_of_below (pa := []) (pv := []) hW' (fun _ _ _ => trodAll_mk1 (shut_bool Try.underlying4 _)) (fun sp _ => trodAll_mk2 (shut_int Try.underlying22 wa) (shut_int Try.underlying5 wb)) (fun _ _ => rfl) rfl
    hb (ok_one (by kernel_rfl) rfl (okWide_bool_mk Try.underlying4 _))⟩

theorem holds : Rows.CheckTableSaid :=
  OpenClaim.holds_of_wide 3 Try.f3 rfl rfl rfl rfl rfl rfl rfl ⟨rfl, rfl, rfl, rfl, rfl⟩ rfl rfl rfl rfl rfl (by kernel_rfl) Try.func3 (by kernel_rfl)
    (of_decide_eq_true (by kernel_rfl)) (by unfold Func.isWrapper; first | (rw [if_pos (by decide +kernel)]; kernel_rfl) | (rw [if_neg (by decide +kernel)]; exact ⟨rfl, rfl⟩))
    (fun os started H enc _ => lifted os started H enc)
#print axioms holds
end Go.Proofs.Ytflolmldildjhaa.lawCheckTable
