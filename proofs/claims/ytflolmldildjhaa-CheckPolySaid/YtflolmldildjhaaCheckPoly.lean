/- CheckPoly: rows of eight bytes that are added bit by bit have sums that are, by any table. Every two numbers of 64 bits, every polynomial. -/
import Derived.Test.YtflolmldildjhaaFour
import Derived.Deep.RegionLaw
import Derived.Deep.DeepCutAuto
import Derived.Deep.CutRange
namespace Go.Proofs.Ytflolmldildjhaa.lawCheckPoly
open Go.ChangeShapes Go.WideShapes Go.ChangeAt Go.RowKit Crc

theorem byte_zero (j : Nat) : (0 : Int) = ((byteAt 0 j).toNat : Int) := by
  rw [byteAt, UInt8.toNat_ofNat', Nat.zero_div]; rfl

set_option maxRecDepth 100000 in
set_option maxHeartbeats 1600000 in
theorem walk (a : Nat) (ha : a ≤ 18446744073709551615) (b : Nat) (hb : b ≤ 18446744073709551615) (p : Nat) (hp : p ≤ 4294967295) (w : World) :
    Calls Try.prog 8 #[.int .u64 (a : Int), .int .u64 (b : Int), .int .u32 (p : Int)] w fun e w' => e = .returned (.bool true) ∧ Below w.heap.size w w' := by
  have hz := (zero_of_info info25).1
  go_enter Try.func8, Try.ntmps8
  go_wp2_with fail
  refine (awake_any _).mono ?_
  rintro e w0 ⟨rfl, hb0⟩
  go_wp2_with fail
  refine (of_any p (by omega) _).mono ?_
  rintro e w1 ⟨rfl, hb1'⟩
  have hb1 := hb0.trans (hb1'.mono hb0.size)
  clear hb0 hb1'
  have hg := heap_alloc_last w1 (.cells (tabTo 0 0) 25)
  have hr := setRow_heap (w1.alloc (.cells (tabTo 0 0) 25)) w1.heap.size _ (tab p) 25 _ hg
  have HR := Lib.hid hr
  clear hr
  go_wp2_with (
    (refine wpList_store_row rfl 25 _ _ rfl w1.heap.size (tab p) rfl rfl 25 _ hg (by rw [size_tab]; exact size25) (by rw [size_tab, size_tabTo]) (one_tabTo _ _) ?_
     obtain ⟨w2, hw2⟩ : ∃ w2, w2 = (w1.alloc (.cells (tabTo 0 0) 25)).setRow w1.heap.size (tab p) := ⟨_, rfl⟩
     have hb2 : Hid (Below w.heap.size w w2) := by rw [hw2]; exact below_row (hb1.alloc hb1.size _) hb1.size _
     have ht2 : Hid (IsTab w2 p w1.heap.size) := isTab_of_row (by rw [hw2]; exact HR.out)
     rw [← hw2]
     clear hw2 HR hg hz hb1))
  go_loopw [8, 9, 10, 11, 12] (fun x y z u i wr => ∃ j : Nat, j ≤ 8 ∧ i = .int .i64 (8 * (j : Int)) ∧ R4 w2 wr x (rowOf a j) y (rowOf b j) z (rowOf 0 j) u (rowOf (a ^^^ b) j))
    (fun _ _ _ _ i _ => 64 - (intOf i).toNat)
  case atStart => exact ⟨0, by omega, rfl, ⟨Rows4.nil _ _, Below.refl _ _⟩⟩
  case round =>
    obtain ⟨j, hj, rfl, hR⟩ := hrel
    have HR := Lib.hid hR
    have HLX := Lib.hid (fun k h => (hR.rows.o1.lt k h).2)
    have HLY := Lib.hid (fun k h => (hR.rows.o2.lt k h).2)
    clear hR
    by_cases hj8 : j < 8
    · go_upto_region 8 with fail
      go_cut [8, 9, 10] from 17 to 46 (fun x y z wx => R4 w2 wx x (rowOf a (j + 1)) y (rowOf b (j + 1)) z (rowOf 0 (j + 1)) u11 (rowOf (a ^^^ b) j))
      case first =>
        go_region_law (first | (refine step_append_bytes _ (by rfl) (.tmp 21) (.tmp 26) (by rfl) w2.heap.size u8 (rowOf a j) (by rfl) ?_ _ [byteAt a j] (by rfl) ?_ ?_ ?_ ?_; (refine Rows4.o1 (v2 := u9) (b2 := rowOf b j) (v3 := u10) (b3 := rowOf 0 j) (v4 := u11) (b4 := rowOf (a ^^^ b) j) (R4.rows (w0 := w2) (v2 := u9) (b2 := rowOf b j) (v3 := u10) (b3 := rowOf 0 j) (v4 := u11) (b4 := rowOf (a ^^^ b) j) (v1 := u8) (b1 := rowOf a j) ?_); repeat (first | with_reducible exact HR.out | with_reducible exact R1.out | with_reducible exact R2.out | with_reducible refine R4.drew ?_ | with_reducible refine R4.alloc ?_ _)); (refine Single.bytes (N := wr.heap.size) (n := IntKind.u8.wrap (((a : Nat) : Int) / 2 ^ (8 * (j : Int)).toNat)) ?_ (go_byte' a j); repeat (first | with_reducible refine Single.drew ?_ | exact Single.new _ _ _ _ _ (by first | omega | (simp; done) | (simp; omega)) (by first | rfl | (simp; done)) | with_reducible refine Single.alloc ?_ _ | with_reducible refine Single.grown hgx HLX.out ?_ | with_reducible refine Single.grown hgy HLY.out ?_)); (rw [length_rowOf]; simp; omega); (refine (R4.bel (w0 := w2) (v2 := u9) (b2 := rowOf b j) (v3 := u10) (b3 := rowOf 0 j) (v4 := u11) (b4 := rowOf (a ^^^ b) j) (v1 := u8) (b1 := rowOf a j) ?_).size; repeat (first | with_reducible exact HR.out | with_reducible exact R1.out | with_reducible exact R2.out | with_reducible refine R4.drew ?_ | with_reducible refine R4.alloc ?_ _)); intro x1 wx hox hgx hax; have R1 : Hid (R4 w2 wx x1 (rowOf a j ++ [byteAt a j]) u9 (rowOf b j) u10 (rowOf 0 j) u11 (rowOf (a ^^^ b) j)) := (by refine R4.append hgx hox hax (v2 := u9) (b2 := rowOf b j) (v3 := u10) (b3 := rowOf 0 j) (v4 := u11) (b4 := rowOf (a ^^^ b) j) (v1 := u8) (b1 := rowOf a j) ?_; repeat (first | with_reducible exact HR.out | with_reducible exact R1.out | with_reducible exact R2.out | with_reducible refine R4.drew ?_ | with_reducible refine R4.alloc ?_ _)); have swx : wr.heap.size ≤ wx.heap.size := (by have := hgx.size; first | omega | (simp at this; omega))) | (refine step_append_bytes _ (by rfl) (.tmp 28) (.tmp 33) (by rfl) w2.heap.size u9 (rowOf b j) (by rfl) ?_ _ [byteAt b j] (by rfl) ?_ ?_ ?_ ?_; (refine Rows4.o2 (v1 := x1) (b1 := rowOf a j ++ [byteAt a j]) (v3 := u10) (b3 := rowOf 0 j) (v4 := u11) (b4 := rowOf (a ^^^ b) j) (R4.rows (w0 := w2) (v1 := x1) (b1 := rowOf a j ++ [byteAt a j]) (v3 := u10) (b3 := rowOf 0 j) (v4 := u11) (b4 := rowOf (a ^^^ b) j) (v2 := u9) (b2 := rowOf b j) ?_); repeat (first | with_reducible exact HR.out | with_reducible exact R1.out | with_reducible exact R2.out | with_reducible refine R4.drew ?_ | with_reducible refine R4.alloc ?_ _)); (refine Single.bytes (N := wr.heap.size) (n := IntKind.u8.wrap (((b : Nat) : Int) / 2 ^ (8 * (j : Int)).toNat)) ?_ (go_byte' b j); repeat (first | with_reducible refine Single.drew ?_ | exact Single.new _ _ _ _ _ (by first | omega | (simp; done) | (simp; omega)) (by first | rfl | (simp; done)) | with_reducible refine Single.alloc ?_ _ | with_reducible refine Single.grown hgx HLX.out ?_ | with_reducible refine Single.grown hgy HLY.out ?_)); (rw [length_rowOf]; simp; omega); (refine (R4.bel (w0 := w2) (v1 := x1) (b1 := rowOf a j ++ [byteAt a j]) (v3 := u10) (b3 := rowOf 0 j) (v4 := u11) (b4 := rowOf (a ^^^ b) j) (v2 := u9) (b2 := rowOf b j) ?_).size; repeat (first | with_reducible exact HR.out | with_reducible exact R1.out | with_reducible exact R2.out | with_reducible refine R4.drew ?_ | with_reducible refine R4.alloc ?_ _)); intro y1 wy hoy hgy hay; have R2 : Hid (R4 w2 wy x1 (rowOf a j ++ [byteAt a j]) y1 (rowOf b j ++ [byteAt b j]) u10 (rowOf 0 j) u11 (rowOf (a ^^^ b) j)) := (by refine R4.append2 hgy hoy hay (v1 := x1) (b1 := rowOf a j ++ [byteAt a j]) (v3 := u10) (b3 := rowOf 0 j) (v4 := u11) (b4 := rowOf (a ^^^ b) j) (v2 := u9) (b2 := rowOf b j) ?_; repeat (first | with_reducible exact HR.out | with_reducible exact R1.out | with_reducible exact R2.out | with_reducible refine R4.drew ?_ | with_reducible refine R4.alloc ?_ _)); have swy : wr.heap.size ≤ wy.heap.size := (by have := hgy.size; first | omega | (simp at this; omega))) | (refine step_append_bytes _ (by rfl) (.tmp 35) (.tmp 36) (by rfl) w2.heap.size u10 (rowOf 0 j) (by rfl) ?_ _ [byteAt 0 j] (by rfl) ?_ ?_ ?_ ?_; (refine Rows4.o3 (v1 := x1) (b1 := rowOf a j ++ [byteAt a j]) (v2 := y1) (b2 := rowOf b j ++ [byteAt b j]) (v4 := u11) (b4 := rowOf (a ^^^ b) j) (R4.rows (w0 := w2) (v1 := x1) (b1 := rowOf a j ++ [byteAt a j]) (v2 := y1) (b2 := rowOf b j ++ [byteAt b j]) (v4 := u11) (b4 := rowOf (a ^^^ b) j) (v3 := u10) (b3 := rowOf 0 j) ?_); repeat (first | with_reducible exact HR.out | with_reducible exact R1.out | with_reducible exact R2.out | with_reducible refine R4.drew ?_ | with_reducible refine R4.alloc ?_ _)); (refine Single.bytes (N := wr.heap.size) (n := 0) ?_ (byte_zero j); repeat (first | with_reducible refine Single.drew ?_ | exact Single.new _ _ _ _ _ (by first | omega | (simp; done) | (simp; omega)) (by first | rfl | (simp; done)) | with_reducible refine Single.alloc ?_ _ | with_reducible refine Single.grown hgx HLX.out ?_ | with_reducible refine Single.grown hgy HLY.out ?_)); (rw [length_rowOf]; simp; omega); (refine (R4.bel (w0 := w2) (v1 := x1) (b1 := rowOf a j ++ [byteAt a j]) (v2 := y1) (b2 := rowOf b j ++ [byteAt b j]) (v4 := u11) (b4 := rowOf (a ^^^ b) j) (v3 := u10) (b3 := rowOf 0 j) ?_).size; repeat (first | with_reducible exact HR.out | with_reducible exact R1.out | with_reducible exact R2.out | with_reducible refine R4.drew ?_ | with_reducible refine R4.alloc ?_ _)); intro z1 wz hoz hgz haz; have R3 : Hid (R4 w2 wz x1 (rowOf a j ++ [byteAt a j]) y1 (rowOf b j ++ [byteAt b j]) z1 (rowOf 0 j ++ [byteAt 0 j]) u11 (rowOf (a ^^^ b) j)) := (by refine R4.append3 hgz hoz haz (v1 := x1) (b1 := rowOf a j ++ [byteAt a j]) (v2 := y1) (b2 := rowOf b j ++ [byteAt b j]) (v4 := u11) (b4 := rowOf (a ^^^ b) j) (v3 := u10) (b3 := rowOf 0 j) ?_; repeat (first | with_reducible exact HR.out | with_reducible exact R1.out | with_reducible exact R2.out | with_reducible refine R4.drew ?_ | with_reducible refine R4.alloc ?_ _)); have swz : wr.heap.size ≤ wz.heap.size := (by have := hgz.size; first | omega | (simp at this; omega))))
        all_goals (go_wp2_with fail; go_meet; rw [rowOf_succ a, rowOf_succ b, rowOf_succ 0]; exact R3.out)
      case rest =>
        have hcb : bits .xor .u64 (a : Int) (b : Int) = ((a ^^^ b : Nat) : Int) := u64_xor_nat a b (by omega) (by omega)
        have HC := Lib.hid hcut
        clear hcut HR HLX HLY
        go_wp2_with (at_builtin; refine wpl_append_bytes _ rfl (.tmp 38) (.tmp 45) rfl w2.heap.size u11 (rowOf (a ^^^ b) j) rfl (HC.out.rows.o4.alloc _) _ [byteAt (a ^^^ b) j] rfl (Single.bytes (Single.new wc wc.heap.size wc.heap.size _ 5 (Nat.le_refl _) rfl) (go_byte (a ^^^ b) j)) (by rw [length_rowOf]; simp; omega) (HC.out.alloc _).bel.size ?_)
        intro v1 w1 ho hg hat
        have HC1 : Hid (R4 w2 w1 u8 (rowOf a (j + 1)) u9 (rowOf b (j + 1)) u10 (rowOf 0 (j + 1)) v1 (rowOf (a ^^^ b) (j + 1))) := by
          rw [rowOf_succ (a ^^^ b)]
          exact R4.append4 hg ho (by rw [World.size_alloc]; exact hat) (HC.out.alloc _)
        clear ho hg hat HC
        go_wp2_with fail
        go_roundw
        case rel => exact ⟨j + 1, by omega, by go_num, HC1.out⟩
        case measure => simp [intOf]; omega
    · obtain rfl : j = 8 := by omega
      have hsum := sum_two p a b 8
      have hlt1 := sum_lt (p := p) (by omega) (rowOf a 8)
      have hlt2 := sum_lt (p := p) (by omega) (rowOf b 8)
      have hlt3 := sum_lt (p := p) (by omega) (rowOf (a ^^^ b) 8)
      have hlt4 := sum_lt (p := p) (by omega) (rowOf 0 8)
      have hx1 := xor_u32 _ _ hlt1 hlt2
      have hx2 := xor_u32 _ _ hlt3 hlt4
      rw [hsum] at hx2
      clear hsum hlt1 hlt2 hlt3 hlt4 HLX HLY
      have ho1 := Lib.hid HR.out.rows.o1.bytes
      have ho2 := Lib.hid HR.out.rows.o2.bytes
      have ho3 := Lib.hid HR.out.rows.o3.bytes
      have ho4 := Lib.hid HR.out.rows.o4.bytes
      have hbr := hb2.out.trans (HR.out.bel.mono hb2.out.size)
      have htr : Hid (IsTab wr p w1.heap.size) := fun i hi => cell_later HR.out.bel (ht2.out i hi)
      clear HR
      go_wp2_with fail
      refine (tsum_any p (by omega) w1.heap.size u11 (rowOf (a ^^^ b) 8) (by rw [length_rowOf]; omega) _ htr.out ho4.out).mono ?_
      rintro e w3 ⟨rfl, rfl⟩
      go_wp2_with fail
      refine (tsum_any p (by omega) w1.heap.size u10 (rowOf 0 8) (by rw [length_rowOf]; omega) _ htr.out ho3.out).mono ?_
      rintro e w3 ⟨rfl, rfl⟩
      go_wp2_with fail
      refine (tsum_any p (by omega) w1.heap.size u8 (rowOf a 8) (by rw [length_rowOf]; omega) _ htr.out ho1.out).mono ?_
      rintro e w3 ⟨rfl, rfl⟩
      go_wp2_with fail
      refine (tsum_any p (by omega) w1.heap.size u9 (rowOf b 8) (by rw [length_rowOf]; omega) _ htr.out ho2.out).mono ?_
      rintro e w3 ⟨rfl, rfl⟩
      go_wp2
      go_ret
      exact ⟨by simp, hbr⟩

set_option maxRecDepth 100000 in
theorem lifted (os : Os) (started : os.Started) (H : Type) (enc : TypeId × Value → H) :
    ReturnsInHanded {} Try.checked os 8 .any (Rows.checkPolySpec.pre6 enc Try.prog Try.f8 Rows.checkPolyRow.domain false) (Rows.checkPolySpec.post enc Try.prog Try.f8 false true false false) := by
  refine returnsInHanded_of_change_sized (C := Try.checked) own started (by kernel_rfl) Try.func8
    (ChangeSpec.witness6 (enc := enc) (C := Try.checked) false ⟨#[], #[.int .u64 0, .int .u64 0, .int .u32 0], []⟩ 8 (by kernel_rfl) (by kernel_rfl) (by kernel_rfl) (by kernel_rfl)) ?_
  intro W base args ds gs before hval0 hW _ hsz0 _
  have hval : ∀ (j : Nat) t v, Try.f8.params[j]? = some t → args[j]? = some v → Value.okWide Try.prog W .any base t v := hval0
  have hsz : (DataW.weightsEach Try.prog (Try.f8.params.toList ++ Rows.checkPolySpec.plain.varTypes Try.prog) (ds ++ gs)).all (· ≤ reachBytes) = true := hsz0
  have hW' := hW
  obtain ⟨p, q, hA0, hV, rfl, hfz, hnd⟩ := hW
  have hA : DataW.TrodAll enc Try.prog W 0 (fun _ => true) true Try.f8.params.toList args.toList ds p := hA0
  have hA1 := hA
  rw [Try.params8] at hA hA1 hval hsz
  obtain ⟨v0, v1, v2, d0, d1, d2, p0, p1, p2, rfl, rfl, rfl, h0, h1, h2⟩ := trodAll_three hA
  obtain ⟨rfl, rfl⟩ := trodVars_none hV
  simp only [List.append_nil] at hW'
  obtain ⟨z0, rfl, rfl, rfl, wz0⟩ := open_int Try.underlying36 (hval 0 36 v0 rfl rfl) h0
  have bz0 := bounds_u64 wz0
  obtain ⟨x0, rfl⟩ := Int.eq_ofNat_of_zero_le bz0.1
  obtain ⟨z1, rfl, rfl, rfl, wz1⟩ := open_int Try.underlying36 (hval 1 36 v1 rfl rfl) h1
  have bz1 := bounds_u64 wz1
  obtain ⟨x1, rfl⟩ := Int.eq_ofNat_of_zero_le bz1.1
  obtain ⟨z2, rfl, rfl, rfl, wz2⟩ := open_int Try.underlying22 (hval 2 22 v2 rfl rfl) h2
  have bz2 := bounds_u32 wz2
  obtain ⟨x2, rfl⟩ := Int.eq_ofNat_of_zero_le bz2.1
  refine (walk x0 (by omega) x1 (by omega) x2 (by omega) W).mono fun e W' ⟨he, hb⟩ => ?_
  subst he
  exact ⟨_, rfl, post_of_below (pv := []) hW' (fun _ _ _ => trodAll_mk1 (shut_bool Try.underlying4 _)) (fun sp _ => args_stay laidOut hb _ _ _ _ (by simp [ok22, ok36]) hA1 (fun x hx => by simp at hx) (fun x hx => by simp at hx)) (fun _ _ => rfl) (by simp)
    hb (ok_one (by kernel_rfl) rfl (okWide_bool_mk Try.underlying4 _))⟩

theorem holds : Rows.CheckPolySaid :=
  OpenClaim.holds_of_wide 8 Try.f8 rfl rfl rfl rfl rfl rfl rfl ⟨rfl, rfl, rfl, rfl, rfl⟩ rfl rfl rfl rfl rfl (by kernel_rfl) Try.func8 (by kernel_rfl)
    (of_decide_eq_true (by kernel_rfl)) (by unfold Func.isWrapper; first | (rw [if_pos (by decide +kernel)]; kernel_rfl) | (rw [if_neg (by decide +kernel)]; exact ⟨rfl, rfl⟩))
    (fun os started H enc _ => lifted os started H enc)
#print axioms holds
end Go.Proofs.Ytflolmldildjhaa.lawCheckPoly
