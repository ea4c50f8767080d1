/- CheckThree: rows of eight bytes that are added bit by bit have sums that are. Every three numbers of 64 bits. -/
import Derived.Test.YtflolmldildjhaaFour
import Derived.Deep.RegionLaw
import Derived.Deep.DeepCutAuto
import Derived.Deep.CutRange
namespace Go.Proofs.Ytflolmldildjhaa.lawCheckThree
open Go.ChangeShapes Go.WideShapes Go.ChangeAt Go.RowKit Crc

set_option maxRecDepth 100000 in
set_option maxHeartbeats 1600000 in
theorem walk (a : Nat) (ha : a ≤ 18446744073709551615) (b : Nat) (hb : b ≤ 18446744073709551615) (c : Nat) (hc : c ≤ 18446744073709551615) (w : World) :
    Calls Try.prog 7 #[.int .u64 (a : Int), .int .u64 (b : Int), .int .u64 (c : Int)] w fun e w' => e = .returned (.bool true) ∧ Below w.heap.size w w' := by
  go_enter Try.func7, Try.ntmps7
  go_wp2_with fail
  refine (awake_any _).mono ?_
  rintro e w0 ⟨rfl, hb0⟩
  go_wp2
  go_loopw [7, 8, 9, 10, 11] (fun x y z u i wr => ∃ j : Nat, j ≤ 8 ∧ i = .int .i64 (8 * (j : Int)) ∧ R4 w wr x (rowOf a j) y (rowOf b j) z (rowOf c j) u (rowOf (a ^^^ b ^^^ c) j))
    (fun _ _ _ _ i _ => 64 - (intOf i).toNat)
  case atStart => exact ⟨0, by omega, rfl, ⟨Rows4.nil _ _, hb0⟩⟩
  case round =>
    obtain ⟨j, hj, rfl, hR⟩ := hrel
    have HR := Lib.hid hR
    have HLX := Lib.hid (fun k h => (hR.rows.o1.lt k h).2)
    have HLY := Lib.hid (fun k h => (hR.rows.o2.lt k h).2)
    clear hR hb0
    by_cases hj8 : j < 8
    · go_upto_region 7 with fail
      go_cut [7, 8, 9] from 14 to 49 (fun x y z wx => R4 w wx x (rowOf a (j + 1)) y (rowOf b (j + 1)) z (rowOf c (j + 1)) u10 (rowOf (a ^^^ b ^^^ c) j))
      case first =>
        go_region_law (first | (refine step_append_bytes _ (by rfl) (.tmp 18) (.tmp 23) (by rfl) w.heap.size u7 (rowOf a j) (by rfl) ?_ _ [byteAt a j] (by rfl) ?_ ?_ ?_ ?_; (refine Rows4.o1 (v2 := u8) (b2 := rowOf b j) (v3 := u9) (b3 := rowOf c j) (v4 := u10) (b4 := rowOf (a ^^^ b ^^^ c) j) (R4.rows (w0 := w) (v2 := u8) (b2 := rowOf b j) (v3 := u9) (b3 := rowOf c j) (v4 := u10) (b4 := rowOf (a ^^^ b ^^^ c) j) (v1 := u7) (b1 := rowOf a j) ?_); repeat (first | with_reducible exact HR.out | with_reducible exact R1.out | with_reducible exact R2.out | with_reducible refine R4.drew ?_ | with_reducible refine R4.alloc ?_ _)); (refine Single.bytes (N := wr.heap.size) (n := IntKind.u8.wrap (((a : Nat) : Int) / 2 ^ (8 * (j : Int)).toNat)) ?_ (go_byte' a j); repeat (first | with_reducible refine Single.drew ?_ | exact Single.new _ _ _ _ _ (by first | omega | (simp; done) | (simp; omega)) (by first | rfl | (simp; done)) | with_reducible refine Single.alloc ?_ _ | with_reducible refine Single.grown hgx HLX.out ?_ | with_reducible refine Single.grown hgy HLY.out ?_)); (rw [length_rowOf]; simp; omega); (refine (R4.bel (w0 := w) (v2 := u8) (b2 := rowOf b j) (v3 := u9) (b3 := rowOf c j) (v4 := u10) (b4 := rowOf (a ^^^ b ^^^ c) j) (v1 := u7) (b1 := rowOf a j) ?_).size; repeat (first | with_reducible exact HR.out | with_reducible exact R1.out | with_reducible exact R2.out | with_reducible refine R4.drew ?_ | with_reducible refine R4.alloc ?_ _)); intro x1 wx hox hgx hax; have R1 : Hid (R4 w wx x1 (rowOf a j ++ [byteAt a j]) u8 (rowOf b j) u9 (rowOf c j) u10 (rowOf (a ^^^ b ^^^ c) j)) := (by refine R4.append hgx hox hax (v2 := u8) (b2 := rowOf b j) (v3 := u9) (b3 := rowOf c j) (v4 := u10) (b4 := rowOf (a ^^^ b ^^^ c) j) (v1 := u7) (b1 := rowOf a j) ?_; repeat (first | with_reducible exact HR.out | with_reducible exact R1.out | with_reducible exact R2.out | with_reducible refine R4.drew ?_ | with_reducible refine R4.alloc ?_ _)); have swx : wr.heap.size ≤ wx.heap.size := (by have := hgx.size; first | omega | (simp at this; omega))) | (refine step_append_bytes _ (by rfl) (.tmp 25) (.tmp 30) (by rfl) w.heap.size u8 (rowOf b j) (by rfl) ?_ _ [byteAt b j] (by rfl) ?_ ?_ ?_ ?_; (refine Rows4.o2 (v1 := x1) (b1 := rowOf a j ++ [byteAt a j]) (v3 := u9) (b3 := rowOf c j) (v4 := u10) (b4 := rowOf (a ^^^ b ^^^ c) j) (R4.rows (w0 := w) (v1 := x1) (b1 := rowOf a j ++ [byteAt a j]) (v3 := u9) (b3 := rowOf c j) (v4 := u10) (b4 := rowOf (a ^^^ b ^^^ c) j) (v2 := u8) (b2 := rowOf b j) ?_); repeat (first | with_reducible exact HR.out | with_reducible exact R1.out | with_reducible exact R2.out | with_reducible refine R4.drew ?_ | with_reducible refine R4.alloc ?_ _)); (refine Single.bytes (N := wr.heap.size) (n := IntKind.u8.wrap (((b : Nat) : Int) / 2 ^ (8 * (j : Int)).toNat)) ?_ (go_byte' b j); repeat (first | with_reducible refine Single.drew ?_ | exact Single.new _ _ _ _ _ (by first | omega | (simp; done) | (simp; omega)) (by first | rfl | (simp; done)) | with_reducible refine Single.alloc ?_ _ | with_reducible refine Single.grown hgx HLX.out ?_ | with_reducible refine Single.grown hgy HLY.out ?_)); (rw [length_rowOf]; simp; omega); (refine (R4.bel (w0 := w) (v1 := x1) (b1 := rowOf a j ++ [byteAt a j]) (v3 := u9) (b3 := rowOf c j) (v4 := u10) (b4 := rowOf (a ^^^ b ^^^ c) j) (v2 := u8) (b2 := rowOf b j) ?_).size; repeat (first | with_reducible exact HR.out | with_reducible exact R1.out | with_reducible exact R2.out | with_reducible refine R4.drew ?_ | with_reducible refine R4.alloc ?_ _)); intro y1 wy hoy hgy hay; have R2 : Hid (R4 w wy x1 (rowOf a j ++ [byteAt a j]) y1 (rowOf b j ++ [byteAt b j]) u9 (rowOf c j) u10 (rowOf (a ^^^ b ^^^ c) j)) := (by refine R4.append2 hgy hoy hay (v1 := x1) (b1 := rowOf a j ++ [byteAt a j]) (v3 := u9) (b3 := rowOf c j) (v4 := u10) (b4 := rowOf (a ^^^ b ^^^ c) j) (v2 := u8) (b2 := rowOf b j) ?_; repeat (first | with_reducible exact HR.out | with_reducible exact R1.out | with_reducible exact R2.out | with_reducible refine R4.drew ?_ | with_reducible refine R4.alloc ?_ _)); have swy : wr.heap.size ≤ wy.heap.size := (by have := hgy.size; first | omega | (simp at this; omega))) | (refine step_append_bytes _ (by rfl) (.tmp 32) (.tmp 37) (by rfl) w.heap.size u9 (rowOf c j) (by rfl) ?_ _ [byteAt c j] (by rfl) ?_ ?_ ?_ ?_; (refine Rows4.o3 (v1 := x1) (b1 := rowOf a j ++ [byteAt a j]) (v2 := y1) (b2 := rowOf b j ++ [byteAt b j]) (v4 := u10) (b4 := rowOf (a ^^^ b ^^^ c) j) (R4.rows (w0 := w) (v1 := x1) (b1 := rowOf a j ++ [byteAt a j]) (v2 := y1) (b2 := rowOf b j ++ [byteAt b j]) (v4 := u10) (b4 := rowOf (a ^^^ b ^^^ c) j) (v3 := u9) (b3 := rowOf c j) ?_); repeat (first | with_reducible exact HR.out | with_reducible exact R1.out | with_reducible exact R2.out | with_reducible refine R4.drew ?_ | with_reducible refine R4.alloc ?_ _)); (refine Single.bytes (N := wr.heap.size) (n := IntKind.u8.wrap (((c : Nat) : Int) / 2 ^ (8 * (j : Int)).toNat)) ?_ (go_byte' c j); repeat (first | with_reducible refine Single.drew ?_ | exact Single.new _ _ _ _ _ (by first | omega | (simp; done) | (simp; omega)) (by first | rfl | (simp; done)) | with_reducible refine Single.alloc ?_ _ | with_reducible refine Single.grown hgx HLX.out ?_ | with_reducible refine Single.grown hgy HLY.out ?_)); (rw [length_rowOf]; simp; omega); (refine (R4.bel (w0 := w) (v1 := x1) (b1 := rowOf a j ++ [byteAt a j]) (v2 := y1) (b2 := rowOf b j ++ [byteAt b j]) (v4 := u10) (b4 := rowOf (a ^^^ b ^^^ c) j) (v3 := u9) (b3 := rowOf c j) ?_).size; repeat (first | with_reducible exact HR.out | with_reducible exact R1.out | with_reducible exact R2.out | with_reducible refine R4.drew ?_ | with_reducible refine R4.alloc ?_ _)); intro z1 wz hoz hgz haz; have R3 : Hid (R4 w wz x1 (rowOf a j ++ [byteAt a j]) y1 (rowOf b j ++ [byteAt b j]) z1 (rowOf c j ++ [byteAt c j]) u10 (rowOf (a ^^^ b ^^^ c) j)) := (by refine R4.append3 hgz hoz haz (v1 := x1) (b1 := rowOf a j ++ [byteAt a j]) (v2 := y1) (b2 := rowOf b j ++ [byteAt b j]) (v4 := u10) (b4 := rowOf (a ^^^ b ^^^ c) j) (v3 := u9) (b3 := rowOf c j) ?_; repeat (first | with_reducible exact HR.out | with_reducible exact R1.out | with_reducible exact R2.out | with_reducible refine R4.drew ?_ | with_reducible refine R4.alloc ?_ _)); have swz : wr.heap.size ≤ wz.heap.size := (by have := hgz.size; first | omega | (simp at this; omega))))
        all_goals (go_wp2_with fail; go_meet; rw [rowOf_succ a, rowOf_succ b, rowOf_succ c]; exact R3.out)
      case rest =>
        have hcb : bits .xor .u64 (bits .xor .u64 (a : Int) (b : Int)) (c : Int) = ((a ^^^ b ^^^ c : Nat) : Int) := by
          rw [u64_xor_nat a b (by omega) (by omega), u64_xor_nat (a ^^^ b) c (Nat.xor_lt_two_pow (n := 64) (by omega) (by omega)) (by omega)]
        have HC := Lib.hid hcut
        clear hcut HR HLX HLY
        go_wp2_with (at_builtin; refine wpl_append_bytes _ rfl (.tmp 39) (.tmp 48) rfl w.heap.size u10 (rowOf (a ^^^ b ^^^ c) j) rfl (HC.out.rows.o4.alloc _) _ [byteAt (a ^^^ b ^^^ c) j] rfl (Single.bytes (Single.new wc wc.heap.size wc.heap.size _ 5 (Nat.le_refl _) rfl) (go_byte (a ^^^ b ^^^ c) j)) (by rw [length_rowOf]; simp; omega) (HC.out.alloc _).bel.size ?_)
        intro v1 w1 ho hg hat
        have HC1 : Hid (R4 w w1 u7 (rowOf a (j + 1)) u8 (rowOf b (j + 1)) u9 (rowOf c (j + 1)) v1 (rowOf (a ^^^ b ^^^ c) (j + 1))) := by
          rw [rowOf_succ (a ^^^ b ^^^ c)]
          exact R4.append4 hg ho (by rw [World.size_alloc]; exact hat) (HC.out.alloc _)
        clear ho hg hat HC
        go_wp2_with fail
        go_roundw
        case rel => exact ⟨j + 1, by omega, by go_num, HC1.out⟩
        case measure => simp [intOf]; omega
    · obtain rfl : j = 8 := by omega
      have hsum := sum_three 3988292384 a b c 8
      have hlt1 := sum_lt (p := 3988292384) (by omega) (rowOf a 8)
      have hlt2 := sum_lt (p := 3988292384) (by omega) (rowOf b 8)
      have hlt3 := sum_lt (p := 3988292384) (by omega) (rowOf c 8)
      have hx1 := xor_u32 _ _ hlt1 hlt2
      have hx2 := xor_u32 _ _ (Nat.xor_lt_two_pow (n := 32) hlt1 hlt2) hlt3
      rw [← hsum] at hx2
      clear hsum hlt1 hlt2 hlt3 HLX HLY
      have ho1 := Lib.hid HR.out.rows.o1.bytes
      have ho2 := Lib.hid HR.out.rows.o2.bytes
      have ho3 := Lib.hid HR.out.rows.o3.bytes
      have ho4 := Lib.hid HR.out.rows.o4.bytes
      have hbr := HR.out.bel
      clear HR
      go_wp2_with fail
      refine (csum_any u10 (rowOf (a ^^^ b ^^^ c) 8) (by rw [length_rowOf]; omega) _ ho4.out).mono ?_
      rintro e w1 ⟨rfl, hb1⟩
      go_wp2_with fail
      refine (csum_any u7 (rowOf a 8) (by rw [length_rowOf]; omega) _ (ho1.out.below hb1)).mono ?_
      rintro e w2 ⟨rfl, hb2'⟩
      have hb2 := hb1.trans (hb2'.mono hb1.size)
      clear hb1 hb2'
      go_wp2_with fail
      refine (csum_any u8 (rowOf b 8) (by rw [length_rowOf]; omega) _ (ho2.out.below hb2)).mono ?_
      rintro e w3 ⟨rfl, hb3'⟩
      have hb3 := hb2.trans (hb3'.mono hb2.size)
      clear hb2 hb3'
      go_wp2_with fail
      refine (csum_any u9 (rowOf c 8) (by rw [length_rowOf]; omega) _ (ho3.out.below hb3)).mono ?_
      rintro e w4 ⟨rfl, hb4'⟩
      have hb4 := hb3.trans (hb4'.mono hb3.size)
      clear hb3 hb4'
      go_wp2
      go_ret
      exact ⟨by simp, hbr.trans (hb4.mono hbr.size)⟩

set_option maxRecDepth 100000 in
theorem lifted (os : Os) (started : os.Started) (H : Type) (enc : TypeId × Value → H) :
    ReturnsInHanded {} Try.checked os 7 .any (Rows.checkThreeSpec.pre6 enc Try.prog Try.f7 Rows.checkThreeRow.domain false) (Rows.checkThreeSpec.post enc Try.prog Try.f7 false true false false) := by
  refine returnsInHanded_of_change_sized (C := Try.checked) own started (by kernel_rfl) Try.func7
    (ChangeSpec.witness6 (enc := enc) (C := Try.checked) false ⟨#[], #[.int .u64 0, .int .u64 0, .int .u64 0], []⟩ 8 (by kernel_rfl) (by kernel_rfl) (by kernel_rfl) (by kernel_rfl)) ?_
  intro W base args ds gs before hval0 hW _ hsz0 _
  have hval : ∀ (j : Nat) t v, Try.f7.params[j]? = some t → args[j]? = some v → Value.okWide Try.prog W .any base t v := hval0
  have hsz : (DataW.weightsEach Try.prog (Try.f7.params.toList ++ Rows.checkThreeSpec.plain.varTypes Try.prog) (ds ++ gs)).all (· ≤ reachBytes) = true := hsz0
  have hW' := hW
  obtain ⟨p, q, hA0, hV, rfl, hfz, hnd⟩ := hW
  have hA : DataW.TrodAll enc Try.prog W 0 (fun _ => true) true Try.f7.params.toList args.toList ds p := hA0
  have hA1 := hA
  rw [Try.params7] at hA hA1 hval hsz
  obtain ⟨v0, v1, v2, d0, d1, d2, p0, p1, p2, rfl, rfl, rfl, h0, h1, h2⟩ := trodAll_three hA
  obtain ⟨rfl, rfl⟩ := trodVars_none hV
  simp only [List.append_nil] at hW'
  obtain ⟨z0, rfl, rfl, rfl, wz0⟩ := open_int Try.underlying36 (hval 0 36 v0 rfl rfl) h0
  have bz0 := bounds_u64 wz0
  obtain ⟨x0, rfl⟩ := Int.eq_ofNat_of_zero_le bz0.1
  obtain ⟨z1, rfl, rfl, rfl, wz1⟩ := open_int Try.underlying36 (hval 1 36 v1 rfl rfl) h1
  have bz1 := bounds_u64 wz1
  obtain ⟨x1, rfl⟩ := Int.eq_ofNat_of_zero_le bz1.1
  obtain ⟨z2, rfl, rfl, rfl, wz2⟩ := open_int Try.underlying36 (hval 2 36 v2 rfl rfl) h2
  have bz2 := bounds_u64 wz2
  obtain ⟨x2, rfl⟩ := Int.eq_ofNat_of_zero_le bz2.1
  refine (walk x0 (by omega) x1 (by omega) x2 (by omega) W).mono fun e W' ⟨he, hb⟩ => ?_
  subst he
  exact ⟨_, rfl, post_of_below (pv := []) hW' (fun _ _ _ => trodAll_mk1 (shut_bool Try.underlying4 _)) (fun sp _ => args_stay laidOut hb _ _ _ _ (by simp [ok36]) hA1 (fun x hx => by simp at hx) (fun x hx => by simp at hx)) (fun _ _ => rfl) (by simp)
    hb (ok_one (by kernel_rfl) rfl (okWide_bool_mk Try.underlying4 _))⟩

theorem holds : Rows.CheckThreeSaid :=
  OpenClaim.holds_of_wide 7 Try.f7 rfl rfl rfl rfl rfl rfl rfl ⟨rfl, rfl, rfl, rfl, rfl⟩ rfl rfl rfl rfl rfl (by kernel_rfl) Try.func7 (by kernel_rfl)
    (of_decide_eq_true (by kernel_rfl)) (by unfold Func.isWrapper; first | (rw [if_pos (by decide +kernel)]; kernel_rfl) | (rw [if_neg (by decide +kernel)]; exact ⟨rfl, rfl⟩))
    (fun os started H enc _ => lifted os started H enc)
#print axioms holds
end Go.Proofs.Ytflolmldildjhaa.lawCheckThree
