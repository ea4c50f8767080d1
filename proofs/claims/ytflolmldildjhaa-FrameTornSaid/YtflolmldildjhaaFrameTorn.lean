/- FrameTorn: of frames that are torn those are there that are whole, and what is behind them is torn. -/
import Derived.Test.YtflolmldildjhaaJn
import Derived.Test.YtflolmldildjhaaRws
import Derived.Test.YtflolmldildjhaaArg
import Derived.Test.YtflolmldildjhaaAwake3
import Derived.Test.YtflolmldildjhaaForm
namespace Go.Proofs.Ytflolmldildjhaa.lawFrameTorn
open Go.ChangeShapes Go.WideShapes Go.ChangeAt Go.RowKit Crc Frm

set_option maxRecDepth 100000 in
set_option maxHeartbeats 1600000 in
theorem walk (v : Value) (a0 : List (List UInt8)) (x : Nat) (hx : x ≤ 65535) (w : World) (hv : IsRows w v a0) :
    Calls Try.prog 16 #[v, .int .u16 (x : Int)] w fun e w' => e = .returned (.bool true) ∧ Below w.heap.size w w' := by
  have HV := Lib.hid hv
  obtain ⟨A, cap, rfl, -, -, -⟩ := hv
  go_enter Try.func16, Try.ntmps16
  go_wp2_with fail
  refine (awake3_any _).mono ?_
  rintro e w0 ⟨rfl, hb0⟩
  go_wp2_with fail
  refine (few_any _ a0 _ (HV.out.below hb0)).mono ?_
  rintro e w1 ⟨v1, rfl, ho1, hb1'⟩
  have hb1 := hb0.trans (hb1'.mono hb0.size)
  obtain ⟨rs, hrs⟩ : ∃ rs, rs = few a0 := ⟨_, rfl⟩
  rw [← hrs] at ho1
  have hrl : rs.length ≤ 30 := by rw [hrs]; exact few_len a0
  have hrr : ∀ r ∈ rs, r.length ≤ 300 := by rw [hrs]; exact few_short a0
  have HR1 : Hid (IsRows w1 v1 rs) := Lib.hid ho1.rows
  obtain ⟨A1, cap1, rfl, -, -, -⟩ := ho1.rows
  have HRR := Lib.hid hrr
  clear hrs ho1 hb1' hb0 hrr HV
  go_wp2_with fail
  refine (join_any _ rs hrl HRR.out _ HR1.out).mono ?_
  rintro e w2 ⟨v2, rfl, ho2, hb2'⟩
  have hb2 := hb1.trans (hb2'.mono hb1.size)
  have HR2 : Hid (IsRows w2 (.slice A1 rs.length cap1) rs) := Lib.hid (HR1.out.below hb2')
  have hjl := join_short rs HRR.out
  obtain ⟨L, hL⟩ : ∃ L, L = join rs := ⟨_, rfl⟩
  rw [← hL] at ho2 hjl
  have HL := Lib.hid hL
  have HJ2 : Hid (IsBytes w2 v2 L) := Lib.hid ho2.bytes
  obtain ⟨B, cap2, rfl, hlc2, -, -⟩ := ho2.bytes
  clear ho2 hb2' hb1 HR1 hL
  obtain ⟨n, hn⟩ : ∃ n, n = x % (L.length + 1) := ⟨_, rfl⟩
  have hnl : n ≤ L.length := by have := Nat.mod_lt x (show 0 < L.length + 1 by omega); omega
  have q1 : IntKind.i64.wrap (x : Int) = (x : Int) := IntWalk.i64_in _ (by omega)
  have q2 : (x : Int).tmod ((L.length : Int) + 1) = (n : Int) := by rw [hn, Int.tmod_eq_emod_of_nonneg (by omega)]; rfl
  have q5 : IntKind.i64.wrap (n : Int) = (n : Int) := IntWalk.i64_in _ (by omega)
  have HT2 : Hid (IsBytes w2 (.slice B n cap2) (L.take n)) := Lib.hid (HJ2.out.take n hnl)
  have htl : (L.take n).length = n := by rw [List.length_take]; omega
  have HTL := Lib.hid htl
  clear hn htl HJ2
  have hnc : n ≤ cap2 := by omega
  go_wp2_with fail
  refine (rows_any _ (L.take n) (by rw [HTL.out]; omega) _ HT2.out).mono ?_
  rintro e w3 ⟨v3, xs, rfl, hfull, hr3, hb3'⟩
  have hb3 := hb2.trans (hb3'.mono hb2.size)
  rw [HTL.out]
  have hr1 : ∀ r ∈ rs, r.length ≤ 16384 := fun r h => by have := HRR.out r h; omega
  obtain ⟨ys, hys, hle, ht3, hlast⟩ := torn hr1 (by rw [← HL.out]; exact hnl) (by rw [← HL.out]; exact hfull)
  have HYS := Lib.hid hys
  clear hys hr1
  by_cases hE : size xs = n
  · skip
    have h3 : True := trivial
    rw [if_pos hE, hE]
    have HLAST := Lib.hid hlast
    have HR3 : Hid (IsRows w3 (.slice A1 rs.length cap1) rs) := Lib.hid (HR2.out.below hb3')
    have HX3 : Hid (IsRows w3 v3 xs) := Lib.hid hr3
    obtain ⟨A3, cap3, rfl, -, -, -⟩ := hr3
    have HB3 := Lib.hid hb3
    have hxr : xs.length ≤ rs.length := by have := congrArg List.length HYS.out; rw [List.length_append] at this; omega
    have m1 : (xs.length : Int) ≤ (rs.length : Int) := by omega
    clear hlast hb3' HR2 hb3 hfull HT2 ht3
    simp only [Int.cast_ofNat_Int]
    go_wp2
    go_loopw [59] (fun i wr => ∃ j m : Nat, j ≤ xs.length ∧ i = .int .i64 (j : Int) ∧ wr = w3.drewN m) (fun i _ => xs.length - (intOf i).toNat)
    case atStart => exact ⟨0, 0, by omega, rfl, rfl⟩
    case round =>
      obtain ⟨j, m, hj, rfl, rfl⟩ := hrel
      by_cases hj4 : j < xs.length
      · obtain ⟨r, hr⟩ : ∃ r, xs[j]? = some r := ⟨_, List.getElem?_eq_getElem hj4⟩
        have hr' : rs[j]? = some r := by rw [HYS.out, List.getElem?_append_left hj4]; exact hr
        obtain ⟨b, off, u, rfl, hc, hu⟩ := HX3.out.at_ hr
        obtain ⟨b', off', u', rfl, hc', hu'⟩ := HR3.out.at_ hr'
        have k1 : ∀ q, (convert 29 9 u).run Try.prog (w3.drewN q) = .ok (.string (strOf r)) (w3.drewN q) := fun q => run_conv _ _ _ (IsBytes.below hu (below_drewN (Below.refl _ _) q))
        have k2 : ∀ q, (convert 29 9 u').run Try.prog (w3.drewN q) = .ok (.string (strOf r)) (w3.drewN q) := fun q => run_conv _ _ _ (IsBytes.below hu' (below_drewN (Below.refl _ _) q))
        obtain ⟨A4, cap4, rfl, -, -, -⟩ := hu
        obtain ⟨A5, cap5, rfl, -, -, -⟩ := hu'
        clear hr hr'
        have hjr : j < rs.length := by omega
        go_wp2
        go_quiet (fail)
        go_wp2
        go_roundw
        case rel => exact ⟨j + 1, _, by omega, by go_num, rfl⟩
        case measure => simp [intOf]; omega
      · obtain rfl : j = xs.length := by omega
        have hfin : Below w.heap.size w (w3.drewN m) := below_drewN HB3.out m
        by_cases hxe : xs.length = rs.length
        · have b2 : ((xs.length : Int) == (rs.length : Int)) = true := by simp; omega
          go_wp2
          go_ret
          exact ⟨rfl, hfin⟩
        · have b2 : ((xs.length : Int) == (rs.length : Int)) = false := by simp; omega
          obtain ⟨r, hr⟩ : ∃ r, rs[xs.length]? = some r := ⟨_, List.getElem?_eq_getElem (by omega)⟩
          have hlr := HLAST.out r hr
          have hrl3 := HRR.out r (List.mem_of_getElem? hr)
          obtain ⟨b', off', u', rfl, hc', hu'⟩ := HR3.out.at_ hr
          obtain ⟨A5, cap5, rfl, -, -, -⟩ := hu'
          have hxlr : xs.length < rs.length := by omega
          clear hr
          go_wp2
          go_ret
          exact ⟨by simp; omega, hfin⟩
  · skip
    have h3e := ht3 hE
    rw [← HL.out] at h3e
    rw [if_neg hE, h3e]
    obtain ⟨en, hen⟩ : ∃ en, en = size xs := ⟨_, rfl⟩
    rw [← hen] at hle hlast hE ⊢
    have hlt : en < n := by omega
    have b1 : ((en : Int) == (n : Int)) = false := by simp; omega
    clear hen h3e hE
    have HLAST := Lib.hid hlast
    have HR3 : Hid (IsRows w3 (.slice A1 rs.length cap1) rs) := Lib.hid (HR2.out.below hb3')
    have HX3 : Hid (IsRows w3 v3 xs) := Lib.hid hr3
    obtain ⟨A3, cap3, rfl, -, -, -⟩ := hr3
    have HB3 := Lib.hid hb3
    have hxr : xs.length ≤ rs.length := by have := congrArg List.length HYS.out; rw [List.length_append] at this; omega
    have m1 : (xs.length : Int) ≤ (rs.length : Int) := by omega
    clear hlast hb3' HR2 hb3 hfull HT2 ht3
    simp only [Int.cast_ofNat_Int]
    go_wp2
    go_loopw [59] (fun i wr => ∃ j m : Nat, j ≤ xs.length ∧ i = .int .i64 (j : Int) ∧ wr = w3.drewN m) (fun i _ => xs.length - (intOf i).toNat)
    case atStart => exact ⟨0, 0, by omega, rfl, rfl⟩
    case round =>
      obtain ⟨j, m, hj, rfl, rfl⟩ := hrel
      by_cases hj4 : j < xs.length
      · obtain ⟨r, hr⟩ : ∃ r, xs[j]? = some r := ⟨_, List.getElem?_eq_getElem hj4⟩
        have hr' : rs[j]? = some r := by rw [HYS.out, List.getElem?_append_left hj4]; exact hr
        obtain ⟨b, off, u, rfl, hc, hu⟩ := HX3.out.at_ hr
        obtain ⟨b', off', u', rfl, hc', hu'⟩ := HR3.out.at_ hr'
        have k1 : ∀ q, (convert 29 9 u).run Try.prog (w3.drewN q) = .ok (.string (strOf r)) (w3.drewN q) := fun q => run_conv _ _ _ (IsBytes.below hu (below_drewN (Below.refl _ _) q))
        have k2 : ∀ q, (convert 29 9 u').run Try.prog (w3.drewN q) = .ok (.string (strOf r)) (w3.drewN q) := fun q => run_conv _ _ _ (IsBytes.below hu' (below_drewN (Below.refl _ _) q))
        obtain ⟨A4, cap4, rfl, -, -, -⟩ := hu
        obtain ⟨A5, cap5, rfl, -, -, -⟩ := hu'
        clear hr hr'
        have hjr : j < rs.length := by omega
        go_wp2
        go_quiet (fail)
        go_wp2
        go_roundw
        case rel => exact ⟨j + 1, _, by omega, by go_num, rfl⟩
        case measure => simp [intOf]; omega
      · obtain rfl : j = xs.length := by omega
        have hfin : Below w.heap.size w (w3.drewN m) := below_drewN HB3.out m
        by_cases hxe : xs.length = rs.length
        · have b2 : ((xs.length : Int) == (rs.length : Int)) = true := by simp; omega
          go_wp2
          go_ret
          exact ⟨rfl, hfin⟩
        · have b2 : ((xs.length : Int) == (rs.length : Int)) = false := by simp; omega
          obtain ⟨r, hr⟩ : ∃ r, rs[xs.length]? = some r := ⟨_, List.getElem?_eq_getElem (by omega)⟩
          have hlr := HLAST.out r hr
          have hrl3 := HRR.out r (List.mem_of_getElem? hr)
          obtain ⟨b', off', u', rfl, hc', hu'⟩ := HR3.out.at_ hr
          obtain ⟨A5, cap5, rfl, -, -, -⟩ := hu'
          have hxlr : xs.length < rs.length := by omega
          clear hr
          go_wp2
          go_ret
          exact ⟨by simp; omega, hfin⟩

set_option maxRecDepth 100000 in
theorem lifted (os : Os) (started : os.Started) (H : Type) (enc : TypeId × Value → H) :
    ReturnsInHanded {} Try.checked os 16 .any (Rows.frameTornSpec.pre6 enc Try.prog Try.f16 Rows.frameTornRow.domain false) (Rows.frameTornSpec.post enc Try.prog Try.f16 false true false false) := by
  refine returnsInHanded_of_change_sized (C := Try.checked) own started (by kernel_rfl) Try.func16
    (ChangeSpec.witness6 (enc := enc) (C := Try.checked) false ⟨#[], #[.slice none 0 0, .int .u16 0], []⟩ 8 (by kernel_rfl) (by kernel_rfl) (by kernel_rfl) (by kernel_rfl)) ?_
  intro W base args ds gs before hval0 hW _ hsz0 _
  have hval : ∀ (j : Nat) t v, Try.f16.params[j]? = some t → args[j]? = some v → Value.okWide Try.prog W .any base t v := hval0
  have hsz : (DataW.weightsEach Try.prog (Try.f16.params.toList ++ Rows.frameTornSpec.plain.varTypes Try.prog) (ds ++ gs)).all (· ≤ reachBytes) = true := hsz0
  have hW' := hW
  obtain ⟨p, q, hA0, hV, rfl, hfz, hnd⟩ := hW
  have hA : DataW.TrodAll enc Try.prog W 0 (fun _ => true) true Try.f16.params.toList args.toList ds p := hA0
  have hA1 := hA
  rw [Try.params16] at hA hA1 hval hsz
  obtain ⟨v0, v1, d0, d1, p0, p1, rfl, rfl, rfl, h0, h1⟩ := trodAll_two hA
  obtain ⟨rfl, rfl⟩ := trodVars_none hV
  simp only [List.append_nil] at hW'
  obtain ⟨rs0, hb0⟩ := arg_rows (hval 0 47 v0 rfl rfl) h0
  obtain ⟨z1, rfl, rfl, rfl, wz1⟩ := open_int Try.underlying33 (hval 1 33 v1 rfl rfl) h1
  have bz1 := bounds_u16 wz1
  obtain ⟨x1, rfl⟩ := Int.eq_ofNat_of_zero_le bz1.1
  refine (walk v0 rs0 x1 (by omega) W hb0).mono fun e W' ⟨he, hb⟩ => ?_
  subst he
  exact ⟨_, rfl, post_of_below (pv := []) hW' (fun _ _ _ => trodAll_mk1 (shut_bool Try.underlying4 _)) (fun sp hs => args_stay laidOut hb _ _ _ _ (by simp [ok33, ok47]) hA1 (fun x hx => hW'.lt x (by simpa using hx)) (fun x hx => hs x (by simpa using hx))) (fun _ _ => rfl) (by simp)
    hb (ok_one (by kernel_rfl) rfl (okWide_bool_mk Try.underlying4 _))⟩

theorem holds : Rows.FrameTornSaid :=
  OpenClaim.holds_of_wide 16 Try.f16 rfl rfl rfl rfl rfl rfl rfl ⟨rfl, rfl, rfl, rfl, rfl⟩ rfl rfl rfl rfl rfl (by kernel_rfl) Try.func16 (by kernel_rfl)
    (of_decide_eq_true (by kernel_rfl)) (by unfold Func.isWrapper; first | (rw [if_pos (by decide +kernel)]; kernel_rfl) | (rw [if_neg (by decide +kernel)]; exact ⟨rfl, rfl⟩))
    (fun os started H enc _ => lifted os started H enc)
#print axioms holds
end Go.Proofs.Ytflolmldildjhaa.lawFrameTorn
