/- FrameMake: a frame is what the document says, and holds what it did; too many bytes have none. Every slice of bytes, every number. -/
import Derived.Test.YtflolmldildjhaaAwake3
import Derived.Deep.DeepCutAuto
import Derived.Deep.CutRange
import Derived.Lib.QuietBelow
namespace Go.Proofs.Ytflolmldildjhaa.lawFrameMake
open Go.ChangeShapes Go.WideShapes Go.ChangeAt Go.RowKit Crc Frm

theorem toList_strOf (bs : List UInt8) : (strOf bs).toList = bs := by rw [ByteArray.toList_eq]; rfl

/-- Zeros that make has laid. -/
theorem made_bytes {w : World} {base : Nat} {v : Value} {N : Nat} (h : w.ownsRow base 5 1 v N (madeCells #[.int .u8 0] N).toList) : Owns w base v (List.replicate N 0) := by
  unfold Owns
  have : (madeCells #[.int .u8 0] N).toList = cellsOf (List.replicate N 0) := by
    apply List.ext_getElem
    · simp [madeCells, cellsOf]
    · intro i h1 h2
      simp [madeCells, cellsOf, Nat.mod_one]
  rw [List.length_replicate, ← this]
  exact h

set_option maxRecDepth 100000 in
set_option maxHeartbeats 300000 in
theorem walk_small (v : Value) (bs : List UInt8) (hs : bs.length ≤ 16384) (n : Nat) (hn : n ≤ 65535) (w : World) (hv : IsBytes w v bs) :
    Calls Try.prog 10 #[v, .int .u16 (n : Int)] w fun e w' => e = .returned (.bool true) ∧ Below w.heap.size w w' := by
  have HV := Lib.hid hv
  obtain ⟨A, cap, rfl, hlc, -, -⟩ := hv
  go_enter Try.func10, Try.ntmps10
  go_wp2_with fail
  refine (awake3_any _).mono ?_
  rintro e w0 ⟨rfl, hb0⟩
  go_wp2_with fail
  refine (make_any _ bs hs _ (HV.out.below hb0)).mono ?_
  rintro e w1 ⟨v1, rfl, ho1, hb1'⟩
  have hb1 := hb0.trans (hb1'.mono hb0.size)
  have hf1 := length_frame bs
  obtain ⟨g1, c1, rfl, -, -⟩ := ho1.form (by omega)
  have hsz1 := hb1.size
  have hob := ho1.bytes
  have hfm := form_any (.slice A bs.length cap) bs hs
  obtain ⟨fb, hfb⟩ : ∃ fb, fb = frame bs := ⟨_, rfl⟩
  rw [← hfb] at hob hf1 hfm ⊢
  obtain ⟨F, hF⟩ : ∃ F, F = fb.length := ⟨_, rfl⟩
  rw [← hF] at hob ⊢
  have HFM := Lib.hid hfm
  have HO1 := Lib.hid hob
  clear ho1 hb1' hf1 hb0 hfb hF hob hfm
  have HB1 := Lib.hid hb1
  clear hb1
  go_upto_region 4 with fail
  have d1 : decide ((bs.length : Int) ≤ 16384) = true := by simp; omega
  have d2 : decide ((16384 : Int) < (bs.length : Int)) = false := by simp; omega
  have t1 := toList_strOf fb
  have kq : ∀ (d : Nat) (os : Array Obj), (convert 29 9 (.slice (some ⟨g1, 0, none⟩) F c1)).run Try.prog (Go.Sort.grow (redrawn w1 d) os) = .ok (.string (strOf fb)) (Go.Sort.grow (redrawn w1 d) os) := fun d os => run_conv _ _ _ (HO1.out.below (below_regrown w1 d os))
  refine wp_region_quiet_below (by kernel_rfl) (by kernel_rfl) ?_
  have CF : ∀ (d : Nat) (os : Array Obj), Calls Try.prog 26 #[.slice A bs.length cap] (Go.Sort.grow (redrawn w1 d) os) fun e w'' => e = .returned (.string (strOf fb)) ∧ ∃ p : Regrown, w'' = Go.Sort.grow (redrawn w1 p.d) p.os :=
    fun d os => Calls.regrown_of (HFM.out _ (HV.out.below (HB1.out.trans ((below_regrown w1 d os).mono hsz1))))
  have CFH := Lib.hid CF
  clear CF
  repeat (first | go_big_quiet_step ((go_at_call 26; exact CFH.out _ _)) | quiet_step ((go_at_call 26; exact CFH.out _ _)))
  refine wpQuiet_nil ?_
  intro _ hw'
  obtain ⟨pq, hw''⟩ := hw'
  subst hw''
  obtain ⟨w2, hw2⟩ : ∃ w2, w2 = Go.Sort.grow (redrawn w1 pq.d) pq.os := ⟨_, rfl⟩
  have hb2 : Below w.heap.size w w2 := by rw [hw2]; exact HB1.out.trans ((below_regrown w1 pq.d pq.os).mono hsz1)
  rw [← hw2]
  clear hw2 kq CFH t1 HO1 HB1 HFM hsz1
  obtain ⟨i0, hi0, hz0, hz1, hz2⟩ := info_parts info5
  obtain ⟨N, hN1, hN2⟩ : ∃ N, N ≤ 16000 + n % 800 ∧ 16000 + n % 800 ≤ N := ⟨_, Nat.le_refl _, Nat.le_refl _⟩
  go_wp2_with (at_make; refine wpList_make_full _ rfl (.tmp 51) (.tmp 51) 29 rfl w2.heap.size 5 i0 (.int .u8 0) 1 Try.underlying29 hi0 hz0 hz1 .i64 .i64 _ _ N rfl rfl (by omega) (by omega) (by rw [hz2]; omega) (by simp only [maxLen]; omega) (Nat.le_refl _) ?_)
  intro w3 hown hgr
  have hz := made_bytes hown
  have hb3 : Below w.heap.size w w3 := hb2.grown hgr hb2.size (fun k e => by cases e)
  have HZ := Lib.hid hz.bytes
  have hrl : (List.replicate N (0 : UInt8)).length = N := List.length_replicate
  have HRL := Lib.hid hrl
  have hNl : N ≤ 16799 := by omega
  have hNm : 16000 ≤ N := by omega
  obtain ⟨zs, hzs⟩ : ∃ zs, zs = List.replicate N (0 : UInt8) := ⟨_, rfl⟩
  rw [← hzs] at HZ HRL
  clear hown hgr hz hb2 hrl hzs hN1 hN2 hi0 hz0 hz1 hz2
  by_cases hbig : 16384 < N
  · go_wp2_with fail
    refine (make_big _ zs (by rw [HRL.out]; omega) (by rw [HRL.out]; omega) _ HZ.out).mono ?_
    rintro e w4 ⟨rfl, rfl⟩
    go_wp2
    go_ret
    exact ⟨rfl, hb3⟩
  · go_wp2_with fail
    refine (make_any _ zs (by rw [HRL.out]; omega) _ HZ.out).mono ?_
    rintro e w4 ⟨v4, rfl, ho4, hb4'⟩
    have hb4 := hb3.trans (hb4'.mono hb3.size)
    have hfl := length_frame zs
    have hone := one_frame zs [] (by rw [HRL.out]; omega)
    rw [List.append_nil] at hone
    obtain ⟨fz, hfz⟩ : ∃ fz, fz = frame zs := ⟨_, rfl⟩
    rw [← hfz] at ho4 hfl hone
    obtain ⟨g4, c4, rfl, -, -⟩ := ho4.form (by omega)
    have HO4 := Lib.hid ho4.bytes
    have HONE := Lib.hid hone
    have HFL := Lib.hid hfl
    obtain ⟨F4, hF4⟩ : ∃ F4, F4 = fz.length := ⟨_, rfl⟩
    rw [← hF4] at HO4 ⊢
    have HF4 := Lib.hid hF4
    have HZ4 := Lib.hid (HZ.out.below hb4')
    clear ho4 hb4' hfl hone hfz hF4 hb3 HZ
    go_wp2_with fail
    refine (one_any _ fz (by rw [HFL.out, HRL.out]; omega) _ HO4.out).mono ?_
    rintro e w5 ⟨v5, rfl, ho5, hb5'⟩
    rw [HONE.out] at ho5 ⊢
    have hb5 := hb4.trans (hb5'.mono hb4.size)
    rw [HRL.out]
    obtain ⟨g5, c5, rfl, -, -⟩ := ho5.form (by rw [HRL.out]; omega)
    have hc1 := run_conv _ _ _ ho5.bytes
    have hc2 := run_conv _ _ _ (HZ4.out.below hb5')
    have t2 := toList_strOf zs
    clear ho5 hb5' hb4 HZ4 HO4 HONE HFL HF4
    go_wp2
    go_ret
    exact ⟨rfl, hb5⟩

set_option maxRecDepth 100000 in
set_option maxHeartbeats 1600000 in
theorem walk_big (v : Value) (bs : List UInt8) (hs : 16384 < bs.length) (hl : bs.length ≤ 140737488351232) (n : Nat) (hn : n ≤ 65535) (w : World) (hv : IsBytes w v bs) :
    Calls Try.prog 10 #[v, .int .u16 (n : Int)] w fun e w' => e = .returned (.bool true) ∧ Below w.heap.size w w' := by
  have HV := Lib.hid hv
  obtain ⟨A, cap, rfl, hlc, -, -⟩ := hv
  go_enter Try.func10, Try.ntmps10
  go_wp2_with fail
  refine (awake3_any _).mono ?_
  rintro e w0 ⟨rfl, hb0⟩
  go_wp2_with fail
  refine (make_big _ bs hs (by omega) _ (HV.out.below hb0)).mono ?_
  rintro e w1 ⟨rfl, rfl⟩
  go_upto_region 4 with fail
  have d1 : decide ((bs.length : Int) ≤ 16384) = false := by simp; omega
  have d2 : decide ((16384 : Int) < (bs.length : Int)) = true := by simp; omega
  go_quiet (fail)
  obtain ⟨w2, hw2⟩ : ∃ w2, w2 = w0.drewN nq := ⟨_, rfl⟩
  have hb2 : Below w.heap.size w w2 := by rw [hw2]; exact below_drewN hb0 nq
  rw [← hw2]
  clear hw2
  obtain ⟨i0, hi0, hz0, hz1, hz2⟩ := info_parts info5
  obtain ⟨N, hN1, hN2⟩ : ∃ N, N ≤ 16000 + n % 800 ∧ 16000 + n % 800 ≤ N := ⟨_, Nat.le_refl _, Nat.le_refl _⟩
  go_wp2_with (at_make; refine wpList_make_full _ rfl (.tmp 51) (.tmp 51) 29 rfl w2.heap.size 5 i0 (.int .u8 0) 1 Try.underlying29 hi0 hz0 hz1 .i64 .i64 _ _ N rfl rfl (by omega) (by omega) (by rw [hz2]; omega) (by simp only [maxLen]; omega) (Nat.le_refl _) ?_)
  intro w3 hown hgr
  have hz := made_bytes hown
  have hb3 : Below w.heap.size w w3 := hb2.grown hgr hb2.size (fun k e => by cases e)
  have HZ := Lib.hid hz.bytes
  have hrl : (List.replicate N (0 : UInt8)).length = N := List.length_replicate
  have HRL := Lib.hid hrl
  have hNl : N ≤ 16799 := by omega
  have hNm : 16000 ≤ N := by omega
  obtain ⟨zs, hzs⟩ : ∃ zs, zs = List.replicate N (0 : UInt8) := ⟨_, rfl⟩
  rw [← hzs] at HZ HRL
  clear hown hgr hz hb2 hrl hzs hN1 hN2 hi0 hz0 hz1 hz2
  by_cases hbig : 16384 < N
  · go_wp2_with fail
    refine (make_big _ zs (by rw [HRL.out]; omega) (by rw [HRL.out]; omega) _ HZ.out).mono ?_
    rintro e w4 ⟨rfl, rfl⟩
    go_wp2
    go_ret
    exact ⟨rfl, hb3⟩
  · go_wp2_with fail
    refine (make_any _ zs (by rw [HRL.out]; omega) _ HZ.out).mono ?_
    rintro e w4 ⟨v4, rfl, ho4, hb4'⟩
    have hb4 := hb3.trans (hb4'.mono hb3.size)
    have hfl := length_frame zs
    have hone := one_frame zs [] (by rw [HRL.out]; omega)
    rw [List.append_nil] at hone
    obtain ⟨fz, hfz⟩ : ∃ fz, fz = frame zs := ⟨_, rfl⟩
    rw [← hfz] at ho4 hfl hone
    obtain ⟨g4, c4, rfl, -, -⟩ := ho4.form (by omega)
    have HO4 := Lib.hid ho4.bytes
    have HONE := Lib.hid hone
    have HFL := Lib.hid hfl
    obtain ⟨F4, hF4⟩ : ∃ F4, F4 = fz.length := ⟨_, rfl⟩
    rw [← hF4] at HO4 ⊢
    have HF4 := Lib.hid hF4
    have HZ4 := Lib.hid (HZ.out.below hb4')
    clear ho4 hb4' hfl hone hfz hF4 hb3 HZ
    go_wp2_with fail
    refine (one_any _ fz (by rw [HFL.out, HRL.out]; omega) _ HO4.out).mono ?_
    rintro e w5 ⟨v5, rfl, ho5, hb5'⟩
    rw [HONE.out] at ho5 ⊢
    have hb5 := hb4.trans (hb5'.mono hb4.size)
    rw [HRL.out]
    obtain ⟨g5, c5, rfl, -, -⟩ := ho5.form (by rw [HRL.out]; omega)
    have hc1 := run_conv _ _ _ ho5.bytes
    have hc2 := run_conv _ _ _ (HZ4.out.below hb5')
    have t2 := toList_strOf zs
    clear ho5 hb5' hb4 HZ4 HO4 HONE HFL HF4
    go_wp2
    go_ret
    exact ⟨rfl, hb5⟩

theorem walk (v : Value) (bs : List UInt8) (hl : bs.length ≤ 140737488351232) (n : Nat) (hn : n ≤ 65535) (w : World) (hv : IsBytes w v bs) :
    Calls Try.prog 10 #[v, .int .u16 (n : Int)] w fun e w' => e = .returned (.bool true) ∧ Below w.heap.size w w' := by
  rcases Nat.lt_or_ge 16384 bs.length with h | h
  · exact walk_big v bs h hl n hn w hv
  · exact walk_small v bs h n hn w hv

set_option maxRecDepth 100000 in
theorem lifted (os : Os) (started : os.Started) (H : Type) (enc : TypeId × Value → H) :
    ReturnsInHanded {} Try.checked os 10 .any (Rows.frameMakeSpec.pre6 enc Try.prog Try.f10 Rows.frameMakeRow.domain false) (Rows.frameMakeSpec.post enc Try.prog Try.f10 false true false false) := by
  refine returnsInHanded_of_change_sized (C := Try.checked) own started (by kernel_rfl) Try.func10
    (ChangeSpec.witness6 (enc := enc) (C := Try.checked) false ⟨#[], #[.slice none 0 0, .int .u16 0], []⟩ 8 (by kernel_rfl) (by kernel_rfl) (by kernel_rfl) (by kernel_rfl)) ?_
  intro W base args ds gs before hval0 hW _ hsz0 _
  have hval : ∀ (j : Nat) t v, Try.f10.params[j]? = some t → args[j]? = some v → Value.okWide Try.prog W .any base t v := hval0
  have hsz : (DataW.weightsEach Try.prog (Try.f10.params.toList ++ Rows.frameMakeSpec.plain.varTypes Try.prog) (ds ++ gs)).all (· ≤ reachBytes) = true := hsz0
  have hW' := hW
  obtain ⟨p, q, hA0, hV, rfl, hfz, hnd⟩ := hW
  have hA : DataW.TrodAll enc Try.prog W 0 (fun _ => true) true Try.f10.params.toList args.toList ds p := hA0
  have hA1 := hA
  rw [Try.params10] at hA hA1 hval hsz
  obtain ⟨v0, v1, d0, d1, p0, p1, rfl, rfl, rfl, h0, h1⟩ := trodAll_two hA
  obtain ⟨rfl, rfl⟩ := trodVars_none hV
  simp only [List.append_nil] at hW'
  obtain ⟨bs0, hb0, hl0⟩ := arg_bytes (hval 0 29 v0 rfl rfl) h0 (fun elems spare e => by subst e; exact sized_slice hsz (j := 0) (t := 29) (e := 5) rfl rfl Try.underlying29)
  obtain ⟨z1, rfl, rfl, rfl, wz1⟩ := open_int Try.underlying33 (hval 1 33 v1 rfl rfl) h1
  have bz1 := bounds_u16 wz1
  obtain ⟨x1, rfl⟩ := Int.eq_ofNat_of_zero_le bz1.1
  refine (walk v0 bs0 hl0 x1 (by omega) W hb0).mono fun e W' ⟨he, hb⟩ => ?_
  subst he
  exact ⟨_, rfl, post_of_below (pv := []) hW' (fun _ _ _ => trodAll_mk1 (shut_bool Try.underlying4 _)) (fun sp hs => args_stay laidOut hb _ _ _ _ (by simp [ok29, ok33]) hA1 (fun x hx => hW'.lt x (by simpa using hx)) (fun x hx => hs x (by simpa using hx))) (fun _ _ => rfl) (by simp)
    hb (ok_one (by kernel_rfl) rfl (okWide_bool_mk Try.underlying4 _))⟩

theorem holds : Rows.FrameMakeSaid :=
  OpenClaim.holds_of_wide 10 Try.f10 rfl rfl rfl rfl rfl rfl rfl ⟨rfl, rfl, rfl, rfl, rfl⟩ rfl rfl rfl rfl rfl (by kernel_rfl) Try.func10 (by kernel_rfl)
    (of_decide_eq_true (by kernel_rfl)) (by unfold Func.isWrapper; first | (rw [if_pos (by decide +kernel)]; kernel_rfl) | (rw [if_neg (by decide +kernel)]; exact ⟨rfl, rfl⟩))
    (fun os started H enc _ => lifted os started H enc)
#print axioms holds
end Go.Proofs.Ytflolmldildjhaa.lawFrameMake
