/- FrameApart: frames are the same just if what they hold is. Every two slices of bytes (the first 16384 of each). -/
import Derived.Test.YtflolmldildjhaaAwake3
namespace Go.Proofs.Ytflolmldildjhaa.lawFrameApart
open Go.ChangeShapes Go.WideShapes Go.ChangeAt Go.RowKit Crc Frm

theorem plain (xs ys : List UInt8) : (frame xs == frame ys) = (xs == ys) := by
  rw [Bool.eq_iff_iff]
  simp only [beq_iff_eq]
  constructor
  · exact frame_inj
  · rintro rfl; rfl

theorem toList_strOf (bs : List UInt8) : (strOf bs).toList = bs := by rw [ByteArray.toList_eq]; rfl

set_option maxRecDepth 100000 in
set_option maxHeartbeats 1600000 in
theorem walk11 (v : Value) (bs : List UInt8) (hl : bs.length ≤ 140737488351232) (u : Value) (cs : List UInt8) (hk : cs.length ≤ 140737488351232) (hma : bs.length ≤ 16384) (hmb : cs.length ≤ 16384) (w : World) (hv : IsBytes w v bs) (hu : IsBytes w u cs) :
    Calls Try.prog 13 #[v, u] w fun e w' => e = .returned (.bool true) ∧ Below w.heap.size w w' := by
  have HV := Lib.hid hv
  have HU := Lib.hid hu
  obtain ⟨A, cap, rfl, hlc, -, -⟩ := hv
  obtain ⟨B, cap2, rfl, hlc2, -, -⟩ := hu
  obtain ⟨xs, hxs⟩ : ∃ xs, xs = bs := ⟨_, rfl⟩
  obtain ⟨ys, hys⟩ : ∃ ys, ys = cs := ⟨_, rfl⟩
  have hxl : xs.length ≤ 16384 := by rw [hxs]; omega
  have hyl : ys.length ≤ 16384 := by rw [hys]; omega
  have HX : Hid (IsBytes w (.slice A bs.length cap) xs) := by rw [hxs]; exact HV.out
  have HY : Hid (IsBytes w (.slice B cs.length cap2) ys) := by rw [hys]; exact HU.out
  clear hxs hys
  go_enter Try.func13, Try.ntmps13
  go_wp2_with fail
  refine (awake3_any _).mono ?_
  rintro e w0 ⟨rfl, hb0⟩
  go_wp2_with fail
  refine (make_any _ xs hxl _ (HX.out.below hb0)).mono ?_
  rintro e w1 ⟨v1, rfl, ho1, hb1'⟩
  have hb1 := hb0.trans (hb1'.mono hb0.size)
  have hf1 := length_frame xs
  obtain ⟨g1, c1, rfl, -, -⟩ := ho1.form (by omega)
  have HO1 := Lib.hid ho1.bytes
  clear ho1 hb1' hf1 hb0
  go_wp2_with fail
  refine (make_any _ ys hyl _ (HY.out.below hb1)).mono ?_
  rintro e w2 ⟨v2, rfl, ho2, hb2'⟩
  have hb2 := hb1.trans (hb2'.mono hb1.size)
  have hf2 := length_frame ys
  obtain ⟨g2, c2, rfl, -, -⟩ := ho2.form (by omega)
  have k1 : ∀ n, (convert 29 9 (.slice (some ⟨g1, 0, none⟩) (frame xs).length c1)).run Try.prog (w2.drewN n) = .ok (.string (strOf (frame xs))) (w2.drewN n) := fun n => run_conv _ _ _ (HO1.out.below (below_drewN hb2' n))
  have k2 : ∀ n, (convert 29 9 (.slice (some ⟨g2, 0, none⟩) (frame ys).length c2)).run Try.prog (w2.drewN n) = .ok (.string (strOf (frame ys))) (w2.drewN n) := fun n => run_conv _ _ _ (ho2.bytes.below (below_drewN (Below.refl _ _) n))
  have k3 : ∀ n, (convert 29 9 (.slice A bs.length cap)).run Try.prog (w2.drewN n) = .ok (.string (strOf xs)) (w2.drewN n) := fun n => run_conv _ _ _ (HX.out.below (below_drewN hb2 n))
  have k4 : ∀ n, (convert 29 9 (.slice B cs.length cap2)).run Try.prog (w2.drewN n) = .ok (.string (strOf ys)) (w2.drewN n) := fun n => run_conv _ _ _ (HY.out.below (below_drewN hb2 n))
  have t1 := toList_strOf (frame xs)
  have t2 := toList_strOf (frame ys)
  have t3 := toList_strOf xs
  have t4 := toList_strOf ys
  have hpl := plain xs ys
  clear ho2 hb2' hf2 hb1 HO1 HX HY HV HU
  go_wp2
  go_quiet (fail)
  go_wp2
  go_ret
  refine ⟨?_, below_drewN hb2 _⟩
  first | rfl | simp

set_option maxRecDepth 100000 in
set_option maxHeartbeats 1600000 in
theorem walk10 (v : Value) (bs : List UInt8) (hl : bs.length ≤ 140737488351232) (u : Value) (cs : List UInt8) (hk : cs.length ≤ 140737488351232) (hma : bs.length ≤ 16384) (hmb : 16384 < cs.length) (w : World) (hv : IsBytes w v bs) (hu : IsBytes w u cs) :
    Calls Try.prog 13 #[v, u] w fun e w' => e = .returned (.bool true) ∧ Below w.heap.size w w' := by
  have HV := Lib.hid hv
  have HU := Lib.hid hu
  obtain ⟨A, cap, rfl, hlc, -, -⟩ := hv
  obtain ⟨B, cap2, rfl, hlc2, -, -⟩ := hu
  obtain ⟨xs, hxs⟩ : ∃ xs, xs = bs := ⟨_, rfl⟩
  obtain ⟨ys, hys⟩ : ∃ ys, ys = cs.take 16384 := ⟨_, rfl⟩
  have hxl : xs.length ≤ 16384 := by rw [hxs]; omega
  have hyl : ys.length ≤ 16384 := by rw [hys, List.length_take]; omega
  have HX : Hid (IsBytes w (.slice A bs.length cap) xs) := by rw [hxs]; exact HV.out
  have HY : Hid (IsBytes w (.slice B 16384 cap2) ys) := by rw [hys]; exact HU.out.take 16384 (by omega)
  clear hxs hys
  go_enter Try.func13, Try.ntmps13
  go_wp2_with fail
  refine (awake3_any _).mono ?_
  rintro e w0 ⟨rfl, hb0⟩
  go_wp2_with fail
  refine (make_any _ xs hxl _ (HX.out.below hb0)).mono ?_
  rintro e w1 ⟨v1, rfl, ho1, hb1'⟩
  have hb1 := hb0.trans (hb1'.mono hb0.size)
  have hf1 := length_frame xs
  obtain ⟨g1, c1, rfl, -, -⟩ := ho1.form (by omega)
  have HO1 := Lib.hid ho1.bytes
  clear ho1 hb1' hf1 hb0
  go_wp2_with fail
  refine (make_any _ ys hyl _ (HY.out.below hb1)).mono ?_
  rintro e w2 ⟨v2, rfl, ho2, hb2'⟩
  have hb2 := hb1.trans (hb2'.mono hb1.size)
  have hf2 := length_frame ys
  obtain ⟨g2, c2, rfl, -, -⟩ := ho2.form (by omega)
  have k1 : ∀ n, (convert 29 9 (.slice (some ⟨g1, 0, none⟩) (frame xs).length c1)).run Try.prog (w2.drewN n) = .ok (.string (strOf (frame xs))) (w2.drewN n) := fun n => run_conv _ _ _ (HO1.out.below (below_drewN hb2' n))
  have k2 : ∀ n, (convert 29 9 (.slice (some ⟨g2, 0, none⟩) (frame ys).length c2)).run Try.prog (w2.drewN n) = .ok (.string (strOf (frame ys))) (w2.drewN n) := fun n => run_conv _ _ _ (ho2.bytes.below (below_drewN (Below.refl _ _) n))
  have k3 : ∀ n, (convert 29 9 (.slice A bs.length cap)).run Try.prog (w2.drewN n) = .ok (.string (strOf xs)) (w2.drewN n) := fun n => run_conv _ _ _ (HX.out.below (below_drewN hb2 n))
  have k4 : ∀ n, (convert 29 9 (.slice B 16384 cap2)).run Try.prog (w2.drewN n) = .ok (.string (strOf ys)) (w2.drewN n) := fun n => run_conv _ _ _ (HY.out.below (below_drewN hb2 n))
  have t1 := toList_strOf (frame xs)
  have t2 := toList_strOf (frame ys)
  have t3 := toList_strOf xs
  have t4 := toList_strOf ys
  have hpl := plain xs ys
  clear ho2 hb2' hf2 hb1 HO1 HX HY HV HU
  go_wp2
  go_quiet (fail)
  go_wp2
  go_ret
  refine ⟨?_, below_drewN hb2 _⟩
  first | rfl | simp

set_option maxRecDepth 100000 in
set_option maxHeartbeats 1600000 in
theorem walk01 (v : Value) (bs : List UInt8) (hl : bs.length ≤ 140737488351232) (u : Value) (cs : List UInt8) (hk : cs.length ≤ 140737488351232) (hma : 16384 < bs.length) (hmb : cs.length ≤ 16384) (w : World) (hv : IsBytes w v bs) (hu : IsBytes w u cs) :
    Calls Try.prog 13 #[v, u] w fun e w' => e = .returned (.bool true) ∧ Below w.heap.size w w' := by
  have HV := Lib.hid hv
  have HU := Lib.hid hu
  obtain ⟨A, cap, rfl, hlc, -, -⟩ := hv
  obtain ⟨B, cap2, rfl, hlc2, -, -⟩ := hu
  obtain ⟨xs, hxs⟩ : ∃ xs, xs = bs.take 16384 := ⟨_, rfl⟩
  obtain ⟨ys, hys⟩ : ∃ ys, ys = cs := ⟨_, rfl⟩
  have hxl : xs.length ≤ 16384 := by rw [hxs, List.length_take]; omega
  have hyl : ys.length ≤ 16384 := by rw [hys]; omega
  have HX : Hid (IsBytes w (.slice A 16384 cap) xs) := by rw [hxs]; exact HV.out.take 16384 (by omega)
  have HY : Hid (IsBytes w (.slice B cs.length cap2) ys) := by rw [hys]; exact HU.out
  clear hxs hys
  go_enter Try.func13, Try.ntmps13
  go_wp2_with fail
  refine (awake3_any _).mono ?_
  rintro e w0 ⟨rfl, hb0⟩
  go_wp2_with fail
  refine (make_any _ xs hxl _ (HX.out.below hb0)).mono ?_
  rintro e w1 ⟨v1, rfl, ho1, hb1'⟩
  have hb1 := hb0.trans (hb1'.mono hb0.size)
  have hf1 := length_frame xs
  obtain ⟨g1, c1, rfl, -, -⟩ := ho1.form (by omega)
  have HO1 := Lib.hid ho1.bytes
  clear ho1 hb1' hf1 hb0
  go_wp2_with fail
  refine (make_any _ ys hyl _ (HY.out.below hb1)).mono ?_
  rintro e w2 ⟨v2, rfl, ho2, hb2'⟩
  have hb2 := hb1.trans (hb2'.mono hb1.size)
  have hf2 := length_frame ys
  obtain ⟨g2, c2, rfl, -, -⟩ := ho2.form (by omega)
  have k1 : ∀ n, (convert 29 9 (.slice (some ⟨g1, 0, none⟩) (frame xs).length c1)).run Try.prog (w2.drewN n) = .ok (.string (strOf (frame xs))) (w2.drewN n) := fun n => run_conv _ _ _ (HO1.out.below (below_drewN hb2' n))
  have k2 : ∀ n, (convert 29 9 (.slice (some ⟨g2, 0, none⟩) (frame ys).length c2)).run Try.prog (w2.drewN n) = .ok (.string (strOf (frame ys))) (w2.drewN n) := fun n => run_conv _ _ _ (ho2.bytes.below (below_drewN (Below.refl _ _) n))
  have k3 : ∀ n, (convert 29 9 (.slice A 16384 cap)).run Try.prog (w2.drewN n) = .ok (.string (strOf xs)) (w2.drewN n) := fun n => run_conv _ _ _ (HX.out.below (below_drewN hb2 n))
  have k4 : ∀ n, (convert 29 9 (.slice B cs.length cap2)).run Try.prog (w2.drewN n) = .ok (.string (strOf ys)) (w2.drewN n) := fun n => run_conv _ _ _ (HY.out.below (below_drewN hb2 n))
  have t1 := toList_strOf (frame xs)
  have t2 := toList_strOf (frame ys)
  have t3 := toList_strOf xs
  have t4 := toList_strOf ys
  have hpl := plain xs ys
  clear ho2 hb2' hf2 hb1 HO1 HX HY HV HU
  go_wp2
  go_quiet (fail)
  go_wp2
  go_ret
  refine ⟨?_, below_drewN hb2 _⟩
  first | rfl | simp

set_option maxRecDepth 100000 in
set_option maxHeartbeats 1600000 in
theorem walk00 (v : Value) (bs : List UInt8) (hl : bs.length ≤ 140737488351232) (u : Value) (cs : List UInt8) (hk : cs.length ≤ 140737488351232) (hma : 16384 < bs.length) (hmb : 16384 < cs.length) (w : World) (hv : IsBytes w v bs) (hu : IsBytes w u cs) :
    Calls Try.prog 13 #[v, u] w fun e w' => e = .returned (.bool true) ∧ Below w.heap.size w w' := by
  have HV := Lib.hid hv
  have HU := Lib.hid hu
  obtain ⟨A, cap, rfl, hlc, -, -⟩ := hv
  obtain ⟨B, cap2, rfl, hlc2, -, -⟩ := hu
  obtain ⟨xs, hxs⟩ : ∃ xs, xs = bs.take 16384 := ⟨_, rfl⟩
  obtain ⟨ys, hys⟩ : ∃ ys, ys = cs.take 16384 := ⟨_, rfl⟩
  have hxl : xs.length ≤ 16384 := by rw [hxs, List.length_take]; omega
  have hyl : ys.length ≤ 16384 := by rw [hys, List.length_take]; omega
  have HX : Hid (IsBytes w (.slice A 16384 cap) xs) := by rw [hxs]; exact HV.out.take 16384 (by omega)
  have HY : Hid (IsBytes w (.slice B 16384 cap2) ys) := by rw [hys]; exact HU.out.take 16384 (by omega)
  clear hxs hys
  go_enter Try.func13, Try.ntmps13
  go_wp2_with fail
  refine (awake3_any _).mono ?_
  rintro e w0 ⟨rfl, hb0⟩
  go_wp2_with fail
  refine (make_any _ xs hxl _ (HX.out.below hb0)).mono ?_
  rintro e w1 ⟨v1, rfl, ho1, hb1'⟩
  have hb1 := hb0.trans (hb1'.mono hb0.size)
  have hf1 := length_frame xs
  obtain ⟨g1, c1, rfl, -, -⟩ := ho1.form (by omega)
  have HO1 := Lib.hid ho1.bytes
  clear ho1 hb1' hf1 hb0
  go_wp2_with fail
  refine (make_any _ ys hyl _ (HY.out.below hb1)).mono ?_
  rintro e w2 ⟨v2, rfl, ho2, hb2'⟩
  have hb2 := hb1.trans (hb2'.mono hb1.size)
  have hf2 := length_frame ys
  obtain ⟨g2, c2, rfl, -, -⟩ := ho2.form (by omega)
  have k1 : ∀ n, (convert 29 9 (.slice (some ⟨g1, 0, none⟩) (frame xs).length c1)).run Try.prog (w2.drewN n) = .ok (.string (strOf (frame xs))) (w2.drewN n) := fun n => run_conv _ _ _ (HO1.out.below (below_drewN hb2' n))
  have k2 : ∀ n, (convert 29 9 (.slice (some ⟨g2, 0, none⟩) (frame ys).length c2)).run Try.prog (w2.drewN n) = .ok (.string (strOf (frame ys))) (w2.drewN n) := fun n => run_conv _ _ _ (ho2.bytes.below (below_drewN (Below.refl _ _) n))
  have k3 : ∀ n, (convert 29 9 (.slice A 16384 cap)).run Try.prog (w2.drewN n) = .ok (.string (strOf xs)) (w2.drewN n) := fun n => run_conv _ _ _ (HX.out.below (below_drewN hb2 n))
  have k4 : ∀ n, (convert 29 9 (.slice B 16384 cap2)).run Try.prog (w2.drewN n) = .ok (.string (strOf ys)) (w2.drewN n) := fun n => run_conv _ _ _ (HY.out.below (below_drewN hb2 n))
  have t1 := toList_strOf (frame xs)
  have t2 := toList_strOf (frame ys)
  have t3 := toList_strOf xs
  have t4 := toList_strOf ys
  have hpl := plain xs ys
  clear ho2 hb2' hf2 hb1 HO1 HX HY HV HU
  go_wp2
  go_quiet (fail)
  go_wp2
  go_ret
  refine ⟨?_, below_drewN hb2 _⟩
  first | rfl | simp

theorem walk (v : Value) (bs : List UInt8) (hl : bs.length ≤ 140737488351232) (u : Value) (cs : List UInt8) (hk : cs.length ≤ 140737488351232) (w : World) (hv : IsBytes w v bs) (hu : IsBytes w u cs) :
    Calls Try.prog 13 #[v, u] w fun e w' => e = .returned (.bool true) ∧ Below w.heap.size w w' := by
  rcases Nat.lt_or_ge 16384 bs.length with ha | ha <;> rcases Nat.lt_or_ge 16384 cs.length with hb | hb
  · exact walk00 v bs hl u cs hk ha hb w hv hu
  · exact walk01 v bs hl u cs hk ha hb w hv hu
  · exact walk10 v bs hl u cs hk ha hb w hv hu
  · exact walk11 v bs hl u cs hk ha hb w hv hu

set_option maxRecDepth 100000 in
theorem lifted (os : Os) (started : os.Started) (H : Type) (enc : TypeId × Value → H) :
    ReturnsInHanded {} Try.checked os 13 .any (Rows.frameApartSpec.pre6 enc Try.prog Try.f13 Rows.frameApartRow.domain false) (Rows.frameApartSpec.post enc Try.prog Try.f13 false true false false) := by
  refine returnsInHanded_of_change_sized (C := Try.checked) own started (by kernel_rfl) Try.func13
    (ChangeSpec.witness6 (enc := enc) (C := Try.checked) false ⟨#[], #[.slice none 0 0, .slice none 0 0], []⟩ 8 (by kernel_rfl) (by kernel_rfl) (by kernel_rfl) (by kernel_rfl)) ?_
  intro W base args ds gs before hval0 hW _ hsz0 _
  have hval : ∀ (j : Nat) t v, Try.f13.params[j]? = some t → args[j]? = some v → Value.okWide Try.prog W .any base t v := hval0
  have hsz : (DataW.weightsEach Try.prog (Try.f13.params.toList ++ Rows.frameApartSpec.plain.varTypes Try.prog) (ds ++ gs)).all (· ≤ reachBytes) = true := hsz0
  have hW' := hW
  obtain ⟨p, q, hA0, hV, rfl, hfz, hnd⟩ := hW
  have hA : DataW.TrodAll enc Try.prog W 0 (fun _ => true) true Try.f13.params.toList args.toList ds p := hA0
  have hA1 := hA
  rw [Try.params13] at hA hA1 hval hsz
  obtain ⟨v0, v1, d0, d1, p0, p1, rfl, rfl, rfl, h0, h1⟩ := trodAll_two hA
  obtain ⟨rfl, rfl⟩ := trodVars_none hV
  simp only [List.append_nil] at hW'
  obtain ⟨bs0, hb0, hl0⟩ := arg_bytes (hval 0 29 v0 rfl rfl) h0 (fun elems spare e => by subst e; exact sized_slice hsz (j := 0) (t := 29) (e := 5) rfl rfl Try.underlying29)
  obtain ⟨bs1, hb1, hl1⟩ := arg_bytes (hval 1 29 v1 rfl rfl) h1 (fun elems spare e => by subst e; exact sized_slice hsz (j := 1) (t := 29) (e := 5) rfl rfl Try.underlying29)
  refine (walk v0 bs0 hl0 v1 bs1 hl1 W hb0 hb1).mono fun e W' ⟨he, hb⟩ => ?_
  subst he
  exact ⟨_, rfl, post_of_below (pv := []) hW' (fun _ _ _ => trodAll_mk1 (shut_bool Try.underlying4 _)) (fun sp hs => args_stay laidOut hb _ _ _ _ (by simp [ok29]) hA1 (fun x hx => hW'.lt x (by simpa using hx)) (fun x hx => hs x (by simpa using hx))) (fun _ _ => rfl) (by simp)
    hb (ok_one (by kernel_rfl) rfl (okWide_bool_mk Try.underlying4 _))⟩

theorem holds : Rows.FrameApartSaid :=
  OpenClaim.holds_of_wide 13 Try.f13 rfl rfl rfl rfl rfl rfl rfl ⟨rfl, rfl, rfl, rfl, rfl⟩ rfl rfl rfl rfl rfl (by kernel_rfl) Try.func13 (by kernel_rfl)
    (of_decide_eq_true (by kernel_rfl)) (by unfold Func.isWrapper; first | (rw [if_pos (by decide +kernel)]; kernel_rfl) | (rw [if_neg (by decide +kernel)]; exact ⟨rfl, rfl⟩))
    (fun os started H enc _ => lifted os started H enc)
#print axioms holds
end Go.Proofs.Ytflolmldildjhaa.lawFrameApart
