/- FrameFlip: a frame of which a byte is other, behind its number, is none. Every slice of bytes (its first 300 bytes), every place, every change. -/
import Derived.Test.YtflolmldildjhaaAwake3
namespace Go.Proofs.Ytflolmldildjhaa.lawFrameFlip
open Go.ChangeShapes Go.WideShapes Go.ChangeAt Go.RowKit Crc Frm

/-- One byte of a frame other: what is found. -/
theorem plain (xs : List UInt8) (hx : xs.length ≤ 16384) (k : Nat) (hk : k < xs.length + 5) (c : UInt8) (hc : (frame xs)[4 + k]? = some c) (y : Nat) (hy : y ≤ 255) :
    ((((one ((frame xs).set (4 + k) (c ^^^ UInt8.ofNat y))).2.2 : Nat) : Int) == 0) = ((y : Int) == 0) := by
  have h := one_flip xs hx k hk (UInt8.ofNat y)
  rw [hc, Option.getD_some] at h
  have hz : UInt8.ofNat y = 0 ↔ y = 0 := by
    constructor
    · intro e
      have := congrArg UInt8.toNat e
      rw [UInt8.toNat_ofNat'] at this
      simp at this
      omega
    · rintro rfl; rfl
  rw [Bool.eq_iff_iff]
  simp only [beq_iff_eq]
  constructor
  · intro e
    have := hz.1 (h.1 (by omega))
    omega
  · intro e
    have := h.2 (hz.2 (by omega))
    omega

set_option maxRecDepth 100000 in
set_option maxHeartbeats 800000 in
theorem walk (v : Value) (bs : List UInt8) (hl : bs.length ≤ 140737488351232) (x : Nat) (hx : x ≤ 65535) (y : Nat) (hy : y ≤ 255) (w : World) (hv : IsBytes w v bs) :
    Calls Try.prog 12 #[v, .int .u16 (x : Int), .int .u8 (y : Int)] w fun e w' => e = .returned (.bool true) ∧ Below w.heap.size w w' := by
  have HV := Lib.hid hv
  obtain ⟨A, cap, rfl, hlc, -, -⟩ := hv
  by_cases hm : bs.length ≤ 300
  · obtain ⟨xs, hxs⟩ : ∃ xs, xs = bs := ⟨_, rfl⟩
    have hxl : xs.length ≤ 300 := by rw [hxs]; omega
    have HT : Hid (IsBytes w (.slice A bs.length cap) xs) := by rw [hxs]; exact HV.out
    clear hxs
    go_enter Try.func12, Try.ntmps12
    go_wp2_with fail
    refine (awake3_any _).mono ?_
    rintro e w0 ⟨rfl, hb0⟩
    go_wp2_with fail
    refine (make_any _ xs (by omega) _ (HT.out.below hb0)).mono ?_
    rintro e w1 ⟨v1, rfl, ho, hb1'⟩
    have hfl := length_frame xs
    obtain ⟨g, cp, rfl, hg1, hg2⟩ := ho.form (by omega)
    have hb1 := hb0.trans (hb1'.mono hb0.size)
    obtain ⟨F, hF⟩ : ∃ F, F = (frame xs).length := ⟨_, rfl⟩
    rw [← hF] at ho ⊢
    obtain ⟨k, hk⟩ : ∃ k, k = x % (F - 4) := ⟨_, rfl⟩
    have hk1 : k < F - 4 := by rw [hk]; exact Nat.mod_lt _ (by omega)
    have hkk : (x : Int) % ((F : Int) - 4) = (k : Int) := by rw [hk, Int.natCast_emod, Int.ofNat_sub (by omega)]; rfl
    clear hk
    obtain ⟨c, hc⟩ : ∃ c, (frame xs)[4 + k]? = some c := ⟨_, List.getElem?_eq_getElem (by omega)⟩
    obtain ⟨hc1, hf1⟩ := ho.get hc
    have hc8 := c.toNat_lt
    have hF13 : 9 ≤ F := by omega
    have hFm : F ≤ 309 := by omega
    have hpl := plain xs (by omega) k (by omega) c hc y hy
    have HO := Lib.hid ho
    have HC := Lib.hid hc
    have HF := Lib.hid hF
    have HFL := Lib.hid hfl
    have HPL := Lib.hid hpl
    clear ho hc hF hfl hb1' hpl
    go_wp2_with fail
    have e : c.toNat ^^^ y % 256 = (c ^^^ UInt8.ofNat y).toNat := by rw [UInt8.toNat_xor, UInt8.toNat_ofNat']
    have e' : bits .xor .u8 (c.toNat : Int) (y : Int) = ((c ^^^ UInt8.ofNat y).toNat : Int) := by
      rw [← e, Nat.mod_eq_of_lt (by omega : y < 256)]
      exact u8_xor_nat _ y (by omega) (by omega)
    rw [e']
    have hb2 := hb1.setCell (p := ⟨g, 4 + k, none⟩) (by simp; have := hb0.size; omega) (.int .u8 (((c ^^^ UInt8.ofNat y).toNat : Nat) : Int))
    refine (one_any _ ((frame xs).set (4 + k) (c ^^^ UInt8.ofNat y)) (by rw [List.length_set, HFL.out]; omega) _ (HO.out.put (4 + k) (c ^^^ UInt8.ofNat y)).bytes).mono ?_
    rintro e1 w3 ⟨v3, rfl, _, hb3⟩
    have hpl := HPL.out
    clear hc1 hf1 e e' hkk HPL
    go_wp2
    go_ret
    exact ⟨by simp, hb2.trans (hb3.mono hb2.size)⟩
  · obtain ⟨xs, hxs⟩ : ∃ xs, xs = bs.take 300 := ⟨_, rfl⟩
    have hxl : xs.length ≤ 300 := by rw [hxs, List.length_take]; omega
    have HT : Hid (IsBytes w (.slice A 300 cap) xs) := by rw [hxs]; exact HV.out.take 300 (by omega)
    clear hxs
    go_enter Try.func12, Try.ntmps12
    go_wp2_with fail
    refine (awake3_any _).mono ?_
    rintro e w0 ⟨rfl, hb0⟩
    go_wp2_with fail
    refine (make_any _ xs (by omega) _ (HT.out.below hb0)).mono ?_
    rintro e w1 ⟨v1, rfl, ho, hb1'⟩
    have hfl := length_frame xs
    obtain ⟨g, cp, rfl, hg1, hg2⟩ := ho.form (by omega)
    have hb1 := hb0.trans (hb1'.mono hb0.size)
    obtain ⟨F, hF⟩ : ∃ F, F = (frame xs).length := ⟨_, rfl⟩
    rw [← hF] at ho ⊢
    obtain ⟨k, hk⟩ : ∃ k, k = x % (F - 4) := ⟨_, rfl⟩
    have hk1 : k < F - 4 := by rw [hk]; exact Nat.mod_lt _ (by omega)
    have hkk : (x : Int) % ((F : Int) - 4) = (k : Int) := by rw [hk, Int.natCast_emod, Int.ofNat_sub (by omega)]; rfl
    clear hk
    obtain ⟨c, hc⟩ : ∃ c, (frame xs)[4 + k]? = some c := ⟨_, List.getElem?_eq_getElem (by omega)⟩
    obtain ⟨hc1, hf1⟩ := ho.get hc
    have hc8 := c.toNat_lt
    have hF13 : 9 ≤ F := by omega
    have hFm : F ≤ 309 := by omega
    have hpl := plain xs (by omega) k (by omega) c hc y hy
    have HO := Lib.hid ho
    have HC := Lib.hid hc
    have HF := Lib.hid hF
    have HFL := Lib.hid hfl
    have HPL := Lib.hid hpl
    clear ho hc hF hfl hb1' hpl
    go_wp2_with fail
    have e : c.toNat ^^^ y % 256 = (c ^^^ UInt8.ofNat y).toNat := by rw [UInt8.toNat_xor, UInt8.toNat_ofNat']
    have e' : bits .xor .u8 (c.toNat : Int) (y : Int) = ((c ^^^ UInt8.ofNat y).toNat : Int) := by
      rw [← e, Nat.mod_eq_of_lt (by omega : y < 256)]
      exact u8_xor_nat _ y (by omega) (by omega)
    rw [e']
    have hb2 := hb1.setCell (p := ⟨g, 4 + k, none⟩) (by simp; have := hb0.size; omega) (.int .u8 (((c ^^^ UInt8.ofNat y).toNat : Nat) : Int))
    refine (one_any _ ((frame xs).set (4 + k) (c ^^^ UInt8.ofNat y)) (by rw [List.length_set, HFL.out]; omega) _ (HO.out.put (4 + k) (c ^^^ UInt8.ofNat y)).bytes).mono ?_
    rintro e1 w3 ⟨v3, rfl, _, hb3⟩
    have hpl := HPL.out
    clear hc1 hf1 e e' hkk HPL
    go_wp2
    go_ret
    exact ⟨by simp, hb2.trans (hb3.mono hb2.size)⟩

set_option maxRecDepth 100000 in
theorem lifted (os : Os) (started : os.Started) (H : Type) (enc : TypeId × Value → H) :
    ReturnsInHanded {} Try.checked os 12 .any (Rows.frameFlipSpec.pre6 enc Try.prog Try.f12 Rows.frameFlipRow.domain false) (Rows.frameFlipSpec.post enc Try.prog Try.f12 false true false false) := by
  refine returnsInHanded_of_change_sized (C := Try.checked) own started (by kernel_rfl) Try.func12
    (ChangeSpec.witness6 (enc := enc) (C := Try.checked) false ⟨#[], #[.slice none 0 0, .int .u16 0, .int .u8 0], []⟩ 8 (by kernel_rfl) (by kernel_rfl) (by kernel_rfl) (by kernel_rfl)) ?_
  intro W base args ds gs before hval0 hW _ hsz0 _
  have hval : ∀ (j : Nat) t v, Try.f12.params[j]? = some t → args[j]? = some v → Value.okWide Try.prog W .any base t v := hval0
  have hsz : (DataW.weightsEach Try.prog (Try.f12.params.toList ++ Rows.frameFlipSpec.plain.varTypes Try.prog) (ds ++ gs)).all (· ≤ reachBytes) = true := hsz0
  have hW' := hW
  obtain ⟨p, q, hA0, hV, rfl, hfz, hnd⟩ := hW
  have hA : DataW.TrodAll enc Try.prog W 0 (fun _ => true) true Try.f12.params.toList args.toList ds p := hA0
  have hA1 := hA
  rw [Try.params12] at hA hA1 hval hsz
  obtain ⟨v0, v1, v2, d0, d1, d2, p0, p1, p2, rfl, rfl, rfl, h0, h1, h2⟩ := trodAll_three hA
  obtain ⟨rfl, rfl⟩ := trodVars_none hV
  simp only [List.append_nil] at hW'
  obtain ⟨bs0, hb0, hl0⟩ := arg_bytes (hval 0 29 v0 rfl rfl) h0 (fun elems spare e => by subst e; exact sized_slice hsz (j := 0) (t := 29) (e := 5) rfl rfl Try.underlying29)
  obtain ⟨z1, rfl, rfl, rfl, wz1⟩ := open_int Try.underlying33 (hval 1 33 v1 rfl rfl) h1
  have bz1 := bounds_u16 wz1
  obtain ⟨x1, rfl⟩ := Int.eq_ofNat_of_zero_le bz1.1
  obtain ⟨z2, rfl, rfl, rfl, wz2⟩ := open_int Try.underlying5 (hval 2 5 v2 rfl rfl) h2
  have bz2 := bounds_u8 wz2
  obtain ⟨x2, rfl⟩ := Int.eq_ofNat_of_zero_le bz2.1
  refine (walk v0 bs0 hl0 x1 (by omega) x2 (by omega) W hb0).mono fun e W' ⟨he, hb⟩ => ?_
  subst he
  exact ⟨_, rfl, post_of_below (pv := []) hW' (fun _ _ _ => trodAll_mk1 (shut_bool Try.underlying4 _)) (fun sp hs => args_stay laidOut hb _ _ _ _ (by simp [ok5, ok29, ok33]) hA1 (fun x hx => hW'.lt x (by simpa using hx)) (fun x hx => hs x (by simpa using hx))) (fun _ _ => rfl) (by simp)
    hb (ok_one (by kernel_rfl) rfl (okWide_bool_mk Try.underlying4 _))⟩

theorem holds : Rows.FrameFlipSaid :=
  OpenClaim.holds_of_wide 12 Try.f12 rfl rfl rfl rfl rfl rfl rfl ⟨rfl, rfl, rfl, rfl, rfl⟩ rfl rfl rfl rfl rfl (by kernel_rfl) Try.func12 (by kernel_rfl)
    (of_decide_eq_true (by kernel_rfl)) (by unfold Func.isWrapper; first | (rw [if_pos (by decide +kernel)]; kernel_rfl) | (rw [if_neg (by decide +kernel)]; exact ⟨rfl, rfl⟩))
    (fun os started H enc _ => lifted os started H enc)
#print axioms holds
end Go.Proofs.Ytflolmldildjhaa.lawFrameFlip
