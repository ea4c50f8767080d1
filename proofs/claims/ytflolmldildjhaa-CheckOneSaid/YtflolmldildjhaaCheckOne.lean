/- CheckOne: bytes of which one is other have another sum; no bytes have the sum 0. Every slice of bytes, every place, every change. -/
import Derived.Test.YtflolmldildjhaaApp
namespace Go.Proofs.Ytflolmldildjhaa.lawCheckOne
open Go.ChangeShapes Go.WideShapes Go.ChangeAt Go.RowKit Crc

theorem empty_walk (v : Value) (x y : Nat) (w : World) (hv : IsBytes w v []) :
    Calls Try.prog 5 #[v, .int .u16 (x : Int), .int .u8 (y : Int)] w fun e w' => e = .returned (.bool true) ∧ Below w.heap.size w w' := by
  have HV := Lib.hid hv
  obtain ⟨A, cap, rfl, -, -, -⟩ := hv
  go_enter Try.func5, Try.ntmps5
  go_wp2_with fail
  refine (awake_any _).mono ?_
  rintro e w0 ⟨rfl, hb0⟩
  go_wp2_with fail
  refine (csum_any (.slice A 0 cap) [] (by simp) _ (HV.out.below hb0)).mono ?_
  rintro e w1 ⟨rfl, hb1⟩
  rw [ex_nil]
  go_wp2
  go_ret
  exact ⟨rfl, hb0.trans (hb1.mono hb0.size)⟩

/-- One byte other: what is found. -/
theorem plain (bs : List UInt8) (k : Nat) (hk : k < bs.length) (y : Nat) (hy : y ≤ 255) :
    (((sum 3988292384 (bs.set k (bs[k] ^^^ UInt8.ofNat y)) : Nat) : Int) == ((sum 3988292384 bs : Nat) : Int)) = ((y : Int) == 0) := by
  have h1 : bs.set k (bs[k] ^^^ UInt8.ofNat y) = bs.take k ++ (bs[k] ^^^ UInt8.ofNat y) :: bs.drop (k + 1) := by
    rw [List.set_eq_take_append_cons_drop, if_pos hk]
  have h2 : bs = bs.take k ++ bs[k] :: bs.drop (k + 1) := by rw [← List.drop_eq_getElem_cons hk, List.take_append_drop]
  have h3 := sum_one (p := 3988292384) (by omega) (by omega) (bs.take k) (bs.drop (k + 1)) (bs[k] ^^^ UInt8.ofNat y) bs[k]
  rw [← h1, ← h2] at h3
  have h4 : (bs[k] ^^^ UInt8.ofNat y) = bs[k] ↔ y = 0 := by
    constructor
    · intro h
      have := congrArg (bs[k] ^^^ ·) h
      simp only [← UInt8.xor_assoc, UInt8.xor_self, UInt8.zero_xor] at this
      have := congrArg UInt8.toNat this
      rw [UInt8.toNat_ofNat'] at this
      simp at this
      omega
    · rintro rfl
      simp
  rw [Bool.eq_iff_iff]
  simp only [beq_iff_eq]
  constructor
  · intro h
    have := h4.1 (h3.1 (by omega))
    omega
  · intro h
    rw [h3.2 (h4.2 (by omega))]

set_option maxRecDepth 100000 in
set_option maxHeartbeats 400000 in
theorem some_walk (v : Value) (bs : List UInt8) (hl : bs.length ≤ 140737488351232) (hp : 0 < bs.length) (x : Nat) (hx : x ≤ 65535) (y : Nat) (hy : y ≤ 255) (w : World) (hv : IsBytes w v bs) :
    Calls Try.prog 5 #[v, .int .u16 (x : Int), .int .u8 (y : Int)] w fun e w' => e = .returned (.bool true) ∧ Below w.heap.size w w' := by
  have HV := Lib.hid hv
  obtain ⟨A, cap, rfl, -, -, -⟩ := hv
  have hlen0 : ((bs.length : Int) == 0) = false := by simp; intro h; simp [h] at hp
  go_enter Try.func5, Try.ntmps5
  go_wp2_with fail
  refine (awake_any _).mono ?_
  rintro e w0 ⟨rfl, hb0⟩
  go_wp2_with (at_builtin; refine wpl_append_bytes _ rfl _ _ rfl w.heap.size (.slice none 0 0) [] rfl (Owns.nil _ _) _ bs rfl (HV.out.below hb0) (by simp; omega) hb0.size ?_)
  intro v1 w1 hown1 hg1 hat1
  have hb1 := below_append hb0 (Owns.nil w0 _) (Nat.le_refl _) hg1 hb0.size
  have hown2 : Owns w1 w.heap.size v1 bs := hown1
  obtain ⟨g, cp, rfl, hbg, hgl⟩ := hown2.form hp
  have hk : x % bs.length < bs.length := Nat.mod_lt _ hp
  obtain ⟨hc1, hf1⟩ := hown2.at_ (x % bs.length) hk
  have HO := Lib.hid hown2
  have hc8 := (bs[x % bs.length]'hk).toNat_lt
  have hxor : bits .xor .u8 (((bs[x % bs.length]'hk).toNat : Nat) : Int) (y : Int) = (((bs[x % bs.length]'hk) ^^^ UInt8.ofNat y).toNat : Int) := by
    rw [UInt8.toNat_xor, UInt8.toNat_ofNat', Nat.mod_eq_of_lt (by omega : y < 2 ^ 8)]
    exact u8_xor_nat _ y (by omega) (by omega)
  clear hat1 hown1 hown2 hg1
  go_wp2_with fail
  have e : (bs[x % bs.length]'hk).toNat ^^^ y % 256 = ((bs[x % bs.length]'hk) ^^^ UInt8.ofNat y).toNat := by rw [UInt8.toNat_xor, UInt8.toNat_ofNat']
  rw [e]
  have hs := (HO.out.store (x % bs.length) ((bs[x % bs.length]'hk) ^^^ UInt8.ofNat y)).bytes
  rw [List.length_set] at hs
  have hb2 := hb1.setCell (p := ⟨g, x % bs.length, none⟩) hbg (.int .u8 ((((bs[x % bs.length]'hk) ^^^ UInt8.ofNat y).toNat : Nat) : Int))
  refine (csum_any _ (bs.set (x % bs.length) ((bs[x % bs.length]'hk) ^^^ UInt8.ofNat y)) (by rw [List.length_set]; omega) _ hs).mono ?_
  rintro e w3 ⟨rfl, hb3'⟩
  have hb3 := hb2.trans (hb3'.mono hb2.size)
  have hpl := plain bs (x % bs.length) hk y hy
  obtain ⟨S, hS⟩ : ∃ S, S = sum 3988292384 (bs.set (x % bs.length) ((bs[x % bs.length]'hk) ^^^ UInt8.ofNat y)) := ⟨_, rfl⟩
  rw [← hS] at hpl ⊢
  clear hb3' hs hb2 hS hc1 hf1 hxor e hc8
  go_wp2_with fail
  refine (csum_any _ bs (by omega) _ (HV.out.below hb3)).mono ?_
  rintro e w4 ⟨rfl, hb4⟩
  go_wp2
  go_ret
  exact ⟨by simp, hb3.trans (hb4.mono hb3.size)⟩

theorem walk (v : Value) (bs : List UInt8) (hl : bs.length ≤ 140737488351232) (x : Nat) (hx : x ≤ 65535) (y : Nat) (hy : y ≤ 255) (w : World) (hv : IsBytes w v bs) :
    Calls Try.prog 5 #[v, .int .u16 (x : Int), .int .u8 (y : Int)] w fun e w' => e = .returned (.bool true) ∧ Below w.heap.size w w' := by
  rcases Nat.eq_zero_or_pos bs.length with h | h
  · have : bs = [] := List.eq_nil_of_length_eq_zero h
    subst this
    exact empty_walk v x y w hv
  · exact some_walk v bs hl h x hx y hy w hv

set_option maxRecDepth 100000 in
theorem lifted (os : Os) (started : os.Started) (H : Type) (enc : TypeId × Value → H) :
    ReturnsInHanded {} Try.checked os 5 .any (Rows.checkOneSpec.pre6 enc Try.prog Try.f5 Rows.checkOneRow.domain false) (Rows.checkOneSpec.post enc Try.prog Try.f5 false true false false) := by
  refine returnsInHanded_of_change_sized (C := Try.checked) own started (by kernel_rfl) Try.func5
    (ChangeSpec.witness6 (enc := enc) (C := Try.checked) false ⟨#[], #[.slice none 0 0, .int .u16 0, .int .u8 0], []⟩ 8 (by kernel_rfl) (by kernel_rfl) (by kernel_rfl) (by kernel_rfl)) ?_
  intro W base args ds gs before hval0 hW _ hsz0 _
  have hval : ∀ (j : Nat) t v, Try.f5.params[j]? = some t → args[j]? = some v → Value.okWide Try.prog W .any base t v := hval0
  have hsz : (DataW.weightsEach Try.prog (Try.f5.params.toList ++ Rows.checkOneSpec.plain.varTypes Try.prog) (ds ++ gs)).all (· ≤ reachBytes) = true := hsz0
  have hW' := hW
  obtain ⟨p, q, hA0, hV, rfl, hfz, hnd⟩ := hW
  have hA : DataW.TrodAll enc Try.prog W 0 (fun _ => true) true Try.f5.params.toList args.toList ds p := hA0
  have hA1 := hA
  rw [Try.params5] at hA hA1 hval hsz
  obtain ⟨v0, v1, v2, d0, d1, d2, p0, p1, p2, rfl, rfl, rfl, h0, h1, h2⟩ := trodAll_three hA
  obtain ⟨rfl, rfl⟩ := trodVars_none hV
  simp only [List.append_nil] at hW'
  obtain ⟨bs0, hb0, hl0⟩ := arg_bytes (hval 0 29 v0 rfl rfl) h0 (fun elems spare e => by subst e; exact sized_slice hsz (j := 0) (t := 29) (e := 5) rfl rfl Try.underlying29)
  obtain ⟨z1, rfl, rfl, rfl, wz1⟩ := open_int Try.underlying33 (hval 1 33 v1 rfl rfl) h1
  have bz1 := bounds_u16 wz1
  obtain ⟨x1, rfl⟩ := Int.eq_ofNat_of_zero_le bz1.1
  obtain ⟨z2, rfl, rfl, rfl, wz2⟩ := open_int Try.underlying5 (hval 2 5 v2 rfl rfl) h2
  have bz2 := bounds_u8 wz2
  obtain ⟨x2, rfl⟩ := Int.eq_ofNat_of_zero_le bz2.1
  refine (walk v0 bs0 hl0 x1 (by omega) x2 (by omega) W hb0).mono fun e W' ⟨he, hb⟩ => ?_
  subst he
  exact ⟨_, rfl, post_of_below (pv := []) hW' (fun _ _ _ => trodAll_mk1 (shut_bool Try.underlying4 _)) (fun sp hs => args_stay laidOut hb _ _ _ _ (by simp [ok5, ok29, ok33]) hA1 (fun x hx => hW'.lt x (by simpa using hx)) (fun x hx => hs x (by simpa using hx))) (fun _ _ => rfl) (by simp)
    hb (ok_one (by kernel_rfl) rfl (okWide_bool_mk Try.underlying4 _))⟩

theorem holds : Rows.CheckOneSaid :=
  OpenClaim.holds_of_wide 5 Try.f5 rfl rfl rfl rfl rfl rfl rfl ⟨rfl, rfl, rfl, rfl, rfl⟩ rfl rfl rfl rfl rfl (by kernel_rfl) Try.func5 (by kernel_rfl)
    (of_decide_eq_true (by kernel_rfl)) (by unfold Func.isWrapper; first | (rw [if_pos (by decide +kernel)]; kernel_rfl) | (rw [if_neg (by decide +kernel)]; exact ⟨rfl, rfl⟩))
    (fun os started H enc _ => lifted os started H enc)
#print axioms holds
end Go.Proofs.Ytflolmldildjhaa.lawCheckOne
