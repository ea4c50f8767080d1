/- CheckBurst: bytes of which four that stand together are other have another sum. Every slice of bytes, every place, every change. -/
import Derived.Test.YtflolmldildjhaaApp
import Derived.Test.YtflolmldildjhaaBurst
import Derived.BigRegion
namespace Go.Proofs.Ytflolmldildjhaa.lawCheckBurst
open Go.ChangeShapes Go.WideShapes Go.ChangeAt Go.RowKit Crc

theorem owns_four (w : World) : Owns (w.alloc (.cells #[.int .u8 0, .int .u8 0, .int .u8 0, .int .u8 0] 5)) w.heap.size (.slice (some ⟨w.heap.size, 0, none⟩) 4 4) [0, 0, 0, 0] :=
  World.ownsRow_lit (e := 5) (size := 1) (base := w.heap.size) w #[.int .u8 0, .int .u8 0, .int .u8 0, .int .u8 0] 4 (Nat.le_refl _) (by decide) rfl

theorem xor_byte (c : UInt8) (y j : Nat) : bits .xor .u8 (c.toNat : Int) ((y : Int) / 2 ^ (8 * j) % 256) = ((c ^^^ byteAt y j).toNat : Int) := by
  have h : ((y : Int) / 2 ^ (8 * j) % 256) = ((y / 2 ^ (8 * j) % 256 : Nat) : Int) := by
    rw [Int.natCast_emod, Int.natCast_ediv, Int.natCast_pow]; rfl
  have hc := c.toNat_lt
  rw [h, UInt8.toNat_xor, byteAt, UInt8.toNat_ofNat']
  exact u8_xor_nat _ _ (by omega) (by omega)

theorem burst_step {xs : List UInt8} {k y j q : Nat} {c : UInt8} (hc : (burst xs k y j)[k + j]? = some c) (hq : q = k + j) : (burst xs k y j).set q (c ^^^ byteAt y j) = burst xs k y (j + 1) := by
  rw [hq, burst, patch, hc]
  rfl

set_option maxRecDepth 100000 in
set_option maxHeartbeats 800000 in
theorem walk (v : Value) (bs : List UInt8) (hl : bs.length ≤ 140737488351232) (x : Nat) (hx : x ≤ 65535) (y : Nat) (hy : y ≤ 4294967295) (w : World) (hv : IsBytes w v bs) :
    Calls Try.prog 6 #[v, .int .u16 (x : Int), .int .u32 (y : Int)] w fun e w' => e = .returned (.bool true) ∧ Below w.heap.size w w' := by
  have HV := Lib.hid hv
  obtain ⟨A, cap, rfl, -, -, -⟩ := hv
  go_enter Try.func6, Try.ntmps6
  go_wp2_with fail
  refine (awake_any _).mono ?_
  rintro e w0 ⟨rfl, hb0⟩
  have hb0' := (hb0.alloc hb0.size (.cells #[.int .u8 0, .int .u8 0, .int .u8 0, .int .u8 0] 5))
  have ho0 := owns_four w0
  go_wp2_with (at_builtin; refine wpl_append_bytes _ rfl (.tmp 13) (.tmp 14) rfl w0.heap.size _ [0, 0, 0, 0] rfl ho0 _ bs rfl (HV.out.below hb0') (by simp; omega) (by simp) ?_)
  intro v1 w1 hown1 hg1 hat1
  have hb1 := below_append hb0' ho0 hb0.size hg1 (by simp; exact Nat.le_succ_of_le hb0.size)
  obtain ⟨xs, hxs⟩ : ∃ xs, xs = (0 : UInt8) :: 0 :: 0 :: 0 :: bs := ⟨_, rfl⟩
  have hxl : xs.length = bs.length + 4 := by rw [hxs]; rfl
  have hox : Owns w1 w0.heap.size v1 xs := by rw [hxs]; exact hown1
  have hx4 : 4 ≤ xs.length := by omega
  have hxm : xs.length ≤ 140737488351236 := by omega
  clear hxs hown1 hg1 hat1 ho0 hb0' hxl
  obtain ⟨gx, cx, rfl, hbx, hlx⟩ := hox.form (by omega)
  have hB := hb0.size
  have HX := Lib.hid hox
  clear hox
  go_wp2_with (at_builtin; refine wpl_append_bytes _ rfl (.const (.slice none 0 0)) (.tmp 16) rfl w1.heap.size (.slice none 0 0) [] rfl (Owns.nil _ _) _ xs rfl HX.out.bytes (by simp; omega) (Nat.le_refl _) ?_)
  intro v2 w2 hown2 hg2 hat2
  have hb2 := below_append hb1 (Owns.nil w1 w1.heap.size) hb1.size hg2 hb1.size
  have hoy : Owns w2 w1.heap.size v2 xs := hown2
  obtain ⟨gy, cy, rfl, hby, hly⟩ := hoy.form (by omega)
  have hox2 : Owns w2 w0.heap.size (.slice (some ⟨gx, 0, none⟩) xs.length cx) xs := HX.out.kept hg2 (.inr (by simp [Value.ownBlock]))
  have hxy : gx < gy := by omega
  clear hown2 hat2 hg2 HX
  have HX := Lib.hid hox2
  have HY := Lib.hid hoy
  clear hox2 hoy
  obtain ⟨k, hk⟩ : ∃ k, k = x % (xs.length - 3) := ⟨_, rfl⟩
  have hk3 : k + 3 < xs.length := by have := Nat.mod_lt x (show 0 < xs.length - 3 by omega); omega
  have hkk : (x : Int) % ((xs.length : Int) - 3) = (k : Int) := by rw [hk, Int.natCast_emod, Int.ofNat_sub (by omega)]; rfl
  clear hk
  go_wp2
  rw [hkk]
  clear hkk
  go_loopw [10] (fun i wr => ∃ j : Nat, j ≤ 4 ∧ i = .int .i64 (j : Int) ∧ Owns wr w1.heap.size (.slice (some ⟨gy, 0, none⟩) xs.length cy) (burst xs k y j) ∧
      Owns wr w0.heap.size (.slice (some ⟨gx, 0, none⟩) xs.length cx) xs ∧ Below w.heap.size w wr) (fun i _ => 4 - (intOf i).toNat)
  case atStart => exact ⟨0, by omega, rfl, HY.out, HX.out, hb2⟩
  case round =>
    obtain ⟨j, hj, rfl, hoy, hox, hbr⟩ := hrel
    clear HX HY hb2 hb1 hb0
    have HX := Lib.hid hox
    have HY := Lib.hid hoy
    clear hox hoy
    by_cases hj4 : j < 4
    · have hlb := length_burst xs k y j
      obtain ⟨c, hc⟩ : ∃ c, (burst xs k y j)[k + j]? = some c := ⟨_, List.getElem?_eq_getElem (by omega)⟩
      obtain ⟨hc1, hf1⟩ := HY.out.get hc
      have HC := Lib.hid hc
      clear hc hlb
      have hc8 := c.toNat_lt
      obtain ⟨q, hq⟩ : ∃ q, q = k + j := ⟨_, rfl⟩
      have hq1 : (k : Int) + (j : Int) = (q : Int) := by omega
      have hql : (q : Int) < (xs.length : Int) := by omega
      have hq0 : (0 : Int) ≤ (q : Int) := by omega
      rw [← hq] at hc1 hf1
      have HQ := Lib.hid hq
      clear hq
      go_wp2
      go_region
      rw [xor_byte]
      go_wp2
      go_roundw
      case rel =>
        refine ⟨j + 1, by omega, by go_num, ?_, ?_, ?_⟩
        · rw [← burst_step HC.out HQ.out]
          exact (HY.out.put q (c ^^^ byteAt y j)).drew
        · exact (HX.out.other (by simp [Value.ownBlock]; omega) q _).drew
        · exact (hbr.setCell (p := ⟨gy, q, none⟩) (by simp; omega) _).drew
      case measure => simp [intOf]; omega
    · obtain rfl : j = 4 := by omega
      have hs := sum_burst (p := 3988292384) (by omega) (by omega) xs k y (by omega) (by omega)
      obtain ⟨ys, hys⟩ : ∃ ys, ys = burst xs k y 4 := ⟨_, rfl⟩
      have hyl : ys.length ≤ 140737488351236 := by rw [hys, length_burst]; exact hxm
      rw [← hys] at HY hs
      have hpl : (((sum 3988292384 xs : Nat) : Int) == ((sum 3988292384 ys : Nat) : Int)) = ((y : Int) == 0) := by
        rw [Bool.eq_iff_iff]
        simp only [beq_iff_eq]
        constructor
        · intro h
          have := hs.1 (by omega)
          omega
        · intro h
          rw [hs.2 (by omega)]
      clear hs hys
      go_wp2_with fail
      refine (csum_any _ xs (by omega) _ HX.out.bytes).mono ?_
      rintro e w3 ⟨rfl, hb3⟩
      go_wp2_with fail
      refine (csum_any _ ys (by omega) _ (HY.out.bytes.below hb3)).mono ?_
      rintro e w4 ⟨rfl, hb4⟩
      go_wp2
      go_ret
      exact ⟨by simp, hbr.trans ((hb3.mono hbr.size).trans (hb4.mono (Nat.le_trans hbr.size hb3.size)))⟩

set_option maxRecDepth 100000 in
theorem lifted (os : Os) (started : os.Started) (H : Type) (enc : TypeId × Value → H) :
    ReturnsInHanded {} Try.checked os 6 .any (Rows.checkBurstSpec.pre6 enc Try.prog Try.f6 Rows.checkBurstRow.domain false) (Rows.checkBurstSpec.post enc Try.prog Try.f6 false true false false) := by
  refine returnsInHanded_of_change_sized (C := Try.checked) own started (by kernel_rfl) Try.func6
    (ChangeSpec.witness6 (enc := enc) (C := Try.checked) false ⟨#[], #[.slice none 0 0, .int .u16 0, .int .u32 0], []⟩ 8 (by kernel_rfl) (by kernel_rfl) (by kernel_rfl) (by kernel_rfl)) ?_
  intro W base args ds gs before hval0 hW _ hsz0 _
  have hval : ∀ (j : Nat) t v, Try.f6.params[j]? = some t → args[j]? = some v → Value.okWide Try.prog W .any base t v := hval0
  have hsz : (DataW.weightsEach Try.prog (Try.f6.params.toList ++ Rows.checkBurstSpec.plain.varTypes Try.prog) (ds ++ gs)).all (· ≤ reachBytes) = true := hsz0
  have hW' := hW
  obtain ⟨p, q, hA0, hV, rfl, hfz, hnd⟩ := hW
  have hA : DataW.TrodAll enc Try.prog W 0 (fun _ => true) true Try.f6.params.toList args.toList ds p := hA0
  have hA1 := hA
  rw [Try.params6] at hA hA1 hval hsz
  obtain ⟨v0, v1, v2, d0, d1, d2, p0, p1, p2, rfl, rfl, rfl, h0, h1, h2⟩ := trodAll_three hA
  obtain ⟨rfl, rfl⟩ := trodVars_none hV
  simp only [List.append_nil] at hW'
  obtain ⟨bs0, hb0, hl0⟩ := arg_bytes (hval 0 29 v0 rfl rfl) h0 (fun elems spare e => by subst e; exact sized_slice hsz (j := 0) (t := 29) (e := 5) rfl rfl Try.underlying29)
  obtain ⟨z1, rfl, rfl, rfl, wz1⟩ := open_int Try.underlying33 (hval 1 33 v1 rfl rfl) h1
  have bz1 := bounds_u16 wz1
  obtain ⟨x1, rfl⟩ := Int.eq_ofNat_of_zero_le bz1.1
  obtain ⟨z2, rfl, rfl, rfl, wz2⟩ := open_int Try.underlying22 (hval 2 22 v2 rfl rfl) h2
  have bz2 := bounds_u32 wz2
  obtain ⟨x2, rfl⟩ := Int.eq_ofNat_of_zero_le bz2.1
  refine (walk v0 bs0 hl0 x1 (by omega) x2 (by omega) W hb0).mono fun e W' ⟨he, hb⟩ => ?_
  subst he
  exact ⟨_, rfl, post_of_below (pv := []) hW' (fun _ _ _ => trodAll_mk1 (shut_bool Try.underlying4 _)) (fun sp hs => args_stay laidOut hb _ _ _ _ (by simp [ok22, ok29, ok33]) hA1 (fun x hx => hW'.lt x (by simpa using hx)) (fun x hx => hs x (by simpa using hx))) (fun _ _ => rfl) (by simp)
    hb (ok_one (by kernel_rfl) rfl (okWide_bool_mk Try.underlying4 _))⟩

theorem holds : Rows.CheckBurstSaid :=
  OpenClaim.holds_of_wide 6 Try.f6 rfl rfl rfl rfl rfl rfl rfl ⟨rfl, rfl, rfl, rfl, rfl⟩ rfl rfl rfl rfl rfl (by kernel_rfl) Try.func6 (by kernel_rfl)
    (of_decide_eq_true (by kernel_rfl)) (by unfold Func.isWrapper; first | (rw [if_pos (by decide +kernel)]; kernel_rfl) | (rw [if_neg (by decide +kernel)]; exact ⟨rfl, rfl⟩))
    (fun os started H enc _ => lifted os started H enc)
#print axioms holds
end Go.Proofs.Ytflolmldildjhaa.lawCheckBurst
