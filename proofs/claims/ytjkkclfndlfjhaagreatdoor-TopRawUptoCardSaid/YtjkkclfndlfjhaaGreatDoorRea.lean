/- Contracts of state.Read and delta.Read: what is told as read has these bytes. -/
import Derived.Test.YtjkkclfndlfjhaaGreatDoorCmd
import Derived.Deep.RegionHeld3
set_option linter.all false
namespace Go.Proofs.YtjkkclfndlfjhaaGreatDoor
open Go.RowKit Crc Frm Go.ChangeShapes Go.WideShapes Go.ChangeAt

theorem eq_of_not_beq {a b : List UInt8} (h : (!a == b) = false) : a = b := by simpa using h
theorem fit_len {N : Nat} {ps : List Pr} {xs : List Ss} (hN : N ≤ 16384) (h1 : FitPs N ps) (h2 : FitXs N xs) (l1 : 8 * ps.length ≤ N + 8) (l2 : 8 * xs.length ≤ N + 8) : (putRows ps xs).length ≤ 700000000 := by
  have e1 := flat_bound putPair (17 + 2 * N) ps (fun p hp => by rw [putPair_len]; have := h1 p hp; omega)
  have e2 := flat_bound putSess (32 + N) xs (fun p hp => by rw [putSess_len]; have := h2 p hp; omega)
  have e3 : ps.length * (17 + 2 * N) ≤ 2049 * 32785 := Nat.mul_le_mul (by omega) (by omega)
  have e4 : xs.length * (32 + N) ≤ 2049 * 16416 := Nat.mul_le_mul (by omega) (by omega)
  simp only [putRows, List.length_append, beTo_len]
  omega

/-- What state.Read leaves of these bytes. -/
def StRead (bs : List UInt8) (W : World) (e : Ending) (W' : World) : Prop :=
  ∃ (index term : Int) (psv xsv : Value) (ok : Bool), e = .returned (.tuple #[.agg #[.int .i64 index, .int .i64 term, psv, xsv], .bool ok]) ∧ Below W.heap.size W W' ∧ (∃ A n c, psv = .slice A n c) ∧ (∃ A n c, xsv = .slice A n c) ∧
    (ok = true → ∃ ps xs, IsL W' layPr psv ps ∧ IsL W' laySs xsv xs ∧ (putRows ps xs).length ≤ 700000000 ∧ stBytes index term ps xs = bs)
/-- What delta.Read leaves of these bytes. -/
def DeRead (bs : List UInt8) (W : World) (e : Ending) (W' : World) : Prop :=
  ∃ (a b t : Int) (psv xsv : Value) (ok : Bool), e = .returned (.tuple #[.agg #[.int .i64 a, .int .i64 b, .int .i64 t, psv, xsv], .bool ok]) ∧ Below W.heap.size W W' ∧ (∃ A n c, psv = .slice A n c) ∧ (∃ A n c, xsv = .slice A n c) ∧
    (ok = true → ∃ ps xs, IsL W' layPr psv ps ∧ IsL W' laySs xsv xs ∧ (putRows ps xs).length ≤ 700000000 ∧ deBytes a b t ps xs = bs)

set_option maxRecDepth 100000 in
set_option maxHeartbeats 6400000 in
theorem stread_any (v : Value) (bs : List UInt8) (hl : bs.length ≤ 16384) (W : World) (hv : IsBytes W v bs) : Calls Tryz.prog 15 #[v] W (StRead bs W) := by
  have HV := Lib.hid hv
  obtain ⟨A, cap, rfl, -, -, -⟩ := hv
  have hb0 : Below W.heap.size W (W.alloc (.cells #[.int .i64 0, .int .i64 0, .slice none 0 0, .slice none 0 0] 30)) := (Below.refl _ W).alloc (Nat.le_refl _) _
  have HB0 := Lib.hid hb0
  clear hb0
  go_enter Tryz.func15, Tryz.ntmps15
  go_wp2_with fail
  refine (rof_any _ bs _ (HV.out.below HB0.out)).mono ?_
  rintro e w1 ⟨rfl, hr, hb⟩
  have hs1 := hb.size
  simp only [World.size_alloc] at hr hb hs1 ⊢
  have hg1 := hr.lt
  have HR := Lib.hid hr
  have HB1 := Lib.hid (HB0.out.trans (hb.mono (Nat.le_succ _)))
  have HZ1 := Lib.hid ((Has.new W 30 #[.int .i64 0, .int .i64 0, .slice none 0 0, .slice none 0 0]).below hb (Nat.lt_succ_self _))
  clear hr hb
  generalize hR0 : (⟨bs, false⟩ : Rs) = R0 at *
  have hR0l : R0.rest.length ≤ 16384 := by rw [← hR0]; exact hl
  clear hR0
  go_wp2_with fail
  refine (rnum_any _ R0 (by omega) _ HR.out).mono ?_
  rintro e w2 ⟨rfl, hr, hf⟩
  have hs2 := hf.size
  have ha := (Below.refl w2.heap.size w2).alloc (Nat.le_refl _) (.cells #[.int .i64 R0.num.1, .int .i64 0, .slice none 0 0, .slice none 0 0] 30)
  have HR1 := Lib.hid (hr.kept ha)
  have HK1 := Lib.hid (Has.new w2 30 #[.int .i64 R0.num.1, .int .i64 0, .slice none 0 0, .slice none 0 0])
  have HB2 := Lib.hid ((HB1.out.trans (hf.toBelow (fun k e => by omega) (by omega))).trans (ha.mono (by omega)))
  have HZ2 := Lib.hid ((HZ1.out.fr hf (by omega)).below ha (by omega))
  have hl1 := R0.num_len
  clear hr hf ha HZ1 HB1
  go_wp2_with fail
  refine (rnum_any _ R0.num.2 (by omega) _ HR1.out).mono ?_
  rintro e wn1 ⟨rfl, hr, hf⟩
  have hs3 := hf.size
  simp only [World.size_alloc] at hs3
  have fs := Fr.set wn1 w2.heap.size 1 (.int .i64 R0.num.2.num.1)
  have hk := HK1.out.fr hf (by omega)
  have HR2 := Lib.hid (hr.fr fs (fun b hb => by omega))
  have HK2 := Lib.hid (hk.set 1 (.int .i64 R0.num.2.num.1))
  have HB3 := Lib.hid ((HB2.out.trans (hf.toBelow (fun k e => by omega) (by simp; omega))).trans (fs.toBelow (fun k e => by omega) (by omega)))
  have HZ3 := Lib.hid ((HZ2.out.fr hf (by omega)).fr fs (by omega))
  have c1 : wn1.cell? ⟨w2.heap.size, 1, none⟩ = some (.int .i64 0) := hk.cell 1
  have f1 := hk.frozen 1
  have hl2 := R0.num.2.num_len
  clear hr hf fs hk HZ2 HB2 HR1 HK1
  go_wp2_with fail
  refine (readrows_any _ R0.num.2.num.2 16384 (by omega) (by omega) _ HR2.out).mono ?_
  rintro e w4 ⟨psv, xsv, ps, xs, R', rfl, hop, hox, hr, hf, fps, fxs, lps, lxs, lr⟩
  clear c1 f1
  have hsr := hf.size
  rw [World.size_setCell] at hsr hop hox
  have hk := HK2.out.fr hf (by omega)
  have c2 : w4.cell? ⟨w2.heap.size, 2, none⟩ = some (.slice none 0 0) := hk.cell 2
  have c3 : w4.cell? ⟨w2.heap.size, 3, none⟩ = some (.slice none 0 0) := hk.cell 3
  have f2 := hk.frozen 2
  have f3 := hk.frozen 3
  have hfit := fit_len (by omega) fps fxs lps lxs
  have HFIT := Lib.hid hfit
  obtain ⟨A1, cap1, rfl, -⟩ := hop.list
  obtain ⟨A2, cap2, rfl, -⟩ := hox.list
  have fs := (Fr.set w4 w2.heap.size 2 (.slice A1 ps.length cap1)).trans (Fr.set (w4.setCell ⟨w2.heap.size, 2, none⟩ (.slice A1 ps.length cap1)) w2.heap.size 3 (.slice A2 xs.length cap2)) fun _ _ h => h
  obtain ⟨wz, hwz⟩ : ∃ wz, wz = (w4.setCell ⟨w2.heap.size, 2, none⟩ (.slice A1 ps.length cap1)).setCell ⟨w2.heap.size, 3, none⟩ (.slice A2 xs.length cap2) := ⟨_, rfl⟩
  have hk3 := (hk.set 2 (.slice A1 ps.length cap1)).set 3 (.slice A2 xs.length cap2)
  rw [← hwz] at fs hk3
  have HRF := Lib.hid (hr.fr fs (fun b hb => by omega)).drew
  have HKF : Hid (Has wz.drew w2.heap.size 30 #[.int .i64 R0.num.1, .int .i64 R0.num.2.num.1, .slice A1 ps.length cap1, .slice A2 xs.length cap2]) := Lib.hid hk3
  have HBF := Lib.hid ((HB3.out.trans (hf.toBelow (fun k e => by omega) (by simp; omega))).trans (fs.toBelow (fun k e => by omega) (by omega))).drew
  have HZF := Lib.hid ((HZ3.out.fr hf (by omega)).fr fs (by omega)).drew
  have HP := Lib.hid ((hop.fr fs (fun b hb => by have := (hop.lt b hb).1; omega)).list.below (Below.refl _ _).drew (Nat.le_refl _))
  have HX := Lib.hid ((hox.fr fs (fun b hb => by have := (hox.lt b hb).1; omega)).list.below (Below.refl _ _).drew (Nat.le_refl _))
  have HPO := Lib.hid (fun b hb => by have := (hop.lt b hb).1; omega : ∀ b, (Value.slice A1 ps.length cap1).ownBlock = some b → ¬ b = W.heap.size)
  have HXO := Lib.hid (fun b hb => by have := (hox.lt b hb).1; omega : ∀ b, (Value.slice A2 xs.length cap2).ownBlock = some b → ¬ b = W.heap.size)
  have hzs := fs.size
  have hg4 := hr.lt
  clear hr hf fs hk hk3 HZ3 HB3 HR2 HK2 hop hox fps fxs
  go_wp2
  rw [← hwz]
  clear hwz c2 c3 f2 f3
  have HCV0 := Lib.hid (convert_bytes (HV.out.below HBF.out))
  cases hdone : (!R'.bad && decide (R'.rest.length = 0)) with
  | false =>
    first
      | (go_region_with (first | (go_at_call 53; refine (rdone_any _ R' _ HRF.out).mono ?_; rintro e wx ⟨rfl, rfl⟩; rw [hdone])))
      | fail
    all_goals
      generalize wz.drew = wd at *
      obtain ⟨z0, z1, z2, z3⟩ := HZF.out.four
      have g0 := HZF.out.frozen 0
      have g1 := HZF.out.frozen 1
      have g2 := HZF.out.frozen 2
      have g3 := HZF.out.frozen 3
      go_wp2
      refine bodyPost_ret (results_cell_row2 rfl _ _ W.heap.size 30 _ (0, 0) _ rfl ((HZF.out.set4 (.int .i64 0) (.int .i64 0) (.slice none 0 0) (.slice none 0 0))) Tryz.underlying30 rfl (by kernel_rfl)) rfl ⟨0, 0, .slice none 0 0, .slice none 0 0, false, rfl, HBF.out.trans ((Fr.set4 _ W.heap.size (.int .i64 0) (.int .i64 0) (.slice none 0 0) (.slice none 0 0)).toBelow (n := W.heap.size) (fun k e => by omega) HBF.out.size), ⟨_, _, _, rfl⟩, ⟨_, _, _, rfl⟩, fun h => by cases h⟩
  | true =>
    obtain ⟨q0, q1, q2, q3⟩ := HKF.out.four
    have cq := HCV0.out
    cases hrt : rightS R0.num.1 R0.num.2.num.1 ps xs with
    | false =>
      first
        | (go_region_with
            (first
              | (go_at_call 54; refine (right_any _ _ _ _ ps xs (by omega) (by omega) _ HP.out HX.out).mono ?_; rintro e wy ⟨rfl, hb⟩; rw [hrt]; have KY := Lib.hid (HKF.out.below hb HKF.out.lt); obtain ⟨p0, p1, p2, p3⟩ := KY.out.four; have HBY := Lib.hid (HBF.out.trans (hb.mono HBF.out.size)); have HZY := Lib.hid (HZF.out.below hb HZF.out.lt); have CY := Lib.hid (convert_bytes (HV.out.below HBY.out)); have cy := CY.out; clear hb)
              | (go_at_call 53; refine (rdone_any _ R' _ HRF.out).mono ?_; rintro e wx ⟨rfl, rfl⟩; rw [hdone])))
        | fail
      all_goals
        obtain ⟨z0, z1, z2, z3⟩ := HZY.out.four
        have g0 := HZY.out.frozen 0
        have g1 := HZY.out.frozen 1
        have g2 := HZY.out.frozen 2
        have g3 := HZY.out.frozen 3
        go_wp2
        refine bodyPost_ret (results_cell_row2 rfl _ _ W.heap.size 30 _ (0, 0) _ rfl ((HZY.out.set4 (.int .i64 0) (.int .i64 0) (.slice none 0 0) (.slice none 0 0))) Tryz.underlying30 rfl (by kernel_rfl)) rfl ⟨0, 0, .slice none 0 0, .slice none 0 0, false, rfl, HBY.out.trans ((Fr.set4 _ W.heap.size (.int .i64 0) (.int .i64 0) (.slice none 0 0) (.slice none 0 0)).toBelow (n := W.heap.size) (fun k e => by omega) HBY.out.size), ⟨_, _, _, rfl⟩, ⟨_, _, _, rfl⟩, fun h => by cases h⟩
    | true =>
      first
        | (go_region_with
            (first
              | (go_at_call 16; refine (stbytes_any R0.num.1 R0.num.2.num.1 _ _ ps xs HFIT.out _ HPY.out HXY.out).mono ?_; rintro e w5 ⟨v1, rfl, ho, hb5⟩; have hcv1 := convert_bytes ho.bytes; have CW := Lib.hid (convert_bytes ((HV.out.below HBY.out).below hb5)); have cw := CW.out; have HBW := Lib.hid (HBY.out.trans (hb5.mono HBY.out.size)); have HZW := Lib.hid (HZY.out.below hb5 HZY.out.lt); have KW := Lib.hid (KY.out.below hb5 KY.out.lt); have HPW := Lib.hid (HPY.out.below hb5 (Nat.le_refl _)); have HXW := Lib.hid (HXY.out.below hb5 (Nat.le_refl _)); obtain ⟨Av, capv, rfl, -⟩ := ho.bytes; clear ho hb5)
              | (go_at_call 54; refine (right_any _ _ _ _ ps xs (by omega) (by omega) _ HP.out HX.out).mono ?_; rintro e wy ⟨rfl, hb⟩; rw [hrt]; have KY := Lib.hid (HKF.out.below hb HKF.out.lt); obtain ⟨p0, p1, p2, p3⟩ := KY.out.four; have HBY := Lib.hid (HBF.out.trans (hb.mono HBF.out.size)); have HPY := Lib.hid (HP.out.below hb (Nat.le_refl _)); have HXY := Lib.hid (HX.out.below hb (Nat.le_refl _)); have HZY := Lib.hid (HZF.out.below hb HZF.out.lt); have CY := Lib.hid (convert_bytes (HV.out.below HBY.out)); have cy := CY.out; clear hb)
              | (go_at_call 53; refine (rdone_any _ R' _ HRF.out).mono ?_; rintro e wx ⟨rfl, rfl⟩; rw [hdone])))
        | fail
      all_goals
        obtain ⟨z0, z1, z2, z3⟩ := HZW.out.four
        have g0 := HZW.out.frozen 0
        have g1 := HZW.out.frozen 1
        have g2 := HZW.out.frozen 2
        have g3 := HZW.out.frozen 3
        obtain ⟨y0, y1, y2, y3⟩ := KW.out.four
        clear hcv1 cw
        go_wp2
        · skip
          refine bodyPost_ret (results_cell_row2 rfl _ _ W.heap.size 30 _ (0, 0) _ rfl ((HZW.out.set4 (.int .i64 0) (.int .i64 0) (.slice none 0 0) (.slice none 0 0))) Tryz.underlying30 rfl (by kernel_rfl)) rfl ⟨0, 0, .slice none 0 0, .slice none 0 0, false, rfl, HBW.out.trans ((Fr.set4 _ W.heap.size (.int .i64 0) (.int .i64 0) (.slice none 0 0) (.slice none 0 0)).toBelow (n := W.heap.size) (fun k e => by omega) HBW.out.size), ⟨_, _, _, rfl⟩, ⟨_, _, _, rfl⟩, fun h => by cases h⟩
        · skip
          have heq : stBytes R0.num.1 R0.num.2.num.1 ps xs = bs := eq_of_not_beq (by assumption)
          have fw := Fr.set4 w5 W.heap.size (.int .i64 R0.num.1) (.int .i64 R0.num.2.num.1) (.slice A1 ps.length cap1) (.slice A2 xs.length cap2)
          refine bodyPost_ret (results_cell_row2 rfl _ _ W.heap.size 30 _ (0, 0) _ rfl (HZW.out.set4 (.int .i64 R0.num.1) (.int .i64 R0.num.2.num.1) (.slice A1 ps.length cap1) (.slice A2 xs.length cap2)) Tryz.underlying30 rfl (by kernel_rfl)) rfl ⟨R0.num.1, R0.num.2.num.1, _, _, true, rfl, HBW.out.trans (fw.toBelow (fun k e => by omega) HBW.out.size), ⟨_, _, _, rfl⟩, ⟨_, _, _, rfl⟩, fun _ => ⟨ps, xs, HPW.out.fr fw (fun _ b hb => HPO.out b hb), HXW.out.fr fw (fun _ b hb => HXO.out b hb), HFIT.out, heq⟩⟩

set_option maxRecDepth 100000 in
set_option maxHeartbeats 6400000 in
theorem deread_any (v : Value) (bs : List UInt8) (hl : bs.length ≤ 16384) (W : World) (hv : IsBytes W v bs) : Calls Tryz.prog 17 #[v] W (DeRead bs W) := by
  have HV := Lib.hid hv
  obtain ⟨A, cap, rfl, -, -, -⟩ := hv
  have hb0 : Below W.heap.size W (W.alloc (.cells #[.int .i64 0, .int .i64 0, .int .i64 0, .slice none 0 0, .slice none 0 0] 87)) := (Below.refl _ W).alloc (Nat.le_refl _) _
  have HB0 := Lib.hid hb0
  clear hb0
  go_enter Tryz.func17, Tryz.ntmps17
  go_wp2_with fail
  refine (rof_any _ bs _ (HV.out.below HB0.out)).mono ?_
  rintro e w1 ⟨rfl, hr, hb⟩
  have hs1 := hb.size
  simp only [World.size_alloc] at hr hb hs1 ⊢
  have hg1 := hr.lt
  have HR := Lib.hid hr
  have HB1 := Lib.hid (HB0.out.trans (hb.mono (Nat.le_succ _)))
  have HZ1 := Lib.hid ((Has.new W 87 #[.int .i64 0, .int .i64 0, .int .i64 0, .slice none 0 0, .slice none 0 0]).below hb (Nat.lt_succ_self _))
  clear hr hb
  generalize hR0 : (⟨bs, false⟩ : Rs) = R0 at *
  have hR0l : R0.rest.length ≤ 16384 := by rw [← hR0]; exact hl
  clear hR0
  go_wp2_with fail
  refine (rnum_any _ R0 (by omega) _ HR.out).mono ?_
  rintro e w2 ⟨rfl, hr, hf⟩
  have hs2 := hf.size
  have ha := (Below.refl w2.heap.size w2).alloc (Nat.le_refl _) (.cells #[.int .i64 R0.num.1, .int .i64 0, .int .i64 0, .slice none 0 0, .slice none 0 0] 87)
  have HR1 := Lib.hid (hr.kept ha)
  have HK1 := Lib.hid (Has.new w2 87 #[.int .i64 R0.num.1, .int .i64 0, .int .i64 0, .slice none 0 0, .slice none 0 0])
  have HB2 := Lib.hid ((HB1.out.trans (hf.toBelow (fun k e => by omega) (by omega))).trans (ha.mono (by omega)))
  have HZ2 := Lib.hid ((HZ1.out.fr hf (by omega)).below ha (by omega))
  have hl1 := R0.num_len
  clear hr hf ha HZ1 HB1
  go_wp2_with fail
  refine (rnum_any _ R0.num.2 (by omega) _ HR1.out).mono ?_
  rintro e wn1 ⟨rfl, hr, hf⟩
  have hs3 := hf.size
  simp only [World.size_alloc] at hs3
  have fs := Fr.set wn1 w2.heap.size 1 (.int .i64 R0.num.2.num.1)
  have hk := HK1.out.fr hf (by omega)
  have HR2 := Lib.hid (hr.fr fs (fun b hb => by omega))
  have HK2 := Lib.hid (hk.set 1 (.int .i64 R0.num.2.num.1))
  have HB3 := Lib.hid ((HB2.out.trans (hf.toBelow (fun k e => by omega) (by simp; omega))).trans (fs.toBelow (fun k e => by omega) (by omega)))
  have HZ3 := Lib.hid ((HZ2.out.fr hf (by omega)).fr fs (by omega))
  have c1 : wn1.cell? ⟨w2.heap.size, 1, none⟩ = some (.int .i64 0) := hk.cell 1
  have f1 := hk.frozen 1
  have hl2 := R0.num.2.num_len
  clear hr hf fs hk HZ2 HB2 HR1 HK1
  go_wp2_with fail
  refine (rnum_any _ R0.num.2.num.2 (by omega) _ HR2.out).mono ?_
  rintro e wn2 ⟨rfl, hr, hf⟩
  have hs4 := hf.size
  simp only [World.size_setCell] at hs4
  have fs := Fr.set wn2 w2.heap.size 2 (.int .i64 R0.num.2.num.2.num.1)
  have hk := HK2.out.fr hf (by omega)
  have HR3 := Lib.hid (hr.fr fs (fun b hb => by omega))
  have HK3 := Lib.hid (hk.set 2 (.int .i64 R0.num.2.num.2.num.1))
  have HB4 := Lib.hid ((HB3.out.trans (hf.toBelow (fun k e => by omega) (by simp; omega))).trans (fs.toBelow (fun k e => by omega) (by omega)))
  have HZ4 := Lib.hid ((HZ3.out.fr hf (by omega)).fr fs (by omega))
  have c2 : wn2.cell? ⟨w2.heap.size, 2, none⟩ = some (.int .i64 0) := hk.cell 2
  have f2 := hk.frozen 2
  have hl3 := R0.num.2.num.2.num_len
  clear hr hf fs hk HZ3 HB3 HR2 HK2 c1 f1
  go_wp2_with fail
  refine (readrows_any _ R0.num.2.num.2.num.2 16384 (by omega) (by omega) _ HR3.out).mono ?_
  rintro e w4 ⟨psv, xsv, ps, xs, R', rfl, hop, hox, hr, hf, fps, fxs, lps, lxs, lr⟩
  clear c2 f2
  have hsr := hf.size
  rw [World.size_setCell] at hsr hop hox
  have hk := HK3.out.fr hf (by omega)
  have c2 : w4.cell? ⟨w2.heap.size, 3, none⟩ = some (.slice none 0 0) := hk.cell 3
  have c3 : w4.cell? ⟨w2.heap.size, 4, none⟩ = some (.slice none 0 0) := hk.cell 4
  have f2 := hk.frozen 3
  have f3 := hk.frozen 4
  have hfit := fit_len (by omega) fps fxs lps lxs
  have HFIT := Lib.hid hfit
  obtain ⟨A1, cap1, rfl, -⟩ := hop.list
  obtain ⟨A2, cap2, rfl, -⟩ := hox.list
  have fs := (Fr.set w4 w2.heap.size 3 (.slice A1 ps.length cap1)).trans (Fr.set (w4.setCell ⟨w2.heap.size, 3, none⟩ (.slice A1 ps.length cap1)) w2.heap.size 4 (.slice A2 xs.length cap2)) fun _ _ h => h
  obtain ⟨wz, hwz⟩ : ∃ wz, wz = (w4.setCell ⟨w2.heap.size, 3, none⟩ (.slice A1 ps.length cap1)).setCell ⟨w2.heap.size, 4, none⟩ (.slice A2 xs.length cap2) := ⟨_, rfl⟩
  have hk3 := (hk.set 3 (.slice A1 ps.length cap1)).set 4 (.slice A2 xs.length cap2)
  rw [← hwz] at fs hk3
  have HRF := Lib.hid (hr.fr fs (fun b hb => by omega)).drew
  have HKF : Hid (Has wz.drew w2.heap.size 87 #[.int .i64 R0.num.1, .int .i64 R0.num.2.num.1, .int .i64 R0.num.2.num.2.num.1, .slice A1 ps.length cap1, .slice A2 xs.length cap2]) := Lib.hid hk3
  have HBF := Lib.hid ((HB4.out.trans (hf.toBelow (fun k e => by omega) (by simp; omega))).trans (fs.toBelow (fun k e => by omega) (by omega))).drew
  have HZF := Lib.hid ((HZ4.out.fr hf (by omega)).fr fs (by omega)).drew
  have HP := Lib.hid ((hop.fr fs (fun b hb => by have := (hop.lt b hb).1; omega)).list.below (Below.refl _ _).drew (Nat.le_refl _))
  have HX := Lib.hid ((hox.fr fs (fun b hb => by have := (hox.lt b hb).1; omega)).list.below (Below.refl _ _).drew (Nat.le_refl _))
  have HPO := Lib.hid (fun b hb => by have := (hop.lt b hb).1; omega : ∀ b, (Value.slice A1 ps.length cap1).ownBlock = some b → ¬ b = W.heap.size)
  have HXO := Lib.hid (fun b hb => by have := (hox.lt b hb).1; omega : ∀ b, (Value.slice A2 xs.length cap2).ownBlock = some b → ¬ b = W.heap.size)
  have hzs := fs.size
  have hg4 := hr.lt
  clear hr hf fs hk hk3 HZ4 HB4 HR3 HK3 hop hox fps fxs
  go_wp2
  rw [← hwz]
  clear hwz c2 c3 f2 f3
  have HCV0 := Lib.hid (convert_bytes (HV.out.below HBF.out))
  cases hdone : (!R'.bad && decide (R'.rest.length = 0)) with
  | false =>
    first
      | (go_region_with (first | (go_at_call 53; refine (rdone_any _ R' _ HRF.out).mono ?_; rintro e wx ⟨rfl, rfl⟩; rw [hdone])))
      | fail
    all_goals
      generalize wz.drew = wd at *
      obtain ⟨z0, z1, z2, z3, z4⟩ := HZF.out.five
      have g0 := HZF.out.frozen 0
      have g1 := HZF.out.frozen 1
      have g2 := HZF.out.frozen 2
      have g3 := HZF.out.frozen 3
      have g4 := HZF.out.frozen 4
      go_wp2
      refine bodyPost_ret (results_cell_row2 rfl _ _ W.heap.size 87 _ (0, 0) _ rfl ((HZF.out.set5 (.int .i64 0) (.int .i64 0) (.int .i64 0) (.slice none 0 0) (.slice none 0 0))) Tryz.underlying87 rfl (by kernel_rfl)) rfl ⟨0, 0, 0, .slice none 0 0, .slice none 0 0, false, rfl, HBF.out.trans ((Fr.set5 _ W.heap.size (.int .i64 0) (.int .i64 0) (.int .i64 0) (.slice none 0 0) (.slice none 0 0)).toBelow (n := W.heap.size) (fun k e => by omega) HBF.out.size), ⟨_, _, _, rfl⟩, ⟨_, _, _, rfl⟩, fun h => by cases h⟩
  | true =>
    obtain ⟨q0, q1, q2, q3, q4⟩ := HKF.out.five
    have cq := HCV0.out
    cases hrt : rightD R0.num.1 R0.num.2.num.1 R0.num.2.num.2.num.1 ps xs with
    | false =>
      first
        | (go_region_with
            (first
              | (go_at_call 58; refine (deright_any _ _ _ _ _ ps xs (by omega) (by omega) _ HP.out HX.out).mono ?_; rintro e wy ⟨rfl, hb⟩; rw [hrt]; have KY := Lib.hid (HKF.out.below hb HKF.out.lt); obtain ⟨p0, p1, p2, p3, p4⟩ := KY.out.five; have HBY := Lib.hid (HBF.out.trans (hb.mono HBF.out.size)); have HZY := Lib.hid (HZF.out.below hb HZF.out.lt); have CY := Lib.hid (convert_bytes (HV.out.below HBY.out)); have cy := CY.out; clear hb)
              | (go_at_call 53; refine (rdone_any _ R' _ HRF.out).mono ?_; rintro e wx ⟨rfl, rfl⟩; rw [hdone])))
        | fail
      all_goals
        obtain ⟨z0, z1, z2, z3, z4⟩ := HZY.out.five
        have g0 := HZY.out.frozen 0
        have g1 := HZY.out.frozen 1
        have g2 := HZY.out.frozen 2
        have g3 := HZY.out.frozen 3
        have g4 := HZY.out.frozen 4
        go_wp2
        refine bodyPost_ret (results_cell_row2 rfl _ _ W.heap.size 87 _ (0, 0) _ rfl ((HZY.out.set5 (.int .i64 0) (.int .i64 0) (.int .i64 0) (.slice none 0 0) (.slice none 0 0))) Tryz.underlying87 rfl (by kernel_rfl)) rfl ⟨0, 0, 0, .slice none 0 0, .slice none 0 0, false, rfl, HBY.out.trans ((Fr.set5 _ W.heap.size (.int .i64 0) (.int .i64 0) (.int .i64 0) (.slice none 0 0) (.slice none 0 0)).toBelow (n := W.heap.size) (fun k e => by omega) HBY.out.size), ⟨_, _, _, rfl⟩, ⟨_, _, _, rfl⟩, fun h => by cases h⟩
    | true =>
      first
        | (go_region_with
            (first
              | (go_at_call 18; refine (debytes_any R0.num.1 R0.num.2.num.1 R0.num.2.num.2.num.1 _ _ ps xs HFIT.out _ HPY.out HXY.out).mono ?_; rintro e w5 ⟨v1, rfl, ho, hb5⟩; have hcv1 := convert_bytes ho.bytes; have CW := Lib.hid (convert_bytes ((HV.out.below HBY.out).below hb5)); have cw := CW.out; have HBW := Lib.hid (HBY.out.trans (hb5.mono HBY.out.size)); have HZW := Lib.hid (HZY.out.below hb5 HZY.out.lt); have KW := Lib.hid (KY.out.below hb5 KY.out.lt); have HPW := Lib.hid (HPY.out.below hb5 (Nat.le_refl _)); have HXW := Lib.hid (HXY.out.below hb5 (Nat.le_refl _)); obtain ⟨Av, capv, rfl, -⟩ := ho.bytes; clear ho hb5)
              | (go_at_call 58; refine (deright_any _ _ _ _ _ ps xs (by omega) (by omega) _ HP.out HX.out).mono ?_; rintro e wy ⟨rfl, hb⟩; rw [hrt]; have KY := Lib.hid (HKF.out.below hb HKF.out.lt); obtain ⟨p0, p1, p2, p3, p4⟩ := KY.out.five; have HBY := Lib.hid (HBF.out.trans (hb.mono HBF.out.size)); have HPY := Lib.hid (HP.out.below hb (Nat.le_refl _)); have HXY := Lib.hid (HX.out.below hb (Nat.le_refl _)); have HZY := Lib.hid (HZF.out.below hb HZF.out.lt); have CY := Lib.hid (convert_bytes (HV.out.below HBY.out)); have cy := CY.out; clear hb)
              | (go_at_call 53; refine (rdone_any _ R' _ HRF.out).mono ?_; rintro e wx ⟨rfl, rfl⟩; rw [hdone])))
        | fail
      all_goals
        obtain ⟨z0, z1, z2, z3, z4⟩ := HZW.out.five
        have g0 := HZW.out.frozen 0
        have g1 := HZW.out.frozen 1
        have g2 := HZW.out.frozen 2
        have g3 := HZW.out.frozen 3
        have g4 := HZW.out.frozen 4
        obtain ⟨y0, y1, y2, y3, y4⟩ := KW.out.five
        clear hcv1 cw
        go_wp2
        · skip
          refine bodyPost_ret (results_cell_row2 rfl _ _ W.heap.size 87 _ (0, 0) _ rfl ((HZW.out.set5 (.int .i64 0) (.int .i64 0) (.int .i64 0) (.slice none 0 0) (.slice none 0 0))) Tryz.underlying87 rfl (by kernel_rfl)) rfl ⟨0, 0, 0, .slice none 0 0, .slice none 0 0, false, rfl, HBW.out.trans ((Fr.set5 _ W.heap.size (.int .i64 0) (.int .i64 0) (.int .i64 0) (.slice none 0 0) (.slice none 0 0)).toBelow (n := W.heap.size) (fun k e => by omega) HBW.out.size), ⟨_, _, _, rfl⟩, ⟨_, _, _, rfl⟩, fun h => by cases h⟩
        · skip
          have heq : deBytes R0.num.1 R0.num.2.num.1 R0.num.2.num.2.num.1 ps xs = bs := eq_of_not_beq (by assumption)
          have fw := Fr.set5 w5 W.heap.size (.int .i64 R0.num.1) (.int .i64 R0.num.2.num.1) (.int .i64 R0.num.2.num.2.num.1) (.slice A1 ps.length cap1) (.slice A2 xs.length cap2)
          refine bodyPost_ret (results_cell_row2 rfl _ _ W.heap.size 87 _ (0, 0) _ rfl (HZW.out.set5 (.int .i64 R0.num.1) (.int .i64 R0.num.2.num.1) (.int .i64 R0.num.2.num.2.num.1) (.slice A1 ps.length cap1) (.slice A2 xs.length cap2)) Tryz.underlying87 rfl (by kernel_rfl)) rfl ⟨R0.num.1, R0.num.2.num.1, R0.num.2.num.2.num.1, _, _, true, rfl, HBW.out.trans (fw.toBelow (fun k e => by omega) HBW.out.size), ⟨_, _, _, rfl⟩, ⟨_, _, _, rfl⟩, fun _ => ⟨ps, xs, HPW.out.fr fw (fun _ b hb => HPO.out b hb), HXW.out.fr fw (fun _ b hb => HXO.out b hb), HFIT.out, heq⟩⟩

end Go.Proofs.YtjkkclfndlfjhaaGreatDoor
