/- Contract of edits.Read: the walk. -/
import Derived.Test.YtjkkclfndlfjhaaGreatDoorRow
import Derived.BigQuiet
import Derived.Test.YtjkkclfndlfjhaaGreatDoorRea
set_option linter.all false
namespace Go.Proofs.YtjkkclfndlfjhaaGreatDoor
open Go.RowKit Crc Frm Go.ChangeShapes Go.WideShapes Go.ChangeAt

set_option maxRecDepth 100000 in
set_option maxHeartbeats 6400000 in
theorem edread_any (v : Value) (bs : List UInt8) (hl : bs.length ≤ 16384) (W : World) (hv : IsBytes W v bs) : Calls Tryz.prog 21 #[v] W (EdRead bs W) := by
  obtain ⟨i1, hi1, hz1, hs1', hb1⟩ := info_parts info173
  obtain ⟨i2, hi2, hz2, hs2', hb2⟩ := info_parts info9
  have HV := Lib.hid hv
  obtain ⟨A, cap, rfl, -, -, -⟩ := hv
  have hb0 : Below W.heap.size W (W.alloc (.cells #[.slice none 0 0, .slice none 0 0, .int .i64 0] 97)) := (Below.refl _ W).alloc (Nat.le_refl _) _
  have HB0 := Lib.hid hb0
  clear hb0
  go_enter Tryz.func21, Tryz.ntmps21
  go_wp2_with fail
  refine (rof_any _ bs _ (HV.out.below HB0.out)).mono ?_
  rintro e w1 ⟨rfl, hr, hb⟩
  have hs1 := hb.size
  simp only [World.size_alloc] at hr hb hs1 ⊢
  have hg1 := hr.lt
  have HR := Lib.hid hr
  have HB1 := Lib.hid (HB0.out.trans (hb.mono (Nat.le_succ _)))
  have HZ1 := Lib.hid ((Has.new W 97 #[.slice none 0 0, .slice none 0 0, .int .i64 0]).below hb (Nat.lt_succ_self _))
  clear hr hb HB0
  generalize hR0 : (⟨bs, false⟩ : Rs) = R0 at *
  have hR0l : R0.rest.length ≤ 16384 := by rw [← hR0]; exact hl
  clear hR0
  go_wp2_with fail
  refine (rnum_any _ R0 (by omega) _ HR.out).mono ?_
  rintro e w2 ⟨rfl, hr, hf⟩
  have hs2 := hf.size
  have ha := (Below.refl w2.heap.size w2).alloc (Nat.le_refl _) (.cells #[.slice none 0 0, .slice none 0 0, .int .i64 R0.num.1] 97)
  have he1 : EdIn W W.heap.size (W.heap.size + 1) w2.heap.size R0.num.1 (.slice none 0 0) (.slice none 0 0) [] [] R0.num.2 (w2.alloc (.cells #[.slice none 0 0, .slice none 0 0, .int .i64 R0.num.1] 97)) :=
    ⟨(HB1.out.trans (hf.toBelow (fun k e => by omega) (by omega))).trans (ha.mono (by omega)), (HZ1.out.fr hf (by omega)).below ha (by omega), hr.kept ha, Has.new w2 97 _, OwnL.nil _ _ _ _, OwnL.nil _ _ _ _⟩
  have HE1 := Lib.hid he1
  have hl1 := R0.num_len
  clear hr hf ha HZ1 HB1 he1
  go_wp2_with fail
  refine (rnum_any _ R0.num.2 (by omega) _ HE1.out.2.2.1).mono ?_
  rintro e w3 ⟨rfl, hr, hf⟩
  have hs3 := hf.size
  simp only [World.size_alloc] at hs3
  have HE2 := Lib.hid (HE1.out.read (by omega) (by omega) (Nat.le_refl _) (by simp) hf hr)
  have hnb := R0.num.2.num_bounds
  have hl2 := R0.num.2.num_len
  have hrl : R0.num.2.num.2.rest.length ≤ 16384 := by omega
  clear hr hf HE1
  generalize R0.num.2.num.1 = n0 at *
  generalize R0.num.2.num.2 = RA at *
  clear hl1 hl2
  go_wp2
  go_loopw [6] (fun s6 wr => ∃ (n : Int) (add : List Rf) (R' : Rs) (av : Value), s6 = .int .i64 n ∧ -9223372036854775808 ≤ n ∧ n ≤ 9223372036854775807 ∧ EdIn W W.heap.size (W.heap.size + 1) w2.heap.size R0.num.1 av (.slice none 0 0) add [] R' wr ∧ w2.heap.size < wr.heap.size ∧ FitRf 16384 add ∧ R'.Room 16384 add.length) (fun i _ => (intOf i).toNat)
  case atStart => exact ⟨n0, [], RA, .slice none 0 0, rfl, hnb.1, hnb.2, HE2.out, by omega, fun p hp => by simp at hp, by omega, by simp; omega⟩
  case round =>
    clear HE2 hnb hrl hs3
    obtain ⟨n, add, R', av, rfl, hn1, hn2, he, hlt, hfit, hroom⟩ := hrel
    have hRN := hroom.1
    by_cases hc : 0 < n ∧ R'.bad = false
    · obtain ⟨hn, hbad⟩ := hc
      have hol : ∀ b, av.ownBlock = some b → w2.heap.size < b ∧ b < wr.heap.size := fun b hb => by have := he.2.2.2.2.1.lt b hb; omega
      have HOL := Lib.hid hol
      have HE := Lib.hid he
      have HFIT := Lib.hid hfit
      have HROOM := Lib.hid hroom
      have HBAD := Lib.hid hbad
      clear he hfit hroom hol
      go_wp2_with fail
      refine (rbad_any _ R' _ HE.out.2.2.1).mono ?_
      rintro e w4 ⟨rfl, rfl⟩
      rw [hbad]
      clear hbad
      go_wp2_with fail
      refine (rtext_any _ R' (by omega) _ HE.out.2.2.1).mono ?_
      rintro e w5 ⟨rfl, hr, hf⟩
      have hs5 := hf.size
      have HF0 := Lib.hid ((HE.out.read (by omega) (by omega) (Nat.le_refl _) hlt hf hr).alloc (.cells #[.string R'.text.1, .int .i64 0, .int .i64 0, .int .i64 0] 173))
      have HK0 := Lib.hid (Has.new w5 173 #[.string R'.text.1, .int .i64 0, .int .i64 0, .int .i64 0])
      have hl1 := R'.text_len
      have hz1' := R'.text_size
      clear hr hf
      go_wp2_with fail
      refine (rbyte_any _ R'.text.2 (by omega) _ HF0.out.2.2.1).mono ?_
      rintro e wk1 ⟨rfl, hr, hf⟩
      have hsk1 := hf.size
      simp only [World.size_alloc] at hsk1
      have hk := HK0.out.fr hf (by omega)
      have HK1 : Hid (Has _ w5.heap.size 173 #[.string R'.text.1, .int .i64 (R'.text.2.byte.1.toNat : Int), .int .i64 0, .int .i64 0]) := Lib.hid (hk.set 1 (.int .i64 (R'.text.2.byte.1.toNat : Int)))
      have HF1 := Lib.hid ((HF0.out.read (by omega) (by omega) (Nat.le_refl _) (by simp; omega) hf hr).set (by omega) (by omega) (Nat.le_refl _) (by omega) w5.heap.size 1 (.int .i64 (R'.text.2.byte.1.toNat : Int)) (by omega) (fun k hk => by have := HOL.out k hk; omega) (fun k hk => by cases hk))
      have c1 : wk1.cell? ⟨w5.heap.size, 1, none⟩ = some (.int .i64 0) := hk.cell 1
      have f1 := hk.frozen 1
      have hl2 := R'.text.2.byte_len
      have hcl := R'.text.2.byte.1.toNat_lt
      clear hr hf hk HK0 HF0
      go_wp2_with fail
      refine (rnum_any _ R'.text.2.byte.2 (by omega) _ HF1.out.2.2.1).mono ?_
      rintro e wk2 ⟨rfl, hr, hf⟩
      have hsk2 := hf.size
      simp only [World.size_setCell] at hsk2
      have hk := HK1.out.fr hf (by omega)
      have HK2 : Hid (Has _ w5.heap.size 173 #[.string R'.text.1, .int .i64 (R'.text.2.byte.1.toNat : Int), .int .i64 R'.text.2.byte.2.num.1, .int .i64 0]) := Lib.hid (hk.set 2 (.int .i64 R'.text.2.byte.2.num.1))
      have HF2 := Lib.hid ((HF1.out.read (by omega) (by omega) (Nat.le_refl _) (by simp; omega) hf hr).set (by omega) (by omega) (Nat.le_refl _) (by omega) w5.heap.size 2 (.int .i64 R'.text.2.byte.2.num.1) (by omega) (fun k hk => by have := HOL.out k hk; omega) (fun k hk => by cases hk))
      have c2 : wk2.cell? ⟨w5.heap.size, 2, none⟩ = some (.int .i64 0) := hk.cell 2
      have f2 := hk.frozen 2
      have hl3 := R'.text.2.byte.2.num_len
      clear hr hf hk HK1 HF1 c1 f1
      go_wp2_with fail
      refine (rnum_any _ R'.text.2.byte.2.num.2 (by omega) _ HF2.out.2.2.1).mono ?_
      rintro e wk3 ⟨rfl, hr, hf⟩
      have hsk3 := hf.size
      simp only [World.size_setCell] at hsk3
      have hk := HK2.out.fr hf (by omega)
      have HK3 : Hid (Has _ w5.heap.size 173 #[.string R'.text.1, .int .i64 (R'.text.2.byte.1.toNat : Int), .int .i64 R'.text.2.byte.2.num.1, .int .i64 R'.text.2.byte.2.num.2.num.1]) := Lib.hid (hk.set 3 (.int .i64 R'.text.2.byte.2.num.2.num.1))
      have HF3 := Lib.hid ((HF2.out.read (by omega) (by omega) (Nat.le_refl _) (by simp; omega) hf hr).set (by omega) (by omega) (Nat.le_refl _) (by omega) w5.heap.size 3 (.int .i64 R'.text.2.byte.2.num.2.num.1) (by omega) (fun k hk => by have := HOL.out k hk; omega) (fun k hk => by cases hk))
      have c3 : wk3.cell? ⟨w5.heap.size, 3, none⟩ = some (.int .i64 0) := hk.cell 3
      have f3 := hk.frozen 3
      have hl4 := R'.text.2.byte.2.num.2.num_len
      have d0 : wk3.cell? ⟨w5.heap.size, 0, none⟩ = some (.string R'.text.1) := hk.cell 0
      have d1 : wk3.cell? ⟨w5.heap.size, 1, none⟩ = some (.int .i64 (R'.text.2.byte.1.toNat : Int)) := hk.cell 1
      have d2 : wk3.cell? ⟨w5.heap.size, 2, none⟩ = some (.int .i64 R'.text.2.byte.2.num.1) := hk.cell 2
      have g0 : wk3.cell? ⟨w2.heap.size, 0, none⟩ = some av := (HF2.out.2.2.2.1.fr hf (by omega)).cell 0
      clear hr hf hk HK2 c2 f2
      obtain ⟨Aa, na, ca, hav⟩ : ∃ A n c, av = .slice A n c := by
        obtain ⟨A, c, h, -⟩ := HE.out.2.2.2.2.1.list
        exact ⟨A, _, c, h⟩
      subst hav
      have hne : (w5.heap.size == w2.heap.size) = false := by simp; omega
      go_wp2_with (at_builtin; refine wpl_append_el _ rfl 94 173 (.tmp 39) (.tmp 41) rfl (w2.heap.size + 1) _ add ⟨R'.text.1, (R'.text.2.byte.1.toNat : Int), R'.text.2.byte.2.num.1, R'.text.2.byte.2.num.2.num.1⟩ i1 _ 40 Tryz.underlying94 hi1 hz1 hs1' hb1 rfl (by decide) rfl ((HF3.out.alloc _).2.2.2.2.1) ⟨wk3.heap.size, 0, none⟩ 1 rfl ?_ (by have := HROOM.out.2; simp only [HBAD.out] at this; simp at this; omega) (by simp; omega) ?_)
      · intro j u hj
        have h := cells_new (wk3.setCell ⟨w5.heap.size, 3, none⟩ (.int .i64 R'.text.2.byte.2.num.2.num.1)) 173 #[.string R'.text.1, .int .i64 (R'.text.2.byte.1.toNat : Int), .int .i64 R'.text.2.byte.2.num.1, .int .i64 R'.text.2.byte.2.num.2.num.1] j u hj
        simp only [World.size_setCell] at h
        exact h
      intro v1 w6 ho1 hg1 _
      obtain ⟨e1, e2⟩ := (HF3.out.alloc (.cells #[.string R'.text.1, .int .i64 (R'.text.2.byte.1.toNat : Int), .int .i64 R'.text.2.byte.2.num.1, .int .i64 R'.text.2.byte.2.num.2.num.1] 173)).addOne (by omega) (by omega) (Nat.le_refl _) (by simp; omega) hg1 ho1
      have h0 : w6.cell? ⟨w2.heap.size, 0, none⟩ = some (.slice Aa na ca) := e1.cell 0
      have k0 := e1.frozen 0
      have hs6 := hg1.size
      simp only [World.size_alloc, World.size_setCell] at hs6
      have HE6 := Lib.hid e2
      obtain ⟨A1, c1', hv1, -⟩ := ho1.list
      obtain ⟨nn, hnn⟩ : ∃ nn, v1 = .slice A1 nn c1' := ⟨_, hv1⟩
      clear hv1
      subst hnn
      clear ho1 hg1 e1 e2 c3 f3 d0 d1 d2 g0
      go_wp2
      go_roundw
      case rel => exact ⟨n - 1, add ++ [⟨R'.text.1, (R'.text.2.byte.1.toNat : Int), R'.text.2.byte.2.num.1, R'.text.2.byte.2.num.2.num.1⟩], R'.text.2.byte.2.num.2.num.2, _, by go_num, by omega, by omega, HE6.out, by simp; omega, HFIT.out.snoc (by simp only; omega), by rw [List.length_append]; exact HROOM.out.two HBAD.out (by omega) (Rs.ref_less R')⟩
      case measure => simp [intOf]; omega
    · have hpl : 8 * add.length ≤ 16384 + 8 := by have := hroom.2; split at this <;> omega
      have hbb : 0 < n → R'.bad = true := fun h => by cases hbb : R'.bad <;> simp_all
      have HFIT := Lib.hid hfit
      obtain ⟨Aa, na, ca, hav⟩ : ∃ A n c, av = .slice A n c := by
        obtain ⟨A, c, h, -⟩ := he.2.2.2.2.1.list
        exact ⟨A, _, c, h⟩
      subst hav
      have HE := Lib.hid he
      clear he hfit hroom hc
      by_cases hn : 0 < n
      · have hbad := hbb hn
        go_wp2_with fail
        refine (rbad_any _ R' _ HE.out.2.2.1).mono ?_
        rintro e w4 ⟨rfl, rfl⟩
        rw [hbad]
        clear hbad
        go_wp2_with fail
        refine (rnum_any _ R' (by omega) _ HE.out.2.2.1).mono ?_
        rintro e wA ⟨rfl, hr, hf⟩
        have hsA := hf.size
        have HEA := Lib.hid (HE.out.read (by omega) (by omega) (Nat.le_refl _) hlt hf hr)
        have hb2 := R'.num_bounds
        have hl2 := R'.num_len
        have hok2 : R'.num.2.rest.length ≤ 16384 := by omega
        clear hr hf HE
        generalize R'.num.1 = m0 at *
        generalize R'.num.2 = RA2 at *
        clear hl2
        go_wp2
        go_loopw [8] (fun s8 wr => ∃ (n : Int) (drop : List ByteArray) (R' : Rs) (dv : Value), s8 = .int .i64 n ∧ -9223372036854775808 ≤ n ∧ n ≤ 9223372036854775807 ∧ EdIn W W.heap.size (W.heap.size + 1) w2.heap.size R0.num.1 (.slice Aa na ca) dv add drop R' wr ∧ w2.heap.size < wr.heap.size ∧ FitStr 16384 drop ∧ R'.Room 16384 drop.length) (fun i _ => (intOf i).toNat)
        case atStart => exact ⟨m0, [], RA2, .slice none 0 0, rfl, hb2.1, hb2.2, HEA.out, by omega, fun p hp => by simp at hp, by omega, by simp; omega⟩
        case round =>
          clear HEA hb2 hok2 hsA
          obtain ⟨n2, drop, R2, dv, rfl, hm1, hm2, he, hlt2, hfit2, hroom2⟩ := hrel
          have hRN2 := hroom2.1
          obtain ⟨Ad, nd, cd, hdv⟩ : ∃ A n c, dv = .slice A n c := by
            obtain ⟨A, c, h, -⟩ := he.2.2.2.2.2.list
            exact ⟨A, _, c, h⟩
          subst hdv
          have HE := Lib.hid he
          have HFIT2 := Lib.hid hfit2
          have HROOM2 := Lib.hid hroom2
          clear he hfit2 hroom2
          by_cases hc2 : 0 < n2 ∧ R2.bad = false
          · obtain ⟨hn, hbad⟩ := hc2
            have HBAD := Lib.hid hbad
            go_wp2_with fail
            refine (rbad_any _ R2 _ HE.out.2.2.1).mono ?_
            rintro e w4 ⟨rfl, rfl⟩
            rw [hbad]
            clear hbad
            have HED := Lib.hid HE.out.drew
            have g1 : w4.drew.cell? ⟨w2.heap.size, 1, none⟩ = some (.slice Ad nd cd) := HED.out.2.2.2.1.cell 1
            have hld : w2.heap.size < w4.drew.heap.size := hlt2
            have hl1 := R2.text_len
            have hz1' := R2.text_size
            go_wp2_with fail
            first
              | (go_region_law (first
                  | (refine step_append_el _ (by rfl) 95 9 (.tmp 56) (.tmp 59) (by rfl) (w2.heap.size + 1) (.slice Ad nd cd) drop R2.text.1 i2 _ 16 Tryz.underlying95 hi2 hz2 hs2' hb2 rfl (by decide) (by rfl) (HF0.out.alloc _).2.2.2.2.2 ⟨w5.heap.size, 0, none⟩ 1 (by rfl) ?_ ?_ ?_ ?_; (exact cells_new w5 9 #[.string R2.text.1]); (have := HROOM2.out.2; simp only [HBAD.out] at this; simp at this; omega); (simp; omega); intro v1 w6 ho1 hg1 _; obtain ⟨e1, e2⟩ := (HF0.out.alloc (.cells #[.string R2.text.1] 9)).dropOne (by omega) (by omega) (Nat.le_refl _) (by simp; omega) hg1 ho1; have h0 : w6.cell? ⟨w2.heap.size, 1, none⟩ = some (.slice Ad nd cd) := e1.cell 1; have k0 := e1.frozen 1; have hs6 := hg1.size; simp only [World.size_alloc] at hs6; have HE6 := Lib.hid e2; obtain ⟨A1, c1', hv1, -⟩ := ho1.list; obtain ⟨nn, hnn⟩ : ∃ nn, v1 = .slice A1 nn c1' := ⟨_, hv1⟩; clear hv1; subst hnn; clear ho1 hg1 e1 e2)
                  | (go_simp; go_at_call 62; refine (rtext_any _ R2 (by omega) _ HED.out.2.2.1).mono ?_; rintro e w5 ⟨rfl, hr, hf⟩; have hs5 := hf.size; have hs5' : w4.heap.size ≤ w5.heap.size := hs5; have HF0 := Lib.hid (HED.out.read (by omega) (by omega) (Nat.le_refl _) hld hf hr); have g2 : w5.cell? ⟨w2.heap.size, 1, none⟩ = some (.slice Ad nd cd) := HF0.out.2.2.2.1.cell 1; have g3 : ∀ o, (w5.alloc o).cell? ⟨w2.heap.size, 1, none⟩ = some (.slice Ad nd cd) := fun o => (HF0.out.alloc o).2.2.2.1.cell 1; clear hr hf)))
              | fail
            all_goals
              go_wp2
              go_roundw
              case rel => exact ⟨n2 - 1, drop ++ [R2.text.1], R2.text.2, _, by go_num, by omega, by omega, HE6.out, by simp; omega, HFIT2.out.snoc (by omega), by rw [List.length_append]; exact HROOM2.out.two HBAD.out (by omega) (fun h => R2.text_less h)⟩
              case measure => simp [intOf]; omega
          · have hxl : 8 * drop.length ≤ 16384 + 8 := by have := HROOM2.out.2; split at this <;> omega
            have hbb2 : 0 < n2 → R2.bad = true := fun h => by cases hbb : R2.bad <;> simp_all
            have HLEN := Lib.hid (ed_len (floor := R0.num.1) (Nat.le_refl _) HFIT.out HFIT2.out hpl hxl)
            by_cases hn : 0 < n2
            · have hbad := hbb2 hn
              go_wp2_with fail
              refine (rbad_any _ R2 _ HE.out.2.2.1).mono ?_
              rintro e w4 ⟨rfl, rfl⟩
              rw [hbad]
              clear hbad
              go_wp2
              have hlw : w2.heap.size < w4.drew.heap.size := hlt2
              have HED := Lib.hid HE.out.drew
              have CV0 := Lib.hid (convert_bytes (HV.out.below HED.out.1))
              cases hdone : (!R2.bad && decide (R2.rest.length = 0)) with
              | false =>
                have CD : Hid (∀ n, Calls Tryz.prog 53 #[.pointer (some ⟨W.heap.size + 1, 0, none⟩)] (w4.drewN n) fun e w'' => e = .returned (.bool false) ∧ ∃ m, w'' = w4.drewN m) := Lib.hid fun n => (rdone_any _ R2 _ (HE.out.2.2.1.kept (below_drewN (Below.refl _ _) n))).mono fun e w'' h => ⟨by rw [← hdone]; exact h.1, n, h.2⟩
                go_quiet ((go_at_call 53; exact CD.out _))
                obtain ⟨z0, z1, z2⟩ := HE.out.2.1.three
                have g0 := HE.out.2.1.frozen 0
                have g1 := HE.out.2.1.frozen 1
                have g2 := HE.out.2.1.frozen 2
                go_wp2
                refine bodyPost_ret (results_cell_row2 rfl _ _ W.heap.size 97 _ (0, 0) _ rfl ((HE.out.2.1.below (below_drewN (Below.refl _ _) _) HE.out.2.1.lt).set3 (.slice none 0 0) (.slice none 0 0) (.int .i64 0)) Tryz.underlying97 rfl (by kernel_rfl)) rfl ⟨0, .slice none 0 0, .slice none 0 0, false, rfl, (below_drewN HE.out.1 _).trans ((Fr.set3 _ W.heap.size (.slice none 0 0) (.slice none 0 0) (.int .i64 0)).toBelow (n := W.heap.size) (fun k e => by omega) (below_drewN HE.out.1 _).size), ⟨_, _, _, rfl⟩, ⟨_, _, _, rfl⟩, fun h => by cases h⟩
              | true =>
                obtain ⟨q0, q1, q2⟩ := HED.out.2.2.2.1.three
                have cq := CV0.out
                first
                  | (go_region_with (first
                      | (go_at_call 22; refine (edbytes_any R0.num.1 _ _ add drop HLEN.out _ HED.out.2.2.2.2.1.list HED.out.2.2.2.2.2.list).mono ?_; rintro e w5 ⟨v1, rfl, ho, hb5⟩; have hcv1 := convert_bytes ho.bytes; have cw := convert_bytes ((HV.out.below HED.out.1).below hb5); have HBW := Lib.hid (HED.out.1.trans (hb5.mono HED.out.1.size)); have HZW := Lib.hid (HED.out.2.1.below hb5 HED.out.2.1.lt); have KW := Lib.hid (HED.out.2.2.2.1.below hb5 HED.out.2.2.2.1.lt); have HPW := Lib.hid (HED.out.2.2.2.2.1.list.below hb5 (Nat.le_refl _)); have HXW := Lib.hid (HED.out.2.2.2.2.2.list.below hb5 (Nat.le_refl _)); obtain ⟨Av, capv, rfl, -⟩ := ho.bytes; clear ho hb5)
                      | (go_at_call 53; refine (rdone_any _ R2 _ HED.out.2.2.1).mono ?_; rintro e wx ⟨rfl, rfl⟩; rw [hdone])))
                  | fail
                all_goals
                  obtain ⟨z0, z1, z2⟩ := HZW.out.three
                  have g0 := HZW.out.frozen 0
                  have g1 := HZW.out.frozen 1
                  have g2 := HZW.out.frozen 2
                  obtain ⟨y0, y1, y2⟩ := KW.out.three
                  clear hcv1 cw
                  go_wp2
                  · skip
                    refine bodyPost_ret (results_cell_row2 rfl _ _ W.heap.size 97 _ (0, 0) _ rfl (HZW.out.set3 (.slice none 0 0) (.slice none 0 0) (.int .i64 0)) Tryz.underlying97 rfl (by kernel_rfl)) rfl ⟨0, .slice none 0 0, .slice none 0 0, false, rfl, HBW.out.trans ((Fr.set3 _ W.heap.size (.slice none 0 0) (.slice none 0 0) (.int .i64 0)).toBelow (n := W.heap.size) (fun k e => by omega) HBW.out.size), ⟨_, _, _, rfl⟩, ⟨_, _, _, rfl⟩, fun h => by cases h⟩
                  · skip
                    have heq : edBytes R0.num.1 add drop = bs := eq_of_not_beq (by assumption)
                    have fw := Fr.set3 w5 W.heap.size (.slice Aa na ca) (.slice Ad nd cd) (.int .i64 R0.num.1)
                    refine bodyPost_ret (results_cell_row2 rfl _ _ W.heap.size 97 _ (0, 0) _ rfl (HZW.out.set3 (.slice Aa na ca) (.slice Ad nd cd) (.int .i64 R0.num.1)) Tryz.underlying97 rfl (by kernel_rfl)) rfl ⟨R0.num.1, _, _, true, rfl, HBW.out.trans (fw.toBelow (fun k e => by omega) HBW.out.size), ⟨_, _, _, rfl⟩, ⟨_, _, _, rfl⟩, fun _ => ⟨add, drop, HPW.out.fr fw (fun _ b hb e => by have := (HED.out.2.2.2.2.1.lt b hb).1; omega), HXW.out.fr fw (fun _ b hb e => by have := (HED.out.2.2.2.2.2.lt b hb).1; omega), heq⟩⟩
            · go_wp2
              have hlw : w2.heap.size < wr.drew.heap.size := hlt2
              have HED := Lib.hid HE.out.drew
              have CV0 := Lib.hid (convert_bytes (HV.out.below HED.out.1))
              cases hdone : (!R2.bad && decide (R2.rest.length = 0)) with
              | false =>
                have CD : Hid (∀ n, Calls Tryz.prog 53 #[.pointer (some ⟨W.heap.size + 1, 0, none⟩)] (wr.drewN n) fun e w'' => e = .returned (.bool false) ∧ ∃ m, w'' = wr.drewN m) := Lib.hid fun n => (rdone_any _ R2 _ (HE.out.2.2.1.kept (below_drewN (Below.refl _ _) n))).mono fun e w'' h => ⟨by rw [← hdone]; exact h.1, n, h.2⟩
                go_quiet ((go_at_call 53; exact CD.out _))
                obtain ⟨z0, z1, z2⟩ := HE.out.2.1.three
                have g0 := HE.out.2.1.frozen 0
                have g1 := HE.out.2.1.frozen 1
                have g2 := HE.out.2.1.frozen 2
                go_wp2
                refine bodyPost_ret (results_cell_row2 rfl _ _ W.heap.size 97 _ (0, 0) _ rfl ((HE.out.2.1.below (below_drewN (Below.refl _ _) _) HE.out.2.1.lt).set3 (.slice none 0 0) (.slice none 0 0) (.int .i64 0)) Tryz.underlying97 rfl (by kernel_rfl)) rfl ⟨0, .slice none 0 0, .slice none 0 0, false, rfl, (below_drewN HE.out.1 _).trans ((Fr.set3 _ W.heap.size (.slice none 0 0) (.slice none 0 0) (.int .i64 0)).toBelow (n := W.heap.size) (fun k e => by omega) (below_drewN HE.out.1 _).size), ⟨_, _, _, rfl⟩, ⟨_, _, _, rfl⟩, fun h => by cases h⟩
              | true =>
                obtain ⟨q0, q1, q2⟩ := HED.out.2.2.2.1.three
                have cq := CV0.out
                first
                  | (go_region_with (first
                      | (go_at_call 22; refine (edbytes_any R0.num.1 _ _ add drop HLEN.out _ HED.out.2.2.2.2.1.list HED.out.2.2.2.2.2.list).mono ?_; rintro e w5 ⟨v1, rfl, ho, hb5⟩; have hcv1 := convert_bytes ho.bytes; have cw := convert_bytes ((HV.out.below HED.out.1).below hb5); have HBW := Lib.hid (HED.out.1.trans (hb5.mono HED.out.1.size)); have HZW := Lib.hid (HED.out.2.1.below hb5 HED.out.2.1.lt); have KW := Lib.hid (HED.out.2.2.2.1.below hb5 HED.out.2.2.2.1.lt); have HPW := Lib.hid (HED.out.2.2.2.2.1.list.below hb5 (Nat.le_refl _)); have HXW := Lib.hid (HED.out.2.2.2.2.2.list.below hb5 (Nat.le_refl _)); obtain ⟨Av, capv, rfl, -⟩ := ho.bytes; clear ho hb5)
                      | (go_at_call 53; refine (rdone_any _ R2 _ HED.out.2.2.1).mono ?_; rintro e wx ⟨rfl, rfl⟩; rw [hdone])))
                  | fail
                all_goals
                  obtain ⟨z0, z1, z2⟩ := HZW.out.three
                  have g0 := HZW.out.frozen 0
                  have g1 := HZW.out.frozen 1
                  have g2 := HZW.out.frozen 2
                  obtain ⟨y0, y1, y2⟩ := KW.out.three
                  clear hcv1 cw
                  go_wp2
                  · skip
                    refine bodyPost_ret (results_cell_row2 rfl _ _ W.heap.size 97 _ (0, 0) _ rfl (HZW.out.set3 (.slice none 0 0) (.slice none 0 0) (.int .i64 0)) Tryz.underlying97 rfl (by kernel_rfl)) rfl ⟨0, .slice none 0 0, .slice none 0 0, false, rfl, HBW.out.trans ((Fr.set3 _ W.heap.size (.slice none 0 0) (.slice none 0 0) (.int .i64 0)).toBelow (n := W.heap.size) (fun k e => by omega) HBW.out.size), ⟨_, _, _, rfl⟩, ⟨_, _, _, rfl⟩, fun h => by cases h⟩
                  · skip
                    have heq : edBytes R0.num.1 add drop = bs := eq_of_not_beq (by assumption)
                    have fw := Fr.set3 w5 W.heap.size (.slice Aa na ca) (.slice Ad nd cd) (.int .i64 R0.num.1)
                    refine bodyPost_ret (results_cell_row2 rfl _ _ W.heap.size 97 _ (0, 0) _ rfl (HZW.out.set3 (.slice Aa na ca) (.slice Ad nd cd) (.int .i64 R0.num.1)) Tryz.underlying97 rfl (by kernel_rfl)) rfl ⟨R0.num.1, _, _, true, rfl, HBW.out.trans (fw.toBelow (fun k e => by omega) HBW.out.size), ⟨_, _, _, rfl⟩, ⟨_, _, _, rfl⟩, fun _ => ⟨add, drop, HPW.out.fr fw (fun _ b hb e => by have := (HED.out.2.2.2.2.1.lt b hb).1; omega), HXW.out.fr fw (fun _ b hb e => by have := (HED.out.2.2.2.2.2.lt b hb).1; omega), heq⟩⟩
      · go_wp2_with fail
        refine (rnum_any _ R' (by omega) _ HE.out.2.2.1).mono ?_
        rintro e wA ⟨rfl, hr, hf⟩
        have hsA := hf.size
        have HEA := Lib.hid (HE.out.read (by omega) (by omega) (Nat.le_refl _) hlt hf hr)
        have hb2 := R'.num_bounds
        have hl2 := R'.num_len
        have hok2 : R'.num.2.rest.length ≤ 16384 := by omega
        clear hr hf HE
        generalize R'.num.1 = m0 at *
        generalize R'.num.2 = RA2 at *
        clear hl2
        go_wp2
        go_loopw [8] (fun s8 wr => ∃ (n : Int) (drop : List ByteArray) (R' : Rs) (dv : Value), s8 = .int .i64 n ∧ -9223372036854775808 ≤ n ∧ n ≤ 9223372036854775807 ∧ EdIn W W.heap.size (W.heap.size + 1) w2.heap.size R0.num.1 (.slice Aa na ca) dv add drop R' wr ∧ w2.heap.size < wr.heap.size ∧ FitStr 16384 drop ∧ R'.Room 16384 drop.length) (fun i _ => (intOf i).toNat)
        case atStart => exact ⟨m0, [], RA2, .slice none 0 0, rfl, hb2.1, hb2.2, HEA.out, by omega, fun p hp => by simp at hp, by omega, by simp; omega⟩
        case round =>
          clear HEA hb2 hok2 hsA
          obtain ⟨n2, drop, R2, dv, rfl, hm1, hm2, he, hlt2, hfit2, hroom2⟩ := hrel
          have hRN2 := hroom2.1
          obtain ⟨Ad, nd, cd, hdv⟩ : ∃ A n c, dv = .slice A n c := by
            obtain ⟨A, c, h, -⟩ := he.2.2.2.2.2.list
            exact ⟨A, _, c, h⟩
          subst hdv
          have HE := Lib.hid he
          have HFIT2 := Lib.hid hfit2
          have HROOM2 := Lib.hid hroom2
          clear he hfit2 hroom2
          by_cases hc2 : 0 < n2 ∧ R2.bad = false
          · obtain ⟨hn, hbad⟩ := hc2
            have HBAD := Lib.hid hbad
            go_wp2_with fail
            refine (rbad_any _ R2 _ HE.out.2.2.1).mono ?_
            rintro e w4 ⟨rfl, rfl⟩
            rw [hbad]
            clear hbad
            have HED := Lib.hid HE.out.drew
            have g1 : w4.drew.cell? ⟨w2.heap.size, 1, none⟩ = some (.slice Ad nd cd) := HED.out.2.2.2.1.cell 1
            have hld : w2.heap.size < w4.drew.heap.size := hlt2
            have hl1 := R2.text_len
            have hz1' := R2.text_size
            go_wp2_with fail
            first
              | (go_region_law (first
                  | (refine step_append_el _ (by rfl) 95 9 (.tmp 56) (.tmp 59) (by rfl) (w2.heap.size + 1) (.slice Ad nd cd) drop R2.text.1 i2 _ 16 Tryz.underlying95 hi2 hz2 hs2' hb2 rfl (by decide) (by rfl) (HF0.out.alloc _).2.2.2.2.2 ⟨w5.heap.size, 0, none⟩ 1 (by rfl) ?_ ?_ ?_ ?_; (exact cells_new w5 9 #[.string R2.text.1]); (have := HROOM2.out.2; simp only [HBAD.out] at this; simp at this; omega); (simp; omega); intro v1 w6 ho1 hg1 _; obtain ⟨e1, e2⟩ := (HF0.out.alloc (.cells #[.string R2.text.1] 9)).dropOne (by omega) (by omega) (Nat.le_refl _) (by simp; omega) hg1 ho1; have h0 : w6.cell? ⟨w2.heap.size, 1, none⟩ = some (.slice Ad nd cd) := e1.cell 1; have k0 := e1.frozen 1; have hs6 := hg1.size; simp only [World.size_alloc] at hs6; have HE6 := Lib.hid e2; obtain ⟨A1, c1', hv1, -⟩ := ho1.list; obtain ⟨nn, hnn⟩ : ∃ nn, v1 = .slice A1 nn c1' := ⟨_, hv1⟩; clear hv1; subst hnn; clear ho1 hg1 e1 e2)
                  | (go_simp; go_at_call 62; refine (rtext_any _ R2 (by omega) _ HED.out.2.2.1).mono ?_; rintro e w5 ⟨rfl, hr, hf⟩; have hs5 := hf.size; have hs5' : w4.heap.size ≤ w5.heap.size := hs5; have HF0 := Lib.hid (HED.out.read (by omega) (by omega) (Nat.le_refl _) hld hf hr); have g2 : w5.cell? ⟨w2.heap.size, 1, none⟩ = some (.slice Ad nd cd) := HF0.out.2.2.2.1.cell 1; have g3 : ∀ o, (w5.alloc o).cell? ⟨w2.heap.size, 1, none⟩ = some (.slice Ad nd cd) := fun o => (HF0.out.alloc o).2.2.2.1.cell 1; clear hr hf)))
              | fail
            all_goals
              go_wp2
              go_roundw
              case rel => exact ⟨n2 - 1, drop ++ [R2.text.1], R2.text.2, _, by go_num, by omega, by omega, HE6.out, by simp; omega, HFIT2.out.snoc (by omega), by rw [List.length_append]; exact HROOM2.out.two HBAD.out (by omega) (fun h => R2.text_less h)⟩
              case measure => simp [intOf]; omega
          · have hxl : 8 * drop.length ≤ 16384 + 8 := by have := HROOM2.out.2; split at this <;> omega
            have hbb2 : 0 < n2 → R2.bad = true := fun h => by cases hbb : R2.bad <;> simp_all
            have HLEN := Lib.hid (ed_len (floor := R0.num.1) (Nat.le_refl _) HFIT.out HFIT2.out hpl hxl)
            by_cases hn : 0 < n2
            · have hbad := hbb2 hn
              go_wp2_with fail
              refine (rbad_any _ R2 _ HE.out.2.2.1).mono ?_
              rintro e w4 ⟨rfl, rfl⟩
              rw [hbad]
              clear hbad
              go_wp2
              have hlw : w2.heap.size < w4.drew.heap.size := hlt2
              have HED := Lib.hid HE.out.drew
              have CV0 := Lib.hid (convert_bytes (HV.out.below HED.out.1))
              cases hdone : (!R2.bad && decide (R2.rest.length = 0)) with
              | false =>
                have CD : Hid (∀ n, Calls Tryz.prog 53 #[.pointer (some ⟨W.heap.size + 1, 0, none⟩)] (w4.drewN n) fun e w'' => e = .returned (.bool false) ∧ ∃ m, w'' = w4.drewN m) := Lib.hid fun n => (rdone_any _ R2 _ (HE.out.2.2.1.kept (below_drewN (Below.refl _ _) n))).mono fun e w'' h => ⟨by rw [← hdone]; exact h.1, n, h.2⟩
                go_quiet ((go_at_call 53; exact CD.out _))
                obtain ⟨z0, z1, z2⟩ := HE.out.2.1.three
                have g0 := HE.out.2.1.frozen 0
                have g1 := HE.out.2.1.frozen 1
                have g2 := HE.out.2.1.frozen 2
                go_wp2
                refine bodyPost_ret (results_cell_row2 rfl _ _ W.heap.size 97 _ (0, 0) _ rfl ((HE.out.2.1.below (below_drewN (Below.refl _ _) _) HE.out.2.1.lt).set3 (.slice none 0 0) (.slice none 0 0) (.int .i64 0)) Tryz.underlying97 rfl (by kernel_rfl)) rfl ⟨0, .slice none 0 0, .slice none 0 0, false, rfl, (below_drewN HE.out.1 _).trans ((Fr.set3 _ W.heap.size (.slice none 0 0) (.slice none 0 0) (.int .i64 0)).toBelow (n := W.heap.size) (fun k e => by omega) (below_drewN HE.out.1 _).size), ⟨_, _, _, rfl⟩, ⟨_, _, _, rfl⟩, fun h => by cases h⟩
              | true =>
                obtain ⟨q0, q1, q2⟩ := HED.out.2.2.2.1.three
                have cq := CV0.out
                first
                  | (go_region_with (first
                      | (go_at_call 22; refine (edbytes_any R0.num.1 _ _ add drop HLEN.out _ HED.out.2.2.2.2.1.list HED.out.2.2.2.2.2.list).mono ?_; rintro e w5 ⟨v1, rfl, ho, hb5⟩; have hcv1 := convert_bytes ho.bytes; have cw := convert_bytes ((HV.out.below HED.out.1).below hb5); have HBW := Lib.hid (HED.out.1.trans (hb5.mono HED.out.1.size)); have HZW := Lib.hid (HED.out.2.1.below hb5 HED.out.2.1.lt); have KW := Lib.hid (HED.out.2.2.2.1.below hb5 HED.out.2.2.2.1.lt); have HPW := Lib.hid (HED.out.2.2.2.2.1.list.below hb5 (Nat.le_refl _)); have HXW := Lib.hid (HED.out.2.2.2.2.2.list.below hb5 (Nat.le_refl _)); obtain ⟨Av, capv, rfl, -⟩ := ho.bytes; clear ho hb5)
                      | (go_at_call 53; refine (rdone_any _ R2 _ HED.out.2.2.1).mono ?_; rintro e wx ⟨rfl, rfl⟩; rw [hdone])))
                  | fail
                all_goals
                  obtain ⟨z0, z1, z2⟩ := HZW.out.three
                  have g0 := HZW.out.frozen 0
                  have g1 := HZW.out.frozen 1
                  have g2 := HZW.out.frozen 2
                  obtain ⟨y0, y1, y2⟩ := KW.out.three
                  clear hcv1 cw
                  go_wp2
                  · skip
                    refine bodyPost_ret (results_cell_row2 rfl _ _ W.heap.size 97 _ (0, 0) _ rfl (HZW.out.set3 (.slice none 0 0) (.slice none 0 0) (.int .i64 0)) Tryz.underlying97 rfl (by kernel_rfl)) rfl ⟨0, .slice none 0 0, .slice none 0 0, false, rfl, HBW.out.trans ((Fr.set3 _ W.heap.size (.slice none 0 0) (.slice none 0 0) (.int .i64 0)).toBelow (n := W.heap.size) (fun k e => by omega) HBW.out.size), ⟨_, _, _, rfl⟩, ⟨_, _, _, rfl⟩, fun h => by cases h⟩
                  · skip
                    have heq : edBytes R0.num.1 add drop = bs := eq_of_not_beq (by assumption)
                    have fw := Fr.set3 w5 W.heap.size (.slice Aa na ca) (.slice Ad nd cd) (.int .i64 R0.num.1)
                    refine bodyPost_ret (results_cell_row2 rfl _ _ W.heap.size 97 _ (0, 0) _ rfl (HZW.out.set3 (.slice Aa na ca) (.slice Ad nd cd) (.int .i64 R0.num.1)) Tryz.underlying97 rfl (by kernel_rfl)) rfl ⟨R0.num.1, _, _, true, rfl, HBW.out.trans (fw.toBelow (fun k e => by omega) HBW.out.size), ⟨_, _, _, rfl⟩, ⟨_, _, _, rfl⟩, fun _ => ⟨add, drop, HPW.out.fr fw (fun _ b hb e => by have := (HED.out.2.2.2.2.1.lt b hb).1; omega), HXW.out.fr fw (fun _ b hb e => by have := (HED.out.2.2.2.2.2.lt b hb).1; omega), heq⟩⟩
            · go_wp2
              have hlw : w2.heap.size < wr.drew.heap.size := hlt2
              have HED := Lib.hid HE.out.drew
              have CV0 := Lib.hid (convert_bytes (HV.out.below HED.out.1))
              cases hdone : (!R2.bad && decide (R2.rest.length = 0)) with
              | false =>
                have CD : Hid (∀ n, Calls Tryz.prog 53 #[.pointer (some ⟨W.heap.size + 1, 0, none⟩)] (wr.drewN n) fun e w'' => e = .returned (.bool false) ∧ ∃ m, w'' = wr.drewN m) := Lib.hid fun n => (rdone_any _ R2 _ (HE.out.2.2.1.kept (below_drewN (Below.refl _ _) n))).mono fun e w'' h => ⟨by rw [← hdone]; exact h.1, n, h.2⟩
                go_quiet ((go_at_call 53; exact CD.out _))
                obtain ⟨z0, z1, z2⟩ := HE.out.2.1.three
                have g0 := HE.out.2.1.frozen 0
                have g1 := HE.out.2.1.frozen 1
                have g2 := HE.out.2.1.frozen 2
                go_wp2
                refine bodyPost_ret (results_cell_row2 rfl _ _ W.heap.size 97 _ (0, 0) _ rfl ((HE.out.2.1.below (below_drewN (Below.refl _ _) _) HE.out.2.1.lt).set3 (.slice none 0 0) (.slice none 0 0) (.int .i64 0)) Tryz.underlying97 rfl (by kernel_rfl)) rfl ⟨0, .slice none 0 0, .slice none 0 0, false, rfl, (below_drewN HE.out.1 _).trans ((Fr.set3 _ W.heap.size (.slice none 0 0) (.slice none 0 0) (.int .i64 0)).toBelow (n := W.heap.size) (fun k e => by omega) (below_drewN HE.out.1 _).size), ⟨_, _, _, rfl⟩, ⟨_, _, _, rfl⟩, fun h => by cases h⟩
              | true =>
                obtain ⟨q0, q1, q2⟩ := HED.out.2.2.2.1.three
                have cq := CV0.out
                first
                  | (go_region_with (first
                      | (go_at_call 22; refine (edbytes_any R0.num.1 _ _ add drop HLEN.out _ HED.out.2.2.2.2.1.list HED.out.2.2.2.2.2.list).mono ?_; rintro e w5 ⟨v1, rfl, ho, hb5⟩; have hcv1 := convert_bytes ho.bytes; have cw := convert_bytes ((HV.out.below HED.out.1).below hb5); have HBW := Lib.hid (HED.out.1.trans (hb5.mono HED.out.1.size)); have HZW := Lib.hid (HED.out.2.1.below hb5 HED.out.2.1.lt); have KW := Lib.hid (HED.out.2.2.2.1.below hb5 HED.out.2.2.2.1.lt); have HPW := Lib.hid (HED.out.2.2.2.2.1.list.below hb5 (Nat.le_refl _)); have HXW := Lib.hid (HED.out.2.2.2.2.2.list.below hb5 (Nat.le_refl _)); obtain ⟨Av, capv, rfl, -⟩ := ho.bytes; clear ho hb5)
                      | (go_at_call 53; refine (rdone_any _ R2 _ HED.out.2.2.1).mono ?_; rintro e wx ⟨rfl, rfl⟩; rw [hdone])))
                  | fail
                all_goals
                  obtain ⟨z0, z1, z2⟩ := HZW.out.three
                  have g0 := HZW.out.frozen 0
                  have g1 := HZW.out.frozen 1
                  have g2 := HZW.out.frozen 2
                  obtain ⟨y0, y1, y2⟩ := KW.out.three
                  clear hcv1 cw
                  go_wp2
                  · skip
                    refine bodyPost_ret (results_cell_row2 rfl _ _ W.heap.size 97 _ (0, 0) _ rfl (HZW.out.set3 (.slice none 0 0) (.slice none 0 0) (.int .i64 0)) Tryz.underlying97 rfl (by kernel_rfl)) rfl ⟨0, .slice none 0 0, .slice none 0 0, false, rfl, HBW.out.trans ((Fr.set3 _ W.heap.size (.slice none 0 0) (.slice none 0 0) (.int .i64 0)).toBelow (n := W.heap.size) (fun k e => by omega) HBW.out.size), ⟨_, _, _, rfl⟩, ⟨_, _, _, rfl⟩, fun h => by cases h⟩
                  · skip
                    have heq : edBytes R0.num.1 add drop = bs := eq_of_not_beq (by assumption)
                    have fw := Fr.set3 w5 W.heap.size (.slice Aa na ca) (.slice Ad nd cd) (.int .i64 R0.num.1)
                    refine bodyPost_ret (results_cell_row2 rfl _ _ W.heap.size 97 _ (0, 0) _ rfl (HZW.out.set3 (.slice Aa na ca) (.slice Ad nd cd) (.int .i64 R0.num.1)) Tryz.underlying97 rfl (by kernel_rfl)) rfl ⟨R0.num.1, _, _, true, rfl, HBW.out.trans (fw.toBelow (fun k e => by omega) HBW.out.size), ⟨_, _, _, rfl⟩, ⟨_, _, _, rfl⟩, fun _ => ⟨add, drop, HPW.out.fr fw (fun _ b hb e => by have := (HED.out.2.2.2.2.1.lt b hb).1; omega), HXW.out.fr fw (fun _ b hb e => by have := (HED.out.2.2.2.2.2.lt b hb).1; omega), heq⟩⟩
end Go.Proofs.YtjkkclfndlfjhaaGreatDoor
