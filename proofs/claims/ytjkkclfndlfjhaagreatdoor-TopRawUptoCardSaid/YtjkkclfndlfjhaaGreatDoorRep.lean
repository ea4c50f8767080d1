/- Contract of edits.Replay: a list of files, or an error and none. -/
import Derived.Test.YtjkkclfndlfjhaaGreatDoorEdo
import Derived.Test.YtjkkclfndlfjhaaGreatDoorEd1
set_option linter.all false
namespace Go.Proofs.YtjkkclfndlfjhaaGreatDoor
open Go.RowKit Crc Frm Go.ChangeShapes Go.WideShapes Go.ChangeAt

/-- What Replay leaves. -/
def RyLeft (b : List UInt8) (W : World) (e : Ending) (W' : World) : Prop :=
  ∃ (rv : Value) (floor to_ err : Int), e = .returned (.tuple #[.agg #[rv, .int .i64 floor], .int .i64 to_, .int .i64 err]) ∧ Below W.heap.size W W' ∧
    (to_ = 0 ∨ ∃ rs, Full b rs ∧ to_ = ((size rs : Nat) : Int)) ∧ (∃ A n c, rv = .slice A n c ∧ (err ≠ 0 → n = 0))

theorem ed_counts {floor : Int} {add : List Rf} {drop : List ByteArray} {r : List UInt8} (h : edBytes floor add drop = r) : 25 * add.length ≤ r.length ∧ 8 * drop.length ≤ r.length := by
  have h1 := flat_least putRef 25 (fun x => by rw [putRef_len]; omega) add
  have h2 := flat_least txt 8 (fun x => by rw [txt_len]; omega) drop
  rw [← h]
  simp only [edBytes, List.length_append, beTo_len]
  omega
theorem size_take : ∀ (rs : List (List UInt8)) (j : Nat), size (rs.take j) ≤ size rs
  | [], j => by simp [size]
  | x :: xs, 0 => by simp [size]
  | x :: xs, j + 1 => by have := size_take xs j; simp only [List.take_succ_cons, size]; omega
theorem size_take_succ {rs : List (List UInt8)} {j : Nat} {r : List UInt8} (h : rs[j]? = some r) : size (rs.take (j + 1)) = size (rs.take j) + (r.length + 9) := by
  rw [List.take_add_one, h, Option.toList_some, size_snoc]

set_option maxRecDepth 100000 in
set_option maxHeartbeats 6400000 in
theorem replay_any (v : Value) (b : List UInt8) (hl : b.length ≤ 5000000) (W : World) (hv : IsBytes W v b) : Calls Tryz.prog 24 #[v] W (RyLeft b W) := by
  have HV := Lib.hid hv
  obtain ⟨A, cap, rfl, -, -, -⟩ := hv
  have HB0 := Lib.hid ((Below.refl _ W).alloc (Nat.le_refl _) (.cells #[.slice none 0 0, .int .i64 0] 104))
  go_enter Tryz.func24, Tryz.ntmps24
  go_wp2_with fail
  refine (rows_any _ b (by omega) _ (HV.out.below HB0.out)).mono ?_
  rintro e w1 ⟨v', rs, rfl, hfull, hrs, hb⟩
  have hsize := hfull.1.size_le
  have hge := size_ge rs
  have hs1 := hb.size
  rw [World.size_alloc] at hs1
  have HF := Lib.hid hfull
  have HRS := Lib.hid hrs
  have HB := Lib.hid (HB0.out.trans (hb.mono (by rw [World.size_alloc]; omega)))
  have HZ := Lib.hid ((Has.new W 104 #[.slice none 0 0, .int .i64 0]).below hb (Has.new W 104 #[.slice none 0 0, .int .i64 0]).lt)
  obtain ⟨A', cap', rfl, -⟩ := hrs
  generalize (if size rs = b.length then 0 else (Frm.one (b.drop (size rs))).2.2 : Nat) = code at *
  clear hfull hb
  go_wp2
  go_loopw [23] (fun i wr => ∃ (j : Nat) (rv : Value) (fl : Int) (refs : List Rf), j ≤ rs.length ∧ i = .int .i64 (j : Int) ∧ Below w1.heap.size w1 wr ∧ Has wr w1.heap.size 104 #[rv, .int .i64 fl] ∧ OwnL wr w1.heap.size 173 layRf rv refs ∧ refs.length ≤ size (rs.take j)) (fun i _ => rs.length - (intOf i).toNat)
  case atStart => exact ⟨0, .slice none 0 0, 0, [], by omega, rfl, (Below.refl _ _).alloc (Nat.le_refl _) _, Has.new w1 104 _, OwnL.nil _ _ _ _, by simp⟩
  case round =>
    obtain ⟨j, rv, fl, refs, hj, rfl, hb, hk, ho, hcnt⟩ := hrel
    obtain ⟨Ar, nr, cr, hrv⟩ : ∃ A n c, rv = .slice A n c := by
      obtain ⟨A, c, h, -⟩ := ho.list
      exact ⟨A, _, c, h⟩
    subst hrv
    have hst := size_take rs j
    have hbs := hb.size
    have hklt := hk.lt
    have HBW := Lib.hid hb
    have HK := Lib.hid hk
    have HO := Lib.hid ho
    have HRR := Lib.hid (HRS.out.below hb)
    have HZR := Lib.hid (HZ.out.below hb HZ.out.lt)
    have HBR := Lib.hid (HB.out.trans (hb.mono HB.out.size))
    clear hb hk ho
    by_cases hjl : j < rs.length
    · obtain ⟨r, hr⟩ : ∃ r, rs[j]? = some r := ⟨_, List.getElem?_eq_getElem hjl⟩
      obtain ⟨b3, off3, u3, rfl, hc3, hu3⟩ := HRR.out.at_ hr
      have hr3 := HF.out.1.2 r (List.mem_of_getElem? hr)
      have hst1 := size_take_succ hr
      have HU3 := Lib.hid hu3
      obtain ⟨Au3, capu3, rfl, -⟩ := id hu3
      clear hu3
      go_wp2_with fail
      refine (edread_any _ r hr3 _ HU3.out).mono ?_
      rintro e w4 ⟨floor, addv, dropv, ok, rfl, hb4, ⟨Av, nv, cv, rfl⟩, ⟨Aw, nw, cw, rfl⟩, hok⟩
      clear hc3
      have hs4 := hb4.size
      have H4 := Lib.hid (HBW.out.trans (hb4.mono hbs))
      have HZ4 := Lib.hid (HZR.out.below hb4 HZR.out.lt)
      have HBR4 := Lib.hid (HBR.out.trans (hb4.mono HBR.out.size))
      have HK4 := Lib.hid (HK.out.below hb4 HK.out.lt)
      have HO4 := Lib.hid (HO.out.below hb4 (Nat.le_refl _))
      clear hb4
      cases ok with
      | false =>
        have HBA := Lib.hid (HBR4.out.alloc HBR4.out.size (.cells #[.slice Av nv cv, .slice Aw nw cw, .int .i64 floor] 97))
        have HZA := Lib.hid (HZ4.out.alloc (.cells #[.slice Av nv cv, .slice Aw nw cw, .int .i64 floor] 97))
        obtain ⟨z0, z1, y0, y1⟩ := Has.two HZA.out
        go_wp2
        refine bodyPost_ret (results_cell_row3 rfl _ _ W.heap.size 104 _ (0, 0) _ rfl (HZA.out.set2 (.slice none 0 0) (.int .i64 0)) Tryz.underlying104 rfl (by kernel_rfl)) rfl ⟨.slice none 0 0, 0, 0, 10, rfl, HBA.out.trans ((Fr.set2 _ W.heap.size (.slice none 0 0) (.int .i64 0)).toBelow (n := W.heap.size) (fun k e => by omega) HBA.out.size), .inl rfl, ⟨none, 0, 0, rfl, fun _ => rfl⟩⟩
      | true =>
        obtain ⟨add, drop, hadd, hdrop, hby⟩ := hok rfl
        have hc := ed_counts hby
        have ha := (Below.refl w4.heap.size w4).alloc (Nat.le_refl _) (.cells #[.slice Av nv cv, .slice Aw nw cw, .int .i64 floor] 97)
        have HADD := Lib.hid (hadd.below ha (Nat.le_refl _))
        have HDROP := Lib.hid (hdrop.below ha (Nat.le_refl _))
        have HE := Lib.hid (Has.new w4 97 #[.slice Av nv cv, .slice Aw nw cw, .int .i64 floor])
        have HKA := Lib.hid (HK4.out.alloc (.cells #[.slice Av nv cv, .slice Aw nw cw, .int .i64 floor] 97))
        have HOA := Lib.hid (HO4.out.alloc (.cells #[.slice Av nv cv, .slice Aw nw cw, .int .i64 floor] 97))
        obtain ⟨d0, d1, -, -⟩ := Has.two HKA.out
        clear ha hok hby
        go_wp2_with fail
        refine (do_any _ _ _ fl floor refs add drop (by omega) (by omega) _ HOA.out.list HADD.out HDROP.out).mono ?_
        rintro e w5 ⟨rv', fl', err, rfl, hb5, ⟨A5, n5, c5, rfl⟩, hdo⟩
        clear d0 d1
        have hs5 := hb5.size
        rw [World.size_alloc] at hs5
        have HBR5 := Lib.hid ((HBR4.out.alloc HBR4.out.size _).trans (hb5.mono (HBR4.out.alloc HBR4.out.size _).size))
        have HZ5 := Lib.hid ((HZ4.out.alloc _).below hb5 (HZ4.out.alloc _).lt)
        have HK5 := Lib.hid (HKA.out.below hb5 HKA.out.lt)
        have H5 := Lib.hid ((H4.out.alloc H4.out.size _).trans (hb5.mono (H4.out.alloc H4.out.size _).size))
        clear hb5
        by_cases he : err = 0
        · obtain ⟨refs', ho', hl'⟩ := hdo he
          have HO' := Lib.hid ho'
          obtain ⟨s0, s1, t0, t1⟩ := Has.two (HK5.out.alloc (.cells #[.slice A5 n5 c5, .int .i64 fl'] 104))
          have hty : ∀ b, (Value.slice A5 n5 c5).ownBlock = some b → ¬ b = w1.heap.size := fun b hb e => by
            have := (HO'.out.lt b hb).1
            rw [World.size_alloc] at this
            omega
          subst he
          clear ho' hdo
          go_wp2
          go_roundw
          case rel => exact ⟨j + 1, .slice A5 n5 c5, fl', refs', by omega, by go_num, (H5.out.alloc H5.out.size _).trans ((Fr.set2 _ w1.heap.size _ _).toBelow (fun k e => by omega) (H5.out.alloc H5.out.size _).size), (HK5.out.alloc _).set2 _ _, OwnL.fr (OwnL.alloc (HO'.out.base (by rw [World.size_alloc]; omega)) _) (Fr.set2 _ w1.heap.size _ _) hty, by omega⟩
          case measure => simp [intOf]; omega
        · have he' : (err == 0) = false := by simpa using he
          have HBA := Lib.hid (HBR5.out.alloc HBR5.out.size (.cells #[.slice A5 n5 c5, .int .i64 fl'] 104))
          have HZA := Lib.hid (HZ5.out.alloc (.cells #[.slice A5 n5 c5, .int .i64 fl'] 104))
          obtain ⟨z0, z1, y0, y1⟩ := Has.two HZA.out
          go_wp2
          refine bodyPost_ret (results_cell_row3 rfl _ _ W.heap.size 104 _ (0, 0) _ rfl (HZA.out.set2 (.slice none 0 0) (.int .i64 0)) Tryz.underlying104 rfl (by kernel_rfl)) rfl ⟨.slice none 0 0, 0, 0, 10, rfl, HBA.out.trans ((Fr.set2 _ W.heap.size (.slice none 0 0) (.int .i64 0)).toBelow (n := W.heap.size) (fun k e => by omega) HBA.out.size), .inl rfl, ⟨none, 0, 0, rfl, fun _ => rfl⟩⟩
    · obtain rfl : j = rs.length := by omega
      obtain ⟨s0, s1, -, -⟩ := Has.two HK.out
      obtain ⟨z0, z1, y0, y1⟩ := Has.two HZR.out
      go_wp2
      refine bodyPost_ret (results_cell_row3 rfl _ _ W.heap.size 104 _ (0, 0) _ rfl (HZR.out.set2 (.slice Ar nr cr) (.int .i64 fl)) Tryz.underlying104 rfl (by kernel_rfl)) rfl ⟨_, fl, _, 0, rfl, HBR.out.trans ((Fr.set2 _ W.heap.size (.slice Ar nr cr) (.int .i64 fl)).toBelow (n := W.heap.size) (fun k e => by omega) HBR.out.size), .inr ⟨rs, HF.out, rfl⟩, ⟨_, _, _, rfl, fun h => absurd rfl h⟩⟩
end Go.Proofs.YtjkkclfndlfjhaaGreatDoor
