/- The body of the law TopRaw: whatever bytes are read, what is told is an error, or something whose bytes they are. -/
import Derived.Test.YtjkkclfndlfjhaaGreatDoorApl
import Derived.Test.YtjkkclfndlfjhaaGreatDoorSay
import Derived.Test.YtjkkclfndlfjhaaGreatDoorRep
import Derived.Test.YtjkkclfndlfjhaaGreatDoorEvP6
set_option linter.all false
namespace Go.Proofs.YtjkkclfndlfjhaaGreatDoor
open Go.RowKit Crc Frm Go.ChangeShapes Go.WideShapes Go.ChangeAt

theorem stIn_nil (W : World) : StIn W 0 (.slice none 0 0) (.slice none 0 0) := ⟨[], [], OwnL.nil _ _ _ _, OwnL.nil _ _ _ _, fun p hp => by simp at hp, fun p hp => by simp at hp, by simp, by simp⟩
theorem en_small {x : En} {r : List UInt8} (h : enBytes x = r) (hr : r.length ≤ 16384) : x.cmd.key.size ≤ 100000 ∧ x.cmd.val.size ≤ 100000 ∧ x.cmd.old.size ≤ 100000 := by
  have e : (enBytes x).length = r.length := by rw [h]
  simp only [enBytes, cmBytes, List.length_append, beTo_len, txt_len, List.length_cons, List.length_nil] at e
  omega
theorem ed_small {floor : Int} {add : List Rf} {drop : List ByteArray} {r : List UInt8} (h : edBytes floor add drop = r) (hr : r.length ≤ 16384) : (edBytes floor add drop).length ≤ 700000000 := by rw [h]; omega
/-- What is told of the ends. -/
theorem ends_eq {y : List UInt8} {rs : List (List UInt8)} (hf : Full y rs) {last : Int} (h : last = 0 ∨ ∃ rs', Full y rs' ∧ last = ((size rs' : Nat) : Int)) : ¬ ((size rs : Nat) : Int) < last := by
  rcases h with rfl | ⟨rs', hf', rfl⟩
  · omega
  · rw [full_eq hf hf']; omega

set_option maxRecDepth 100000 in
set_option maxHeartbeats 6400000 in
theorem raw_walk (v : Value) (b : List UInt8) (hbl : b.length ≤ 1048576) (u : Value) (ss : List Sy) (hsl : ss.length ≤ 1048576) (fr at_ by_ : Nat) (hfr : fr ≤ 255) (hat : at_ ≤ 65535) (hby : by_ ≤ 255) (w : World) (hv : IsBytes w v b) (hu : IsL w laySy u ss) :
    Calls Tryz.prog 4 #[v, .int .u8 (fr : Int), u, .int .u16 (at_ : Int), .int .u8 (by_ : Int)] w fun e w' => e = .returned (.bool true) ∧ Below w.heap.size w w' := by
  have HV := Lib.hid hv
  have HU := Lib.hid hu
  obtain ⟨A, cap, rfl, -⟩ := hv
  obtain ⟨Au, capu, rfl, -⟩ := hu
  go_enter Tryz.func4, Tryz.ntmps4
  go_wp2_with fail
  refine (awake_true _).mono ?_
  rintro e w1 ⟨rfl, hb1⟩
  have HB1 := Lib.hid hb1
  clear hb1
  go_wp2_with fail
  refine (entries_any _ ss 1 0 _ (HU.out.below HB1.out (Nat.le_refl _)) (by omega)).mono ?_
  rintro e w2 ⟨ev, es, rfl, he, hel, hb2⟩
  have HB2 := Lib.hid (HB1.out.trans (hb2.mono HB1.out.size))
  have HE := Lib.hid he
  obtain ⟨Ae, ne, ce, rfl⟩ : ∃ A n c, ev = .slice A n c := by obtain ⟨A, c, h, -⟩ := he.list; exact ⟨_, _, _, h⟩
  clear hb2 he HB1 HU
  go_wp2_with fail
  refine (fold_any 0 0 0 _ _ _ es (by omega) _ (stIn_nil _) HE.out.list).mono ?_
  rintro e w3 ⟨index, term, psv, xsv, rfl, hst, hb3⟩
  have HB3 := Lib.hid (HB2.out.trans (hb3.mono HB2.out.size))
  have HST := Lib.hid hst
  obtain ⟨⟨Ap, np, cp, rfl⟩, ⟨Ax, nx, cx, rfl⟩⟩ := id hst.forms
  clear hb3 hst HB2 HE
  go_wp2_with fail
  refine (full_any (0 + es.length) (by omega) index term _ _ _ HST.out).mono ?_
  rintro e w4 ⟨xv, bs, rfl, hx, hpos, hlen, hb4⟩
  obtain ⟨g, cap2, rfl, hg, hgl⟩ := hx.form hpos
  have hgw : w.heap.size ≤ g := Nat.le_trans HB3.out.size hg
  have HB4 := Lib.hid (HB3.out.trans (hb4.mono HB3.out.size))
  have HX := Lib.hid hx
  have hsz4 := HB4.out.size
  clear hb4 HB3 HST hx
  have hk0 : at_ % bs.length < bs.length := Nat.mod_lt _ hpos
  obtain ⟨c, hc⟩ : ∃ c, bs[at_ % bs.length]? = some c := ⟨_, List.getElem?_eq_getElem hk0⟩
  obtain ⟨hc1, hf1⟩ := HX.out.get hc
  have hc8 := c.toNat_lt
  have e : c.toNat ^^^ by_ % 256 = (c ^^^ UInt8.ofNat by_).toNat := by rw [UInt8.toNat_xor, UInt8.toNat_ofNat']
  have HXO := Lib.hid e
  have n0 : ((bs.length : Int) == 0) = false := by simp; intro h; rw [h] at hpos; simp at hpos
  have hne : ¬ bs = [] := by intro h; rw [h] at hpos; simp at hpos
  clear hc e
  have hxor : bits .xor .u8 (c.toNat : Int) (by_ : Int) = ((c ^^^ UInt8.ofNat by_).toNat : Int) := by
    rw [UInt8.toNat_xor, UInt8.toNat_ofNat', Nat.mod_eq_of_lt (by omega : by_ < 2 ^ 8)]
    exact u8_xor_nat _ by_ (by omega) (by omega)
  have HXR := Lib.hid hxor
  clear hxor
  go_upto_region 7 with fail
  obtain ⟨w5, hw5⟩ : ∃ w5, w5 = w4.setCell ⟨g, at_ % bs.length, none⟩ (.int .u8 (bits .xor .u8 (c.toNat : Int) (by_ : Int))) := ⟨_, rfl⟩
  obtain ⟨X, hX⟩ : ∃ X, X = bs.set (at_ % bs.length) (c ^^^ UInt8.ofNat by_) := ⟨_, rfl⟩
  have hXl : X.length ≤ 40000 := by rw [hX, List.length_set]; exact hlen
  have hXb : X.length = bs.length := by rw [hX, List.length_set]
  have hx5 : IsBytes w5 (.slice (some ⟨g, 0, none⟩) bs.length cap2) X := by rw [hw5, hX, HXR.out]; exact (HX.out.put (at_ % bs.length) (c ^^^ UInt8.ofNat by_)).bytes
  have hb5 : Below w.heap.size w w5 := by rw [hw5]; exact HB4.out.setCell (p := ⟨g, at_ % bs.length, none⟩) hgw _
  have R6 := Lib.hid (rows_two (HV.out.below hb5) hx5)
  have HB6 := Lib.hid (hb5.alloc hb5.size (.cells #[.slice A b.length cap, .slice (some ⟨g, 0, none⟩) bs.length cap2] 72))
  rw [← hw5]
  clear hw5 hX hx5 hb5 HXR HXO HX HB4 HV hc1 hf1 hc8 hk0 hpos hne n0 hgl hgw hg
  go_wp2
  obtain ⟨w6, hw6⟩ : ∃ w6, w6 = w5.alloc (.cells #[.slice A b.length cap, .slice (some ⟨g, 0, none⟩) bs.length cap2] 72) := ⟨_, rfl⟩
  rw [← hw6] at R6 HB6 ⊢
  clear hw6
  go_loopw [65] (fun i wr => ∃ j : Nat, j ≤ 2 ∧ i = .int .i64 (j : Int) ∧ Below w6.heap.size w6 wr) (fun i _ => 2 - (intOf i).toNat)
  case atStart => exact ⟨0, by omega, rfl, Below.refl _ _⟩
  case round =>
    obtain ⟨j, hj, rfl, hb⟩ := hrel
    have HB := Lib.hid hb
    clear hb
    by_cases hjl : j < 2
    · obtain ⟨y, hy⟩ : ∃ y, ([b, X] : List (List UInt8))[j]? = some y := ⟨_, List.getElem?_eq_getElem (by simpa using hjl)⟩
      have hyl : y.length ≤ 1048576 := by
        have := List.mem_of_getElem? hy
        simp only [List.mem_cons, List.not_mem_nil, or_false] at this
        rcases this with rfl | rfl <;> omega
      obtain ⟨b3, off3, u3, hA, hc3, hu3⟩ := (R6.out.below HB.out).at_ hy
      simp only [Option.some.injEq, Addr.mk.injEq, and_true] at hA
      obtain ⟨rfl, rfl⟩ := hA
      rw [Nat.zero_add] at hc3
      have HU3 := Lib.hid hu3
      obtain ⟨Au3, capu3, rfl, -⟩ := id hu3
      clear hu3 hy
      go_wp2_with fail
      refine (rows_any _ y (by omega) _ HU3.out).mono ?_
      rintro e w7 ⟨v7, rs, rfl, hfull, hrs, hb7⟩
      have hsize := hfull.1.size_le
      have hge := size_ge rs
      have HF := Lib.hid hfull
      have HRS := Lib.hid hrs
      have HB7 := Lib.hid (HB.out.trans (hb7.mono HB.out.size))
      have HY7 := Lib.hid (HU3.out.below hb7)
      obtain ⟨A7, cap7, rfl, -⟩ := hrs
      generalize (if size rs = y.length then 0 else (Frm.one (y.drop (size rs))).2.2 : Nat) = code at *
      clear hfull hb7 hc3 HU3
      go_wp2
      go_loopw [18, 77] (fun s18 i wx => ∃ k : Nat, k ≤ rs.length ∧ s18 = .int .i64 ((size (rs.take k) : Nat) : Int) ∧ i = .int .i64 (k : Int) ∧ Below w7.heap.size w7 wx) (fun _ i _ => rs.length - (intOf i).toNat)
      case atStart => exact ⟨0, by omega, by simp [size], rfl, Below.refl _ _⟩
      case round =>
        obtain ⟨k, hk, rfl, rfl, hbk⟩ := hrel
        have HBK := Lib.hid hbk
        have hst := size_take rs k
        clear hbk
        by_cases hkl : k < rs.length
        · obtain ⟨r, hr⟩ : ∃ r, rs[k]? = some r := ⟨_, List.getElem?_eq_getElem hkl⟩
          obtain ⟨b4, off4, u4, hA4, hc4, hu4⟩ := (HRS.out.below HBK.out).at_ hr
          obtain rfl := hA4
          have hr3 := HF.out.1.2 r (List.mem_of_getElem? hr)
          have hst1 := size_take_succ hr
          have hst2 := size_take rs (k + 1)
          have hfl : (frame r).length = r.length + 9 := length_frame r
          have HU4 := Lib.hid hu4
          obtain ⟨Au4, capu4, rfl, -⟩ := id hu4
          clear hu4 hr
          go_wp2_with fail
          refine (make_any _ r hr3 _ HU4.out).mono ?_
          rintro e w8 ⟨v8, rfl, ho8, hb8⟩
          obtain ⟨g8, cap8, rfl, -, -⟩ := ho8.form (by omega)
          have HU8 := Lib.hid (HU4.out.below hb8)
          have HB8 := Lib.hid (HBK.out.trans (hb8.mono HBK.out.size))
          clear ho8 hb8 hc4 HU4
          go_wp2_with fail
          refine (stread_any _ r hr3 _ HU8.out).mono ?_
          rintro e w9 ⟨index9, term9, psv9, xsv9, ok, rfl, hb9, ⟨Ap9, np9, cp9, rfl⟩, ⟨Ax9, nx9, cx9, rfl⟩, hok⟩
          have HU9 := Lib.hid (HU8.out.below hb9)
          have HB9 := Lib.hid (HB8.out.trans (hb9.mono HB8.out.size))
          have HOK := Lib.hid hok
          clear hb9 hok HU8 HB8
          go_upto_region 20 with fail
          obtain ⟨wa, hwa⟩ : ∃ wa, wa = w9.alloc (.cells #[.int .i64 index9, .int .i64 term9, .slice Ap9 np9 cp9, .slice Ax9 nx9 cx9] 30) := ⟨_, rfl⟩
          have HTA : Hid (Has wa w9.heap.size 30 #[.int .i64 index9, .int .i64 term9, .slice Ap9 np9 cp9, .slice Ax9 nx9 cx9]) := Lib.hid (by rw [hwa]; exact Has.new w9 30 _)
          have HBA : Hid (Below w9.heap.size w9 wa) := Lib.hid (by rw [hwa]; exact (Below.refl _ w9).alloc (Nat.le_refl _) _)
          rw [← hwa]
          clear hwa
          go_cut [77, 105] from 77 to 148 (fun s77 sx wx => s77 = .int .i64 (k : Int) ∧ sx = .bool false ∧ Below w9.heap.size w9 wx)
          case first =>
            cases ok with
            | false => as_aux_lemma =>
              go_quiet (fail)
              go_wp2_with fail
              go_meet
              exact ⟨rfl, rfl, below_drewN HBA.out _⟩
            | true => as_aux_lemma =>
              obtain ⟨ps9, xs9, hps9, hxs9, hl9, he9⟩ := HOK.out rfl
              have k0 : wa.drew.cell? ⟨w9.heap.size, 0, none⟩ = some (.int .i64 index9) := HTA.out.cell 0
              have k1 : wa.drew.cell? ⟨w9.heap.size, 1, none⟩ = some (.int .i64 term9) := HTA.out.cell 1
              have k2 : wa.drew.cell? ⟨w9.heap.size, 2, none⟩ = some (.slice Ap9 np9 cp9) := HTA.out.cell 2
              have k3 : wa.drew.cell? ⟨w9.heap.size, 3, none⟩ = some (.slice Ax9 nx9 cx9) := HTA.out.cell 3
              have cv0 := convert_bytes (w := wa.drew) (HU9.out.below (HBA.out.trans (Below.refl _ wa).drew))
              have HZA := Lib.hid HBA.out.size
              first
                | (go_region_with (go_at_call 16; refine (stbytes_any index9 term9 _ _ ps9 xs9 hl9 _ (hps9.below (HBA.out.trans ((Below.refl wa.heap.size wa).drew.mono HZA.out)) (Nat.le_refl _)) (hxs9.below (HBA.out.trans ((Below.refl wa.heap.size wa).drew.mono HZA.out)) (Nat.le_refl _))).mono ?_; rintro e wb ⟨vb, rfl, ho, hbb⟩; rw [he9] at ho; have cv1 := convert_bytes ho.bytes; have cv2 := convert_bytes (HU9.out.below (HBA.out.trans ((Below.refl wa.heap.size wa).drew.trans hbb |>.mono HZA.out))); have HBB := Lib.hid (HBA.out.trans ((Below.refl wa.heap.size wa).drew.trans hbb |>.mono HZA.out)); obtain ⟨Ab, capb, rfl, -⟩ := ho.bytes; clear ho hbb))
              all_goals (go_wp2_with fail; go_meet; exact ⟨rfl, rfl, HBB.out⟩)
          case rest =>
            obtain ⟨rfl, rfl, hbx⟩ := hcut
            have HU8 := Lib.hid (HU9.out.below hbx)
            have HB8 := Lib.hid (HB9.out.trans (hbx.mono HB9.out.size))
            clear hbx HU9 HB9 HTA HBA HOK
            go_wp2_with fail
            refine (deread_any _ r hr3 _ HU8.out).mono ?_
            rintro e w9 ⟨a9, b9, t9, psv9, xsv9, ok, rfl, hb9, ⟨Ap9, np9, cp9, rfl⟩, ⟨Ax9, nx9, cx9, rfl⟩, hok⟩
            have HU9 := Lib.hid (HU8.out.below hb9)
            have HB9 := Lib.hid (HB8.out.trans (hb9.mono HB8.out.size))
            have HOK := Lib.hid hok
            clear hb9 hok HU8 HB8
            go_upto_region 23 with fail
            obtain ⟨wa, hwa⟩ : ∃ wa, wa = w9.alloc (.cells #[.int .i64 a9, .int .i64 b9, .int .i64 t9, .slice Ap9 np9 cp9, .slice Ax9 nx9 cx9] 87) := ⟨_, rfl⟩
            have HTA : Hid (Has wa w9.heap.size 87 #[.int .i64 a9, .int .i64 b9, .int .i64 t9, .slice Ap9 np9 cp9, .slice Ax9 nx9 cx9]) := Lib.hid (by rw [hwa]; exact Has.new w9 87 _)
            have HBA : Hid (Below w9.heap.size w9 wa) := Lib.hid (by rw [hwa]; exact (Below.refl _ w9).alloc (Nat.le_refl _) _)
            rw [← hwa]
            clear hwa
            go_cut [77, 119] from 77 to 148 (fun s77 sx wx => s77 = .int .i64 (k : Int) ∧ sx = .bool false ∧ Below w9.heap.size w9 wx)
            case first =>
              cases ok with
              | false => as_aux_lemma =>
                go_quiet (fail)
                go_wp2_with fail
                go_meet
                exact ⟨rfl, rfl, below_drewN HBA.out _⟩
              | true => as_aux_lemma =>
                obtain ⟨ps9, xs9, hps9, hxs9, hl9, he9⟩ := HOK.out rfl
                have k0 : wa.drew.cell? ⟨w9.heap.size, 0, none⟩ = some (.int .i64 a9) := HTA.out.cell 0
                have k1 : wa.drew.cell? ⟨w9.heap.size, 1, none⟩ = some (.int .i64 b9) := HTA.out.cell 1
                have k2 : wa.drew.cell? ⟨w9.heap.size, 2, none⟩ = some (.int .i64 t9) := HTA.out.cell 2
                have k3 : wa.drew.cell? ⟨w9.heap.size, 3, none⟩ = some (.slice Ap9 np9 cp9) := HTA.out.cell 3
                have k4 : wa.drew.cell? ⟨w9.heap.size, 4, none⟩ = some (.slice Ax9 nx9 cx9) := HTA.out.cell 4
                have cv0 := convert_bytes (w := wa.drew) (HU9.out.below (HBA.out.trans (Below.refl _ wa).drew))
                have HZA := Lib.hid HBA.out.size
                first
                  | (go_region_with (go_at_call 18; refine (debytes_any a9 b9 t9 _ _ ps9 xs9 hl9 _ (hps9.below (HBA.out.trans ((Below.refl wa.heap.size wa).drew.mono HZA.out)) (Nat.le_refl _)) (hxs9.below (HBA.out.trans ((Below.refl wa.heap.size wa).drew.mono HZA.out)) (Nat.le_refl _))).mono ?_; rintro e wb ⟨vb, rfl, ho, hbb⟩; rw [he9] at ho; have cv1 := convert_bytes ho.bytes; have cv2 := convert_bytes (HU9.out.below (HBA.out.trans ((Below.refl wa.heap.size wa).drew.trans hbb |>.mono HZA.out))); have HBB := Lib.hid (HBA.out.trans ((Below.refl wa.heap.size wa).drew.trans hbb |>.mono HZA.out)); obtain ⟨Ab, capb, rfl, -⟩ := ho.bytes; clear ho hbb))
                all_goals (go_wp2_with fail; go_meet; exact ⟨rfl, rfl, HBB.out⟩)
            case rest =>
              obtain ⟨rfl, rfl, hbx⟩ := hcut
              have HU8 := Lib.hid (HU9.out.below hbx)
              have HB8 := Lib.hid (HB9.out.trans (hbx.mono HB9.out.size))
              clear hbx HU9 HB9 HTA HBA HOK
              go_wp2_with fail
              refine (cmread_any _ r hr3 _ HU8.out).mono ?_
              rintro e w9 ⟨x9, ok, rfl, hb9, hok⟩
              have HU9 := Lib.hid (HU8.out.below hb9)
              have HB9 := Lib.hid (HB8.out.trans (hb9.mono HB8.out.size))
              have HOK := Lib.hid hok
              clear hb9 hok HU8 HB8
              unfold En.v
              go_upto_region 26 with fail
              obtain ⟨wa, hwa⟩ : ∃ wa, wa = w9.alloc (.cells #[.int .i64 x9.index, .int .i64 x9.term, .int .i64 x9.cmd.op, .int .i64 x9.cmd.client, .int .i64 x9.cmd.seq, .string x9.cmd.key, .string x9.cmd.val, .string x9.cmd.old] 61) := ⟨_, rfl⟩
              have HTA : Hid (Has wa w9.heap.size 61 #[.int .i64 x9.index, .int .i64 x9.term, .int .i64 x9.cmd.op, .int .i64 x9.cmd.client, .int .i64 x9.cmd.seq, .string x9.cmd.key, .string x9.cmd.val, .string x9.cmd.old]) := Lib.hid (by rw [hwa]; exact Has.new w9 61 _)
              have HBA : Hid (Below w9.heap.size w9 wa) := Lib.hid (by rw [hwa]; exact (Below.refl _ w9).alloc (Nat.le_refl _) _)
              rw [← hwa]
              clear hwa
              go_cut [77, 133] from 77 to 148 (fun s77 sx wx => s77 = .int .i64 (k : Int) ∧ sx = .bool false ∧ Below w9.heap.size w9 wx)
              case first =>
                cases ok with
                | false => as_aux_lemma =>
                  go_quiet (fail)
                  go_wp2_with fail
                  go_meet
                  exact ⟨rfl, rfl, below_drewN HBA.out _⟩
                | true => as_aux_lemma =>
                  obtain ⟨-, he9⟩ := HOK.out rfl
                  have hsm := en_small he9 hr3
                  have k0 : wa.drew.cell? ⟨w9.heap.size, 0, none⟩ = some (.int .i64 x9.index) := HTA.out.cell 0
                  have k1 : wa.drew.cell? ⟨w9.heap.size, 1, none⟩ = some (.int .i64 x9.term) := HTA.out.cell 1
                  have k2 : wa.drew.cell? ⟨w9.heap.size, 2, none⟩ = some (.int .i64 x9.cmd.op) := HTA.out.cell 2
                  have k3 : wa.drew.cell? ⟨w9.heap.size, 3, none⟩ = some (.int .i64 x9.cmd.client) := HTA.out.cell 3
                  have k4 : wa.drew.cell? ⟨w9.heap.size, 4, none⟩ = some (.int .i64 x9.cmd.seq) := HTA.out.cell 4
                  have k5 : wa.drew.cell? ⟨w9.heap.size, 5, none⟩ = some (.string x9.cmd.key) := HTA.out.cell 5
                  have k6 : wa.drew.cell? ⟨w9.heap.size, 6, none⟩ = some (.string x9.cmd.val) := HTA.out.cell 6
                  have k7 : wa.drew.cell? ⟨w9.heap.size, 7, none⟩ = some (.string x9.cmd.old) := HTA.out.cell 7
                  have cv0 := convert_bytes (w := wa.drew) (HU9.out.below (HBA.out.trans (Below.refl _ wa).drew))
                  have HZA := Lib.hid HBA.out.size
                  first
                    | (go_region_with (go_at_call 20; refine (enbytes_any x9 hsm.1 hsm.2.1 hsm.2.2 _).mono ?_; rintro e wb ⟨vb, rfl, ho, hbb⟩; rw [he9] at ho; have cv1 := convert_bytes ho.bytes; have cv2 := convert_bytes (HU9.out.below (HBA.out.trans ((Below.refl wa.heap.size wa).drew.trans hbb |>.mono HZA.out))); have HBB := Lib.hid (HBA.out.trans ((Below.refl wa.heap.size wa).drew.trans hbb |>.mono HZA.out)); obtain ⟨Ab, capb, rfl, -⟩ := ho.bytes; clear ho hbb))
                  all_goals (go_wp2_with fail; go_meet; exact ⟨rfl, rfl, HBB.out⟩)
              case rest =>
                obtain ⟨rfl, rfl, hbx⟩ := hcut
                have HU8 := Lib.hid (HU9.out.below hbx)
                have HB8 := Lib.hid (HB9.out.trans (hbx.mono HB9.out.size))
                clear hbx HU9 HB9 HTA HBA HOK
                go_wp2_with fail
                refine (edread_any _ r hr3 _ HU8.out).mono ?_
                rintro e w9 ⟨floor9, addv9, dropv9, ok, rfl, hb9, ⟨Av9, nv9, cv9, rfl⟩, ⟨Aw9, nw9, cw9, rfl⟩, hok⟩
                have HU9 := Lib.hid (HU8.out.below hb9)
                have HB9 := Lib.hid (HB8.out.trans (hb9.mono HB8.out.size))
                have HOK := Lib.hid hok
                clear hb9 hok HU8 HB8
                go_upto_region 29 with fail
                obtain ⟨wa, hwa⟩ : ∃ wa, wa = w9.alloc (.cells #[.slice Av9 nv9 cv9, .slice Aw9 nw9 cw9, .int .i64 floor9] 97) := ⟨_, rfl⟩
                have HTA : Hid (Has wa w9.heap.size 97 #[.slice Av9 nv9 cv9, .slice Aw9 nw9 cw9, .int .i64 floor9]) := Lib.hid (by rw [hwa]; exact Has.new w9 97 _)
                have HBA : Hid (Below w9.heap.size w9 wa) := Lib.hid (by rw [hwa]; exact (Below.refl _ w9).alloc (Nat.le_refl _) _)
                rw [← hwa]
                clear hwa
                go_cut [77, 147] from 77 to 148 (fun s77 sx wx => s77 = .int .i64 (k : Int) ∧ sx = .bool false ∧ Below w9.heap.size w9 wx)
                case first =>
                  cases ok with
                  | false => as_aux_lemma =>
                    go_quiet (fail)
                    go_wp2_with fail
                    go_meet
                    exact ⟨rfl, rfl, below_drewN HBA.out _⟩
                  | true => as_aux_lemma =>
                    obtain ⟨add9, drop9, hadd9, hdrop9, he9⟩ := HOK.out rfl
                    have hsm := ed_small he9 hr3
                    have k0 : wa.drew.cell? ⟨w9.heap.size, 0, none⟩ = some (.slice Av9 nv9 cv9) := HTA.out.cell 0
                    have k1 : wa.drew.cell? ⟨w9.heap.size, 1, none⟩ = some (.slice Aw9 nw9 cw9) := HTA.out.cell 1
                    have k2 : wa.drew.cell? ⟨w9.heap.size, 2, none⟩ = some (.int .i64 floor9) := HTA.out.cell 2
                    have cv0 := convert_bytes (w := wa.drew) (HU9.out.below (HBA.out.trans (Below.refl _ wa).drew))
                    have HZA := Lib.hid HBA.out.size
                    first
                      | (go_region_with (go_at_call 22; refine (edbytes_any floor9 _ _ add9 drop9 hsm _ (hadd9.below (HBA.out.trans ((Below.refl wa.heap.size wa).drew.mono HZA.out)) (Nat.le_refl _)) (hdrop9.below (HBA.out.trans ((Below.refl wa.heap.size wa).drew.mono HZA.out)) (Nat.le_refl _))).mono ?_; rintro e wb ⟨vb, rfl, ho, hbb⟩; rw [he9] at ho; have cv1 := convert_bytes ho.bytes; have cv2 := convert_bytes (HU9.out.below (HBA.out.trans ((Below.refl wa.heap.size wa).drew.trans hbb |>.mono HZA.out))); have HBB := Lib.hid (HBA.out.trans ((Below.refl wa.heap.size wa).drew.trans hbb |>.mono HZA.out)); obtain ⟨Ab, capb, rfl, -⟩ := ho.bytes; clear ho hbb))
                    all_goals (go_wp2_with fail; go_meet; exact ⟨rfl, rfl, HBB.out⟩)
                case rest =>
                  obtain ⟨rfl, rfl, hbx⟩ := hcut
                  have HU8 := Lib.hid (HU9.out.below hbx)
                  have HB8 := Lib.hid (HB9.out.trans (hbx.mono HB9.out.size))
                  clear hbx HU9 HB9 HTA HBA HOK
                  go_wp2
                  go_roundw
                  case rel => exact ⟨k + 1, by omega, by go_num, by go_num, HB8.out⟩
                  case measure => simp [intOf]; omega
        · obtain rfl : k = rs.length := by omega
          have HY7' := Lib.hid (HY7.out.below HBK.out)
          have HBJ := Lib.hid (HB7.out.trans (HBK.out.mono HB7.out.size))
          have q0 : IntKind.i64.wrap ((fr : Int) + 1) = (fr : Int) + 1 := IntWalk.i64_in _ (by omega)
          rw [List.take_length]
          go_wp2_with fail
          refine (readpart_any _ y (fr : Int) (by omega) (by omega) (by omega) _ HY7'.out).mono ?_
          rintro e w8 ⟨esv, eents, last, err, rfl, hb8, hlast, ⟨Ae8, ne8, ce8, rfl⟩, hes⟩
          have HY8 := Lib.hid (HY7'.out.below hb8)
          have HB8 := Lib.hid (HBJ.out.trans (hb8.mono HBJ.out.size))
          have HES := Lib.hid hes
          have HLA := Lib.hid (ends_eq HF.out hlast)
          clear hb8 hlast hes HY7' HBJ
          go_wp2_with fail
          refine (replay_any _ y (by omega) _ HY8.out).mono ?_
          rintro e w9 ⟨rv, floor, to2, err2, rfl, hb9, hto, A9, n9, c9, rfl, hn9⟩
          have HB9 := Lib.hid (HB8.out.trans (hb9.mono HB8.out.size))
          have HTO := Lib.hid (ends_eq HF.out hto)
          have HN9 := Lib.hid hn9
          have HI9 := Lib.hid hb9
          clear hb9 hto hn9 HB8 HY8
          go_upto_region 34 with fail
          obtain ⟨wa, hwa⟩ : ∃ wa, wa = w9.alloc (.cells #[.slice A9 n9 c9, .int .i64 floor] 104) := ⟨_, rfl⟩
          have HTA : Hid (Has wa w9.heap.size 104 #[.slice A9 n9 c9, .int .i64 floor]) := Lib.hid (by rw [hwa]; exact Has.new w9 104 _)
          have HIA : Hid (Below w9.heap.size w9 wa) := Lib.hid (by rw [hwa]; exact (Below.refl _ w9).alloc (Nat.le_refl _) _)
          have HBA : Hid (Below w6.heap.size w6 wa) := Lib.hid (HB9.out.trans (HIA.out.mono HB9.out.size))
          rw [← hwa]
          clear hwa
          go_cut [65, 197] from 65 to 198 (fun s65 sx wx => s65 = .int .i64 (j : Int) ∧ sx = .bool false ∧ Below w6.heap.size w6 wx)
          case first => as_aux_lemma =>
            have k0 := HTA.out.cell 0
            have m1 : last ≤ ((size rs : Nat) : Int) := by have := HLA.out; omega
            have m2 : to2 ≤ ((size rs : Nat) : Int) := by have := HTO.out; omega
            have d1 : decide (((size rs : Nat) : Int) < last) = false := decide_eq_false (by omega)
            have d2 : decide (((size rs : Nat) : Int) < to2) = false := decide_eq_false (by omega)
            by_cases he : err = 0
            · obtain ⟨hes1, hrow, hel2⟩ := HES.out he
              have HE1 := Lib.hid ((hes1.below HI9.out (Nat.le_refl _)).below HIA.out (Nat.le_refl _))
              have HROW := Lib.hid hrow
              clear hes1 hrow
              subst he
              by_cases hf : err2 = 0
              · subst hf
                go_wp2_with fail
                refine (row_any _ eents ((fr : Int) + 1) (by omega) (by omega) hel2 _ HE1.out).mono ?_
                rintro e wb ⟨rfl, hbb⟩
                rw [HROW.out]
                have HBB := Lib.hid (HBA.out.trans (hbb.mono HBA.out.size))
                clear hbb k0
                go_wp2_with fail
                go_meet
                exact ⟨rfl, rfl, HBB.out⟩
              · have e2 : (err2 != 0) = true := by simpa using hf
                obtain rfl := HN9.out hf
                go_wp2_with fail
                refine (row_any _ eents ((fr : Int) + 1) (by omega) (by omega) hel2 _ HE1.out).mono ?_
                rintro e wb ⟨rfl, hbb⟩
                rw [HROW.out]
                have HBB := Lib.hid (HBA.out.trans (hbb.mono HBA.out.size))
                have HTB := Lib.hid (HTA.out.below (hbb.mono (Nat.le_refl _)) HTA.out.lt)
                have k1 := HTB.out.cell 0
                clear hbb k0
                go_wp2_with fail
                go_meet
                exact ⟨rfl, rfl, HBB.out⟩
            · have e1 : (err == 0) = false := by simpa using he
              by_cases hf : err2 = 0
              · subst hf
                go_wp2_with fail
                go_meet
                exact ⟨rfl, rfl, HBA.out⟩
              · have e2 : (err2 != 0) = true := by simpa using hf
                obtain rfl := HN9.out hf
                go_wp2_with fail
                go_meet
                exact ⟨rfl, rfl, HBA.out⟩
          case rest =>
            obtain ⟨rfl, rfl, hbx⟩ := hcut
            go_wp2
            go_roundw
            case rel => exact ⟨j + 1, by omega, by go_num, hbx⟩
            case measure => simp [intOf]; omega
    · obtain rfl : j = 2 := by omega
      go_wp2
      go_ret
      exact ⟨rfl, HB6.out.trans (HB.out.mono HB6.out.size)⟩
end Go.Proofs.YtjkkclfndlfjhaaGreatDoor
