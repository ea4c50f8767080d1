/- FrameOne: what bytes begin with, or what is wrong of it, is what the document says: of any, of a frame of which one byte is other, and of a cut one. -/
import Derived.Test.YtflolmldildjhaaLaw1
import Derived.Deep.RegionLaw
import Derived.Deep.DeepCutAuto
import Derived.Deep.CutRange
namespace Go.Proofs.Ytflolmldildjhaa.lawFrameOne
open Go.ChangeShapes Go.WideShapes Go.ChangeAt Go.RowKit Crc Frm

/-- A string's bytes in a row of their own. -/
theorem conv_back (w : World) (bs : List UInt8) (hl : bs.length ≤ maxLen) :
    ∃ cap w', (convert 9 29 (.string (strOf bs))).run Try.prog w = .ok (.slice (some ⟨w.heap.size, 0, none⟩) bs.length cap) w' ∧ bs.length ≤ cap ∧ IsBytes w' (.slice (some ⟨w.heap.size, 0, none⟩) bs.length cap) bs ∧ Below w.heap.size w w' ∧ w.heap.size < w'.heap.size := by
  have h := run_bytes_of_string (P := Try.prog) w 9 29 5 (strOf bs) Try.underlying9 Try.underlying29 Try.underlying5
  rw [size_strOf] at h
  have h1 := grownCap_ge w bs.length 0 5
  have h2 := grownCap_le_maxLen w bs.length 0 5 hl
  refine ⟨_, _, h, h1, ⟨_, _, rfl, h1, h2, fun _ => ⟨_, _, rfl, fun i c hi => ?_⟩⟩, ((Below.refl _ w).drew).alloc (Nat.le_refl _) _, by simp⟩
  refine (cell_of_row _ _ (0 + i) _ 5 _ (heap_alloc_last w.drew _)).trans ?_
  rw [Nat.zero_add]
  have hi' : i < (strOf bs).data.size := by have := (List.getElem?_eq_some_iff.1 hi).1; simpa [strOf] using this
  rw [bytesRow_at _ _ i hi']
  have : (strOf bs).data[i] = c := by
    have := (List.getElem?_eq_some_iff.1 hi).2
    simpa [strOf] using this
  rw [this]

theorem far_bytes {w : World} {b n cap g j : Nat} {bs : List UInt8} (h : IsBytes w (.slice (some ⟨b, 0, none⟩) n cap) bs) (hne : b ≠ g) (u : Value) : IsBytes (w.setCell ⟨g, j, none⟩ u) (.slice (some ⟨b, 0, none⟩) n cap) bs := by
  obtain ⟨A, cap', hv, hl, hc, hr⟩ := h
  simp only [Value.slice.injEq] at hv
  obtain ⟨rfl, rfl, rfl⟩ := hv
  refine ⟨_, _, rfl, hl, hc, fun hp => ?_⟩
  obtain ⟨b', off, hA, hcell⟩ := hr hp
  refine ⟨b', off, hA, fun i c hi => ?_⟩
  simp only [Option.some.injEq, Addr.mk.injEq] at hA
  rw [World.cell?_setCell_other _ _ _ _ (fun e => hne (by rw [hA.1]; injection e with e1; exact e1.symm))]
  exact hcell i c hi

theorem drew_bytes {w : World} {v : Value} {bs : List UInt8} (h : IsBytes w v bs) : IsBytes w.drew v bs := h.below (Below.refl _ _).drew

/-- Four slices of bytes in a row of slices. -/
structure Four (w : World) (g : Nat) (bss : List (List UInt8)) : Prop where
  at_ : ∀ i bs, bss[i]? = some bs → ∃ v, w.cell? ⟨g, i, none⟩ = some v ∧ IsBytes w v bs

theorem Four.below {w w' : World} {g : Nat} {bss : List (List UInt8)} (h : Four w g bss) (hb : Below w.heap.size w w') : Four w' g bss :=
  ⟨fun i bs hi => by
    obtain ⟨v, hc, hv⟩ := h.at_ i bs hi
    exact ⟨v, cell_later hb hc, hv.below hb⟩⟩

set_option maxRecDepth 100000 in
set_option maxHeartbeats 1600000 in
theorem walk1 (v : Value) (bs : List UInt8) (hl : bs.length ≤ 140737488351232) (u : Value) (raw : List UInt8) (hk : raw.length ≤ 140737488351232) (x : Nat) (hx : x ≤ 65535) (y : Nat) (hy : y ≤ 255) (hm : bs.length ≤ 300) (w : World)
    (hv : IsBytes w v bs) (hu : IsBytes w u raw) :
    Calls Try.prog 11 #[v, u, .int .u16 (x : Int), .int .u8 (y : Int)] w fun e w' => e = .returned (.bool true) ∧ Below w.heap.size w w' := by
  have HV := Lib.hid hv
  have HU := Lib.hid hu
  obtain ⟨A, cap, rfl, hlc, -, -⟩ := hv
  obtain ⟨B, cap2, rfl, -, -, -⟩ := hu
  obtain ⟨xs, hxs⟩ : ∃ xs, xs = bs := ⟨_, rfl⟩
  have hxl : xs.length ≤ 300 := by rw [hxs]; omega
  have HT : Hid (IsBytes w (.slice A bs.length cap) xs) := by rw [hxs]; exact HV.out
  clear hxs
  go_enter Try.func11, Try.ntmps11
  go_wp2_with fail
  refine (awake3_any _).mono ?_
  rintro e w0 ⟨rfl, hb0⟩
  go_wp2_with fail
  refine (form_any _ xs (by omega) _ (HT.out.below hb0)).mono ?_
  rintro e w1 ⟨rfl, hb1'⟩
  have hb1 := hb0.trans (hb1'.mono hb0.size)
  have hfl := length_frame xs
  obtain ⟨fx, hfx⟩ : ∃ fx, fx = frame xs := ⟨_, rfl⟩
  rw [← hfx] at hfl ⊢
  have hfm : fx.length ≤ 309 := by omega
  have hfp : 0 < fx.length := by omega
  obtain ⟨cx, w2, hrun, hcx, hbx, hb2', hlt2⟩ := conv_back w1 fx (by simp only [maxLen]; omega)
  have hb2 := hb1.trans (hb2'.mono hb1.size)
  have HX := Lib.hid hbx
  clear hfl hfx hbx hb1' hb2' hb0
  have hsz := hb2.size
  go_wp2_with (at_builtin; refine wpl_append_bytes _ rfl (.const (.slice none 0 0)) (.tmp 28) rfl w.heap.size (.slice none 0 0) [] rfl (Owns.nil _ _) _ fx rfl HX.out (by simp; omega) hsz ?_)
  intro v1 w3 ho1 hg1 hat1
  have hb3 := below_append hb2 (Owns.nil w2 w.heap.size) (Nat.le_refl _) hg1 hsz
  have hb23 : Below w2.heap.size w2 w3 := below_append (Below.refl _ _) (Owns.nil w2 w2.heap.size) (Nat.le_refl _) hg1 (Nat.le_refl _)
  have hoy : Owns w3 w.heap.size v1 fx := ho1
  obtain ⟨gy, cy, rfl, hgy, hgl⟩ := hoy.form hfp
  have hgy2 : gy = w2.heap.size := by
    rcases hat1 with h | h
    · cases h
    · simpa [Value.ownBlock] using h
  have hgy3 : w1.heap.size < gy := by omega
  have hbx3 := HX.out.below hb23
  have HX3 := Lib.hid hbx3
  have hk0 : x % fx.length < fx.length := Nat.mod_lt _ hfp
  obtain ⟨c, hc⟩ : ∃ c, fx[x % fx.length]? = some c := ⟨_, List.getElem?_eq_getElem hk0⟩
  obtain ⟨hc1, hf1⟩ := hoy.get hc
  have hc8 := c.toNat_lt
  have HOY := Lib.hid hoy
  have hxor : bits .xor .u8 (c.toNat : Int) (y : Int) = ((c ^^^ UInt8.ofNat y).toNat : Int) := by
    rw [UInt8.toNat_xor, UInt8.toNat_ofNat', Nat.mod_eq_of_lt (by omega : y < 2 ^ 8)]
    exact u8_xor_nat _ y (by omega) (by omega)
  have e : c.toNat ^^^ y % 256 = (c ^^^ UInt8.ofNat y).toNat := by rw [UInt8.toNat_xor, UInt8.toNat_ofNat']
  have HE := Lib.hid e
  have HC := Lib.hid hc
  clear ho1 hg1 hb2 hb23 hoy hbx3 hc hrun e hgy2 hat1
  go_wp2
  rw [HE.out]
  obtain ⟨w4, hw4⟩ : ∃ w4, w4 = w3.setCell ⟨gy, x % fx.length, none⟩ (.int .u8 (((c ^^^ UInt8.ofNat y).toNat : Nat) : Int)) := ⟨_, rfl⟩
  have HX4 : Hid (IsBytes w4 (.slice (some ⟨w1.heap.size, 0, none⟩) fx.length cx) fx) := by rw [hw4]; exact far_bytes HX3.out (by omega) _
  obtain ⟨fy, hfy⟩ : ∃ fy, fy = fx.set (x % fx.length) (c ^^^ UInt8.ofNat y) := ⟨_, rfl⟩
  have hfyl : fy.length ≤ 309 := by rw [hfy, List.length_set]; exact hfm
  have HY4 : Hid (IsBytes w4 (.slice (some ⟨gy, 0, none⟩) fx.length cy) fy) := by rw [hw4, hfy]; exact (HOY.out.put (x % fx.length) (c ^^^ UInt8.ofNat y)).bytes
  have hb4 : Below w.heap.size w w4 := by rw [hw4]; exact hb3.setCell (p := ⟨gy, x % fx.length, none⟩) hgy _
  obtain ⟨k, hkx⟩ : ∃ k, k = x % fx.length := ⟨_, rfl⟩
  have q1 : IntKind.i64.wrap (x : Int) = (x : Int) := IntWalk.i64_in _ (by omega)
  have q2 : (x : Int).tmod (fx.length : Int) = (k : Int) := by rw [hkx, Int.tmod_eq_emod_of_nonneg (by omega)]; rfl
  have q3 : ¬ fx = [] := by intro h; rw [h] at hfp; simp at hfp
  have q4 : (k : Int) ≤ (cx : Int) := by omega
  have q5 : IntKind.i64.wrap (k : Int) = (k : Int) := IntWalk.i64_in _ (by omega)
  have hkl : k ≤ fx.length := by omega
  have HT4 := Lib.hid (HX4.out.take k hkl)
  have HU4 := Lib.hid (HU.out.below hb4)
  rw [← hw4]
  have hcx0 : ¬ cx = 0 := by omega
  have HB4 := Lib.hid hb4
  have hsz4 := hb4.size
  clear hkx hw4 hfy HX3 HOY HC HE hb3 hb4 hc1 hf1 hxor hc8 HT HV HU hgl
  have hl4 : [raw, fy, fx.take k, fx ++ raw].length = 4 := rfl
  have hlen : ∀ (i : Nat) (bs : List UInt8), [raw, fy, fx.take k, fx ++ raw][i]? = some bs → bs.length ≤ 281474976710656 := by
    intro i bs hi
    match i, hi with
    | 0, hi => simp at hi; subst hi; omega
    | 1, hi => simp at hi; subst hi; omega
    | 2, hi => simp at hi; subst hi; rw [List.length_take]; omega
    | 3, hi => simp at hi; subst hi; rw [List.length_append]; omega
    | i + 4, hi => simp at hi
  obtain ⟨bss, hbss⟩ : ∃ bss, bss = [raw, fy, fx.take k, fx ++ raw] := ⟨_, rfl⟩
  rw [← hbss] at hlen hl4
  have HLEN := Lib.hid hlen
  have HL4 := Lib.hid hl4
  have HBSS := Lib.hid hbss
  clear hlen hl4 hbss
  go_cut [54, 55, 56] from 41 to 56 (fun s t i wx => ∃ g, s = .slice (some ⟨g, 0, none⟩) 4 4 ∧ t = .int .i64 4 ∧ i = .int .i64 0 ∧ Four wx g bss ∧ Below w.heap.size w wx)
  case first =>
    go_region_law (first
      | (refine step_append_bytes _ ?_ (.const (.slice none 0 0)) (.tmp 50) ?_ w4.heap.size (.slice none 0 0) [] ?_ ?_ (.slice (some ⟨w1.heap.size, 0, none⟩) fx.length cx) fx ?_ ?_ ?_ ?_ ?_; rfl; rfl; rfl; exact Owns.nil _ _; simp [Act.eval, Act.put]; exact drew_bytes HX4.out; (simp; omega); exact Nat.le_refl _; intro v5 w5 ho5 hg5 _; have hb5 : Below w4.heap.size w4 w5 := below_append (Below.refl _ _).drew (Owns.nil w4.drew w4.heap.size) (Nat.le_refl _) hg5 (Nat.le_refl _); have HO5 : Hid (Owns w5 w4.heap.size v5 fx) := ho5; clear ho5 hg5; have HB5 := Lib.hid hb5; clear hb5)
      | (refine step_append_bytes _ ?_ (.tmp 51) (.tmp 52) ?_ w4.heap.size v5 fx ?_ ?_ (.slice B raw.length cap2) raw ?_ ?_ ?_ ?_ ?_; rfl; rfl; simp [Act.eval]; exact HO5.out; simp [Act.eval]; exact HU4.out.below HB5.out; omega; exact HB5.out.size; intro v6 w6 ho6 hg6 _; have hb6 : Hid (Below w4.heap.size w4 w6) := below_append HB5.out HO5.out (Nat.le_refl _) hg6 HB5.out.size; have HO6 := Lib.hid ho6; obtain ⟨g6, c6, h6, _, _⟩ := ho6.form (by simp; omega); rw [h6]; rw [h6] at HO6; clear hg6 ho6 h6))
    all_goals
      (go_wp2_with fail
       go_meet
       have hb46 : Below w.heap.size w w6 := HB4.out.trans (hb6.out.mono hsz4)
       have hfour : Four (w6.alloc (.cells #[.slice B raw.length cap2, .slice (some ⟨gy, 0, none⟩) fx.length cy, .slice (some ⟨w1.heap.size, 0, none⟩) k cx, .slice (some ⟨g6, 0, none⟩) (fx.length + raw.length) c6] 29)) w6.heap.size [raw, fy, fx.take k, fx ++ raw] := by
         refine ⟨fun i bs hi => ?_⟩
         have hnew : ∀ (v : Value) (bs : List UInt8), IsBytes w6 v bs → IsBytes (w6.alloc (.cells #[.slice B raw.length cap2, .slice (some ⟨gy, 0, none⟩) fx.length cy, .slice (some ⟨w1.heap.size, 0, none⟩) k cx, .slice (some ⟨g6, 0, none⟩) (fx.length + raw.length) c6] 29)) v bs :=
           fun v bs h => h.below ((Below.refl _ _).alloc (Nat.le_refl _) _)
         have hc := fun i => cell_of_row (w6.alloc (.cells #[.slice B raw.length cap2, .slice (some ⟨gy, 0, none⟩) fx.length cy, .slice (some ⟨w1.heap.size, 0, none⟩) k cx, .slice (some ⟨g6, 0, none⟩) (fx.length + raw.length) c6] 29)) w6.heap.size i _ 29 (0, 0) (heap_alloc_last w6 _)
         match i, hi with
         | 0, hi => simp at hi; subst hi; exact ⟨_, hc 0, hnew _ _ (HU4.out.below hb6.out)⟩
         | 1, hi => simp at hi; subst hi; exact ⟨_, hc 1, hnew _ _ (HY4.out.below hb6.out)⟩
         | 2, hi => simp at hi; subst hi; exact ⟨_, hc 2, hnew _ _ (HT4.out.below hb6.out)⟩
         | 3, hi => simp at hi; subst hi; exact ⟨_, hc 3, hnew _ _ (by have h := HO6.out.bytes; rw [List.length_append] at h; exact h)⟩
         | i + 4, hi => simp at hi
       have hb7 : Below w.heap.size w (w6.alloc (.cells #[.slice B raw.length cap2, .slice (some ⟨gy, 0, none⟩) fx.length cy, .slice (some ⟨w1.heap.size, 0, none⟩) k cx, .slice (some ⟨g6, 0, none⟩) (fx.length + raw.length) c6] 29)) := hb46.alloc hb46.size _
       rw [← HBSS.out] at hfour
       exact ⟨_, rfl, rfl, rfl, hfour, hb7⟩)
  case rest =>
    obtain ⟨g, rfl, rfl, rfl, hfour, hb7⟩ := hcut
    have HF := Lib.hid hfour
    have HB7 := Lib.hid hb7
    clear hfour hb7 HB4 HU4 HT4 HY4 HX4 HBSS q1 q2 q3 q4 q5
    go_wp2_with fail
    go_loopw [56] (fun i wr => ∃ j : Nat, j ≤ 4 ∧ i = .int .i64 (j : Int) ∧ Four wr g bss ∧ Below w.heap.size w wr) (fun i _ => 4 - (intOf i).toNat)
    case atStart => exact ⟨0, by omega, rfl, HF.out, HB7.out⟩
    case round =>
      obtain ⟨j, hj, rfl, hfr, hbr⟩ := hrel
      have HFR := Lib.hid hfr
      have HBR := Lib.hid hbr
      clear hfr hbr HF HB7
      by_cases hj4 : j < 4
      · obtain ⟨b, hb⟩ : ∃ b, bss[j]? = some b := ⟨_, List.getElem?_eq_getElem (by rw [HL4.out]; exact hj4)⟩
        obtain ⟨vb, hcell, hvb⟩ := HFR.out.at_ j b hb
        have hbl := HLEN.out j b hb
        have HVB := Lib.hid hvb
        clear hvb hb
        go_wp2_with fail
        refine (one_any vb b hbl _ HVB.out).mono ?_
        rintro e wa ⟨va, rfl, hoa, hba⟩
        have HVA := Lib.hid (HVB.out.below hba)
        have HFA := Lib.hid (HFR.out.below hba)
        have HOA := Lib.hid hoa.bytes
        have HBA := Lib.hid (HBR.out.trans (hba.mono HBR.out.size))
        obtain ⟨p, n, r, hone⟩ : ∃ p n r, one b = (p, n, r) := ⟨_, _, _, rfl⟩
        rw [hone] at HOA ⊢
        have HONE := Lib.hid hone
        clear hoa hba hcell HVB HFR HBR hone
        go_wp2_with fail
        refine (law_any vb b hbl _ HVA.out).mono ?_
        rintro e wb ⟨vc, rfl, hoc, hbc⟩
        rw [HONE.out] at hoc ⊢
        have HFC := Lib.hid (HFA.out.below hbc)
        have HBC := Lib.hid (HBA.out.trans (hbc.mono HBA.out.size))
        have k1 := run_conv _ _ _ (HOA.out.below hbc)
        have k2 := run_conv _ _ _ hoc
        have t1 := toList_strOf p
        simp only [] at k1 k2
        clear hoc hbc HFA HBA HOA HVA
        go_wp2
        go_roundw
        case rel => (repeat apply Exists.intro); exact ⟨⟨j + 1, by omega, by go_num, HFC.out, HBC.out⟩, rfl⟩
        case measure => simp [intOf]; omega
      · go_wp2
        go_ret
        exact ⟨rfl, HBR.out⟩

set_option maxRecDepth 100000 in
set_option maxHeartbeats 1600000 in
theorem walk0 (v : Value) (bs : List UInt8) (hl : bs.length ≤ 140737488351232) (u : Value) (raw : List UInt8) (hk : raw.length ≤ 140737488351232) (x : Nat) (hx : x ≤ 65535) (y : Nat) (hy : y ≤ 255) (hm : 300 < bs.length) (w : World)
    (hv : IsBytes w v bs) (hu : IsBytes w u raw) :
    Calls Try.prog 11 #[v, u, .int .u16 (x : Int), .int .u8 (y : Int)] w fun e w' => e = .returned (.bool true) ∧ Below w.heap.size w w' := by
  have HV := Lib.hid hv
  have HU := Lib.hid hu
  obtain ⟨A, cap, rfl, hlc, -, -⟩ := hv
  obtain ⟨B, cap2, rfl, -, -, -⟩ := hu
  obtain ⟨xs, hxs⟩ : ∃ xs, xs = bs.take 300 := ⟨_, rfl⟩
  have hxl : xs.length ≤ 300 := by rw [hxs, List.length_take]; omega
  have HT : Hid (IsBytes w (.slice A 300 cap) xs) := by rw [hxs]; exact HV.out.take 300 (by omega)
  clear hxs
  go_enter Try.func11, Try.ntmps11
  go_wp2_with fail
  refine (awake3_any _).mono ?_
  rintro e w0 ⟨rfl, hb0⟩
  go_wp2_with fail
  refine (form_any _ xs (by omega) _ (HT.out.below hb0)).mono ?_
  rintro e w1 ⟨rfl, hb1'⟩
  have hb1 := hb0.trans (hb1'.mono hb0.size)
  have hfl := length_frame xs
  obtain ⟨fx, hfx⟩ : ∃ fx, fx = frame xs := ⟨_, rfl⟩
  rw [← hfx] at hfl ⊢
  have hfm : fx.length ≤ 309 := by omega
  have hfp : 0 < fx.length := by omega
  obtain ⟨cx, w2, hrun, hcx, hbx, hb2', hlt2⟩ := conv_back w1 fx (by simp only [maxLen]; omega)
  have hb2 := hb1.trans (hb2'.mono hb1.size)
  have HX := Lib.hid hbx
  clear hfl hfx hbx hb1' hb2' hb0
  have hsz := hb2.size
  go_wp2_with (at_builtin; refine wpl_append_bytes _ rfl (.const (.slice none 0 0)) (.tmp 28) rfl w.heap.size (.slice none 0 0) [] rfl (Owns.nil _ _) _ fx rfl HX.out (by simp; omega) hsz ?_)
  intro v1 w3 ho1 hg1 hat1
  have hb3 := below_append hb2 (Owns.nil w2 w.heap.size) (Nat.le_refl _) hg1 hsz
  have hb23 : Below w2.heap.size w2 w3 := below_append (Below.refl _ _) (Owns.nil w2 w2.heap.size) (Nat.le_refl _) hg1 (Nat.le_refl _)
  have hoy : Owns w3 w.heap.size v1 fx := ho1
  obtain ⟨gy, cy, rfl, hgy, hgl⟩ := hoy.form hfp
  have hgy2 : gy = w2.heap.size := by
    rcases hat1 with h | h
    · cases h
    · simpa [Value.ownBlock] using h
  have hgy3 : w1.heap.size < gy := by omega
  have hbx3 := HX.out.below hb23
  have HX3 := Lib.hid hbx3
  have hk0 : x % fx.length < fx.length := Nat.mod_lt _ hfp
  obtain ⟨c, hc⟩ : ∃ c, fx[x % fx.length]? = some c := ⟨_, List.getElem?_eq_getElem hk0⟩
  obtain ⟨hc1, hf1⟩ := hoy.get hc
  have hc8 := c.toNat_lt
  have HOY := Lib.hid hoy
  have hxor : bits .xor .u8 (c.toNat : Int) (y : Int) = ((c ^^^ UInt8.ofNat y).toNat : Int) := by
    rw [UInt8.toNat_xor, UInt8.toNat_ofNat', Nat.mod_eq_of_lt (by omega : y < 2 ^ 8)]
    exact u8_xor_nat _ y (by omega) (by omega)
  have e : c.toNat ^^^ y % 256 = (c ^^^ UInt8.ofNat y).toNat := by rw [UInt8.toNat_xor, UInt8.toNat_ofNat']
  have HE := Lib.hid e
  have HC := Lib.hid hc
  clear ho1 hg1 hb2 hb23 hoy hbx3 hc hrun e hgy2 hat1
  go_wp2
  rw [HE.out]
  obtain ⟨w4, hw4⟩ : ∃ w4, w4 = w3.setCell ⟨gy, x % fx.length, none⟩ (.int .u8 (((c ^^^ UInt8.ofNat y).toNat : Nat) : Int)) := ⟨_, rfl⟩
  have HX4 : Hid (IsBytes w4 (.slice (some ⟨w1.heap.size, 0, none⟩) fx.length cx) fx) := by rw [hw4]; exact far_bytes HX3.out (by omega) _
  obtain ⟨fy, hfy⟩ : ∃ fy, fy = fx.set (x % fx.length) (c ^^^ UInt8.ofNat y) := ⟨_, rfl⟩
  have hfyl : fy.length ≤ 309 := by rw [hfy, List.length_set]; exact hfm
  have HY4 : Hid (IsBytes w4 (.slice (some ⟨gy, 0, none⟩) fx.length cy) fy) := by rw [hw4, hfy]; exact (HOY.out.put (x % fx.length) (c ^^^ UInt8.ofNat y)).bytes
  have hb4 : Below w.heap.size w w4 := by rw [hw4]; exact hb3.setCell (p := ⟨gy, x % fx.length, none⟩) hgy _
  obtain ⟨k, hkx⟩ : ∃ k, k = x % fx.length := ⟨_, rfl⟩
  have q1 : IntKind.i64.wrap (x : Int) = (x : Int) := IntWalk.i64_in _ (by omega)
  have q2 : (x : Int).tmod (fx.length : Int) = (k : Int) := by rw [hkx, Int.tmod_eq_emod_of_nonneg (by omega)]; rfl
  have q3 : ¬ fx = [] := by intro h; rw [h] at hfp; simp at hfp
  have q4 : (k : Int) ≤ (cx : Int) := by omega
  have q5 : IntKind.i64.wrap (k : Int) = (k : Int) := IntWalk.i64_in _ (by omega)
  have hkl : k ≤ fx.length := by omega
  have HT4 := Lib.hid (HX4.out.take k hkl)
  have HU4 := Lib.hid (HU.out.below hb4)
  rw [← hw4]
  have hcx0 : ¬ cx = 0 := by omega
  have HB4 := Lib.hid hb4
  have hsz4 := hb4.size
  clear hkx hw4 hfy HX3 HOY HC HE hb3 hb4 hc1 hf1 hxor hc8 HT HV HU hgl
  have hl4 : [raw, fy, fx.take k, fx ++ raw].length = 4 := rfl
  have hlen : ∀ (i : Nat) (bs : List UInt8), [raw, fy, fx.take k, fx ++ raw][i]? = some bs → bs.length ≤ 281474976710656 := by
    intro i bs hi
    match i, hi with
    | 0, hi => simp at hi; subst hi; omega
    | 1, hi => simp at hi; subst hi; omega
    | 2, hi => simp at hi; subst hi; rw [List.length_take]; omega
    | 3, hi => simp at hi; subst hi; rw [List.length_append]; omega
    | i + 4, hi => simp at hi
  obtain ⟨bss, hbss⟩ : ∃ bss, bss = [raw, fy, fx.take k, fx ++ raw] := ⟨_, rfl⟩
  rw [← hbss] at hlen hl4
  have HLEN := Lib.hid hlen
  have HL4 := Lib.hid hl4
  have HBSS := Lib.hid hbss
  clear hlen hl4 hbss
  go_cut [54, 55, 56] from 41 to 56 (fun s t i wx => ∃ g, s = .slice (some ⟨g, 0, none⟩) 4 4 ∧ t = .int .i64 4 ∧ i = .int .i64 0 ∧ Four wx g bss ∧ Below w.heap.size w wx)
  case first =>
    go_region_law (first
      | (refine step_append_bytes _ ?_ (.const (.slice none 0 0)) (.tmp 50) ?_ w4.heap.size (.slice none 0 0) [] ?_ ?_ (.slice (some ⟨w1.heap.size, 0, none⟩) fx.length cx) fx ?_ ?_ ?_ ?_ ?_; rfl; rfl; rfl; exact Owns.nil _ _; simp [Act.eval, Act.put]; exact drew_bytes HX4.out; (simp; omega); exact Nat.le_refl _; intro v5 w5 ho5 hg5 _; have hb5 : Below w4.heap.size w4 w5 := below_append (Below.refl _ _).drew (Owns.nil w4.drew w4.heap.size) (Nat.le_refl _) hg5 (Nat.le_refl _); have HO5 : Hid (Owns w5 w4.heap.size v5 fx) := ho5; clear ho5 hg5; have HB5 := Lib.hid hb5; clear hb5)
      | (refine step_append_bytes _ ?_ (.tmp 51) (.tmp 52) ?_ w4.heap.size v5 fx ?_ ?_ (.slice B raw.length cap2) raw ?_ ?_ ?_ ?_ ?_; rfl; rfl; simp [Act.eval]; exact HO5.out; simp [Act.eval]; exact HU4.out.below HB5.out; omega; exact HB5.out.size; intro v6 w6 ho6 hg6 _; have hb6 : Hid (Below w4.heap.size w4 w6) := below_append HB5.out HO5.out (Nat.le_refl _) hg6 HB5.out.size; have HO6 := Lib.hid ho6; obtain ⟨g6, c6, h6, _, _⟩ := ho6.form (by simp; omega); rw [h6]; rw [h6] at HO6; clear hg6 ho6 h6))
    all_goals
      (go_wp2_with fail
       go_meet
       have hb46 : Below w.heap.size w w6 := HB4.out.trans (hb6.out.mono hsz4)
       have hfour : Four (w6.alloc (.cells #[.slice B raw.length cap2, .slice (some ⟨gy, 0, none⟩) fx.length cy, .slice (some ⟨w1.heap.size, 0, none⟩) k cx, .slice (some ⟨g6, 0, none⟩) (fx.length + raw.length) c6] 29)) w6.heap.size [raw, fy, fx.take k, fx ++ raw] := by
         refine ⟨fun i bs hi => ?_⟩
         have hnew : ∀ (v : Value) (bs : List UInt8), IsBytes w6 v bs → IsBytes (w6.alloc (.cells #[.slice B raw.length cap2, .slice (some ⟨gy, 0, none⟩) fx.length cy, .slice (some ⟨w1.heap.size, 0, none⟩) k cx, .slice (some ⟨g6, 0, none⟩) (fx.length + raw.length) c6] 29)) v bs :=
           fun v bs h => h.below ((Below.refl _ _).alloc (Nat.le_refl _) _)
         have hc := fun i => cell_of_row (w6.alloc (.cells #[.slice B raw.length cap2, .slice (some ⟨gy, 0, none⟩) fx.length cy, .slice (some ⟨w1.heap.size, 0, none⟩) k cx, .slice (some ⟨g6, 0, none⟩) (fx.length + raw.length) c6] 29)) w6.heap.size i _ 29 (0, 0) (heap_alloc_last w6 _)
         match i, hi with
         | 0, hi => simp at hi; subst hi; exact ⟨_, hc 0, hnew _ _ (HU4.out.below hb6.out)⟩
         | 1, hi => simp at hi; subst hi; exact ⟨_, hc 1, hnew _ _ (HY4.out.below hb6.out)⟩
         | 2, hi => simp at hi; subst hi; exact ⟨_, hc 2, hnew _ _ (HT4.out.below hb6.out)⟩
         | 3, hi => simp at hi; subst hi; exact ⟨_, hc 3, hnew _ _ (by have h := HO6.out.bytes; rw [List.length_append] at h; exact h)⟩
         | i + 4, hi => simp at hi
       have hb7 : Below w.heap.size w (w6.alloc (.cells #[.slice B raw.length cap2, .slice (some ⟨gy, 0, none⟩) fx.length cy, .slice (some ⟨w1.heap.size, 0, none⟩) k cx, .slice (some ⟨g6, 0, none⟩) (fx.length + raw.length) c6] 29)) := hb46.alloc hb46.size _
       rw [← HBSS.out] at hfour
       exact ⟨_, rfl, rfl, rfl, hfour, hb7⟩)
  case rest =>
    obtain ⟨g, rfl, rfl, rfl, hfour, hb7⟩ := hcut
    have HF := Lib.hid hfour
    have HB7 := Lib.hid hb7
    clear hfour hb7 HB4 HU4 HT4 HY4 HX4 HBSS q1 q2 q3 q4 q5
    go_wp2_with fail
    go_loopw [56] (fun i wr => ∃ j : Nat, j ≤ 4 ∧ i = .int .i64 (j : Int) ∧ Four wr g bss ∧ Below w.heap.size w wr) (fun i _ => 4 - (intOf i).toNat)
    case atStart => exact ⟨0, by omega, rfl, HF.out, HB7.out⟩
    case round =>
      obtain ⟨j, hj, rfl, hfr, hbr⟩ := hrel
      have HFR := Lib.hid hfr
      have HBR := Lib.hid hbr
      clear hfr hbr HF HB7
      by_cases hj4 : j < 4
      · obtain ⟨b, hb⟩ : ∃ b, bss[j]? = some b := ⟨_, List.getElem?_eq_getElem (by rw [HL4.out]; exact hj4)⟩
        obtain ⟨vb, hcell, hvb⟩ := HFR.out.at_ j b hb
        have hbl := HLEN.out j b hb
        have HVB := Lib.hid hvb
        clear hvb hb
        go_wp2_with fail
        refine (one_any vb b hbl _ HVB.out).mono ?_
        rintro e wa ⟨va, rfl, hoa, hba⟩
        have HVA := Lib.hid (HVB.out.below hba)
        have HFA := Lib.hid (HFR.out.below hba)
        have HOA := Lib.hid hoa.bytes
        have HBA := Lib.hid (HBR.out.trans (hba.mono HBR.out.size))
        obtain ⟨p, n, r, hone⟩ : ∃ p n r, one b = (p, n, r) := ⟨_, _, _, rfl⟩
        rw [hone] at HOA ⊢
        have HONE := Lib.hid hone
        clear hoa hba hcell HVB HFR HBR hone
        go_wp2_with fail
        refine (law_any vb b hbl _ HVA.out).mono ?_
        rintro e wb ⟨vc, rfl, hoc, hbc⟩
        rw [HONE.out] at hoc ⊢
        have HFC := Lib.hid (HFA.out.below hbc)
        have HBC := Lib.hid (HBA.out.trans (hbc.mono HBA.out.size))
        have k1 := run_conv _ _ _ (HOA.out.below hbc)
        have k2 := run_conv _ _ _ hoc
        have t1 := toList_strOf p
        simp only [] at k1 k2
        clear hoc hbc HFA HBA HOA HVA
        go_wp2
        go_roundw
        case rel => (repeat apply Exists.intro); exact ⟨⟨j + 1, by omega, by go_num, HFC.out, HBC.out⟩, rfl⟩
        case measure => simp [intOf]; omega
      · go_wp2
        go_ret
        exact ⟨rfl, HBR.out⟩

theorem walk (v : Value) (bs : List UInt8) (hl : bs.length ≤ 140737488351232) (u : Value) (raw : List UInt8) (hk : raw.length ≤ 140737488351232) (x : Nat) (hx : x ≤ 65535) (y : Nat) (hy : y ≤ 255) (w : World)
    (hv : IsBytes w v bs) (hu : IsBytes w u raw) :
    Calls Try.prog 11 #[v, u, .int .u16 (x : Int), .int .u8 (y : Int)] w fun e w' => e = .returned (.bool true) ∧ Below w.heap.size w w' := by
  by_cases h : bs.length ≤ 300
  · exact walk1 v bs hl u raw hk x hx y hy h w hv hu
  · exact walk0 v bs hl u raw hk x hx y hy (by omega) w hv hu

set_option maxRecDepth 100000 in
theorem lifted (os : Os) (started : os.Started) (H : Type) (enc : TypeId × Value → H) :
    ReturnsInHanded {} Try.checked os 11 .any (Rows.frameOneSpec.pre6 enc Try.prog Try.f11 Rows.frameOneRow.domain false) (Rows.frameOneSpec.post enc Try.prog Try.f11 false true false false) := by
  refine returnsInHanded_of_change_sized (C := Try.checked) own started (by kernel_rfl) Try.func11
    (ChangeSpec.witness6 (enc := enc) (C := Try.checked) false ⟨#[], #[.slice none 0 0, .slice none 0 0, .int .u16 0, .int .u8 0], []⟩ 8 (by kernel_rfl) (by kernel_rfl) (by kernel_rfl) (by kernel_rfl)) ?_
  intro W base args ds gs before hval0 hW _ hsz0 _
  have hval : ∀ (j : Nat) t v, Try.f11.params[j]? = some t → args[j]? = some v → Value.okWide Try.prog W .any base t v := hval0
  have hsz : (DataW.weightsEach Try.prog (Try.f11.params.toList ++ Rows.frameOneSpec.plain.varTypes Try.prog) (ds ++ gs)).all (· ≤ reachBytes) = true := hsz0
  have hW' := hW
  obtain ⟨p, q, hA0, hV, rfl, hfz, hnd⟩ := hW
  have hA : DataW.TrodAll enc Try.prog W 0 (fun _ => true) true Try.f11.params.toList args.toList ds p := hA0
  have hA1 := hA
  rw [Try.params11] at hA hA1 hval hsz
  obtain ⟨v0, v1, v2, v3, d0, d1, d2, d3, p0, p1, p2, p3, rfl, rfl, rfl, h0, h1, h2, h3⟩ := trodAll_four hA
  obtain ⟨rfl, rfl⟩ := trodVars_none hV
  simp only [List.append_nil] at hW'
  obtain ⟨bs0, hb0, hl0⟩ := arg_bytes (hval 0 29 v0 rfl rfl) h0 (fun elems spare e => by subst e; exact sized_slice hsz (j := 0) (t := 29) (e := 5) rfl rfl Try.underlying29)
  obtain ⟨bs1, hb1, hl1⟩ := arg_bytes (hval 1 29 v1 rfl rfl) h1 (fun elems spare e => by subst e; exact sized_slice hsz (j := 1) (t := 29) (e := 5) rfl rfl Try.underlying29)
  obtain ⟨z2, rfl, rfl, rfl, wz2⟩ := open_int Try.underlying33 (hval 2 33 v2 rfl rfl) h2
  have bz2 := bounds_u16 wz2
  obtain ⟨x2, rfl⟩ := Int.eq_ofNat_of_zero_le bz2.1
  obtain ⟨z3, rfl, rfl, rfl, wz3⟩ := open_int Try.underlying5 (hval 3 5 v3 rfl rfl) h3
  have bz3 := bounds_u8 wz3
  obtain ⟨x3, rfl⟩ := Int.eq_ofNat_of_zero_le bz3.1
  refine (walk v0 bs0 hl0 v1 bs1 hl1 x2 (by omega) x3 (by omega) W hb0 hb1).mono fun e W' ⟨he, hb⟩ => ?_
  subst he
  exact ⟨_, rfl, post_of_below (pv := []) hW' (fun _ _ _ => trodAll_mk1 (shut_bool Try.underlying4 _)) (fun sp hs => args_stay laidOut hb _ _ _ _ (by simp [ok5, ok29, ok33]) hA1 (fun x hx => hW'.lt x (by simpa using hx)) (fun x hx => hs x (by simpa using hx))) (fun _ _ => rfl) (by simp)
    hb (ok_one (by kernel_rfl) rfl (okWide_bool_mk Try.underlying4 _))⟩

theorem holds : Rows.FrameOneSaid :=
  OpenClaim.holds_of_wide 11 Try.f11 rfl rfl rfl rfl rfl rfl rfl ⟨rfl, rfl, rfl, rfl, rfl⟩ rfl rfl rfl rfl rfl (by kernel_rfl) Try.func11 (by kernel_rfl)
    (of_decide_eq_true (by kernel_rfl)) (by unfold Func.isWrapper; first | (rw [if_pos (by decide +kernel)]; kernel_rfl) | (rw [if_neg (by decide +kernel)]; exact ⟨rfl, rfl⟩))
    (fun os started H enc _ => lifted os started H enc)
#print axioms holds
end Go.Proofs.Ytflolmldildjhaa.lawFrameOne
