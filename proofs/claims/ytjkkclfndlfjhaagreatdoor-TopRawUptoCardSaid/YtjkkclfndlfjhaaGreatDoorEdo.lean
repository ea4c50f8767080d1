/- Contract of edits.Do: a list of files, or an error. -/
import Derived.Test.YtjkkclfndlfjhaaGreatDoorSrt
import Derived.Deep.RegionHeld3
import Derived.Test.YtjkkclfndlfjhaaGreatDoorEd1
set_option linter.all false
namespace Go.Proofs.YtjkkclfndlfjhaaGreatDoor
open Go.RowKit Crc Frm Go.ChangeShapes Go.WideShapes Go.ChangeAt

/-- What Do leaves. -/
def DoLeft (n : Nat) (W : World) (e : Ending) (W' : World) : Prop :=
  ∃ (rv : Value) (floor err : Int), e = .returned (.tuple #[.agg #[rv, .int .i64 floor], .int .i64 err]) ∧ Below W.heap.size W W' ∧ (∃ A n c, rv = .slice A n c) ∧ (err = 0 → ∃ refs : List Rf, OwnL W' W.heap.size 173 layRf rv refs ∧ refs.length ≤ n)

/-- What lies in memory while Do goes on. -/
def DoIn (W : World) (sv : Array Value) (ev : Array Value) (floor : Int) (b6 : Nat) (cv : Value) (xs : List Rf) (wr : World) : Prop :=
  Below W.heap.size W wr ∧ Has wr W.heap.size 104 sv ∧ Has wr (W.heap.size + 1) 97 ev ∧ Has wr (W.heap.size + 2) 104 #[.slice none 0 0, .int .i64 0] ∧ Has wr b6 104 #[cv, .int .i64 floor] ∧ W.heap.size + 2 < b6 ∧ OwnL wr (W.heap.size + 3) 173 layRf cv xs

theorem Has.two {W : World} {g : Nat} {t : TypeId} {a b : Value} (h : Has W g t #[a, b]) : W.cell? ⟨g, 0, none⟩ = some a ∧ W.cell? ⟨g, 1, none⟩ = some b ∧ W.frozen? ⟨g, 0, none⟩ = false ∧ W.frozen? ⟨g, 1, none⟩ = false := ⟨h.cell 0, h.cell 1, h.frozen 0, h.frozen 1⟩
theorem DoIn.below {W : World} {sv ev : Array Value} {floor : Int} {b6 : Nat} {cv : Value} {xs : List Rf} {wr w' : World} (h : DoIn W sv ev floor b6 cv xs wr) (hb : Below wr.heap.size wr w') : DoIn W sv ev floor b6 cv xs w' :=
  ⟨h.1.trans (hb.mono h.1.size), h.2.1.below hb h.2.1.lt, h.2.2.1.below hb h.2.2.1.lt, h.2.2.2.1.below hb h.2.2.2.1.lt, h.2.2.2.2.1.below hb h.2.2.2.2.1.lt, h.2.2.2.2.2.1, h.2.2.2.2.2.2.below hb (Nat.le_refl _)⟩
/-- The list's own row has turned. -/
theorem DoIn.turn {W : World} {sv ev : Array Value} {floor : Int} {b6 : Nat} {cv : Value} {xs : List Rf} {wr w1 : World} (h : DoIn W sv ev floor b6 cv xs wr) (hg : wr.grownBy w1 cv.ownBlock) :
    Below W.heap.size W w1 ∧ Has w1 W.heap.size 104 sv ∧ Has w1 (W.heap.size + 1) 97 ev ∧ Has w1 (W.heap.size + 2) 104 #[.slice none 0 0, .int .i64 0] ∧ Has w1 b6 104 #[cv, .int .i64 floor] := by
  obtain ⟨h1, h2, h3, h4, h5, h6, h7⟩ := h
  have f := Fr.ofGrown hg
  have ho := h7.lt
  have hty : ∀ b, some b = cv.ownBlock → ¬ b = b6 := fun b hb e => by
    obtain ⟨cs, hc⟩ := h7.typed b hb.symm
    rw [e, show wr.heap[b6]? = _ from h5] at hc
    cases hc
  exact ⟨h1.trans (f.toBelow (fun k hk => by have := (ho k hk.symm).1; omega) h1.size), h2.fr f (fun e => by have := (ho _ e.symm).1; omega), h3.fr f (fun e => by have := (ho _ e.symm).1; omega), h4.fr f (fun e => by have := (ho _ e.symm).1; omega), h5.fr f (fun e => hty _ e rfl)⟩
/-- The list is another one. -/
theorem DoIn.put {W : World} {sv ev : Array Value} {floor : Int} {b6 : Nat} {cv v' : Value} {xs ys : List Rf} {wr w1 : World} (h : DoIn W sv ev floor b6 cv xs wr) (hg : wr.grownBy w1 cv.ownBlock) (ho : OwnL w1 (W.heap.size + 3) 173 layRf v' ys) :
    DoIn W sv ev floor b6 v' ys (w1.setCell ⟨b6, 0, none⟩ v') := by
  obtain ⟨h1, h2, h3, h4, h5⟩ := h.turn hg
  have h6 := h.2.2.2.2.2.1
  have f := Fr.set w1 b6 0 v'
  have hty : ∀ b, v'.ownBlock = some b → ¬ b = b6 := fun b hb e => by
    obtain ⟨cs, hc⟩ := ho.typed b hb
    rw [e, show w1.heap[b6]? = _ from h5] at hc
    cases hc
  exact ⟨h1.trans (f.toBelow (fun k hk => by omega) h1.size), h2.fr f (by omega), h3.fr f (by omega), h4.fr f (by omega), by simpa using h5.set 0 v', h6, ho.fr f hty⟩

set_option maxRecDepth 100000 in
set_option maxHeartbeats 12800000 in
theorem do_any (rv addv dropv : Value) (floor0 floor : Int) (refs add : List Rf) (drop : List ByteArray) (hl1 : refs.length + add.length ≤ 10000000) (hl2 : drop.length ≤ 10000000) (W : World) (hr : IsL W layRf rv refs) (ha : IsL W layRf addv add) (hd : IsL W layStr dropv drop) :
    Calls Tryz.prog 67 #[.agg #[rv, .int .i64 floor0], .agg #[addv, dropv, .int .i64 floor]] W (DoLeft (refs.length + add.length) W) := by
  obtain ⟨i1, hi1, hz1, hs1', hb1⟩ := info_parts info173
  have HRV := Lib.hid hr
  have HAV := Lib.hid ha
  have HDV := Lib.hid hd
  obtain ⟨A, cap, rfl, -⟩ := hr
  obtain ⟨Aa, capa, rfl, -⟩ := ha
  obtain ⟨Ad, capd, rfl, -⟩ := hd
  obtain ⟨W3, hW3⟩ : ∃ W3, W3 = (((W.alloc (.cells #[.slice A refs.length cap, .int .i64 floor0] 104)).alloc (.cells #[.slice Aa add.length capa, .slice Ad drop.length capd, .int .i64 floor] 97)).alloc (.cells #[.slice none 0 0, .int .i64 0] 104)) := ⟨_, rfl⟩
  have hbw : Below W.heap.size W W3 := by rw [hW3]; exact (((Below.refl _ W).alloc (Nat.le_refl _) _).alloc (by simp) _).alloc (by simp; omega) _
  have hsz : W3.heap.size = W.heap.size + 3 := by rw [hW3]; simp
  have k0 : Has W3 W.heap.size 104 #[.slice A refs.length cap, .int .i64 floor0] := by rw [hW3]; exact ((Has.new W 104 _).alloc _).alloc _
  have k1 : Has W3 (W.heap.size + 1) 97 #[.slice Aa add.length capa, .slice Ad drop.length capd, .int .i64 floor] := by
    have := (Has.new (W.alloc (.cells #[.slice A refs.length cap, .int .i64 floor0] 104)) 97 #[.slice Aa add.length capa, .slice Ad drop.length capd, .int .i64 floor]).alloc (.cells #[.slice none 0 0, .int .i64 0] 104)
    rw [World.size_alloc] at this
    rw [hW3]; exact this
  have k2 : Has W3 (W.heap.size + 2) 104 #[.slice none 0 0, .int .i64 0] := by
    have := Has.new ((W.alloc (.cells #[.slice A refs.length cap, .int .i64 floor0] 104)).alloc (.cells #[.slice Aa add.length capa, .slice Ad drop.length capd, .int .i64 floor] 97)) 104 #[.slice none 0 0, .int .i64 0]
    rw [World.size_alloc, World.size_alloc] at this
    rw [hW3]; exact this
  have HB := Lib.hid hbw
  have K0 := Lib.hid k0
  have K1 := Lib.hid k1
  have K2 := Lib.hid k2
  go_enter Tryz.func67, Tryz.ntmps67
  go_upto_region 1 with fail
  try simp only [World.size_alloc]
  rw [← hW3]
  have HSZ := Lib.hid hsz
  clear hbw k0 k1 k2 hW3 hsz
  go_cut [6] from 12 to 17 (fun s6 wx => ∃ b6 cv, s6 = .pointer (some ⟨b6, 0, none⟩) ∧ DoIn W #[.slice A refs.length cap, .int .i64 floor0] #[.slice Aa add.length capa, .slice Ad drop.length capd, .int .i64 floor] floor b6 cv refs wx)
  case first =>
    have c0 : W3.drew.cell? ⟨W.heap.size, 0, none⟩ = some (.slice A refs.length cap) := K0.out.cell 0
    have c2 : W3.drew.cell? ⟨W.heap.size + 1, 2, none⟩ = some (.int .i64 floor) := K1.out.cell 2
    have E2 : ∀ wX w5, Has wX (W.heap.size + 1) 97 #[.slice Aa add.length capa, .slice Ad drop.length capd, .int .i64 floor] → Below wX.heap.size wX w5 → w5.cell? ⟨W.heap.size + 1, 2, none⟩ = some (.int .i64 floor) := fun wX w5 h hb => (h.below hb h.lt).cell 2
    have E6 : ∀ wX w5, Has wX W3.heap.size 104 #[.slice none 0 0, .int .i64 0] → Below wX.heap.size wX w5 → (w5.cell? ⟨W3.heap.size, 0, none⟩ = some (.slice none 0 0) ∧ w5.cell? ⟨W3.heap.size, 1, none⟩ = some (.int .i64 0) ∧ w5.frozen? ⟨W3.heap.size, 0, none⟩ = false ∧ w5.frozen? ⟨W3.heap.size, 1, none⟩ = false) :=
      fun wX w5 h hb => ⟨(h.below hb h.lt).cell 0, (h.below hb h.lt).cell 1, (h.below hb h.lt).frozen 0, (h.below hb h.lt).frozen 1⟩
    have N6 : Has (W3.drew.alloc (.cells #[.slice none 0 0, .int .i64 0] 104)) W3.heap.size 104 #[.slice none 0 0, .int .i64 0] := Has.new W3.drew 104 _
    have c0' : ∀ o, (W3.drew.alloc o).cell? ⟨W.heap.size, 0, none⟩ = some (.slice A refs.length cap) := fun o => (K0.out.drew.alloc o).cell 0
    have c2' : ∀ o, (W3.drew.alloc o).cell? ⟨W.heap.size + 1, 2, none⟩ = some (.int .i64 floor) := fun o => (K1.out.drew.alloc o).cell 2
    first
      | (go_region_held3 (fun w' => w'.cell? ⟨W.heap.size, 0, none⟩ = some (.slice A refs.length cap) ∧ w'.cell? ⟨W.heap.size + 1, 2, none⟩ = some (.int .i64 floor))
          (first | exact ⟨((KW0.out.fr (Fr.set _ _ 0 _) (by have := HSZ.out; omega)).fr (Fr.set _ _ 1 _) (by have := HSZ.out; omega)).cell 0, ((KW1.out.fr (Fr.set _ _ 0 _) (by have := HSZ.out; omega)).fr (Fr.set _ _ 1 _) (by have := HSZ.out; omega)).cell 2⟩ | exact ⟨(KW0.out.alloc _).cell 0, (KW1.out.alloc _).cell 2⟩ | exact ⟨KW0.out.cell 0, KW1.out.cell 2⟩ | exact ⟨(K0.out.drew.alloc _).cell 0, (K1.out.drew.alloc _).cell 2⟩ | exact ⟨K0.out.drew.cell 0, K1.out.drew.cell 2⟩)
          (first
            | (go_at_call 106; refine (clone_refs_any _ refs (by omega) (W3.drew.alloc _) (HRV.out.below (HB.out.drew.alloc HB.out.size _) (Nat.le_refl _))).mono ?_; rintro e w5 ⟨v1, rfl, ho, hb5⟩; have KW0 := Lib.hid ((K0.out.drew.alloc _).below hb5 (K0.out.drew.alloc _).lt); have KW1 := Lib.hid ((K1.out.drew.alloc _).below hb5 (K1.out.drew.alloc _).lt); obtain ⟨p0, p1, p2, p3⟩ := E6 _ w5 N6 hb5; have HO := Lib.hid ho; have HB5 := Lib.hid hb5; obtain ⟨A5, c5, hv5, -⟩ := ho.list; subst hv5; clear ho hb5)
            | (go_at_call 106; refine (clone_refs_any _ refs (by omega) W3.drew (HRV.out.below HB.out.drew (Nat.le_refl _))).mono ?_; rintro e w5 ⟨v1, rfl, ho, hb5⟩; have KW0 := Lib.hid (K0.out.drew.below hb5 K0.out.drew.lt); have KW1 := Lib.hid (K1.out.drew.below hb5 K1.out.drew.lt); have HO := Lib.hid ho; have HB5 := Lib.hid hb5; obtain ⟨A5, c5, hv5, -⟩ := ho.list; subst hv5; clear ho hb5)))
      | fail
    all_goals
      have hs5 := HB5.out.size
      have hsz := HSZ.out
      have hd : W3.drew.heap.size = W3.heap.size := rfl
      simp only [World.size_alloc, hd] at hs5
      go_wp2_with fail
      go_meet
      first
        | exact ⟨w5.heap.size, _, rfl, (HB.out.drew.trans (HB5.out.mono (show W.heap.size ≤ W3.heap.size by omega))).alloc (by omega) _, KW0.out.alloc _, KW1.out.alloc _, (K2.out.drew.below HB5.out K2.out.drew.lt).alloc _, Has.new w5 104 _, by omega, OwnL.alloc (HO.out.base (show W.heap.size + 3 ≤ W3.heap.size by omega)) _⟩
        | exact ⟨W3.heap.size, _, rfl, ((HB.out.drew.alloc HB.out.size _).trans (HB5.out.mono (by rw [World.size_alloc]; show W.heap.size ≤ W3.heap.size + 1; omega))).trans ((Fr.set2 w5 W3.heap.size _ _).toBelow (fun k e => by omega) (by omega)), KW0.out.fr (Fr.set2 w5 W3.heap.size _ _) (by omega), KW1.out.fr (Fr.set2 w5 W3.heap.size _ _) (by omega), ((K2.out.drew.alloc _).below HB5.out (K2.out.drew.alloc _).lt).fr (Fr.set2 w5 W3.heap.size _ _) (by omega), (N6.below HB5.out N6.lt).set2 _ _, by omega, OwnL.fr (HO.out.base (by rw [World.size_alloc]; show W.heap.size + 3 ≤ W3.heap.size + 1; omega)) (Fr.set2 w5 W3.heap.size _ _) (fun k hk e => by have := (HO.out.lt k hk).1; rw [World.size_alloc] at this; have h2 : W3.heap.size + 1 ≤ k := this; omega)⟩
  case rest =>
    obtain ⟨b6, cv, rfl, hin⟩ := hcut
    clear HB K0 K1 K2 HSZ
    have hxl : refs.length ≤ refs.length := Nat.le_refl _
    have HIN := Lib.hid hin
    have e1 : wc.cell? ⟨W.heap.size + 1, 1, none⟩ = some (.slice Ad drop.length capd) := hin.2.2.1.cell 1
    clear hin hxl
    go_wp2
    clear e1
    go_loopw [21] (fun i wr => ∃ (j : Nat) (cv : Value) (xs : List Rf), j ≤ drop.length ∧ i = .int .i64 (j : Int) ∧ DoIn W #[.slice A refs.length cap, .int .i64 floor0] #[.slice Aa add.length capa, .slice Ad drop.length capd, .int .i64 floor] floor b6 cv xs wr ∧ xs.length ≤ refs.length) (fun i _ => drop.length - (intOf i).toNat)
    case atStart => exact ⟨0, cv, refs, by omega, rfl, HIN.out, Nat.le_refl _⟩
    case round =>
      clear HIN
      obtain ⟨j, cv, xs, hj, rfl, hin, hxl⟩ := hrel
      obtain ⟨Ac, nc, cc, hcv⟩ : ∃ A n c, cv = .slice A n c := by
        obtain ⟨A, c, h, -⟩ := hin.2.2.2.2.2.2.list
        exact ⟨A, _, c, h⟩
      subst hcv
      have HIN := Lib.hid hin
      clear hin
      by_cases hjl : j < drop.length
      · obtain ⟨r, hp⟩ : ∃ p, drop[j]? = some p := ⟨_, List.getElem?_eq_getElem hjl⟩
        obtain ⟨b, off, hA, hcell⟩ := (HDV.out.below HIN.out.1 (Nat.le_refl _)).at_ hp
        obtain rfl := hA
        have c0 : wr.cell? ⟨b, off + j * 1, none⟩ = some (.string r) := hcell 0 _ rfl
        rw [Nat.mul_one] at c0
        have p0 : wr.cell? ⟨b6, 0, none⟩ = some (.slice Ac nc cc) := HIN.out.2.2.2.2.1.cell 0
        have p1 : wr.cell? ⟨b6, 1, none⟩ = some (.int .i64 floor) := HIN.out.2.2.2.2.1.cell 1
        clear hcell
        go_wp2_with fail
        refine (find_any _ floor xs r (by omega) _ HIN.out.2.2.2.2.2.2.list).mono ?_
        rintro e w2 ⟨⟨k, rfl, hk1, hk2⟩, hb2⟩
        clear c0 p0 p1
        have HI2 := Lib.hid (HIN.out.below hb2)
        clear hb2
        by_cases hk : k < 0
        · skip
          obtain ⟨z0, z1, y0, y1⟩ := Has.two (g := W.heap.size + 1 + 1) HI2.out.2.2.2.1
          go_wp2
          refine bodyPost_ret (results_cell_row2 rfl _ _ (W.heap.size + 2) 104 _ (0, 0) _ rfl (HI2.out.2.2.2.1.set2 (.slice none 0 0) (.int .i64 0)) Tryz.underlying104 rfl (by kernel_rfl)) rfl ⟨.slice none 0 0, 0, 6, rfl, HI2.out.1.trans ((Fr.set2 _ (W.heap.size + 2) (.slice none 0 0) (.int .i64 0)).toBelow (n := W.heap.size) (fun k e => by omega) HI2.out.1.size), ⟨_, _, _, rfl⟩, fun h => by cases h⟩
        · obtain ⟨i, rfl⟩ := Int.eq_ofNat_of_zero_le (Int.not_lt.1 hk)
          have p0 : w2.cell? ⟨b6, 0, none⟩ = some (.slice Ac nc cc) := HI2.out.2.2.2.2.1.cell 0
          have hi : i < xs.length := by omega
          go_wp2_with fail
          refine (delref_any _ xs i _ hi (by omega) _ HI2.out.2.2.2.2.2.2).mono ?_
          rintro e w3 ⟨v', rfl, ho3, hg3, -⟩
          have HI3 := Lib.hid (HI2.out.put hg3 ho3)
          have ht := HI2.out.turn hg3
          have q0 : w3.cell? ⟨b6, 0, none⟩ = some (.slice Ac nc cc) := ht.2.2.2.2.cell 0
          have q1 := ht.2.2.2.2.frozen 0
          obtain ⟨A3, c3, hv3, -⟩ := ho3.list
          obtain ⟨nn, hnn⟩ : ∃ nn, v' = .slice A3 nn c3 := ⟨_, hv3⟩
          clear hv3
          subst hnn
          clear ho3 hg3 ht p0
          go_wp2
          go_roundw
          case rel => exact ⟨j + 1, _, xs.take i ++ xs.drop (i + 1), by omega, by go_num, HI3.out, by rw [List.length_append, List.length_take, List.length_drop]; omega⟩
          case measure => simp [intOf]; omega
      · obtain rfl : j = drop.length := by omega
        have e0 : wr.cell? ⟨W.heap.size + 1, 0, none⟩ = some (.slice Aa add.length capa) := HIN.out.2.2.1.cell 0
        go_wp2
        clear e0
        go_loopw [42] (fun i wr => ∃ (j : Nat) (cv : Value) (xs : List Rf), j ≤ add.length ∧ i = .int .i64 (j : Int) ∧ DoIn W #[.slice A refs.length cap, .int .i64 floor0] #[.slice Aa add.length capa, .slice Ad drop.length capd, .int .i64 floor] floor b6 cv xs wr ∧ xs.length ≤ refs.length + j) (fun i _ => add.length - (intOf i).toNat)
        case atStart => exact ⟨0, _, xs, by omega, rfl, HIN.out, by omega⟩
        case round =>
          clear HIN
          obtain ⟨j, cv, xs, hj, rfl, hin, hxl⟩ := hrel
          obtain ⟨Ac, nc, cc, hcv⟩ : ∃ A n c, cv = .slice A n c := by
            obtain ⟨A, c, h, -⟩ := hin.2.2.2.2.2.2.list
            exact ⟨A, _, c, h⟩
          subst hcv
          have HIN := Lib.hid hin
          clear hin
          by_cases hjl : j < add.length
          · obtain ⟨r, hp⟩ : ∃ p, add[j]? = some p := ⟨_, List.getElem?_eq_getElem hjl⟩
            obtain ⟨b, off, hA, hcell⟩ := (HAV.out.below HIN.out.1 (Nat.le_refl _)).at_ hp
            obtain rfl := hA
            have c0 : wr.cell? ⟨b, off + j * 4, none⟩ = some (.string r.name) := hcell 0 _ rfl
            have c1 : wr.cell? ⟨b, off + j * 4 + 1, none⟩ = some (.int .i64 r.kind) := hcell 1 _ rfl
            have c2 : wr.cell? ⟨b, off + j * 4 + 2, none⟩ = some (.int .i64 r.lo) := hcell 2 _ rfl
            have c3 : wr.cell? ⟨b, off + j * 4 + 3, none⟩ = some (.int .i64 r.hi) := hcell 3 _ rfl
            have HIA := Lib.hid (HIN.out.below ((Below.refl _ _).alloc (Nat.le_refl _) (.cells #[.string r.name, .int .i64 r.kind, .int .i64 r.lo, .int .i64 r.hi] 173)))
            have KR := Lib.hid (Has.new wr 173 #[.string r.name, .int .i64 r.kind, .int .i64 r.lo, .int .i64 r.hi])
            clear hcell
            go_wp2_with fail
            refine (emay_any r _).mono ?_
            rintro e w2 ⟨⟨bo, rfl⟩, hb2⟩
            clear c0 c1 c2 c3
            have HI2 := Lib.hid (HIA.out.below hb2)
            have KR2 := Lib.hid (KR.out.below hb2 KR.out.lt)
            clear hb2
            cases bo with
            | false =>
              obtain ⟨z0, z1, y0, y1⟩ := Has.two (g := W.heap.size + 1 + 1) HI2.out.2.2.2.1
              go_wp2
              refine bodyPost_ret (results_cell_row2 rfl _ _ (W.heap.size + 2) 104 _ (0, 0) _ rfl (HI2.out.2.2.2.1.set2 (.slice none 0 0) (.int .i64 0)) Tryz.underlying104 rfl (by kernel_rfl)) rfl ⟨.slice none 0 0, 0, 14, rfl, HI2.out.1.trans ((Fr.set2 _ (W.heap.size + 2) (.slice none 0 0) (.int .i64 0)).toBelow (n := W.heap.size) (fun k e => by omega) HI2.out.1.size), ⟨_, _, _, rfl⟩, fun h => by cases h⟩
            | true =>
              have p0 : w2.cell? ⟨b6, 0, none⟩ = some (.slice Ac nc cc) := HI2.out.2.2.2.2.1.cell 0
              have p1 : w2.cell? ⟨b6, 1, none⟩ = some (.int .i64 floor) := HI2.out.2.2.2.2.1.cell 1
              have p2 : w2.cell? ⟨wr.heap.size, 0, none⟩ = some (.string r.name) := KR2.out.cell 0
              go_wp2_with fail
              refine (find_any _ floor xs r.name (by omega) _ HI2.out.2.2.2.2.2.2.list).mono ?_
              rintro e w3 ⟨⟨k, rfl, hk1, hk2⟩, hb3⟩
              clear p0 p1 p2
              have HI3 := Lib.hid (HI2.out.below hb3)
              have KR3 := Lib.hid (KR2.out.below hb3 KR2.out.lt)
              clear hb3
              by_cases hk : 0 ≤ k
              · skip
                obtain ⟨z0, z1, y0, y1⟩ := Has.two (g := W.heap.size + 1 + 1) HI3.out.2.2.2.1
                go_wp2
                refine bodyPost_ret (results_cell_row2 rfl _ _ (W.heap.size + 2) 104 _ (0, 0) _ rfl (HI3.out.2.2.2.1.set2 (.slice none 0 0) (.int .i64 0)) Tryz.underlying104 rfl (by kernel_rfl)) rfl ⟨.slice none 0 0, 0, 5, rfl, HI3.out.1.trans ((Fr.set2 _ (W.heap.size + 2) (.slice none 0 0) (.int .i64 0)).toBelow (n := W.heap.size) (fun k e => by omega) HI3.out.1.size), ⟨_, _, _, rfl⟩, fun h => by cases h⟩
              · have p0 : w3.cell? ⟨b6, 0, none⟩ = some (.slice Ac nc cc) := HI3.out.2.2.2.2.1.cell 0
                obtain ⟨d0, d1, d2, d3⟩ := KR3.out.four
                have hsz3 := HI3.out.1.size
                have hb63 := HI3.out.2.2.2.2.1.lt
                have h6 := HI3.out.2.2.2.2.2.1
                go_wp2_with (at_builtin; refine wpl_append_el _ rfl 94 173 (.tmp 59) (.tmp 61) rfl (W.heap.size + 3) _ xs r i1 _ 40 Tryz.underlying94 hi1 hz1 hs1' hb1 rfl (by decide) rfl (OwnL.alloc HI3.out.2.2.2.2.2.2 _) ⟨w3.heap.size, 0, none⟩ 1 rfl (cells_new w3 173 #[.string r.name, .int .i64 r.kind, .int .i64 r.lo, .int .i64 r.hi]) (by omega) (by rw [World.size_alloc]; omega) ?_)
                intro v1 w6 ho1 hg1 _
                have HI4 := Lib.hid ((HI3.out.below ((Below.refl _ _).alloc (Nat.le_refl _) _)).put hg1 ho1)
                have ht := (HI3.out.below ((Below.refl _ _).alloc (Nat.le_refl _) _)).turn hg1
                have q0 : w6.cell? ⟨b6, 0, none⟩ = some (.slice Ac nc cc) := ht.2.2.2.2.cell 0
                have q1 := ht.2.2.2.2.frozen 0
                obtain ⟨A3, c3, hv3, -⟩ := ho1.list
                obtain ⟨nn, hnn⟩ : ∃ nn, v1 = .slice A3 nn c3 := ⟨_, hv3⟩
                clear hv3
                subst hnn
                clear ho1 hg1 ht p0 d0 d1 d2 d3
                go_wp2
                go_roundw
                case rel => exact ⟨j + 1, _, xs ++ [r], by omega, by go_num, HI4.out, by rw [List.length_append]; simp; omega⟩
                case measure => simp [intOf]; omega
          · obtain rfl : j = add.length := by omega
            have e2 : wr.cell? ⟨W.heap.size + 1, 2, none⟩ = some (.int .i64 floor) := HIN.out.2.2.1.cell 2
            have e3 : wr.cell? ⟨W.heap.size, 1, none⟩ = some (.int .i64 floor0) := HIN.out.2.1.cell 1
            by_cases hf : floor < floor0 ∨ 1048576 < floor
            · have hf' : floor < floor0 ∨ (¬ floor < floor0 ∧ 1048576 < floor) := by omega
              rcases hf' with hf1 | ⟨hf1, hf2⟩
              · skip
                obtain ⟨z0, z1, y0, y1⟩ := Has.two (g := W.heap.size + 1 + 1) HIN.out.2.2.2.1
                go_wp2
                refine bodyPost_ret (results_cell_row2 rfl _ _ (W.heap.size + 2) 104 _ (0, 0) _ rfl (HIN.out.2.2.2.1.set2 (.slice none 0 0) (.int .i64 0)) Tryz.underlying104 rfl (by kernel_rfl)) rfl ⟨.slice none 0 0, 0, 8, rfl, HIN.out.1.trans ((Fr.set2 _ (W.heap.size + 2) (.slice none 0 0) (.int .i64 0)).toBelow (n := W.heap.size) (fun k e => by omega) HIN.out.1.size), ⟨_, _, _, rfl⟩, fun h => by cases h⟩
              · skip
                obtain ⟨z0, z1, y0, y1⟩ := Has.two (g := W.heap.size + 1 + 1) HIN.out.2.2.2.1
                go_wp2
                refine bodyPost_ret (results_cell_row2 rfl _ _ (W.heap.size + 2) 104 _ (0, 0) _ rfl (HIN.out.2.2.2.1.set2 (.slice none 0 0) (.int .i64 0)) Tryz.underlying104 rfl (by kernel_rfl)) rfl ⟨.slice none 0 0, 0, 8, rfl, HIN.out.1.trans ((Fr.set2 _ (W.heap.size + 2) (.slice none 0 0) (.int .i64 0)).toBelow (n := W.heap.size) (fun k e => by omega) HIN.out.1.size), ⟨_, _, _, rfl⟩, fun h => by cases h⟩
            · have hf1 : ¬ floor < floor0 := by omega
              have hf2 : ¬ (1048576 : Int) < floor := by omega
              have p0 : wr.cell? ⟨b6, 0, none⟩ = some (.slice Ac nc cc) := HIN.out.2.2.2.2.1.cell 0
              go_wp2_with fail
              refine (sort_any _ xs _ (by omega) _ HIN.out.2.2.2.2.2.2).mono ?_
              rintro e w3 ⟨rfl, ys, hyl, ho3, hg3⟩
              have ht := HIN.out.turn hg3
              obtain ⟨t1, t2, t3, t4, t5⟩ := ht
              have T1 := Lib.hid t1
              have T4 := Lib.hid t4
              have HO := Lib.hid ho3
              obtain ⟨z0, z1, y0, y1⟩ := Has.two (g := W.heap.size + 1 + 1) t4
              have q0 : w3.cell? ⟨b6, 0, none⟩ = some (.slice Ac nc cc) := t5.cell 0
              have q1 : w3.cell? ⟨b6, 1, none⟩ = some (.int .i64 floor) := t5.cell 1
              clear t1 t2 t3 t4 t5 hg3 ho3 e2 e3 p0
              go_wp2
              have fw := Fr.set2 w3 (W.heap.size + 2) (.slice Ac nc cc) (.int .i64 floor)
              refine bodyPost_ret (results_cell_row2 rfl _ _ (W.heap.size + 2) 104 _ (0, 0) _ rfl (T4.out.set2 (.slice Ac nc cc) (.int .i64 floor)) Tryz.underlying104 rfl (by kernel_rfl)) rfl ⟨_, floor, 0, rfl, T1.out.trans (fw.toBelow (fun k e => by omega) T1.out.size), ⟨_, _, _, rfl⟩, fun _ => ⟨ys, OwnL.fr (HO.out.base (by omega)) fw (fun b hb e => by have := (HO.out.lt b hb).1; omega), by omega⟩⟩
end Go.Proofs.YtjkkclfndlfjhaaGreatDoor
