/- Contracts of the law's Few and Join: up to 30 rows of up to 300 bytes; their frames, one behind the other. -/
import Derived.Test.YtflolmldildjhaaMany
import Derived.Test.YtflolmldildjhaaOne
import Derived.Test.YtflolmldildjhaaAwake3
namespace Go.Proofs.Ytflolmldildjhaa
open Go.RowKit Crc Frm Go.ChangeShapes Go.WideShapes Go.ChangeAt

/-- Up to 30 rows, of up to 300 bytes. -/
def few (rs : List (List UInt8)) : List (List UInt8) := (rs.take 30).map (·.take 300)

theorem few_len (rs : List (List UInt8)) : (few rs).length ≤ 30 := by simp only [few, List.length_map, List.length_take]; omega
theorem few_short (rs : List (List UInt8)) : ∀ r ∈ few rs, r.length ≤ 300 := by
  intro r hr
  simp only [few, List.mem_map] at hr
  obtain ⟨x, _, rfl⟩ := hr
  rw [List.length_take]
  omega

theorem off_new {w0 w : World} {u : Value} {r : List UInt8} {v : Value} {rs : List (List UInt8)} (hu : IsBytes w0 u r) (ho : OwnRows w w0.heap.size v rs) : 0 < r.length → u.ownBlock ≠ v.ownBlock := by
  intro hp e
  obtain ⟨b, hb, hlt⟩ := hu.block hp
  have := (ho.lt b (by rw [← e, hb])).1
  omega

theorem below_append_row {B : Nat} {a w w' : World} {base : Nat} {v : Value} {rs : List (List UInt8)} (h : Below B a w) (hown : OwnRows w base v rs) (hB : B ≤ base) (hg : w.grownBy w' v.ownBlock) (hs : B ≤ w.heap.size) : Below B a w' :=
  h.grown hg hs (fun k hk => by have := (hown.lt k hk).1; omega)

theorem own_cast {w : World} {base : Nat} {v : Value} {rs ts : List (List UInt8)} (h : OwnRows w base v rs) (e : rs = ts) : OwnRows w base v ts := e ▸ h

theorem take_succ_map (ts : List (List UInt8)) (j : Nat) (r : List UInt8) (h : ts[j]? = some r) : (ts.take j).map (·.take 300) ++ [r.take 300] = (ts.take (j + 1)).map (·.take 300) := by
  rw [List.take_add_one (l := ts), h]
  simp

set_option maxRecDepth 100000 in
set_option maxHeartbeats 800000 in
theorem few1 (v : Value) (rs : List (List UInt8)) (hm : rs.length ≤ 30) (w : World) (hv : IsRows w v rs) :
    Calls Try.prog 29 #[v] w fun e w' => ∃ v', e = .returned v' ∧ OwnRows w' w.heap.size v' (few rs) ∧ Below w.heap.size w w' := by
  have HV := Lib.hid hv
  obtain ⟨A, cap, rfl, hlc, hcm, -⟩ := hv
  obtain ⟨ts, hts⟩ : ∃ ts, ts = rs := ⟨_, rfl⟩
  have hfew : few rs = ts.map (·.take 300) := by rw [hts]; unfold few; rw [List.take_of_length_le hm]
  have hlen : ts.length = rs.length := by rw [hts]
  have HT : Hid (IsRows w (.slice A rs.length cap) ts) := by rw [hts]; exact HV.out
  have HFEW := Lib.hid hfew
  have HLEN := Lib.hid hlen
  clear hts hfew hlen
  go_enter Try.func29, Try.ntmps29
  go_wp2
  go_loopw [3, 12] (fun o i wr => ∃ j : Nat, j ≤ rs.length ∧ i = .int .i64 (j : Int) ∧ OwnRows wr w.heap.size o ((ts.take j).map (·.take 300)) ∧ Below w.heap.size w wr) (fun _ i _ => rs.length - (intOf i).toNat)
  case atStart => exact ⟨0, by omega, rfl, OwnRows.nil _ _, Below.refl _ _⟩
  case round =>
    obtain ⟨j, hj, rfl, hown, hbr⟩ := hrel
    have HO := Lib.hid hown
    have HB := Lib.hid hbr
    have hsz := hbr.size
    clear hown hbr
    by_cases hj4 : j < rs.length
    · obtain ⟨r, hr⟩ : ∃ r, ts[j]? = some r := ⟨_, List.getElem?_eq_getElem (by rw [HLEN.out]; exact hj4)⟩
      have HR2 := Lib.hid hr
      obtain ⟨b, off, u, rfl, hc, hu⟩ := HT.out.at_ hr
      have HU0 : Hid (IsBytes w u r) := Lib.hid hu
      have HUR : Hid (IsBytes wr u r) := Lib.hid (hu.below HB.out)
      obtain ⟨A2, cap2, rfl, hlc2, hcm2, -⟩ := hu
      have hcw : wr.cell? ⟨b, off + j, none⟩ = some (.slice A2 r.length cap2) := cell_later HB.out hc
      clear hr hc
      by_cases hs : r.length ≤ 300
      · skip
        obtain ⟨rt, hrt⟩ : ∃ rt, rt = r.take 300 := ⟨_, rfl⟩
        have HU2 : Hid (IsBytes wr (.slice A2 r.length cap2) rt) := by rw [hrt]; exact by rw [List.take_of_length_le hs]; exact HUR.out
        have HOFF : Hid (0 < rt.length → (Value.slice A2 r.length cap2).ownBlock ≠ u3.ownBlock) := by
          have h0 := HU0.out
          rw [hrt]
          exact off_new (by rw [List.take_of_length_le hs]; exact h0) HO.out
        have hts := take_succ_map ts j r HR2.out
        rw [← hrt] at hts
        have HTS := Lib.hid hts
        clear hts hrt
        go_wp2_with (at_builtin; refine wpl_append_row _ rfl (.tmp 16) (.tmp 22) rfl w.heap.size u3 _ rfl (HO.out.below ((Below.refl _ _).alloc (Nat.le_refl _) _) (Nat.le_refl _)) (.slice A2 r.length cap2) rt ⟨wr.heap.size, 0, none⟩ 1 rfl (cell_one_new _ _ _ 0 _ rfl) (HU2.out.below ((Below.refl _ _).alloc (Nat.le_refl _) _)) HOFF.out (by rw [List.length_map, List.length_take]; omega) (by simp; omega) ?_)
        intro v4 w1 ho hg _
        have hb1 := below_append_row (HB.out.alloc hsz _) (HO.out.below ((Below.refl _ _).alloc (Nat.le_refl _) _) (Nat.le_refl _)) (Nat.le_refl _) hg (by simp; omega)
        have HO1 := Lib.hid ho
        have HB1 := Lib.hid hb1
        clear ho hg hb1
        go_wp2_with fail
        go_roundw
        case rel => exact ⟨j + 1, by omega, by go_num, own_cast HO1.out (by rw [← List.map_take]; exact HTS.out), HB1.out⟩
        case measure => simp [intOf]; omega
      · skip
        obtain ⟨rt, hrt⟩ : ∃ rt, rt = r.take 300 := ⟨_, rfl⟩
        have HU2 : Hid (IsBytes wr (.slice A2 300 cap2) rt) := by rw [hrt]; exact (IsBytes.take HUR.out 300 (by omega))
        have HOFF : Hid (0 < rt.length → (Value.slice A2 300 cap2).ownBlock ≠ u3.ownBlock) := by
          have h0 := HU0.out
          rw [hrt]
          exact off_new (IsBytes.take h0 300 (by omega)) HO.out
        have hts := take_succ_map ts j r HR2.out
        rw [← hrt] at hts
        have HTS := Lib.hid hts
        clear hts hrt
        go_wp2_with (at_builtin; refine wpl_append_row _ rfl (.tmp 16) (.tmp 22) rfl w.heap.size u3 _ rfl (HO.out.below ((Below.refl _ _).alloc (Nat.le_refl _) _) (Nat.le_refl _)) (.slice A2 300 cap2) rt ⟨wr.heap.size, 0, none⟩ 1 rfl (cell_one_new _ _ _ 0 _ rfl) (HU2.out.below ((Below.refl _ _).alloc (Nat.le_refl _) _)) HOFF.out (by rw [List.length_map, List.length_take]; omega) (by simp; omega) ?_)
        intro v4 w1 ho hg _
        have hb1 := below_append_row (HB.out.alloc hsz _) (HO.out.below ((Below.refl _ _).alloc (Nat.le_refl _) _) (Nat.le_refl _)) (Nat.le_refl _) hg (by simp; omega)
        have HO1 := Lib.hid ho
        have HB1 := Lib.hid hb1
        clear ho hg hb1
        go_wp2_with fail
        go_roundw
        case rel => exact ⟨j + 1, by omega, by go_num, own_cast HO1.out (by rw [← List.map_take]; exact HTS.out), HB1.out⟩
        case measure => simp [intOf]; omega
    · go_wp2
      go_ret
      refine ⟨_, rfl, ?_, HB.out⟩
      have e : (ts.take j).map (·.take 300) = few rs := by rw [HFEW.out, List.take_of_length_le (by rw [HLEN.out]; omega)]
      exact own_cast HO.out e

set_option maxRecDepth 100000 in
set_option maxHeartbeats 800000 in
theorem few0 (v : Value) (rs : List (List UInt8)) (hm : 30 < rs.length) (w : World) (hv : IsRows w v rs) :
    Calls Try.prog 29 #[v] w fun e w' => ∃ v', e = .returned v' ∧ OwnRows w' w.heap.size v' (few rs) ∧ Below w.heap.size w w' := by
  have HV := Lib.hid hv
  obtain ⟨A, cap, rfl, hlc, hcm, -⟩ := hv
  obtain ⟨ts, hts⟩ : ∃ ts, ts = rs.take 30 := ⟨_, rfl⟩
  have hfew : few rs = ts.map (·.take 300) := by rw [hts]; rfl
  have hlen : ts.length = 30 := by rw [hts]; rw [List.length_take]; omega
  have HT : Hid (IsRows w (.slice A 30 cap) ts) := by rw [hts]; exact HV.out.take 30 (by omega)
  have HFEW := Lib.hid hfew
  have HLEN := Lib.hid hlen
  clear hts hfew hlen
  go_enter Try.func29, Try.ntmps29
  go_wp2
  go_loopw [3, 12] (fun o i wr => ∃ j : Nat, j ≤ 30 ∧ i = .int .i64 (j : Int) ∧ OwnRows wr w.heap.size o ((ts.take j).map (·.take 300)) ∧ Below w.heap.size w wr) (fun _ i _ => 30 - (intOf i).toNat)
  case atStart => exact ⟨0, by omega, rfl, OwnRows.nil _ _, Below.refl _ _⟩
  case round =>
    obtain ⟨j, hj, rfl, hown, hbr⟩ := hrel
    have HO := Lib.hid hown
    have HB := Lib.hid hbr
    have hsz := hbr.size
    clear hown hbr
    by_cases hj4 : j < 30
    · obtain ⟨r, hr⟩ : ∃ r, ts[j]? = some r := ⟨_, List.getElem?_eq_getElem (by rw [HLEN.out]; exact hj4)⟩
      have HR2 := Lib.hid hr
      obtain ⟨b, off, u, rfl, hc, hu⟩ := HT.out.at_ hr
      have HU0 : Hid (IsBytes w u r) := Lib.hid hu
      have HUR : Hid (IsBytes wr u r) := Lib.hid (hu.below HB.out)
      obtain ⟨A2, cap2, rfl, hlc2, hcm2, -⟩ := hu
      have hcw : wr.cell? ⟨b, off + j, none⟩ = some (.slice A2 r.length cap2) := cell_later HB.out hc
      clear hr hc
      by_cases hs : r.length ≤ 300
      · skip
        obtain ⟨rt, hrt⟩ : ∃ rt, rt = r.take 300 := ⟨_, rfl⟩
        have HU2 : Hid (IsBytes wr (.slice A2 r.length cap2) rt) := by rw [hrt]; exact by rw [List.take_of_length_le hs]; exact HUR.out
        have HOFF : Hid (0 < rt.length → (Value.slice A2 r.length cap2).ownBlock ≠ u3.ownBlock) := by
          have h0 := HU0.out
          rw [hrt]
          exact off_new (by rw [List.take_of_length_le hs]; exact h0) HO.out
        have hts := take_succ_map ts j r HR2.out
        rw [← hrt] at hts
        have HTS := Lib.hid hts
        clear hts hrt
        go_wp2_with (at_builtin; refine wpl_append_row _ rfl (.tmp 16) (.tmp 22) rfl w.heap.size u3 _ rfl (HO.out.below ((Below.refl _ _).alloc (Nat.le_refl _) _) (Nat.le_refl _)) (.slice A2 r.length cap2) rt ⟨wr.heap.size, 0, none⟩ 1 rfl (cell_one_new _ _ _ 0 _ rfl) (HU2.out.below ((Below.refl _ _).alloc (Nat.le_refl _) _)) HOFF.out (by rw [List.length_map, List.length_take]; omega) (by simp; omega) ?_)
        intro v4 w1 ho hg _
        have hb1 := below_append_row (HB.out.alloc hsz _) (HO.out.below ((Below.refl _ _).alloc (Nat.le_refl _) _) (Nat.le_refl _)) (Nat.le_refl _) hg (by simp; omega)
        have HO1 := Lib.hid ho
        have HB1 := Lib.hid hb1
        clear ho hg hb1
        go_wp2_with fail
        go_roundw
        case rel => exact ⟨j + 1, by omega, by go_num, own_cast HO1.out (by rw [← List.map_take]; exact HTS.out), HB1.out⟩
        case measure => simp [intOf]; omega
      · skip
        obtain ⟨rt, hrt⟩ : ∃ rt, rt = r.take 300 := ⟨_, rfl⟩
        have HU2 : Hid (IsBytes wr (.slice A2 300 cap2) rt) := by rw [hrt]; exact (IsBytes.take HUR.out 300 (by omega))
        have HOFF : Hid (0 < rt.length → (Value.slice A2 300 cap2).ownBlock ≠ u3.ownBlock) := by
          have h0 := HU0.out
          rw [hrt]
          exact off_new (IsBytes.take h0 300 (by omega)) HO.out
        have hts := take_succ_map ts j r HR2.out
        rw [← hrt] at hts
        have HTS := Lib.hid hts
        clear hts hrt
        go_wp2_with (at_builtin; refine wpl_append_row _ rfl (.tmp 16) (.tmp 22) rfl w.heap.size u3 _ rfl (HO.out.below ((Below.refl _ _).alloc (Nat.le_refl _) _) (Nat.le_refl _)) (.slice A2 300 cap2) rt ⟨wr.heap.size, 0, none⟩ 1 rfl (cell_one_new _ _ _ 0 _ rfl) (HU2.out.below ((Below.refl _ _).alloc (Nat.le_refl _) _)) HOFF.out (by rw [List.length_map, List.length_take]; omega) (by simp; omega) ?_)
        intro v4 w1 ho hg _
        have hb1 := below_append_row (HB.out.alloc hsz _) (HO.out.below ((Below.refl _ _).alloc (Nat.le_refl _) _) (Nat.le_refl _)) (Nat.le_refl _) hg (by simp; omega)
        have HO1 := Lib.hid ho
        have HB1 := Lib.hid hb1
        clear ho hg hb1
        go_wp2_with fail
        go_roundw
        case rel => exact ⟨j + 1, by omega, by go_num, own_cast HO1.out (by rw [← List.map_take]; exact HTS.out), HB1.out⟩
        case measure => simp [intOf]; omega
    · go_wp2
      go_ret
      refine ⟨_, rfl, ?_, HB.out⟩
      have e : (ts.take j).map (·.take 300) = few rs := by rw [HFEW.out, List.take_of_length_le (by rw [HLEN.out]; omega)]
      exact own_cast HO.out e

/-- FEW: up to 30 rows, of up to 300 bytes. -/
theorem few_any (v : Value) (rs : List (List UInt8)) (w : World) (hv : IsRows w v rs) :
    Calls Try.prog 29 #[v] w fun e w' => ∃ v', e = .returned v' ∧ OwnRows w' w.heap.size v' (few rs) ∧ Below w.heap.size w w' := by
  by_cases h : rs.length ≤ 30
  · exact few1 v rs h w hv
  · exact few0 v rs (by omega) w hv

theorem join_take (rs : List (List UInt8)) (j : Nat) (r : List UInt8) (h : rs[j]? = some r) : join (rs.take j) ++ frame r = join (rs.take (j + 1)) := by
  rw [List.take_add_one, h, join_append]
  simp [join]
theorem join_short (rs : List (List UInt8)) (hl : ∀ r ∈ rs, r.length ≤ 300) : (join rs).length ≤ 309 * rs.length := by
  induction rs with
  | nil => simp [join]
  | cons x xs ih =>
    have h1 := hl x (by simp)
    have h2 := ih (fun r hr => hl r (by simp [hr]))
    simp only [join, List.length_append, length_frame, List.length_cons]
    omega

theorem owns_cast {w : World} {base : Nat} {v : Value} {bs cs : List UInt8} (h : Owns w base v bs) (e : bs = cs) : Owns w base v cs := e ▸ h

set_option maxRecDepth 100000 in
set_option maxHeartbeats 800000 in
/-- JOIN: the frames of rows, one behind the other. -/
theorem join_any (v : Value) (rs : List (List UInt8)) (hn : rs.length ≤ 30) (hl : ∀ r ∈ rs, r.length ≤ 300) (w : World) (hv : IsRows w v rs) :
    Calls Try.prog 30 #[v] w fun e w' => ∃ v', e = .returned v' ∧ Owns w' w.heap.size v' (join rs) ∧ Below w.heap.size w w' := by
  have HT := Lib.hid hv
  have HL := Lib.hid hl
  obtain ⟨A, cap, rfl, hlc, hcm, -⟩ := hv
  clear hl
  go_enter Try.func30, Try.ntmps30
  go_wp2
  go_loopw [3, 10] (fun o i wr => ∃ j : Nat, j ≤ rs.length ∧ i = .int .i64 (j : Int) ∧ Owns wr w.heap.size o (join (rs.take j)) ∧ Below w.heap.size w wr) (fun _ i _ => rs.length - (intOf i).toNat)
  case atStart => exact ⟨0, by omega, rfl, Owns.nil _ _, Below.refl _ _⟩
  case round =>
    obtain ⟨j, hj, rfl, hown, hbr⟩ := hrel
    have HO := Lib.hid hown
    have HB := Lib.hid hbr
    have hsz := hbr.size
    clear hown hbr
    by_cases hj4 : j < rs.length
    · obtain ⟨r, hr⟩ : ∃ r, rs[j]? = some r := ⟨_, List.getElem?_eq_getElem hj4⟩
      have HR2 := Lib.hid hr
      have hrl : r.length ≤ 300 := HL.out r (List.mem_of_getElem? hr)
      obtain ⟨b, off, u, rfl, hc, hu⟩ := HT.out.at_ hr
      have HUR : Hid (IsBytes wr u r) := Lib.hid (hu.below HB.out)
      obtain ⟨A2, cap2, rfl, hlc2, hcm2, -⟩ := hu
      have hcw : wr.cell? ⟨b, off + j, none⟩ = some (.slice A2 r.length cap2) := cell_later HB.out hc
      have hjl : (join (rs.take j)).length ≤ 309 * 30 := by
        have h1 := join_short (rs.take j) (fun r hr => HL.out r (List.mem_of_mem_take hr))
        have h2 : (rs.take j).length ≤ 30 := by rw [List.length_take]; omega
        omega
      have hjt := join_take rs j r hr
      obtain ⟨acc, hacc⟩ : ∃ acc, acc = join (rs.take j) := ⟨_, rfl⟩
      have HO' : Hid (Owns wr w.heap.size u3 acc) := by rw [hacc]; exact HO.out
      rw [← hacc] at hjl hjt
      have HJT := Lib.hid hjt
      clear hr hc hacc HO hjt
      go_wp2_with fail
      refine (make_any _ r (by omega) _ HUR.out).mono ?_
      rintro e w1 ⟨v5, rfl, ho5, hb5⟩
      have hfl := length_frame r
      have HF := Lib.hid ho5.bytes
      have HA := Lib.hid (HO'.out.below hb5 (Nat.le_refl _))
      have HB5 := Lib.hid (HB.out.trans (hb5.mono hsz))
      have hsz5 := HB5.out.size
      obtain ⟨fr, hfr⟩ : ∃ fr, fr = frame r := ⟨_, rfl⟩
      rw [← hfr] at HF HJT hfl
      clear ho5 hb5 hfr HUR HO' HB
      go_wp2_with (at_builtin; refine wpl_append_bytes _ rfl (.tmp 19) (.tmp 20) rfl w.heap.size u3 acc rfl HA.out v5 fr rfl HF.out (by omega) hsz5 ?_)
      intro v6 w2 ho6 hg6 _
      have HB6 := Lib.hid (below_append HB5.out HA.out (Nat.le_refl _) hg6 hsz5)
      have HO6 := Lib.hid ho6
      clear ho6 hg6 hfl
      go_wp2_with fail
      go_roundw
      case rel => exact ⟨j + 1, by omega, by go_num, owns_cast HO6.out HJT.out, HB6.out⟩
      case measure => simp [intOf]; omega
    · go_wp2
      go_ret
      refine ⟨_, rfl, ?_, HB.out⟩
      have e : join (rs.take j) = join rs := by rw [List.take_of_length_le (by omega)]
      exact owns_cast HO.out e

end Go.Proofs.Ytflolmldildjhaa
