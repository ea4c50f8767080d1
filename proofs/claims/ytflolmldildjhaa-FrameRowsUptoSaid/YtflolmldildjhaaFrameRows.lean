/- FrameRows: frames behind one another hold what was laid, up to what is none. Where what comes in is of bulk at most 1048576. -/
import Derived.Test.YtflolmldildjhaaJn
import Derived.Test.YtflolmldildjhaaRws
import Derived.Test.YtflolmldildjhaaArg
import Derived.Test.YtflolmldildjhaaLaw1
import Derived.JoinedCond
import Derived.Deep.CondSized
namespace Go.Proofs.Ytflolmldildjhaa.lawFrameRows
open Go.ChangeShapes Go.WideShapes Go.ChangeAt Go.RowKit Crc Frm

theorem size_take (xs : List (List UInt8)) (j : Nat) (r : List UInt8) (h : xs[j]? = some r) : size (xs.take (j + 1)) = size (xs.take j) + (r.length + 9) := by
  rw [List.take_add_one, h]
  exact size_snoc _ _

/-- What stands at each place. -/
theorem at_place {L : List UInt8} {xs : List (List UInt8)} (h : Pre L xs) {j : Nat} {r : List UInt8} (hr : xs[j]? = some r) : one (L.drop (size (xs.take j))) = (r, r.length + 9, 0) := by
  have hj : j < xs.length := (List.getElem?_eq_some_iff.1 hr).1
  have hd := h.drop
  have hx : xs = xs.take j ++ r :: xs.drop (j + 1) := by
    have := (List.getElem?_eq_some_iff.1 hr).2
    rw [← this, ← List.drop_eq_getElem_cons hj, List.take_append_drop]
  obtain ⟨rest, hrest⟩ : ∃ rest, rest = L.drop (size xs) := ⟨_, rfl⟩
  rw [← hrest] at hd
  have e : L = join (xs.take j) ++ (frame r ++ (join (xs.drop (j + 1)) ++ rest)) := by
    rw [hd]
    conv => lhs; rw [hx]
    rw [join_append]
    simp [join]
  rw [e, ← length_join, List.drop_left, one_frame _ _ (h.2 r (List.mem_of_getElem? hr))]

theorem size_take_le (xs : List (List UInt8)) (j : Nat) : size (xs.take j) ≤ size xs := by
  have := size_append (xs.take j) (xs.drop j)
  rw [List.take_append_drop] at this
  omega

set_option maxRecDepth 100000 in
set_option maxHeartbeats 1600000 in
theorem walk (v : Value) (a0 : List (List UInt8)) (u : Value) (raw : List UInt8) (hraw : raw.length ≤ 1048576) (w : World) (hv : IsRows w v a0) (hu : IsBytes w u raw) :
    Calls Try.prog 15 #[v, u] w fun e w' => e = .returned (.bool true) ∧ Below w.heap.size w w' := by
  have HV := Lib.hid hv
  have HU := Lib.hid hu
  obtain ⟨A, cap, rfl, -, -, -⟩ := hv
  obtain ⟨B0, cap0, rfl, -, -, -⟩ := hu
  go_enter Try.func15, Try.ntmps15
  go_wp2_with fail
  refine (awake3_any _).mono ?_
  rintro e w0 ⟨rfl, hb0⟩
  go_wp2_with fail
  refine (few_any _ a0 _ (HV.out.below hb0)).mono ?_
  rintro e w1 ⟨v1, rfl, ho1, hb1'⟩
  have hb1 := hb0.trans (hb1'.mono hb0.size)
  obtain ⟨rs, hrs⟩ : ∃ rs, rs = few a0 := ⟨_, rfl⟩
  rw [← hrs] at ho1
  have hrl : rs.length ≤ 30 := by rw [hrs]; exact few_len a0
  have hrr : ∀ r ∈ rs, r.length ≤ 300 := by rw [hrs]; exact few_short a0
  have HR1 : Hid (IsRows w1 v1 rs) := Lib.hid ho1.rows
  obtain ⟨A1, cap1, rfl, -, -, -⟩ := ho1.rows
  have HRR := Lib.hid hrr
  clear hrs ho1 hb1' hb0 hrr HV
  go_wp2_with fail
  refine (join_any _ rs hrl HRR.out _ HR1.out).mono ?_
  rintro e w2 ⟨v2, rfl, ho2, hb2'⟩
  have hb2 := hb1.trans (hb2'.mono hb1.size)
  have hjl := join_short rs HRR.out
  obtain ⟨J, hJ⟩ : ∃ J, J = join rs := ⟨_, rfl⟩
  rw [← hJ] at ho2 hjl
  have HJ := Lib.hid hJ
  have HO2 : Hid (Owns w2 w.heap.size v2 J) := Lib.hid (ho2.base _ hb1.size)
  have HU2 := Lib.hid (HU.out.below hb2)
  have HB2 := Lib.hid hb2
  have hsz2 := hb2.size
  clear ho2 hb2' hb1 hb2 HR1 hJ HU
  go_wp2_with (at_builtin; refine wpl_append_bytes _ rfl (.tmp 19) (.tmp 20) rfl w.heap.size v2 J rfl HO2.out _ raw rfl HU2.out (by omega) hsz2 ?_)
  intro v3 w3 ho3 hg3 _
  have hb3 := below_append HB2.out HO2.out (Nat.le_refl _) hg3 hsz2
  have hll : (J ++ raw).length ≤ 1057846 := by rw [List.length_append]; omega
  obtain ⟨L, hL⟩ : ∃ L, L = J ++ raw := ⟨_, rfl⟩
  rw [← hL] at hll ho3
  have HLL : Hid (IsBytes w3 v3 L) := Lib.hid ho3.bytes
  obtain ⟨B, cap2, rfl, -, -, -⟩ := ho3.bytes
  have HL := Lib.hid hL
  have HB3 := Lib.hid hb3
  have hsz3 := hb3.size
  clear ho3 hg3 hb3 hL HO2 HU2 HB2
  go_wp2_with fail
  refine (rows_any _ L (by omega) _ HLL.out).mono ?_
  rintro e w4 ⟨v4, xs, rfl, hfull, hr4, hb4'⟩
  have HL4 : Hid (IsBytes w4 (.slice B L.length cap2) L) := Lib.hid (HLL.out.below hb4')
  have HB4 := Lib.hid (HB3.out.trans (hb4'.mono hsz3))
  have HX4 : Hid (IsRows w4 v4 xs) := Lib.hid hr4
  obtain ⟨A4, cap4, rfl, -, -, -⟩ := hr4
  have hsz4 := HB4.out.size
  have hmore : rs.length ≤ xs.length := by
    obtain ⟨ys, e⟩ := full_more (raw := raw) (fun r hr => by have := HRR.out r hr; omega) (by rw [← HJ.out, ← HL.out]; exact hfull)
    rw [e, List.length_append]
    omega
  have hsl := hfull.1.size_le
  have hxl : xs.length ≤ 200000 := by have := size_ge xs; omega
  have HF := Lib.hid hfull
  obtain ⟨er, her⟩ : ∃ er, er = (if size xs = L.length then 0 else (one (L.drop (size xs))).2.2) := ⟨_, rfl⟩
  obtain ⟨en, hen⟩ : ∃ en, en = size xs := ⟨_, rfl⟩
  rw [← her]
  rw [← hen] at hsl ⊢
  have HER := Lib.hid her
  have HEN := Lib.hid hen
  clear hfull hb4' HLL HB3 her hen
  go_wp2
  go_loopw [9, 10] (fun k i wr => ∃ j : Nat, j ≤ xs.length ∧ k = .int .i64 (j : Int) ∧ i = .int .i64 ((size (xs.take j) : Nat) : Int) ∧ Below w4.heap.size w4 wr) (fun k _ _ => xs.length - (intOf k).toNat)
  case atStart => exact ⟨0, by omega, rfl, rfl, Below.refl _ _⟩
  case round =>
    obtain ⟨j, hj, rfl, rfl, hbr⟩ := hrel
    have htl := size_take_le xs j
    obtain ⟨p, hp⟩ : ∃ p, p = size (xs.take j) := ⟨_, rfl⟩
    rw [← hp, ← HEN.out] at htl
    rw [← hp]
    have hpl : p ≤ L.length := by omega
    obtain ⟨ub, hub, hbb⟩ := rest_run (.slice B L.length cap2) L wr (HL4.out.below hbr) p hpl
    have HBB := Lib.hid hbb
    have hdl : (L.drop p).length ≤ 281474976710656 := by rw [List.length_drop]; omega
    have HXR : Hid (IsRows wr (.slice A4 xs.length cap4) xs) := Lib.hid (HX4.out.below hbr)
    have HBR := Lib.hid hbr
    have HP := Lib.hid hp
    clear hbb hbr hp
    by_cases hj4 : j < xs.length
    · obtain ⟨r, hr⟩ : ∃ r, xs[j]? = some r := ⟨_, List.getElem?_eq_getElem hj4⟩
      have hone := at_place HF.out.1 hr
      have hnext := size_take xs j r hr
      rw [← HP.out] at hone hnext
      have hnl := size_take_le xs (j + 1)
      rw [hnext, ← HEN.out] at hnl
      obtain ⟨b, off, y, rfl, hc, hy⟩ := HXR.out.at_ hr
      have HY : Hid (IsBytes wr y r) := Lib.hid hy
      obtain ⟨Ay, capy, rfl, -, -, -⟩ := hy
      have HONE := Lib.hid hone
      have HNEXT := Lib.hid hnext
      clear hr hone hnext
      go_wp2_with fail
      refine (law_any ub (L.drop p) hdl _ HBB.out).mono ?_
      rintro e w5 ⟨v5, rfl, hv5, hb5⟩
      rw [HONE.out] at hv5 ⊢
      have hc5 : w5.cell? ⟨b, off + j, none⟩ = some (.slice Ay r.length capy) := cell_later hb5 hc
      have c1 : ∀ q, (convert 29 9 (.slice Ay r.length capy)).run Try.prog (w5.drewN q) = .ok (.string (strOf r)) (w5.drewN q) := fun q => run_conv _ _ _ ((HY.out.below hb5).below (below_drewN (Below.refl _ _) q))
      have c2 : ∀ q, (convert 29 9 v5).run Try.prog (w5.drewN q) = .ok (.string (strOf r)) (w5.drewN q) := fun q => run_conv _ _ _ (IsBytes.below hv5 (below_drewN (Below.refl _ _) q))
      have HB5 := Lib.hid (HBR.out.trans (hb5.mono HBR.out.size))
      obtain ⟨A5, cap5, rfl, -, -, -⟩ := hv5
      have d1 : decide (xs.length ≤ j) = false := by simp; omega
      have e1 : (((0 : Nat) : Int) != 0) = false := rfl
      clear hb5 hc
      go_wp2
      go_quiet (fail)
      go_wp2
      go_roundw
      case rel => exact ⟨j + 1, by omega, by go_num, by rw [HNEXT.out]; go_num, below_drewN HB5.out _⟩
      case measure => simp [intOf]; omega
    · obtain rfl : j = xs.length := by omega
      have hpe : p = en := by rw [HP.out, HEN.out, List.take_of_length_le (Nat.le_refl _)]
      subst hpe
      obtain ⟨x, m, r, hone⟩ : ∃ x m r, one (L.drop p) = (x, m, r) := ⟨_, _, _, rfl⟩
      have hr0 : r ≠ 0 := by
        have := HF.out.2
        rw [← HEN.out, hone] at this
        exact this
      have HONE := Lib.hid hone
      clear hone
      have e1 : ((r : Int) != 0) = true := by simp; omega
      go_wp2_with fail
      refine (law_any ub (L.drop p) hdl _ HBB.out).mono ?_
      rintro e w5 ⟨v5, rfl, hv5, hb5⟩
      rw [HONE.out] at hv5 ⊢
      have HB5 := Lib.hid (HB4.out.trans ((HBR.out.trans (hb5.mono HBR.out.size)).mono hsz4))
      clear hb5 hv5
      have her := HER.out
      rw [← HEN.out, HONE.out] at her
      by_cases hE : p = L.length
      · have hez : er = 0 := by rw [her, if_pos hE]
        have d1 : decide (p < L.length) = false := by simp; omega
        have d2 : ((p : Int) == (L.length : Int)) = true := by simp [hE]
        have d3 : ((er : Int) != 0) = false := by simp [hez]
        clear her hez hE
        go_wp2
        go_ret
        exact ⟨by simp, HB5.out⟩
      · have hez : er = r := by rw [her, if_neg hE]
        subst hez
        have d1 : decide (p < L.length) = true := by simp; omega
        have d2 : ((p : Int) == (L.length : Int)) = false := by simp; omega
        clear her hE
        go_wp2
        go_ret
        exact ⟨by simp, HB5.out⟩

/-- What the bound gives: the length of a slice of bytes that comes in. -/
theorem part_le {H : Type} {d : DataW H} {l : List (DataW H)} (h : d ∈ l) : Rows.uptoBulk d ≤ Rows.uptoBulkAll l := by
  induction l with
  | nil => cases h
  | cons x r ih =>
    simp only [Rows.uptoBulkAll]
    cases List.mem_cons.1 h with
    | inl e => subst e; omega
    | inr e => have := ih e; omega
theorem one_le {H : Type} (d : DataW H) : 1 ≤ Rows.uptoBulk d := by
  cases d with
  | lit l => cases l <;> simp [Rows.uptoBulk]
  | nil => simp [Rows.uptoBulk]
  | ptr d => simp [Rows.uptoBulk]
  | slice elems spare => simp [Rows.uptoBulk]
  | agg parts => simp [Rows.uptoBulk]
  | iface t d => simp [Rows.uptoBulk]
  | map entries => simp [Rows.uptoBulk]
  | held h => simp [Rows.uptoBulk]
theorem length_le {H : Type} (l : List (DataW H)) : l.length ≤ Rows.uptoBulkAll l := by
  induction l with
  | nil => simp [Rows.uptoBulkAll]
  | cons x r ih => have := one_le x; simp only [Rows.uptoBulkAll, List.length_cons]; omega
theorem short {H : Type} {d d' : DataW H} {elems spare : List (DataW H)} (hk : Rows.uptoSmall H [d, d'] = true) (e : d' = .slice elems spare) : elems.length + spare.length ≤ 1048576 := by
  have h : Rows.uptoBulkAll [d, d'] ≤ 1048576 := of_decide_eq_true hk
  have h1 := part_le (d := d') (l := [d, d']) (by simp)
  rw [e] at h1
  simp only [Rows.uptoBulk] at h1
  have h2 := length_le elems
  have h3 := length_le spare
  rw [← e] at h1
  omega

theorem arg_short {H : Type} {enc : TypeId × Value → H} {W : World} {base : Nat} {v : Value} {d : DataW H} {p : List MemPlace} (hv : Value.okWide Try.prog W .any base 29 v)
    (h : DataW.Trod enc Try.prog W 0 (fun _ => true) true 29 v d p) (hs : ∀ elems spare, d = .slice elems spare → elems.length + spare.length ≤ 1048576) :
    ∃ bs, IsBytes W v bs ∧ bs.length ≤ 1048576 := by
  obtain ⟨a0, len, cap, rfl⟩ := okWide_slice Try.underlying29 hv
  obtain ⟨fuel, hf⟩ := h
  rcases open_ints Try.underlying29 Try.underlying5 cells5 hf with ⟨hcs, _⟩ | ⟨a, len', cap', zs, hcs, _, hl, hm, hz, hx, hcell, hwz⟩
  · simp only [Value.cells, List.cons.injEq, Value.slice.injEq, and_true] at hcs
    obtain ⟨rfl, rfl, rfl⟩ := hcs
    exact ⟨[], ⟨none, 0, rfl, by simp, by decide, fun h => by simp at h⟩, by simp⟩
  · simp only [Value.cells, List.cons.injEq, Value.slice.injEq, and_true] at hcs
    obtain ⟨rfl, rfl, rfl⟩ := hcs
    simp only [Prod.mk.injEq] at hx
    have hb := hs _ _ hx.1
    simp only [if_true] at hz
    simp only [lits, List.length_map, List.length_take, List.length_drop] at hb
    have hlen : ((zs.take len).map fun n => UInt8.ofNat n.toNat).length = len := by simp; omega
    refine ⟨(zs.take len).map fun n => UInt8.ofNat n.toNat, ⟨some a, cap, by rw [hlen], by omega, hm, fun hp => ?_⟩, by omega⟩
    obtain ⟨b, off, rfl, hc⟩ := ints_at hcell (by omega)
    refine ⟨b, off, rfl, fun i c hi => ?_⟩
    rw [List.getElem?_map] at hi
    have hil : i < len := by
      rcases Nat.lt_or_ge i len with h1 | h1
      · exact h1
      · rw [List.getElem?_eq_none (by simp; omega)] at hi; cases hi
    have hiz : i < zs.length := by omega
    rw [List.getElem?_take_of_lt hil, List.getElem?_eq_getElem hiz] at hi
    simp only [Option.map_some, Option.some.injEq] at hi
    rw [hc i hiz, ← hi, byte_of _ (hwz _ (List.getElem_mem hiz))]
    simp [List.getD, hiz]

set_option maxRecDepth 100000 in
theorem lifted (os : Os) (started : os.Started) (H : Type) (enc : TypeId × Value → H) (F : Stop.Interp) :
    ReturnsInHanded {} Try.checked os 15 .any ((Rows.OpenSpec.upto Rows.frameRowsSpec).pre6 enc Try.prog Try.f15 Rows.frameRowsUptoRow.domain false) (((Rows.OpenSpec.upto Rows.frameRowsSpec).at F).post enc Try.prog Try.f15 false true false false) := by
  refine returnsInHanded_of_cond (C := Try.checked) (s := Rows.OpenSpec.upto Rows.frameRowsSpec) (k := Rows.uptoSmall) rfl own started (by kernel_rfl) Try.func15
    (OpenSpec.witness (enc := enc) (C := Try.checked) (s := Rows.OpenSpec.upto Rows.frameRowsSpec) (k := Rows.uptoSmall) rfl false ⟨#[], #[.slice none 0 0, .slice none 0 0], []⟩ 8 (by kernel_rfl) (by kernel_rfl) (by kernel_rfl)
      (x := ([.nil, .nil], [], [])) (by kernel_rfl) rfl (by kernel_rfl)) ?_
  intro W base args ds gs before hval0 hW _ hk _
  have hval : ∀ (j : Nat) t v, Try.f15.params[j]? = some t → args[j]? = some v → Value.okWide Try.prog W .any base t v := hval0
  have hW' := hW
  obtain ⟨p, q, hA0, hV, rfl, hfz, hnd⟩ := hW
  have hA : DataW.TrodAll enc Try.prog W 0 (fun _ => true) true Try.f15.params.toList args.toList ds p := hA0
  have hA1 := hA
  rw [Try.params15] at hA hA1 hval
  obtain ⟨v0, v1, d0, d1, p0, p1, rfl, rfl, rfl, h0, h1⟩ := trodAll_two hA
  obtain ⟨rfl, rfl⟩ := trodVars_none hV
  simp only [List.append_nil] at hW' hk
  obtain ⟨rs0, hb0⟩ := arg_rows (hval 0 47 v0 rfl rfl) h0
  obtain ⟨bs1, hb1, hl1⟩ := arg_short (hval 1 29 v1 rfl rfl) h1 (fun elems spare e => short hk e)
  refine (walk v0 rs0 v1 bs1 hl1 W hb0 hb1).mono fun e W' ⟨he, hb⟩ => ?_
  subst he
  exact ⟨_, rfl, post_of_below (pv := []) hW' (fun _ _ _ => trodAll_mk1 (shut_bool Try.underlying4 _)) (fun sp hs => args_stay laidOut hb _ _ _ _ (by simp [ok29, ok47]) hA1 (fun x hx => hW'.lt x (by simpa using hx)) (fun x hx => hs x (by simpa using hx))) (fun _ _ => rfl) (by simp)
    hb (ok_one (by kernel_rfl) rfl (okWide_bool_mk Try.underlying4 _))⟩

theorem holds : Rows.FrameRowsUptoSaid :=
  OpenClaim.holds_of_cond 15 Try.f15 rfl rfl rfl rfl rfl rfl rfl ⟨rfl, rfl, rfl, rfl, rfl⟩ rfl rfl rfl rfl rfl (by kernel_rfl) Try.func15 (by kernel_rfl)
    (of_decide_eq_true (by kernel_rfl)) (by unfold Func.isWrapper; first | (rw [if_pos (by decide +kernel)]; kernel_rfl) | (rw [if_neg (by decide +kernel)]; exact ⟨rfl, rfl⟩))
    (fun os started H enc _ F => lifted os started H enc F)
#print axioms holds
end Go.Proofs.Ytflolmldildjhaa.lawFrameRows
