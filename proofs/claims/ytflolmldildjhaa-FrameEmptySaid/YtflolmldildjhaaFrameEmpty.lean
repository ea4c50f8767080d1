/- FrameEmpty: rows without bytes are rows. -/
import Derived.Test.YtflolmldildjhaaJn
import Derived.Test.YtflolmldildjhaaRws
import Derived.Test.YtflolmldildjhaaAwake3
import Derived.Test.YtflolmldildjhaaForm
namespace Go.Proofs.Ytflolmldildjhaa.lawFrameEmpty
open Go.ChangeShapes Go.WideShapes Go.ChangeAt Go.RowKit Crc Frm

/-- Rows without bytes. -/
def none_ (k : Nat) : List (List UInt8) := List.replicate k []
theorem none_len (k : Nat) : (none_ k).length = k := List.length_replicate
theorem none_succ (k : Nat) : none_ k ++ [[]] = none_ (k + 1) := (List.replicate_succ').symm
theorem none_empty (k : Nat) : ∀ r ∈ none_ k, r = [] := fun _ h => List.eq_of_mem_replicate h
theorem none_join (k : Nat) : join (none_ k) ++ frame [] = join (none_ (k + 1)) := by rw [← none_succ, join_append]; simp [join]
theorem none_size (k : Nat) : size (none_ k) = 9 * k := by
  induction k with
  | zero => rfl
  | succ k ih => rw [← none_succ, size_append, ih]; simp [size]; omega

theorem kept_empty {w w' : World} {base : Nat} {v : Value} {rs : List (List UInt8)} {row : Option Nat} (h : OwnRows w base v rs) (hg : w.grownBy w' row) (hne : v.ownBlock = none ∨ v.ownBlock ≠ row) (he : ∀ r ∈ rs, r = []) : OwnRows w' base v rs := by
  obtain ⟨us, ho, h2⟩ := h
  refine ⟨us, ho.kept hg hne, fun i u r hu hr => ?_⟩
  have hr0 := he r (List.mem_of_getElem? hr)
  subst hr0
  exact ⟨(h2 i u _ hu hr).1.kept hg (fun hp => by simp at hp), fun hp => by simp at hp⟩

theorem own_apart {W : World} {b base : Nat} {u v : Value} {bs : List UInt8} {rs : List (List UInt8)} (hu : Owns W b u bs) (hv : OwnRows W base v rs) : u.ownBlock = none ∨ u.ownBlock ≠ v.ownBlock := by
  rcases hu.2 with ⟨rfl, h0⟩ | ⟨g, cap, cur, rfl, _, hg, _⟩
  · exact .inl rfl
  · refine .inr fun e => ?_
    obtain ⟨us, ho, _⟩ := hv
    rcases ho.2 with ⟨rfl, _⟩ | ⟨g', cap', cur', rfl, _, hg', _⟩
    · simp [Value.ownBlock] at e
    · simp only [Value.ownBlock, Option.some.injEq] at e
      subst e
      rw [hg] at hg'
      simp at hg'

/-- What the loop leaves, of whole frames and a byte behind. -/
theorem plain (m : Nat) (xs : List (List UInt8)) (h : Full (join (none_ m) ++ [0]) xs) : xs = none_ m := by
  obtain ⟨ys, rfl⟩ := full_more (fun r hr => by rw [none_empty m r hr]; simp) h
  have := h.1.size_le
  rw [List.length_append, length_join, size_append] at this
  have h9 := size_ge ys
  simp at this
  have : ys.length = 0 := by omega
  rw [List.eq_nil_of_length_eq_zero this, List.append_nil]

/-- 'append' of bytes at an operation whose guard says yes. -/
theorem want_append_bytes {ops : Array Oper} {rest : List Oper} {o : Oper} {a : Act} {Q : Exit → Act → World → Prop} (w : World) (hw : Region.wanted o (yielded ops a.tmps) = true) (s x : Operand)
    (ho : o.op = .call { callee := .builtin .append, args := #[s, x], argTypes := #[29, 29] })
    (base : Nat) (v : Value) (xs : List UInt8) (hs : a.eval s = v) (hown : Owns w base v xs) (u : Value) (bs : List UInt8) (hx : a.eval x = u) (hb : IsBytes w u bs)
    (hlen : xs.length + bs.length ≤ 140737488355328) (hbase : base ≤ w.heap.size)
    (h : ∀ v' w', Owns w' base v' (xs ++ bs) → w.grownBy w' v.ownBlock → (v'.ownBlock = v.ownBlock ∨ v'.ownBlock = some w.heap.size) → wpList Try.prog ops Q rest (a.put o.dst v') w') : wpList Try.prog ops Q (o :: rest) a w :=
  BigFrame.wpList_want hw fun _ hK => wp_append_bytes w s x ho base v xs hs hown u bs hx hb hlen hbase fun v' w' h2 h3 h4 => hK _ _ (h v' w' h2 h3 h4)

set_option maxRecDepth 100000 in
set_option maxHeartbeats 1600000 in
theorem walk (n : Nat) (hn : n ≤ 255) (v : Value) (bs : List UInt8) (hl : bs.length ≤ 140737488351232) (w : World) (hv : IsBytes w v bs) :
    Calls Try.prog 17 #[.int .u8 (n : Int), v] w fun e w' => e = .returned (.bool true) ∧ Below w.heap.size w w' := by
  have HV := Lib.hid hv
  obtain ⟨A, cap, rfl, -, -, -⟩ := hv
  obtain ⟨m, hm⟩ : ∃ m, m = n % 100 := ⟨_, rfl⟩
  have hm1 : m < 100 := by omega
  have q2 : (n : Int).tmod 100 = (m : Int) := by rw [hm, Int.tmod_eq_emod_of_nonneg (by omega)]; rfl
  have q3 : (n : Int) % 100 = (m : Int) := by rw [hm]; rfl
  go_enter Try.func17, Try.ntmps17
  go_wp2_with fail
  refine (awake3_any _).mono ?_
  rintro e w0 ⟨rfl, hb0⟩
  have HB0 := Lib.hid hb0
  clear hb0 hm
  go_wp2
  go_loopw [6, 7, 8] (fun o p i wr => ∃ j : Nat, j ≤ m ∧ i = .int .i64 (j : Int) ∧ OwnRows wr w.heap.size o (none_ j) ∧ Owns wr w.heap.size p (join (none_ j)) ∧ Below w.heap.size w wr) (fun _ _ i _ => m - (intOf i).toNat)
  case atStart => exact ⟨0, by omega, rfl, OwnRows.nil _ _, Owns.nil _ _, HB0.out⟩
  case round =>
    obtain ⟨j, hj, rfl, hown, hob, hbr⟩ := hrel
    have HO := Lib.hid hown
    have HP := Lib.hid hob
    have HB := Lib.hid hbr
    have hsz := hbr.size
    clear hown hob hbr
    by_cases hj4 : j < m
    · have hle : ((none_ j).length + 1) * 24 ≤ 140737488355328 := by rw [none_len]; omega
      have HN : Hid (∀ (X : World), IsBytes X (.slice none 0 0) []) := Lib.hid fun X => ⟨none, 0, rfl, by simp, by decide, fun h => by simp at h⟩
      have HO1 := Lib.hid (HO.out.below ((Below.refl wr.heap.size wr).alloc (Nat.le_refl _) (.cells #[.slice none 0 0] 29)) (Nat.le_refl _))
      go_wp2_with (at_builtin; refine wpl_append_row _ rfl (.tmp 27) (.tmp 28) rfl w.heap.size u6 _ rfl HO1.out (.slice none 0 0) [] ⟨wr.heap.size, 0, none⟩ 1 rfl (cell_one_new _ _ _ 0 _ rfl) (HN.out _) (fun hp => by simp at hp) hle (by simp; omega) ?_)
      intro v4 w1 ho hg _
      have hb1 := below_append_row (HB.out.alloc hsz _) HO1.out (Nat.le_refl _) hg (by simp; omega)
      have hp1 : Owns w1 w.heap.size u7 (join (none_ j)) := ((HP.out.alloc _).kept hg (own_apart (HP.out.alloc _) HO1.out))
      have HO4 := Lib.hid (none_succ j ▸ ho)
      have HP1 := Lib.hid hp1
      have HB1 := Lib.hid hb1
      have hsz1 := hb1.size
      clear ho hg hb1 hp1 HO HP HB HO1
      go_wp2_with fail
      refine (make_any _ [] (by simp) _ (HN.out _)).mono ?_
      rintro e w2 ⟨v5, rfl, ho5, hb5⟩
      have hfl : (frame []).length = 9 := by rw [length_frame]; rfl
      have hjt := none_join j
      have hjl : (join (none_ j)).length = 9 * j := by rw [length_join, none_size]
      obtain ⟨fr, hfr⟩ : ∃ fr, fr = frame [] := ⟨_, rfl⟩
      obtain ⟨L, hL⟩ : ∃ L, L = join (none_ j) := ⟨_, rfl⟩
      have HP2 := Lib.hid (HP1.out.below hb5 (Nat.le_refl _))
      have HO5 := Lib.hid (HO4.out.below hb5 (Nat.le_refl _))
      have HB5 := Lib.hid (HB1.out.trans (hb5.mono hsz1))
      have HF := Lib.hid ho5.bytes
      obtain ⟨A5, cap5, rfl, -, -, -⟩ := ho5.bytes
      rw [← hfr] at hfl HF hjt ⊢
      rw [← hL] at hjl hjt HP2
      have hsz5 := HB5.out.size
      have hll : L.length ≤ 900 := by omega
      have hff : fr.length ≤ 9 := by omega
      have f1 : (((fr.length : Nat) : Int) != 9) = false := by simp; omega
      have HJT := Lib.hid hjt
      clear ho5 hb5 hfr hL hfl hjt hjl HO4 HP1 HB1
      go_wp2_with (at_builtin; refine wpl_append_bytes _ rfl (.tmp 41) (.tmp 42) rfl w.heap.size u7 L rfl HP2.out _ fr rfl HF.out (by omega) hsz5 ?_)
      intro v6 w3 ho6 hg6 _
      have HB6 := Lib.hid (below_append HB5.out HP2.out (Nat.le_refl _) hg6 hsz5)
      have HO6 := Lib.hid (kept_empty HO5.out hg6 (by
        rcases own_apart HP2.out HO5.out with h | h
        · rcases hv4 : v4.ownBlock with _ | k
          · exact .inl rfl
          · refine .inr ?_
            rw [h]
            simp
        · exact .inr (fun e => h e.symm)) (none_empty _))
      have HP6 : Hid (Owns w3 w.heap.size v6 (join (none_ (j + 1)))) := by rw [← HJT.out]; exact ho6
      clear ho6 hg6
      go_wp2_with fail
      go_roundw
      case rel => exact ⟨j + 1, by omega, by go_num, HO6.out, HP6.out, HB6.out⟩
      case measure => simp [intOf]; omega
    · obtain rfl : j = m := by omega
      have hjl : (join (none_ j)).length = 9 * j := by rw [length_join, none_size]
      have hll : (join (none_ j)).length ≤ 900 := by omega
      go_wp2_with (at_builtin; refine wpl_append_bytes _ rfl (.tmp 45) (.tmp 46) rfl w.heap.size u7 _ rfl (HP.out.alloc _) _ [0] rfl (one_new wr 0 0 rfl) (by simp; omega) (by simp; omega) ?_)
      intro v1 w1 ho1 hg1 _
      have hb1 := below_append (HB.out.alloc hsz _) (HP.out.alloc _) (Nat.le_refl _) hg1 (by simp; omega)
      have ho1' : OwnRows w1 w.heap.size u6 (none_ j) := kept_empty (HO.out.below ((Below.refl _ wr).alloc (Nat.le_refl _) _) (Nat.le_refl _)) hg1 (by
        have hor := HO.out.below ((Below.refl _ wr).alloc (Nat.le_refl _) (.cells #[.int .u8 0] 5)) (Nat.le_refl _)
        rcases own_apart (HP.out.alloc (.cells #[.int .u8 0] 5)) hor with h | h
        · rcases hv4 : u6.ownBlock with _ | k
          · exact .inl rfl
          · refine .inr ?_
            rw [h]
            simp
        · exact .inr (fun e => h e.symm)) (none_empty _)
      have hl1 : (join (none_ j) ++ [0]).length = 9 * j + 1 := by rw [List.length_append, hjl]; rfl
      have hpl := plain j
      obtain ⟨L, hL⟩ : ∃ L, L = join (none_ j) ++ [0] := ⟨_, rfl⟩
      rw [← hL] at ho1 hl1 hpl
      have HB1 := Lib.hid hb1
      have HOR := Lib.hid ho1'.rows
      have HL1 : Hid (IsBytes w1 v1 L) := Lib.hid ho1.bytes
      have HL := Lib.hid hL
      have HPL := Lib.hid hpl
      have hl2 : L.length ≤ 1000 := by omega
      have hl3 := Lib.hid hl1
      obtain ⟨A6, cap6, hu6, -, -, -⟩ := ho1'.rows
      rw [none_len] at hu6
      subst hu6
      have hsz1 := hb1.size
      clear ho1 hb1 ho1' hL hpl hg1 hjl hll hl1
      go_wp2_with fail
      refine (rows_any _ L (by omega) _ HL1.out).mono ?_
      rintro e w2 ⟨v2, xs, rfl, hfull, hr2, hb2'⟩
      obtain rfl := HPL.out xs hfull
      rw [none_size, if_neg (by rw [hl3.out]; omega), HL.out, ← none_size j, ← length_join, List.drop_left, show (one [0]).2.2 = 3 from rfl, length_join, none_size]
      have HB2 := Lib.hid (HB1.out.trans (hb2'.mono HB1.out.size))
      have HV2 := Lib.hid (HV.out.below HB2.out)
      obtain ⟨A7, cap7, hv2, -, -, -⟩ := hr2
      rw [none_len] at hv2
      subst hv2
      have hsz2 := HB2.out.size
      clear hfull hb2' HB1 HL1 HOR HL HPL hl3 HO HP HB
      have HN2 : Hid (IsBytes w2 (.slice none 0 0) []) := Lib.hid ⟨none, 0, rfl, by simp, by decide, fun h => by simp at h⟩
      go_wp2_with fail
      refine (one_any _ [] (by simp) _ HN2.out).mono ?_
      rintro e w3 ⟨v3, rfl, ho3, hb3'⟩
      rw [show one [] = ([], 0, 3) from rfl]
      have HB3 := Lib.hid (HB2.out.trans (hb3'.mono hsz2))
      have HV3 := Lib.hid (HV2.out.below hb3')
      have hsz3 := HB3.out.size
      clear ho3 hb3' HB2 HV2 HN2
      simp only [Int.cast_ofNat_Int]
      go_wp2_with fail
      refine (csum_any _ bs (by omega) _ HV3.out).mono ?_
      rintro e w4 ⟨rfl, hb4'⟩
      have HB4 := Lib.hid (HB3.out.trans (hb4'.mono hsz3))
      have HV4 := Lib.hid (HV3.out.below hb4')
      have hsz4 := HB4.out.size
      obtain ⟨S, hS⟩ : ∃ S, S = sum 3988292384 bs := ⟨_, rfl⟩
      rw [← hS]
      have HS := Lib.hid hS
      clear hb4' hS HB3 HV3
      go_wp2_with (at_builtin; refine want_append_bytes _ (by first | rfl | (simp [Region.wanted, yielded]; done)) (.const (.slice none 0 0)) (.tmp 84) rfl w.heap.size (.slice none 0 0) [] rfl (Owns.nil _ _) _ bs rfl HV4.out (by simp; omega) hsz4 ?_)
      intro v5 w5 ho5 hg5 _
      have HB5 := Lib.hid (below_append HB4.out (Owns.nil w4 w.heap.size) (Nat.le_refl _) hg5 hsz4)
      have HV5 : Hid (IsBytes w5 v5 bs) := Lib.hid ho5.bytes
      have hsz5 := HB5.out.size
      clear ho5 hg5 HB4 HV4
      go_wp2_with fail
      refine (csum_any _ bs (by omega) _ HV5.out).mono ?_
      rintro e w6 ⟨rfl, hb6'⟩
      have HB6 := Lib.hid (HB5.out.trans (hb6'.mono hsz5))
      rw [← HS.out]
      clear hb6' HB5 HV5
      go_wp2
      go_ret
      exact ⟨by simp, HB6.out⟩

set_option maxRecDepth 100000 in
theorem lifted (os : Os) (started : os.Started) (H : Type) (enc : TypeId × Value → H) :
    ReturnsInHanded {} Try.checked os 17 .any (Rows.frameEmptySpec.pre6 enc Try.prog Try.f17 Rows.frameEmptyRow.domain false) (Rows.frameEmptySpec.post enc Try.prog Try.f17 false true false false) := by
  refine returnsInHanded_of_change_sized (C := Try.checked) own started (by kernel_rfl) Try.func17
    (ChangeSpec.witness6 (enc := enc) (C := Try.checked) false ⟨#[], #[.int .u8 0, .slice none 0 0], []⟩ 8 (by kernel_rfl) (by kernel_rfl) (by kernel_rfl) (by kernel_rfl)) ?_
  intro W base args ds gs before hval0 hW _ hsz0 _
  have hval : ∀ (j : Nat) t v, Try.f17.params[j]? = some t → args[j]? = some v → Value.okWide Try.prog W .any base t v := hval0
  have hsz : (DataW.weightsEach Try.prog (Try.f17.params.toList ++ Rows.frameEmptySpec.plain.varTypes Try.prog) (ds ++ gs)).all (· ≤ reachBytes) = true := hsz0
  have hW' := hW
  obtain ⟨p, q, hA0, hV, rfl, hfz, hnd⟩ := hW
  have hA : DataW.TrodAll enc Try.prog W 0 (fun _ => true) true Try.f17.params.toList args.toList ds p := hA0
  have hA1 := hA
  rw [Try.params17] at hA hA1 hval hsz
  obtain ⟨v0, v1, d0, d1, p0, p1, rfl, rfl, rfl, h0, h1⟩ := trodAll_two hA
  obtain ⟨rfl, rfl⟩ := trodVars_none hV
  simp only [List.append_nil] at hW'
  obtain ⟨z0, rfl, rfl, rfl, wz0⟩ := open_int Try.underlying5 (hval 0 5 v0 rfl rfl) h0
  have bz0 := bounds_u8 wz0
  obtain ⟨x0, rfl⟩ := Int.eq_ofNat_of_zero_le bz0.1
  obtain ⟨bs1, hb1, hl1⟩ := arg_bytes (hval 1 29 v1 rfl rfl) h1 (fun elems spare e => by subst e; exact sized_slice hsz (j := 1) (t := 29) (e := 5) rfl rfl Try.underlying29)
  refine (walk x0 (by omega) v1 bs1 hl1 W hb1).mono fun e W' ⟨he, hb⟩ => ?_
  subst he
  exact ⟨_, rfl, post_of_below (pv := []) hW' (fun _ _ _ => trodAll_mk1 (shut_bool Try.underlying4 _)) (fun sp hs => args_stay laidOut hb _ _ _ _ (by simp [ok5, ok29]) hA1 (fun x hx => hW'.lt x (by simpa using hx)) (fun x hx => hs x (by simpa using hx))) (fun _ _ => rfl) (by simp)
    hb (ok_one (by kernel_rfl) rfl (okWide_bool_mk Try.underlying4 _))⟩

theorem holds : Rows.FrameEmptySaid :=
  OpenClaim.holds_of_wide 17 Try.f17 rfl rfl rfl rfl rfl rfl rfl ⟨rfl, rfl, rfl, rfl, rfl⟩ rfl rfl rfl rfl rfl (by kernel_rfl) Try.func17 (by kernel_rfl)
    (of_decide_eq_true (by kernel_rfl)) (by unfold Func.isWrapper; first | (rw [if_pos (by decide +kernel)]; kernel_rfl) | (rw [if_neg (by decide +kernel)]; exact ⟨rfl, rfl⟩))
    (fun os started H enc _ => lifted os started H enc)
#print axioms holds
end Go.Proofs.Ytflolmldildjhaa.lawFrameEmpty
