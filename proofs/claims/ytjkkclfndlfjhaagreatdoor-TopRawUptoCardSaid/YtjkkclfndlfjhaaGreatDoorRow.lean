/- Contract of cmds.Row: whether entries stand behind one another. -/
import Derived.Test.YtjkkclfndlfjhaaGreatDoorCmd
import Derived.Lib.QuietBelow
import Derived.BigQuiet
set_option linter.all false
namespace Go.Proofs.YtjkkclfndlfjhaaGreatDoor
open Go.RowKit Crc Frm Go.ChangeShapes Go.WideShapes Go.ChangeAt

def badE (start : Int) (i : Nat) (prev : Option En) (x : En) : Bool := !rightB x || (x.index != start + (i : Int)) || (match prev with | none => false | some q => decide (x.term < q.term))
def goodRow (start : Int) (xs : List En) (j : Nat) : Prop := ∀ i x, i < j → xs[i]? = some x → badE start i (if i = 0 then none else xs[i - 1]?) x = false
theorem goodRow.zero (start : Int) (xs : List En) : goodRow start xs 0 := fun _ _ h => absurd h (Nat.not_lt_zero _)
theorem goodRow.snoc {start : Int} {xs : List En} {j : Nat} (h : goodRow start xs j) {x : En} (hx : xs[j]? = some x) (hb : badE start j (if j = 0 then none else xs[j - 1]?) x = false) : goodRow start xs (j + 1) := by
  intro i y hi hy
  rcases Nat.lt_or_ge i j with h' | h'
  · exact h i y h' hy
  · obtain rfl : i = j := by omega
    rw [hx] at hy
    cases hy
    exact hb
open Classical in
/-- What Row answers. -/
noncomputable def rowB (xs : List En) (start : Int) : Bool := decide (goodRow start xs xs.length)
open Classical in
theorem rowB_no {start : Int} {xs : List En} {j : Nat} {p : En} (hj : j < xs.length) (hp : xs[j]? = some p) (hb : badE start j (if j = 0 then none else xs[j - 1]?) p = true) : rowB xs start = false := by
  unfold rowB
  exact decide_eq_false fun h => by have := h j p hj hp; rw [hb] at this; cases this
open Classical in
theorem rowB_yes {start : Int} {xs : List En} (h : goodRow start xs xs.length) : rowB xs start = true := by
  unfold rowB
  exact decide_eq_true h

set_option maxRecDepth 100000 in
set_option maxHeartbeats 6400000 in
theorem row_any (v : Value) (xs : List En) (start : Int) (hs0 : 0 ≤ start) (hs1 : start ≤ 1000000) (hl : xs.length ≤ 100000000) (W : World) (hxs : IsL W layEn v xs) :
    Calls Tryz.prog 25 #[v, .int .i64 start] W (TheBool (rowB xs start) W) := by
  have HP := Lib.hid hxs
  obtain ⟨A, cap, rfl, -⟩ := hxs
  go_enter Tryz.func25, Tryz.ntmps25
  go_wp2
  go_loopw [9] (fun i wr => ∃ j : Nat, j ≤ xs.length ∧ i = .int .i64 (j : Int) ∧ Below W.heap.size W wr ∧ goodRow start xs j) (fun i _ => xs.length - (intOf i).toNat)
  case atStart => exact ⟨0, by omega, rfl, Below.refl _ _, goodRow.zero _ _⟩
  case round =>
    obtain ⟨j, hj, rfl, hx, hg⟩ := hrel
    by_cases hjl : j < xs.length
    · obtain ⟨x, hp⟩ : ∃ p, xs[j]? = some p := ⟨_, List.getElem?_eq_getElem hjl⟩
      obtain ⟨b, off, hA, hcell⟩ := (HP.out.below hx (Nat.le_refl _)).at_ hp
      obtain rfl := hA
      have hprev : ∀ k, k < xs.length → ∃ q : En, wr.cell? ⟨b, off + k * 8 + 1, none⟩ = some (.int .i64 q.term) ∧ xs[k]? = some q := fun k hk => by
        obtain ⟨b', off', hA', hc'⟩ := (HP.out.below hx (Nat.le_refl _)).at_ (List.getElem?_eq_getElem hk)
        cases hA'
        exact ⟨_, hc' 1 _ rfl, List.getElem?_eq_getElem hk⟩
      obtain ⟨q, hq, hq'⟩ := hprev (j - 1) (by omega)
      have c0 : wr.cell? ⟨b, off + j * 8, none⟩ = some (.int .i64 x.index) := hcell 0 _ rfl
      have c1 : wr.cell? ⟨b, off + j * 8 + 1, none⟩ = some (.int .i64 x.term) := hcell 1 _ rfl
      have c2 : wr.cell? ⟨b, off + j * 8 + 2, none⟩ = some (.int .i64 x.cmd.op) := hcell 2 _ rfl
      have c3 : wr.cell? ⟨b, off + j * 8 + 3, none⟩ = some (.int .i64 x.cmd.client) := hcell 3 _ rfl
      have c4 : wr.cell? ⟨b, off + j * 8 + 4, none⟩ = some (.int .i64 x.cmd.seq) := hcell 4 _ rfl
      have c5 : wr.cell? ⟨b, off + j * 8 + 5, none⟩ = some (.string x.cmd.key) := hcell 5 _ rfl
      have c6 : wr.cell? ⟨b, off + j * 8 + 6, none⟩ = some (.string x.cmd.val) := hcell 6 _ rfl
      have c7 : wr.cell? ⟨b, off + j * 8 + 7, none⟩ = some (.string x.cmd.old) := hcell 7 _ rfl
      have hblt : b < wr.heap.size := cell_lt c0
      have hxa := hx.alloc hx.size (.cells #[.int .i64 x.index, .int .i64 x.term, .int .i64 x.cmd.op, .int .i64 x.cmd.client, .int .i64 x.cmd.seq, .string x.cmd.key, .string x.cmd.val, .string x.cmd.old] 61)
      have HG := Lib.hid hg
      clear hx hcell hprev hg
      obtain ⟨wa, hwa⟩ : ∃ wa, wa = wr.alloc (.cells #[.int .i64 x.index, .int .i64 x.term, .int .i64 x.cmd.op, .int .i64 x.cmd.client, .int .i64 x.cmd.seq, .string x.cmd.key, .string x.cmd.val, .string x.cmd.old] 61) := ⟨_, rfl⟩
      rw [← hwa] at hxa
      have HX := Lib.hid hxa
      have hbr := fun d os => (below_regrown wa d os)
      have cf : ∀ (d : Nat) (os : Array Obj), Calls Tryz.prog 36 #[.agg #[.int .i64 x.index, .int .i64 x.term, .int .i64 x.cmd.op, .int .i64 x.cmd.client, .int .i64 x.cmd.seq, .string x.cmd.key, .string x.cmd.val, .string x.cmd.old]] (Go.Sort.grow (redrawn wa d) os) fun e w'' => e = .returned (.bool (rightB x)) ∧ ∃ r : Regrown, w'' = Go.Sort.grow (redrawn wa r.d) r.os :=
        fun d os => Calls.regrown_of (cright_any x _)
      have CF := Lib.hid cf
      have k0 : ∀ d os, (Go.Sort.grow (redrawn wa d) os).cell? ⟨wr.heap.size, 0, none⟩ = some (.int .i64 x.index) := fun d os => cell_regrown (by rw [hwa]; exact (Has.new wr 61 _).cell 0) d os
      have k1 : ∀ d os, (Go.Sort.grow (redrawn wa d) os).cell? ⟨wr.heap.size, 1, none⟩ = some (.int .i64 x.term) := fun d os => cell_regrown (by rw [hwa]; exact (Has.new wr 61 _).cell 1) d os
      have k2 : ∀ d os, (Go.Sort.grow (redrawn wa d) os).cell? ⟨wr.heap.size, 2, none⟩ = some (.int .i64 x.cmd.op) := fun d os => cell_regrown (by rw [hwa]; exact (Has.new wr 61 _).cell 2) d os
      have k3 : ∀ d os, (Go.Sort.grow (redrawn wa d) os).cell? ⟨wr.heap.size, 3, none⟩ = some (.int .i64 x.cmd.client) := fun d os => cell_regrown (by rw [hwa]; exact (Has.new wr 61 _).cell 3) d os
      have k4 : ∀ d os, (Go.Sort.grow (redrawn wa d) os).cell? ⟨wr.heap.size, 4, none⟩ = some (.int .i64 x.cmd.seq) := fun d os => cell_regrown (by rw [hwa]; exact (Has.new wr 61 _).cell 4) d os
      have k5 : ∀ d os, (Go.Sort.grow (redrawn wa d) os).cell? ⟨wr.heap.size, 5, none⟩ = some (.string x.cmd.key) := fun d os => cell_regrown (by rw [hwa]; exact (Has.new wr 61 _).cell 5) d os
      have k6 : ∀ d os, (Go.Sort.grow (redrawn wa d) os).cell? ⟨wr.heap.size, 6, none⟩ = some (.string x.cmd.val) := fun d os => cell_regrown (by rw [hwa]; exact (Has.new wr 61 _).cell 6) d os
      have k7 : ∀ d os, (Go.Sort.grow (redrawn wa d) os).cell? ⟨wr.heap.size, 7, none⟩ = some (.string x.cmd.old) := fun d os => cell_regrown (by rw [hwa]; exact (Has.new wr 61 _).cell 7) d os
      have k9 : ∀ d os, (Go.Sort.grow (redrawn wa d) os).cell? ⟨b, off + (j - 1) * 8 + 1, none⟩ = some (.int .i64 q.term) := fun d os => cell_regrown (by rw [hwa]; exact Lib.cell?_alloc_some _ hq) d os
      clear cf hxa hbr
      go_wp2
      rw [← hwa]
      clear hwa c0 c1 c2 c3 c4 c5 c6 c7
      have q2 : ((j : Int) - 1).toNat = j - 1 := by omega
      generalize hrt : rightB x = rt at *
      cases rt with
      | false =>
        refine wp_region_quiet_below (by kernel_rfl) (by kernel_rfl) ?_
        repeat (first | go_big_quiet_step ((go_at_call 36; exact CF.out _ _)) | quiet_step ((go_at_call 36; exact CF.out _ _)))
        refine wpQuiet_nil ?_
        intro _ hw'
        obtain ⟨pq, hw''⟩ := hw'
        subst hw''
        obtain ⟨w2, hw2⟩ : ∃ w2, w2 = Go.Sort.grow (redrawn wa pq.d) pq.os := ⟨_, rfl⟩
        have hb2 : Below W.heap.size W w2 := by rw [hw2]; exact HX.out.trans ((below_regrown wa pq.d pq.os).mono HX.out.size)
        rw [← hw2]
        clear hw2
        go_wp2
        go_ret
        exact ⟨by rw [rowB_no hjl hp (by simp [badE, hrt])]; rfl, hb2⟩
      | true =>
        have q0 : IntKind.i64.wrap (start + (j : Int)) = start + (j : Int) := IntWalk.i64_in _ (by omega)
        cases h2 : (x.index != start + (j : Int)) with
        | true =>
          have h2' : (x.index == start + (j : Int)) = false := by simpa using h2
          refine wp_region_quiet_below (by kernel_rfl) (by kernel_rfl) ?_
          repeat (first | go_big_quiet_step ((go_at_call 36; exact CF.out _ _)) | quiet_step ((go_at_call 36; exact CF.out _ _)))
          refine wpQuiet_nil ?_
          intro _ hw'
          obtain ⟨pq, hw''⟩ := hw'
          subst hw''
          obtain ⟨w2, hw2⟩ : ∃ w2, w2 = Go.Sort.grow (redrawn wa pq.d) pq.os := ⟨_, rfl⟩
          have hb2 : Below W.heap.size W w2 := by rw [hw2]; exact HX.out.trans ((below_regrown wa pq.d pq.os).mono HX.out.size)
          rw [← hw2]
          clear hw2
          go_wp2
          clear q0
          go_ret
          exact ⟨by rw [rowB_no hjl hp (by simp [badE, hrt, h2])]; rfl, hb2⟩
        | false =>
          have h2' : (x.index == start + (j : Int)) = true := by simpa using h2
          cases h6 : decide (0 < j) with
          | true =>
            have h7 : 0 < j := of_decide_eq_true h6
            have hpv : (if j = 0 then none else xs[j - 1]?) = some q := by rw [if_neg (by omega)]; exact hq'
            have q3 : (0 : Int) ≤ (j : Int) - 1 := by omega
            have q4 : (j : Int) - 1 < (xs.length : Int) := by omega
            have q1 : IntKind.i64.wrap ((j : Int) - 1) = (j : Int) - 1 := IntWalk.i64_in _ (by omega)
            cases h8 : decide (x.term < q.term) with
            | true =>
              refine wp_region_quiet_below (by kernel_rfl) (by kernel_rfl) ?_
              repeat (first | go_big_quiet_step ((go_at_call 36; exact CF.out _ _)) | quiet_step ((go_at_call 36; exact CF.out _ _)))
              refine wpQuiet_nil ?_
              intro _ hw'
              obtain ⟨pq, hw''⟩ := hw'
              subst hw''
              obtain ⟨w2, hw2⟩ : ∃ w2, w2 = Go.Sort.grow (redrawn wa pq.d) pq.os := ⟨_, rfl⟩
              have hb2 : Below W.heap.size W w2 := by rw [hw2]; exact HX.out.trans ((below_regrown wa pq.d pq.os).mono HX.out.size)
              rw [← hw2]
              clear hw2
              go_wp2
              clear q0 q1
              go_ret
              exact ⟨by rw [rowB_no hjl hp (by simp [badE, hrt, h2, hpv, h8])]; rfl, hb2⟩
            | false =>
              refine wp_region_quiet_below (by kernel_rfl) (by kernel_rfl) ?_
              repeat (first | go_big_quiet_step ((go_at_call 36; exact CF.out _ _)) | quiet_step ((go_at_call 36; exact CF.out _ _)))
              refine wpQuiet_nil ?_
              intro _ hw'
              obtain ⟨pq, hw''⟩ := hw'
              subst hw''
              obtain ⟨w2, hw2⟩ : ∃ w2, w2 = Go.Sort.grow (redrawn wa pq.d) pq.os := ⟨_, rfl⟩
              have hb2 : Below W.heap.size W w2 := by rw [hw2]; exact HX.out.trans ((below_regrown wa pq.d pq.os).mono HX.out.size)
              rw [← hw2]
              clear hw2
              go_wp2
              clear q0 q1
              go_roundw
              case rel => exact ⟨j + 1, by omega, by go_num, hb2, HG.out.snoc hp (by simp [badE, hrt, h2, hpv, h8])⟩
              case measure => simp [intOf]; omega
          | false =>
            have h7 : j = 0 := by have := of_decide_eq_false h6; omega
            have HPV : Hid ((if j = 0 then none else xs[j - 1]?) = none) := Lib.hid (by rw [if_pos h7])
            clear h7
            refine wp_region_quiet_below (by kernel_rfl) (by kernel_rfl) ?_
            repeat (first | go_big_quiet_step ((go_at_call 36; exact CF.out _ _)) | quiet_step ((go_at_call 36; exact CF.out _ _)))
            refine wpQuiet_nil ?_
            intro _ hw'
            obtain ⟨pq, hw''⟩ := hw'
            subst hw''
            obtain ⟨w2, hw2⟩ : ∃ w2, w2 = Go.Sort.grow (redrawn wa pq.d) pq.os := ⟨_, rfl⟩
            have hb2 : Below W.heap.size W w2 := by rw [hw2]; exact HX.out.trans ((below_regrown wa pq.d pq.os).mono HX.out.size)
            rw [← hw2]
            clear hw2
            go_wp2
            clear q0
            go_roundw
            case rel => exact ⟨j + 1, by omega, by go_num, hb2, HG.out.snoc hp (by simp [badE, hrt, h2, HPV.out])⟩
            case measure => simp [intOf]; omega
    · obtain rfl : j = xs.length := by omega
      have HX := Lib.hid hx
      have HG := Lib.hid hg
      clear hx hg
      go_wp2
      go_ret
      exact ⟨by rw [rowB_yes HG.out]; rfl, HX.out⟩
end Go.Proofs.YtjkkclfndlfjhaaGreatDoor
/- Contract of image.rows: a file's rows, or an error. -/
namespace Go.Proofs.YtjkkclfndlfjhaaGreatDoor
open Go.RowKit Crc Frm Go.ChangeShapes Go.WideShapes Go.ChangeAt

/-- Frames are told apart in one way alone. -/
theorem full_eq : ∀ {rs rs' : List (List UInt8)} {b : List UInt8}, Full b rs → Full b rs' → rs = rs'
  | [], [], _, _, _ => rfl
  | [], y :: ys, b, h, h' => by
    obtain ⟨⟨⟨rest, hr⟩, hl⟩, _⟩ := h'
    exact absurd (by rw [show size [] = 0 from rfl, List.drop_zero, hr, join, List.append_assoc, one_frame _ _ (hl y (List.mem_cons_self ..))]) h.2
  | x :: xs, [], b, h, h' => by
    obtain ⟨⟨⟨rest, hr⟩, hl⟩, _⟩ := h
    exact absurd (by rw [show size [] = 0 from rfl, List.drop_zero, hr, join, List.append_assoc, one_frame _ _ (hl x (List.mem_cons_self ..))]) h'.2
  | x :: xs, y :: ys, b, h, h' => by
    obtain ⟨⟨⟨rest, hr⟩, hl⟩, hn⟩ := h
    obtain ⟨⟨⟨rest', hr'⟩, hl'⟩, hn'⟩ := h'
    have e1 := one_frame x (join xs ++ rest) (hl x (List.mem_cons_self ..))
    have e2 := one_frame y (join ys ++ rest') (hl' y (List.mem_cons_self ..))
    rw [← List.append_assoc, ← join, ← hr] at e1
    rw [← List.append_assoc, ← join, ← hr'] at e2
    rw [e1] at e2
    simp only [Prod.mk.injEq] at e2
    obtain ⟨rfl, _⟩ := e2
    have hd : b.drop (x.length + 9) = join xs ++ rest := by
      rw [hr, join, List.append_assoc, ← length_frame, List.drop_left]
    have hd' : b.drop (x.length + 9) = join ys ++ rest' := by
      rw [hr', join, List.append_assoc, ← length_frame, List.drop_left]
    have g1 : Full (b.drop (x.length + 9)) xs := ⟨⟨⟨rest, hd⟩, fun r hr => hl r (List.mem_cons_of_mem _ hr)⟩, by rw [List.drop_drop]; exact hn⟩
    have g2 : Full (b.drop (x.length + 9)) ys := ⟨⟨⟨rest', hd'⟩, fun r hr => hl' r (List.mem_cons_of_mem _ hr)⟩, by rw [List.drop_drop]; exact hn'⟩
    rw [full_eq g1 g2]

/-- What image.rows leaves. -/
def ImRows (b : List UInt8) (W : World) (e : Ending) (W' : World) : Prop :=
  ∃ (v : Value) (rs : List (List UInt8)) (end_ err : Int), e = .returned (.tuple #[v, .int .i64 end_, .int .i64 err]) ∧ Below W.heap.size W W' ∧
    ((err = 10 ∧ end_ = 0) ∨ (err = 0 ∧ end_ = ((size rs : Nat) : Int) ∧ IsRows W' v rs ∧ Full b rs ∧ 0 < rs.length))

set_option maxRecDepth 100000 in
set_option maxHeartbeats 3200000 in
theorem imrows_any (v : Value) (b : List UInt8) (hl : b.length ≤ 100000000) (W : World) (hv : IsBytes W v b) :
    Calls Tryz.prog 66 #[v, .int .i64 2, .int .i64 0] W (ImRows b W) := by
  have HV := Lib.hid hv
  obtain ⟨A, cap, rfl, -, -, -⟩ := hv
  go_enter Tryz.func66, Tryz.ntmps66
  go_wp2_with fail
  refine (rows_any _ b (by omega) _ HV.out).mono ?_
  rintro e w1 ⟨v', rs, rfl, hfull, hrs, hb⟩
  have hsize := hfull.1.size_le
  have hge := size_ge rs
  have HF := Lib.hid hfull
  have HRS := Lib.hid hrs
  have HB := Lib.hid hb
  obtain ⟨A', cap', rfl, -⟩ := hrs
  generalize (if size rs = b.length then 0 else (one (b.drop (size rs))).2.2 : Nat) = code at *
  clear hfull hb
  by_cases h0 : rs.length = 0
  · have h0' : ((rs.length : Int) == 0) = true := by simp [h0]
    go_wp2
    go_ret3
    exact ⟨.slice none 0 0, [], 0, 10, rfl, HB.out, .inl ⟨rfl, rfl⟩⟩
  · obtain ⟨r0, hr0⟩ : ∃ r, rs[0]? = some r := ⟨_, List.getElem?_eq_getElem (by omega)⟩
    obtain ⟨bb, off, u, rfl, hcell, hu⟩ := HRS.out.at_ hr0
    rw [Nat.add_zero] at hcell
    have hr0l : r0.length ≤ 16384 := HF.out.1.2 r0 (List.mem_of_getElem? hr0)
    have HU := Lib.hid hu
    obtain ⟨Au, capu, rfl, -⟩ := hu
    have h0' : ((rs.length : Int) == 0) = false := by simp; intro e; rw [e] at h0; simp at h0
    have h1' : (0 : Int) < (rs.length : Int) := by omega
    clear hr0
    go_wp2_with fail
    refine (rof_any _ r0 _ HU.out).mono ?_
    rintro e w2 ⟨rfl, hr, hb⟩
    have HR := Lib.hid hr
    have HB2 := Lib.hid hb
    generalize hR0 : (⟨r0, false⟩ : Rs) = R0 at *
    have hR0l : R0.rest.length ≤ 16384 := by rw [← hR0]; exact hr0l
    clear hR0 hr hb
    go_wp2_with fail
    refine (rbyte_any _ R0 (by omega) _ HR.out).mono ?_
    rintro e w3 ⟨rfl, hr, hf⟩
    have HR3 := Lib.hid hr
    have HB3 := Lib.hid (HB2.out.trans (hf.toBelow (fun k e => by omega) HB2.out.size))
    have hl3 := R0.byte_len
    have hcl := R0.byte.1.toNat_lt
    clear hr hf HR HB2
    go_wp2_with fail
    refine (rnum_any _ R0.byte.2 (by omega) _ HR3.out).mono ?_
    rintro e w4 ⟨rfl, hr, hf⟩
    have HR4 := Lib.hid hr
    have HB4 := Lib.hid (HB3.out.trans (hf.toBelow (fun k e => by omega) HB3.out.size))
    have hl4 := R0.byte.2.num_len
    clear hr hf HR3 HB3
    go_wp2_with fail
    refine (rnum_any _ R0.byte.2.num.2 (by omega) _ HR4.out).mono ?_
    rintro e w5 ⟨rfl, hr, hf⟩
    have HR5 := Lib.hid hr
    have HB5 := Lib.hid (HB4.out.trans (hf.toBelow (fun k e => by omega) HB4.out.size))
    clear hr hf HR4 HB4
    go_wp2_with fail
    refine (rdone_any _ R0.byte.2.num.2.num.2 _ HR5.out).mono ?_
    rintro e w6 ⟨rfl, rfl⟩
    have hbw := HB.out.trans (HB5.out.mono HB.out.size)
    have hrw := HRS.out.below HB5.out
    have HBW := Lib.hid hbw
    have HRW := Lib.hid hrw
    clear hbw hrw
    generalize (!R0.byte.2.num.2.num.2.bad && decide (R0.byte.2.num.2.num.2.rest.length = 0)) = dn at *
    cases dn with
    | false =>
      go_wp2
      go_ret3
      exact ⟨.slice none 0 0, [], 0, 10, rfl, HBW.out, .inl ⟨rfl, rfl⟩⟩
    | true =>
      go_wp2
      all_goals first
        | (go_ret3; exact ⟨.slice none 0 0, [], 0, 10, rfl, HBW.out, .inl ⟨rfl, rfl⟩⟩)
        | (go_ret3; exact ⟨_, rs, _, 0, rfl, HBW.out, .inr ⟨rfl, rfl, HRW.out, HF.out, by omega⟩⟩)
end Go.Proofs.YtjkkclfndlfjhaaGreatDoor
/- Contract of image.ReadPart: the entries that are told stand behind one another; where the last one ends. -/
namespace Go.Proofs.YtjkkclfndlfjhaaGreatDoor
open Go.RowKit Crc Frm Go.ChangeShapes Go.WideShapes Go.ChangeAt

theorem info61 : (Tryz.prog.info? 61).map (fun i => (i.zero, i.size, i.bytes)) = some (some (.agg #[.int .i64 0, .int .i64 0, .int .i64 0, .int .i64 0, .int .i64 0, .string ⟨#[]⟩, .string ⟨#[]⟩, .string ⟨#[]⟩]), 8, 88) := by kernel_rfl

/-- The rows behind the first one. -/
theorem rest_rows (v : Value) (rs : List (List UInt8)) (w : World) (hv : IsRows w v rs) (hp : 0 < rs.length) :
    ∃ u, (∀ wx, (Instr.slice 79 v (some (.int .i64 1)) none none).run Tryz.prog wx = .ok u wx) ∧ IsRows w u (rs.drop 1) := by
  obtain ⟨A, cap, rfl, hl, hc, hr⟩ := hv
  obtain ⟨i0, hi0, hz0, hz1, hz2⟩ := info_parts info29
  have hlen : (rs.drop 1).length = rs.length - 1 := List.length_drop
  obtain ⟨g, off, rfl, hcell⟩ := hr hp
  refine ⟨.slice (if cap = 1 then some ⟨g, off, none⟩ else (some (⟨g, off, none⟩ : Addr)).map (·.add 1)) (rs.length - 1) (cap - 1), fun wx => ?_, ?_⟩
  · have h1 := run_underlying (P := Tryz.prog) Tryz.underlying79 wx
    have h2 : (1 : Int) ≤ (rs.length : Int) := by omega
    simp [Instr.slice, Instr.sliceBounds, Instr.sliceBound, asIntOf, h1, h2, sizeOf, typeInfo, hi0, hz1]
    try omega
  · refine ⟨_, cap - 1, by rw [hlen], by omega, by simp only [maxLen] at hc ⊢; omega, fun h => ?_⟩
    rw [if_neg (by omega)]
    refine ⟨g, off + 1, by simp [Go.WideShapes.add_plain], fun i r hi => ?_⟩
    rw [List.getElem?_drop] at hi
    obtain ⟨u, hu, hb⟩ := hcell (1 + i) r hi
    exact ⟨u, by rw [Nat.add_assoc]; exact hu, hb⟩

/-- What ReadPart leaves. -/
def RpLeft (b : List UInt8) (start : Int) (W : World) (e : Ending) (W' : World) : Prop :=
  ∃ (v : Value) (es : List En) (last err : Int), e = .returned (.tuple #[v, .int .i64 last, .int .i64 err]) ∧ Below W.heap.size W W' ∧
    (last = 0 ∨ ∃ rs, Full b rs ∧ last = ((size rs : Nat) : Int)) ∧ (∃ A n c, v = .slice A n c) ∧ (err = 0 → IsL W' layEn v es ∧ rowB es (start + 1) = true ∧ es.length ≤ 100000000)

set_option maxRecDepth 100000 in
set_option maxHeartbeats 6400000 in
theorem readpart_any (v : Value) (b : List UInt8) (start : Int) (hs0 : 0 ≤ start) (hs1 : start ≤ 1000) (hl : b.length ≤ 100000000) (W : World) (hv : IsBytes W v b) :
    Calls Tryz.prog 23 #[v, .int .i64 start] W (RpLeft b start W) := by
  obtain ⟨i0, hi0, hz0, hz1, hz2⟩ := info_parts info61
  have HV := Lib.hid hv
  obtain ⟨A, cap, rfl, -, -, -⟩ := hv
  go_enter Tryz.func23, Tryz.ntmps23
  go_wp2_with fail
  refine (imrows_any _ b (by omega) _ HV.out).mono ?_
  rintro e w1 ⟨v', rs, end_, err, rfl, hb, hor⟩
  rcases hor with ⟨rfl, rfl⟩ | ⟨rfl, rfl, hrs, hfull, hpos⟩
  · have HB := Lib.hid hb
    clear hb
    go_wp2
    go_quiet (fail)
    go_wp2
    go_ret3
    exact ⟨.slice none 0 0, [], 0, 10, rfl, below_drewN HB.out _, .inl rfl, ⟨_, _, _, rfl⟩, fun h => by cases h⟩
  · have hge := size_ge rs
    have hsl := hfull.1.size_le
    obtain ⟨r0, hr0⟩ : ∃ r, rs[0]? = some r := ⟨_, List.getElem?_eq_getElem (by omega)⟩
    obtain ⟨bb, off, u, hA, hcell, hu⟩ : ∃ b off u, (∃ n c, v' = .slice (some ⟨b, off, none⟩) n c) ∧ w1.cell? ⟨b, off, none⟩ = some u ∧ IsBytes w1 u r0 := by
      obtain ⟨A', cap', rfl, -⟩ := id hrs
      obtain ⟨b, off, u, rfl, h1, h2⟩ := hrs.at_ hr0
      exact ⟨b, off, u, ⟨_, _, rfl⟩, h1, h2⟩
    obtain ⟨u2, hu2, hrest⟩ := rest_rows v' rs w1 hrs hpos
    have hlr : ∀ r ∈ rs.drop 1, r.length ≤ 16384 := fun r hr => hfull.1.2 r (List.mem_of_mem_drop hr)
    obtain ⟨rest, hrest'⟩ : ∃ rest, rest = rs.drop 1 := ⟨_, rfl⟩
    have hrl : rest.length + 1 = rs.length := by rw [hrest', List.length_drop]; omega
    rw [← hrest'] at hrest hlr
    obtain ⟨A', cap', rfl, -⟩ := id hrs
    obtain ⟨n', c', hA'⟩ := hA
    simp only [Value.slice.injEq] at hA'
    obtain ⟨rfl, -, -⟩ := hA'
    obtain ⟨A2, cap2, rfl, -⟩ := id hrest
    have HREST := Lib.hid hrest
    have HFULL := Lib.hid hfull
    have HLR := Lib.hid hlr
    have HU := Lib.hid hu
    have HB := Lib.hid hb
    obtain ⟨Au, capu, rfl, -⟩ := id hu
    have k0 : w1.drew.cell? ⟨bb, off, none⟩ = some (.slice Au r0.length capu) := hcell
    have cv0 := convert_bytes (w := w1.drew) (hu.below (Below.refl _ _).drew)
    have HC := Lib.hid hcell
    clear hb hu hrs hfull hcell hrest hrest' hr0 hlr
    have h1' : (0 : Int) < (rs.length : Int) := by omega
    go_wp2
    go_cut [33] from 21 to 33 (fun s33 wx => (∃ bo, s33 = .bool bo) ∧ Below W.heap.size W wx ∧ IsRows wx (.slice A2 rest.length cap2) rest)
    case first =>
      first
        | (go_region_with (go_at_call 45; refine (head_any 2 start start _).mono ?_; rintro e w2 ⟨v2, rfl, ho, hb2⟩; have cv1 := convert_bytes ho.bytes; have cv2 := convert_bytes ((HU.out.below (Below.refl _ _).drew).below hb2); have k2 : w2.cell? ⟨bb, off, none⟩ = some (.slice Au r0.length capu) := (hb2.cell (p := ⟨bb, off, none⟩) (cell_lt HC.out)).trans HC.out; have HB2 := Lib.hid (HB.out.trans ((Below.refl _ _).drew.trans (hb2.mono HB.out.size))); have HR2 := Lib.hid (HREST.out.below ((Below.refl _ _).drew.trans hb2)); obtain ⟨Ah, caph, rfl, -⟩ := ho.bytes; clear ho hb2))
        | fail
      all_goals (go_wp2_with fail; go_meet; exact ⟨⟨_, rfl⟩, HB2.out, HR2.out⟩)
    case rest =>
      obtain ⟨⟨bo, rfl⟩, hb2, hr2⟩ := hcut
      clear cv0 k0 HU HC
      have HB2 := Lib.hid hb2
      have HR2 := Lib.hid hr2
      clear hb2 hr2
      cases bo with
      | true =>
        go_wp2
        go_ret3
        exact ⟨.slice none 0 0, [], 0, 10, rfl, HB2.out, .inl rfl, ⟨_, _, _, rfl⟩, fun h => by cases h⟩
      | false =>
        go_wp2
        go_loopw [10, 37] (fun s10 i wr => ∃ (j : Nat) (es : List En), j ≤ rest.length ∧ i = .int .i64 (j : Int) ∧ OwnL wr wc.heap.size 61 layEn s10 es ∧ es.length = j ∧ Below wc.heap.size wc wr) (fun _ i _ => rest.length - (intOf i).toNat)
        case atStart => exact ⟨0, [], by omega, rfl, OwnL.nil _ _ _ _, rfl, Below.refl _ _⟩
        case round =>
          obtain ⟨j, es, hj, rfl, ho, hel, hb⟩ := hrel
          have HO := Lib.hid ho
          have HBW := Lib.hid hb
          have HRR := Lib.hid (HR2.out.below hb)
          clear ho hb
          by_cases hjl : j < rest.length
          · obtain ⟨r, hr⟩ : ∃ r, rest[j]? = some r := ⟨_, List.getElem?_eq_getElem hjl⟩
            obtain ⟨b3, off3, u3, rfl, hc3, hu3⟩ := HRR.out.at_ hr
            have hr3 := HLR.out r (List.mem_of_getElem? hr)
            have HU3 := Lib.hid hu3
            obtain ⟨Au3, capu3, rfl, -⟩ := id hu3
            clear hu3
            go_wp2_with fail
            refine (cmread_any _ r hr3 _ HU3.out).mono ?_
            rintro e w4 ⟨x, ok, rfl, hb4, -⟩
            have hs4 := hb4.size
            have hbs := HBW.out.size
            have HB4 := Lib.hid (HBW.out.trans (hb4.mono HBW.out.size))
            have HO4 := Lib.hid (HO.out.below hb4 (Nat.le_refl _))
            have HK4 := Lib.hid (Has.new w4 61 #[.int .i64 x.index, .int .i64 x.term, .int .i64 x.cmd.op, .int .i64 x.cmd.client, .int .i64 x.cmd.seq, .string x.cmd.key, .string x.cmd.val, .string x.cmd.old])
            clear hb4 hc3
            unfold En.v
            cases ok with
            | false =>
              go_wp2
              go_ret3
              exact ⟨.slice none 0 0, [], 0, 10, rfl, HB2.out.trans ((HB4.out.alloc HB4.out.size _).mono HB2.out.size), .inl rfl, ⟨_, _, _, rfl⟩, fun h => by cases h⟩
            | true =>
              obtain ⟨⟨d0, d1, d2, d3, d4, d5, d6, d7⟩, -⟩ := HK4.out.all8
              go_wp2_with (at_builtin; refine wpl_append_el _ rfl 32 61 (.tmp 48) (.tmp 50) rfl wc.heap.size u10 es x i0 _ 88 Tryz.underlying32 hi0 hz0 hz1 hz2 rfl (by decide) rfl ((HO4.out.alloc _).alloc _) ⟨w4.heap.size + 1, 0, none⟩ 1 rfl ?_ (by omega) (by simp; omega) ?_)
              · intro j u hj
                have h := cells_new (w4.alloc (.cells #[.int .i64 x.index, .int .i64 x.term, .int .i64 x.cmd.op, .int .i64 x.cmd.client, .int .i64 x.cmd.seq, .string x.cmd.key, .string x.cmd.val, .string x.cmd.old] 61)) 61 #[.int .i64 x.index, .int .i64 x.term, .int .i64 x.cmd.op, .int .i64 x.cmd.client, .int .i64 x.cmd.seq, .string x.cmd.key, .string x.cmd.val, .string x.cmd.old] j u hj
                simp only [World.size_alloc] at h
                exact h
              intro v1 w6 ho1 hg1 _
              have HX6 := Lib.hid (((HB4.out.alloc HB4.out.size _).alloc (by have := HB4.out.size; simp; omega) _).grown hg1 (by have := HB4.out.size; simp; omega) fun k hk => (HO4.out.lt k hk).1)
              have HO6 := Lib.hid ho1
              clear ho1 hg1 d0 d1 d2 d3 d4 d5 d6 d7
              go_wp2
              go_roundw
              case rel => exact ⟨j + 1, es ++ [x], by omega, by go_num, HO6.out, by rw [List.length_append]; simp; omega, HX6.out⟩
              case measure => simp [intOf]; omega
          · obtain rfl : j = rest.length := by omega
            have b1 : 0 ≤ start + 1 := by omega
            have b2 : start + 1 ≤ 1000000 := by omega
            have b3 : es.length ≤ 100000000 := by omega
            have q0 : IntKind.i64.wrap (start + 1) = start + 1 := IntWalk.i64_in _ (by omega)
            have hol := HO.out.list
            obtain ⟨A9, cap9, rfl, -⟩ := id hol
            rw [hel] at hol
            go_wp2_with fail
            refine (row_any _ es (start + 1) b1 b2 b3 _ hol).mono ?_
            rintro e w4 ⟨rfl, hb4⟩
            have HB4 := Lib.hid (HBW.out.trans (hb4.mono HBW.out.size))
            have HO4 := Lib.hid (hol.below hb4 (Nat.le_refl _))
            clear hb4 q0 hol
            cases hrow : rowB es (start + 1) with
            | false =>
              go_wp2
              go_ret3
              exact ⟨.slice none 0 0, [], 0, 10, rfl, HB2.out.trans (HB4.out.mono HB2.out.size), .inl rfl, ⟨_, _, _, rfl⟩, fun h => by cases h⟩
            | true =>
              go_wp2
              go_ret3
              exact ⟨_, es, _, 0, rfl, HB2.out.trans (HB4.out.mono HB2.out.size), .inr ⟨rs, HFULL.out, rfl⟩, ⟨_, _, _, rfl⟩, fun _ => ⟨HO4.out, hrow, b3⟩⟩
end Go.Proofs.YtjkkclfndlfjhaaGreatDoor
/- Contract of edits.Read: what is told as read has these bytes. -/
namespace Go.Proofs.YtjkkclfndlfjhaaGreatDoor
open Go.RowKit Crc Frm Go.ChangeShapes Go.WideShapes Go.ChangeAt

theorem info173 : (Tryz.prog.info? 173).map (fun i => (i.zero, i.size, i.bytes)) = some (some (.agg #[.string ⟨#[]⟩, .int .i64 0, .int .i64 0, .int .i64 0]), 4, 40) := by kernel_rfl
theorem info9 : (Tryz.prog.info? 9).map (fun i => (i.zero, i.size, i.bytes)) = some (some (.string ⟨#[]⟩), 1, 16) := by kernel_rfl

theorem step_append_el {α : Type} {L : Lay α} {P : Program} {ops : Array Oper} {o : Oper} {a : Act} {K : Act → World → Prop} {Q : Exit → Act → World → Prop} {E : Prop} (w : World) (hgd : o.guard = none) (t e : TypeId) (s y : Operand)
    (ho : o.op = .call { callee := .builtin .append, args := #[s, y], argTypes := #[t, t] })
    (base : Nat) (v : Value) (xs : List α) (x : α) (i0 : TypeInfo) (z : Value) (bytes : Nat) (ht : P.underlying t = some (.slice e)) (hi0 : P.info? e = some i0) (hz0 : i0.zero = some z) (hz1 : i0.size = L.k) (hz2 : i0.bytes = bytes) (hzs : z.cells.size = L.k) (hby : 0 < bytes)
    (hs : a.eval s = v) (hown : OwnL w base e L v xs) (ad : Addr) (c : Nat) (hx : a.eval y = .slice (some ad) 1 c) (hcell : ∀ j u, (L.cells x)[j]? = some u → w.cell? (ad.add j) = some u)
    (hlen : (xs.length + 1) * bytes ≤ 140737488355328) (hbase : base ≤ w.heap.size)
    (h : ∀ v' w', OwnL w' base e L v' (xs ++ [x]) → w.grownBy w' v.ownBlock → (v'.ownBlock = v.ownBlock ∨ v'.ownBlock = some w.heap.size) → K (a.put o.dst v') w') :
    if Region.wanted o (yielded ops a.tmps) = true then Oper.wp P o a w K Q else E := by
  have hw : Region.wanted o (yielded ops a.tmps) = true := by simp [Region.wanted, hgd]
  rw [if_pos hw]
  obtain ⟨v', w', hrun, h2, h3, h4⟩ := run_append_el (P := P) w o.type t e base v xs x i0 z bytes ht hi0 hz0 hz1 hz2 hzs hown ad c hcell hlen hby hbase
  unfold Oper.wp execOp
  simp only [ho, resolve, invoke, builtin, Sem.run_bind, Sem.run_pure, Result.andThen_ok, List.map_toArray, List.map_cons, List.map_nil, hs, hx, hrun]
  exact h v' w' h2 h3 h4

def FitRf (N : Nat) (rs : List Rf) : Prop := ∀ r ∈ rs, r.name.size ≤ N
def FitStr (N : Nat) (rs : List ByteArray) : Prop := ∀ r ∈ rs, r.size ≤ N
theorem FitRf.snoc {N : Nat} {ps : List Rf} {p : Rf} (h : FitRf N ps) (h2 : p.name.size ≤ N) : FitRf N (ps ++ [p]) := by
  intro q hq
  rcases List.mem_append.1 hq with h' | h'
  · exact h q h'
  · obtain rfl := List.mem_singleton.1 h'; exact h2
theorem FitStr.snoc {N : Nat} {ps : List ByteArray} {p : ByteArray} (h : FitStr N ps) (h2 : p.size ≤ N) : FitStr N (ps ++ [p]) := by
  intro q hq
  rcases List.mem_append.1 hq with h' | h'
  · exact h q h'
  · obtain rfl := List.mem_singleton.1 h'; exact h2
theorem Rs.ref_less (R : Rs) (h : R.text.2.byte.2.num.2.num.2.bad = false) : R.text.2.byte.2.num.2.num.2.rest.length + 8 ≤ R.rest.length := by
  have h1 := Rs.num_less _ h
  have h4 := R.text_len
  have h5 := R.text.2.byte_len
  have h6 := R.text.2.byte.2.num_len
  omega
theorem ed_len {N : Nat} {floor : Int} {ps : List Rf} {xs : List ByteArray} (hN : N ≤ 16384) (h1 : FitRf N ps) (h2 : FitStr N xs) (l1 : 8 * ps.length ≤ N + 8) (l2 : 8 * xs.length ≤ N + 8) : (edBytes floor ps xs).length ≤ 700000000 := by
  have e1 := flat_bound putRef (25 + N) ps (fun p hp => by rw [putRef_len]; have := h1 p hp; omega)
  have e2 := flat_bound txt (8 + N) xs (fun p hp => by rw [txt_len]; have := h2 p hp; omega)
  have e3 : ps.length * (25 + N) ≤ 2049 * 16409 := Nat.mul_le_mul (by omega) (by omega)
  have e4 : xs.length * (8 + N) ≤ 2049 * 16392 := Nat.mul_le_mul (by omega) (by omega)
  simp only [edBytes, List.length_append, beTo_len]
  omega

/-- What edits.Read leaves of these bytes. -/
def EdRead (bs : List UInt8) (W : World) (e : Ending) (W' : World) : Prop :=
  ∃ (floor : Int) (addv dropv : Value) (ok : Bool), e = .returned (.tuple #[.agg #[addv, dropv, .int .i64 floor], .bool ok]) ∧ Below W.heap.size W W' ∧ (∃ A n c, addv = .slice A n c) ∧ (∃ A n c, dropv = .slice A n c) ∧
    (ok = true → ∃ add drop, IsL W' layRf addv add ∧ IsL W' layStr dropv drop ∧ edBytes floor add drop = bs)

/-- What both loops of edits.Read carry: the result's variable, the Reader, the edit under way. -/
def EdIn (W : World) (B g b2 : Nat) (floor : Int) (addv dropv : Value) (add : List Rf) (drop : List ByteArray) (R : Rs) (wr : World) : Prop :=
  Below W.heap.size W wr ∧ Has wr B 97 #[.slice none 0 0, .slice none 0 0, .int .i64 0] ∧ Rd wr g R ∧ Has wr b2 97 #[addv, dropv, .int .i64 floor] ∧ OwnL wr (b2 + 1) 173 layRf addv add ∧ OwnL wr (b2 + 1) 9 layStr dropv drop
theorem EdIn.fr {W : World} {B g b2 : Nat} {floor : Int} {addv dropv : Value} {add : List Rf} {drop : List ByteArray} {R : Rs} {wr w' : World} (h : EdIn W B g b2 floor addv dropv add drop R wr) (hB : B < b2) (hg : g < b2) (hW : W.heap.size ≤ B) {S : Nat → Prop} (f : Fr S wr w')
    (hS : ∀ k, k ≤ b2 → ¬ S k) (h1 : ∀ k, addv.ownBlock = some k → ¬ S k) (h2 : ∀ k, dropv.ownBlock = some k → ¬ S k) (hlt : b2 < wr.heap.size) : EdIn W B g b2 floor addv dropv add drop R w' :=
  ⟨h.1.trans (f.toBelow (fun k hk => by rcases Nat.lt_or_ge b2 k with h' | h'; omega; exact absurd hk (hS k h')) (by omega)), h.2.1.fr f (hS B (by omega)), h.2.2.1.fr f (fun b hb => hS b (by omega)), h.2.2.2.1.fr f (hS b2 (Nat.le_refl _)), h.2.2.2.2.1.fr f h1, h.2.2.2.2.2.fr f h2⟩
/-- A step of the Reader. -/
theorem EdIn.read {W : World} {B g b2 : Nat} {floor : Int} {addv dropv : Value} {add : List Rf} {drop : List ByteArray} {R R' : Rs} {wr w' : World} (h : EdIn W B g b2 floor addv dropv add drop R wr) (hB : B < g) (hg : g < b2) (hW : W.heap.size ≤ B) (hb : b2 < wr.heap.size) (f : Fr (· = g) wr w') (hr : Rd w' g R') :
    EdIn W B g b2 floor addv dropv add drop R' w' :=
  ⟨h.1.trans (f.toBelow (fun k hk => by omega) (by omega)), h.2.1.fr f (by omega), hr, h.2.2.2.1.fr f (by omega), h.2.2.2.2.1.fr f (fun k hk e => by have := (h.2.2.2.2.1.lt k hk).1; omega), h.2.2.2.2.2.fr f (fun k hk e => by have := (h.2.2.2.2.2.lt k hk).1; omega)⟩
/-- A new variable. -/
theorem EdIn.alloc {W : World} {B g b2 : Nat} {floor : Int} {addv dropv : Value} {add : List Rf} {drop : List ByteArray} {R : Rs} {wr : World} (h : EdIn W B g b2 floor addv dropv add drop R wr) (o : Obj) : EdIn W B g b2 floor addv dropv add drop R (wr.alloc o) :=
  ⟨h.1.alloc h.1.size o, h.2.1.alloc o, h.2.2.1.kept ((Below.refl _ _).alloc (Nat.le_refl _) _), h.2.2.2.1.alloc o, h.2.2.2.2.1.alloc o, h.2.2.2.2.2.alloc o⟩
theorem EdIn.drew {W : World} {B g b2 : Nat} {floor : Int} {addv dropv : Value} {add : List Rf} {drop : List ByteArray} {R : Rs} {wr : World} (h : EdIn W B g b2 floor addv dropv add drop R wr) : EdIn W B g b2 floor addv dropv add drop R wr.drew :=
  ⟨h.1.drew, h.2.1, h.2.2.1, h.2.2.2.1, h.2.2.2.2.1, h.2.2.2.2.2⟩
/-- A cell of a variable behind all of them is written. -/
theorem EdIn.set {W : World} {B g b2 : Nat} {floor : Int} {addv dropv : Value} {add : List Rf} {drop : List ByteArray} {R : Rs} {wr : World} (h : EdIn W B g b2 floor addv dropv add drop R wr) (hB : B < b2) (hg : g < b2) (hW : W.heap.size ≤ B) (hlt : b2 < wr.heap.size) (b j : Nat) (u : Value) (hb : b2 < b) (h1 : ∀ k, addv.ownBlock = some k → k ≠ b) (h2 : ∀ k, dropv.ownBlock = some k → k ≠ b) :
    EdIn W B g b2 floor addv dropv add drop R (wr.setCell ⟨b, j, none⟩ u) :=
  h.fr hB hg hW (Fr.set wr b j u) (fun k hk e => by omega) h1 h2 hlt
/-- One reference more. -/
theorem EdIn.addOne {W : World} {B g b2 : Nat} {floor : Int} {addv dropv v' : Value} {add add' : List Rf} {drop : List ByteArray} {R : Rs} {wr w1 : World} (h : EdIn W B g b2 floor addv dropv add drop R wr) (hB : B < b2) (hg : g < b2) (hW : W.heap.size ≤ B) (hlt : b2 < wr.heap.size) (hgr : wr.grownBy w1 addv.ownBlock) (ho : OwnL w1 (b2 + 1) 173 layRf v' add') :
    Has w1 b2 97 #[addv, dropv, .int .i64 floor] ∧ EdIn W B g b2 floor v' dropv add' drop R (w1.setCell ⟨b2, 0, none⟩ v') := by
  have f := Fr.ofGrown hgr
  have hap := own_apart h.2.2.2.2.2 h.2.2.2.2.1 (by decide)
  have hol := h.2.2.2.2.1.lt
  have e1 := h.2.2.2.1.fr f (fun e => by have := (hol b2 e.symm).1; omega)
  have f2 := Fr.set w1 b2 0 v'
  have hs := hgr.size
  refine ⟨e1, (h.1.trans (f.toBelow (fun k hk => by have := (hol k hk.symm).1; omega) (by omega))).trans (f2.toBelow (fun k hk => by omega) (by omega)), (h.2.1.fr f (fun e => by have := (hol B e.symm).1; omega)).fr f2 (by omega), (h.2.2.1.fr f (fun b hb e => by have := (hol b e.symm).1; omega)).fr f2 (fun b hb => by omega), by simpa using e1.set 0 v',
    ho.fr f2 (fun k hk e => by have := (ho.lt k hk).1; omega), (h.2.2.2.2.2.fr f (fun k hk e => hap k hk e)).fr f2 (fun k hk e => by have := (h.2.2.2.2.2.lt k hk).1; omega)⟩
/-- One name more. -/
theorem EdIn.dropOne {W : World} {B g b2 : Nat} {floor : Int} {addv dropv v' : Value} {add : List Rf} {drop drop' : List ByteArray} {R : Rs} {wr w1 : World} (h : EdIn W B g b2 floor addv dropv add drop R wr) (hB : B < b2) (hg : g < b2) (hW : W.heap.size ≤ B) (hlt : b2 < wr.heap.size) (hgr : wr.grownBy w1 dropv.ownBlock) (ho : OwnL w1 (b2 + 1) 9 layStr v' drop') :
    Has w1 b2 97 #[addv, dropv, .int .i64 floor] ∧ EdIn W B g b2 floor addv v' add drop' R (w1.setCell ⟨b2, 1, none⟩ v') := by
  have f := Fr.ofGrown hgr
  have hap := own_apart h.2.2.2.2.1 h.2.2.2.2.2 (by decide)
  have hol := h.2.2.2.2.2.lt
  have e1 := h.2.2.2.1.fr f (fun e => by have := (hol b2 e.symm).1; omega)
  have f2 := Fr.set w1 b2 1 v'
  have hs := hgr.size
  refine ⟨e1, (h.1.trans (f.toBelow (fun k hk => by have := (hol k hk.symm).1; omega) (by omega))).trans (f2.toBelow (fun k hk => by omega) (by omega)), (h.2.1.fr f (fun e => by have := (hol B e.symm).1; omega)).fr f2 (by omega), (h.2.2.1.fr f (fun b hb e => by have := (hol b e.symm).1; omega)).fr f2 (fun b hb => by omega), by simpa using e1.set 1 v',
    (h.2.2.2.2.1.fr f (fun k hk e => hap k hk e)).fr f2 (fun k hk e => by have := (h.2.2.2.2.1.lt k hk).1; omega), ho.fr f2 (fun k hk e => by have := (ho.lt k hk).1; omega)⟩
end Go.Proofs.YtjkkclfndlfjhaaGreatDoor
/- Contracts of edits.May, edits.Find, slices.IndexFunc, strings.Compare and of the closures: what they answer is in bounds; they turn nothing. -/
namespace Go.Proofs.YtjkkclfndlfjhaaGreatDoor
open Go.RowKit Crc Frm Go.ChangeShapes Go.WideShapes Go.ChangeAt

/-- Some bool; nothing that lay has turned. -/
def SomeBool (W : World) (e : Ending) (W' : World) : Prop := (∃ b, e = .returned (.bool b)) ∧ Below W.heap.size W W'

set_option maxRecDepth 100000 in
set_option maxHeartbeats 3200000 in
theorem emay_any (r : Rf) (W : World) : Calls Tryz.prog 109 #[r.v] W (SomeBool W) := by
  have hb0 : ∀ o, Below W.heap.size W (W.alloc o) := fun o => (Below.refl _ W).alloc (Nat.le_refl _) _
  unfold Rf.v
  go_enter Tryz.func109, Tryz.ntmps109
  go_wp2
  all_goals
    go_ret
    exact ⟨⟨_, rfl⟩, hb0 _⟩

set_option maxRecDepth 100000 in
set_option maxHeartbeats 3200000 in
theorem find1_any (r : Rf) (b : Nat) (n : ByteArray) (W : World) (h : W.cell? ⟨b, 0, none⟩ = some (.string n)) : Calls Tryz.prog 158 #[r.v, .pointer (some ⟨b, 0, none⟩)] W (SomeBool W) := by
  have hb0 : ∀ o, Below W.heap.size W (W.alloc o) := fun o => (Below.refl _ W).alloc (Nat.le_refl _) _
  have hlt := cell_lt h
  have h2 : ∀ o, (W.alloc o).cell? ⟨b, 0, none⟩ = some (.string n) := fun o => Lib.cell?_alloc_some _ h
  unfold Rf.v
  go_enter Tryz.func158, Tryz.ntmps158
  go_wp2
  all_goals
    go_ret
    exact ⟨⟨_, rfl⟩, hb0 _⟩

/-- An index, or a number below 0. -/
def SomeIdx (n : Nat) (W : World) (e : Ending) (W' : World) : Prop := (∃ k : Int, e = .returned (.int .i64 k) ∧ -1 ≤ k ∧ k < (n : Int)) ∧ Below W.heap.size W W'

set_option maxRecDepth 100000 in
set_option maxHeartbeats 3200000 in
theorem idxfunc_any (v : Value) (xs : List Rf) (b : Nat) (n : ByteArray) (hl : xs.length ≤ 100000000) (W : World) (hxs : IsL W layRf v xs) (hb : W.cell? ⟨b, 0, none⟩ = some (.string n)) :
    Calls Tryz.prog 157 #[v, .func (.func 158) #[] #[.pointer (some ⟨b, 0, none⟩)]] W (SomeIdx xs.length W) := by
  have HP := Lib.hid hxs
  have HB := Lib.hid hb
  obtain ⟨A, cap, rfl, -⟩ := hxs
  clear hb
  go_enter Tryz.func157, Tryz.ntmps157
  go_wp2
  go_loopw [8] (fun i wr => ∃ j : Nat, j ≤ xs.length ∧ i = .int .i64 (j : Int) ∧ Below W.heap.size W wr) (fun i _ => xs.length - (intOf i).toNat)
  case atStart => exact ⟨0, by omega, rfl, Below.refl _ _⟩
  case round =>
    obtain ⟨j, hj, rfl, hx⟩ := hrel
    by_cases hjl : j < xs.length
    · obtain ⟨r, hp⟩ : ∃ p, xs[j]? = some p := ⟨_, List.getElem?_eq_getElem hjl⟩
      obtain ⟨b', off, hA, hcell⟩ := (HP.out.below hx (Nat.le_refl _)).at_ hp
      obtain rfl := hA
      have c0 : wr.cell? ⟨b', off + j * 4, none⟩ = some (.string r.name) := hcell 0 _ rfl
      have c1 : wr.cell? ⟨b', off + j * 4 + 1, none⟩ = some (.int .i64 r.kind) := hcell 1 _ rfl
      have c2 : wr.cell? ⟨b', off + j * 4 + 2, none⟩ = some (.int .i64 r.lo) := hcell 2 _ rfl
      have c3 : wr.cell? ⟨b', off + j * 4 + 3, none⟩ = some (.int .i64 r.hi) := hcell 3 _ rfl
      have HX := Lib.hid hx
      clear hx hcell
      go_wp2_with fail
      refine (find1_any r b n _ ((HX.out.cell (p := ⟨b, 0, none⟩) (cell_lt HB.out)).trans HB.out)).mono ?_
      rintro e w2 ⟨⟨bo, rfl⟩, hb2⟩
      have HB2 := Lib.hid (HX.out.trans (hb2.mono HX.out.size))
      clear hb2
      cases bo with
      | true =>
        go_wp2
        go_ret
        exact ⟨⟨(j : Int), rfl, by omega, by omega⟩, HB2.out⟩
      | false =>
        go_wp2
        go_roundw
        case rel => exact ⟨j + 1, by omega, by go_num, HB2.out⟩
        case measure => simp [intOf]; omega
    · obtain rfl : j = xs.length := by omega
      have HX := Lib.hid hx
      clear hx
      go_wp2
      go_ret
      exact ⟨⟨-1, rfl, by omega, by omega⟩, HX.out⟩

set_option maxRecDepth 100000 in
set_option maxHeartbeats 3200000 in
theorem find_any (v : Value) (floor : Int) (xs : List Rf) (n : ByteArray) (hl : xs.length ≤ 100000000) (W : World) (hxs : IsL W layRf v xs) :
    Calls Tryz.prog 107 #[.agg #[v, .int .i64 floor], .string n] W (SomeIdx xs.length W) := by
  have HP := Lib.hid hxs
  obtain ⟨A, cap, rfl, -⟩ := hxs
  have hb0 : ∀ o o', Below W.heap.size W ((W.alloc o).alloc o') := fun o o' => ((Below.refl _ W).alloc (Nat.le_refl _) _).alloc (by simp) _
  have HB := Lib.hid hb0
  clear hb0
  go_enter Tryz.func107, Tryz.ntmps107
  go_wp2_with fail
  refine (idxfunc_any _ xs (W.heap.size + 1) n hl _ (HP.out.below (HB.out _ _) (Nat.le_refl _)) ?_).mono ?_
  · have := (Has.new (W.alloc (.cells #[.slice A xs.length cap, .int .i64 floor] 104)) 9 #[.string n]).cell 0
    simp only [World.size_alloc] at this
    exact this
  rintro e w2 ⟨⟨k, rfl, h1, h2⟩, hb2⟩
  have HB2 := Lib.hid ((HB.out _ _).trans (hb2.mono (by simp; omega)))
  clear hb2
  go_wp2
  go_ret
  exact ⟨⟨k, rfl, h1, h2⟩, HB2.out⟩
end Go.Proofs.YtjkkclfndlfjhaaGreatDoor
