/- Contract of RightRows: what it answers, of pairs and sessions; it turns nothing. -/
import Derived.Test.YtjkkclfndlfjhaaGreatDoorByt
import Derived.BigQuiet
set_option linter.all false
namespace Go.Proofs.YtjkkclfndlfjhaaGreatDoor
open Go.RowKit Crc Frm Go.ChangeShapes Go.WideShapes Go.ChangeAt

/-- This bool; nothing that lay has turned. -/
def TheBool (r : Bool) (W : World) (e : Ending) (W' : World) : Prop := e = .returned (.bool r) ∧ Below W.heap.size W W'

def badP (prev : Option Pr) (p : Pr) : Bool :=
  p.key.toList.isEmpty || decide ((8 : Int) < (p.key.size : Int)) || decide ((16 : Int) < (p.val.size : Int)) || (p.gone && !p.val.toList.isEmpty) || (match prev with | none => false | some q => !Op.bytesLess q.key.toList p.key.toList)
def badX (prev : Option Ss) (x : Ss) : Bool :=
  decide (x.client < 0) || decide ((4 : Int) ≤ x.client) || decide (x.seq < 0) || decide ((1048576 : Int) < x.seq) || decide (x.err < 0) || decide ((14 : Int) < x.err) || decide ((16 : Int) < (x.val.size : Int)) || (match prev with | none => false | some q => decide (x.client ≤ q.client))
def goodAt {α : Type} (bad : Option α → α → Bool) (xs : List α) (j : Nat) : Prop := ∀ i x, i < j → xs[i]? = some x → bad (if i = 0 then none else xs[i - 1]?) x = false
theorem goodAt.zero {α : Type} (bad : Option α → α → Bool) (xs : List α) : goodAt bad xs 0 := fun _ _ h => absurd h (Nat.not_lt_zero _)
theorem goodAt.snoc {α : Type} {bad : Option α → α → Bool} {xs : List α} {j : Nat} (h : goodAt bad xs j) {x : α} (hx : xs[j]? = some x) (hb : bad (if j = 0 then none else xs[j - 1]?) x = false) : goodAt bad xs (j + 1) := by
  intro i y hi hy
  rcases Nat.lt_or_ge i j with h' | h'
  · exact h i y h' hy
  · obtain rfl : i = j := by omega
    rw [hx] at hy
    cases hy
    exact hb
open Classical in
/-- What RightRows answers. -/
noncomputable def rr (ps : List Pr) (xs : List Ss) (most : Int) : Bool := decide (goodAt badP ps ps.length ∧ goodAt badX xs xs.length ∧ (ps.length : Int) ≤ most)
open Classical in
theorem rr_p {ps : List Pr} {xs : List Ss} {most : Int} {j : Nat} {p : Pr} (hj : j < ps.length) (hp : ps[j]? = some p) (hb : badP (if j = 0 then none else ps[j - 1]?) p = true) : rr ps xs most = false :=
  by
  unfold rr
  exact decide_eq_false fun ⟨h, _⟩ => by have := h j p hj hp; rw [hb] at this; cases this
open Classical in
theorem rr_x {ps : List Pr} {xs : List Ss} {most : Int} {j : Nat} {p : Ss} (hj : j < xs.length) (hp : xs[j]? = some p) (hb : badX (if j = 0 then none else xs[j - 1]?) p = true) : rr ps xs most = false :=
  by
  unfold rr
  exact decide_eq_false fun ⟨_, h, _⟩ => by have := h j p hj hp; rw [hb] at this; cases this
open Classical in
theorem rr_end {ps : List Pr} {xs : List Ss} {most : Int} (h1 : goodAt badP ps ps.length) (h2 : goodAt badX xs xs.length) : decide ((ps.length : Int) ≤ most) = rr ps xs most := by
  unfold rr
  by_cases h : (ps.length : Int) ≤ most
  · rw [decide_eq_true h, decide_eq_true ⟨h1, h2, h⟩]
  · rw [decide_eq_false h, decide_eq_false fun ⟨_, _, h'⟩ => h h']

set_option maxRecDepth 100000 in
set_option maxHeartbeats 12800000 in
theorem rightrows_any (psv xsv : Value) (ps : List Pr) (xs : List Ss) (most : Int) (hl1 : ps.length ≤ 100000000) (hl2 : xs.length ≤ 100000000) (W : World) (hps : IsL W layPr psv ps) (hxs : IsL W laySs xsv xs) :
    Calls Tryz.prog 105 #[psv, xsv, .int .i64 most] W (TheBool (rr ps xs most) W) := by
  have HP := Lib.hid hps
  have HXS := Lib.hid hxs
  obtain ⟨A, cap, rfl, -⟩ := hps
  obtain ⟨A2, cap2, rfl, -⟩ := hxs
  go_enter Tryz.func105, Tryz.ntmps105
  go_wp2
  go_loopw [13] (fun i wr => ∃ j : Nat, j ≤ ps.length ∧ i = .int .i64 (j : Int) ∧ Below W.heap.size W wr ∧ goodAt badP ps j) (fun i _ => ps.length - (intOf i).toNat)
  case atStart => exact ⟨0, by omega, rfl, Below.refl _ _, goodAt.zero _ _⟩
  case round =>
    obtain ⟨j, hj, rfl, hx, hg⟩ := hrel
    by_cases hjl : j < ps.length
    · obtain ⟨p, hp⟩ : ∃ p, ps[j]? = some p := ⟨_, List.getElem?_eq_getElem hjl⟩
      obtain ⟨b, off, hA, hcell⟩ := (HP.out.below hx (Nat.le_refl _)).at_ hp
      obtain rfl := hA
      have hprev : ∀ k, k < ps.length → ∃ q : Pr, wr.cell? ⟨b, off + k * 3, none⟩ = some (.string q.key) ∧ ps[k]? = some q := fun k hk => by
        obtain ⟨b', off', hA', hc'⟩ := (HP.out.below hx (Nat.le_refl _)).at_ (List.getElem?_eq_getElem hk)
        cases hA'
        exact ⟨_, hc' 0 _ rfl, List.getElem?_eq_getElem hk⟩
      obtain ⟨q, hq, hq'⟩ := hprev (j - 1) (by omega)
      have c0 : wr.cell? ⟨b, off + j * 3, none⟩ = some (.string p.key) := hcell 0 _ rfl
      have c1 : wr.cell? ⟨b, off + j * 3 + 1, none⟩ = some (.string p.val) := hcell 1 _ rfl
      have c2 : wr.cell? ⟨b, off + j * 3 + 2, none⟩ = some (.bool p.gone) := hcell 2 _ rfl
      have hblt : b < wr.heap.size := cell_lt c0
      have HX := Lib.hid hx
      have HG := Lib.hid hg
      clear hx hcell hprev hg
      go_wp2
      have k0 : (wr.alloc (.cells #[.string p.key, .string p.val, .bool p.gone] 201)).cell? ⟨wr.heap.size, 0, none⟩ = some (.string p.key) := (Has.new wr 201 _).cell 0
      have k1 : (wr.alloc (.cells #[.string p.key, .string p.val, .bool p.gone] 201)).cell? ⟨wr.heap.size, 1, none⟩ = some (.string p.val) := (Has.new wr 201 _).cell 1
      have k2 : (wr.alloc (.cells #[.string p.key, .string p.val, .bool p.gone] 201)).cell? ⟨wr.heap.size, 2, none⟩ = some (.bool p.gone) := (Has.new wr 201 _).cell 2
      have k3 : (wr.alloc (.cells #[.string p.key, .string p.val, .bool p.gone] 201)).cell? ⟨b, off + (j - 1) * 3, none⟩ = some (.string q.key) := Lib.cell?_alloc_some _ hq
      have q2 : ((j : Int) - 1).toNat = j - 1 := by omega
      cases h1 : p.key.toList.isEmpty with
      | true =>
        go_quiet (fail)
        go_wp2
        (go_ret; exact ⟨by rw [rr_p hjl hp (by simp [badP, h1])]; rfl, below_drewN (HX.out.alloc HX.out.size _) _⟩)
      | false =>
        cases h2 : decide ((8 : Int) < (p.key.size : Int)) with
        | true =>
          go_quiet (fail)
          go_wp2
          (go_ret; exact ⟨by rw [rr_p hjl hp (by simp [badP, h1, h2])]; rfl, below_drewN (HX.out.alloc HX.out.size _) _⟩)
        | false =>
          cases h3 : decide ((16 : Int) < (p.val.size : Int)) with
          | true =>
            go_quiet (fail)
            go_wp2
            (go_ret; exact ⟨by rw [rr_p hjl hp (by simp [badP, h1, h2, h3])]; rfl, below_drewN (HX.out.alloc HX.out.size _) _⟩)
          | false =>
            cases h4 : p.gone with
            | true =>
              cases h5 : !p.val.toList.isEmpty with
              | true =>
                go_quiet (fail)
                go_wp2
                (go_ret; exact ⟨by rw [rr_p hjl hp (by simp [badP, h1, h2, h3, h4, h5])]; rfl, below_drewN (HX.out.alloc HX.out.size _) _⟩)
              | false =>
                cases h6 : decide (0 < j) with
                | true =>
                  have h7 : 0 < j := of_decide_eq_true h6
                  have hpv : (if j = 0 then none else ps[j - 1]?) = some q := by rw [if_neg (by omega)]; exact hq'
                  have q1 : IntKind.i64.wrap ((j : Int) - 1) = (j : Int) - 1 := IntWalk.i64_in _ (by omega)
                  have q3 : (0 : Int) ≤ (j : Int) - 1 := by omega
                  have q4 : (j : Int) - 1 < (ps.length : Int) := by omega
                  cases h8 : !Op.bytesLess q.key.toList p.key.toList with
                  | true =>
                    go_quiet (fail)
                    clear q1
                    go_wp2
                    (go_ret; exact ⟨by rw [rr_p hjl hp (by simp [badP, h1, h2, h3, h4, h5, hpv, h8])]; rfl, below_drewN (HX.out.alloc HX.out.size _) _⟩)
                  | false =>
                    go_quiet (fail)
                    clear q1
                    go_wp2
                    (go_roundw; (case rel => exact ⟨j + 1, by omega, by go_num, below_drewN (HX.out.alloc HX.out.size _) _, HG.out.snoc hp (by simp [badP, h1, h2, h3, h4, h5, hpv, h8])⟩); (case measure => simp [intOf]; omega))
                | false =>
                  have h7 : j = 0 := by have := of_decide_eq_false h6; omega
                  have hpv : (if j = 0 then none else ps[j - 1]?) = none := by rw [if_pos h7]
                  go_quiet (fail)
                  go_wp2
                  (go_roundw; (case rel => exact ⟨j + 1, by omega, by go_num, below_drewN (HX.out.alloc HX.out.size _) _, HG.out.snoc hp (by simp [badP, h1, h2, h3, h4, h5, hpv])⟩); (case measure => simp [intOf]; omega))
            | false =>
              cases h6 : decide (0 < j) with
              | true =>
                have h7 : 0 < j := of_decide_eq_true h6
                have hpv : (if j = 0 then none else ps[j - 1]?) = some q := by rw [if_neg (by omega)]; exact hq'
                have q1 : IntKind.i64.wrap ((j : Int) - 1) = (j : Int) - 1 := IntWalk.i64_in _ (by omega)
                have q3 : (0 : Int) ≤ (j : Int) - 1 := by omega
                have q4 : (j : Int) - 1 < (ps.length : Int) := by omega
                cases h8 : !Op.bytesLess q.key.toList p.key.toList with
                | true =>
                  go_quiet (fail)
                  clear q1
                  go_wp2
                  (go_ret; exact ⟨by rw [rr_p hjl hp (by simp [badP, h1, h2, h3, h4, hpv, h8])]; rfl, below_drewN (HX.out.alloc HX.out.size _) _⟩)
                | false =>
                  go_quiet (fail)
                  clear q1
                  go_wp2
                  (go_roundw; (case rel => exact ⟨j + 1, by omega, by go_num, below_drewN (HX.out.alloc HX.out.size _) _, HG.out.snoc hp (by simp [badP, h1, h2, h3, h4, hpv, h8])⟩); (case measure => simp [intOf]; omega))
              | false =>
                have h7 : j = 0 := by have := of_decide_eq_false h6; omega
                have hpv : (if j = 0 then none else ps[j - 1]?) = none := by rw [if_pos h7]
                go_quiet (fail)
                go_wp2
                (go_roundw; (case rel => exact ⟨j + 1, by omega, by go_num, below_drewN (HX.out.alloc HX.out.size _) _, HG.out.snoc hp (by simp [badP, h1, h2, h3, h4, hpv])⟩); (case measure => simp [intOf]; omega))
    · obtain rfl : j = ps.length := by omega
      have HX := Lib.hid hx
      have HGP := Lib.hid hg
      clear hx hg
      go_wp2
      go_loopw [60] (fun i wr => ∃ j : Nat, j ≤ xs.length ∧ i = .int .i64 (j : Int) ∧ Below W.heap.size W wr ∧ goodAt badX xs j) (fun i _ => xs.length - (intOf i).toNat)
      case atStart => exact ⟨0, by omega, rfl, HX.out, goodAt.zero _ _⟩
      case round =>
        clear HX
        obtain ⟨j, hj, rfl, hx, hg⟩ := hrel
        by_cases hjl : j < xs.length
        · obtain ⟨x, hp⟩ : ∃ p, xs[j]? = some p := ⟨_, List.getElem?_eq_getElem hjl⟩
          obtain ⟨b, off, hA, hcell⟩ := (HXS.out.below hx (Nat.le_refl _)).at_ hp
          obtain rfl := hA
          have hprev : ∀ k, k < xs.length → ∃ q : Ss, wr.cell? ⟨b, off + k * 4, none⟩ = some (.int .i64 q.client) ∧ xs[k]? = some q := fun k hk => by
            obtain ⟨b', off', hA', hc'⟩ := (HXS.out.below hx (Nat.le_refl _)).at_ (List.getElem?_eq_getElem hk)
            cases hA'
            exact ⟨_, hc' 0 _ rfl, List.getElem?_eq_getElem hk⟩
          obtain ⟨q, hq, hq'⟩ := hprev (j - 1) (by omega)
          have c0 : wr.cell? ⟨b, off + j * 4, none⟩ = some (.int .i64 x.client) := hcell 0 _ rfl
          have c1 : wr.cell? ⟨b, off + j * 4 + 1, none⟩ = some (.int .i64 x.seq) := hcell 1 _ rfl
          have c2 : wr.cell? ⟨b, off + j * 4 + 2, none⟩ = some (.int .i64 x.err) := hcell 2 _ rfl
          have c3 : wr.cell? ⟨b, off + j * 4 + 3, none⟩ = some (.string x.val) := hcell 3 _ rfl
          have hblt : b < wr.heap.size := cell_lt c0
          have HX := Lib.hid hx
          have HG := Lib.hid hg
          clear hx hcell hprev hg
          go_wp2
          have k0 : (wr.alloc (.cells #[.int .i64 x.client, .int .i64 x.seq, .int .i64 x.err, .string x.val] 68)).cell? ⟨wr.heap.size, 0, none⟩ = some (.int .i64 x.client) := (Has.new wr 68 _).cell 0
          have k1 : (wr.alloc (.cells #[.int .i64 x.client, .int .i64 x.seq, .int .i64 x.err, .string x.val] 68)).cell? ⟨wr.heap.size, 1, none⟩ = some (.int .i64 x.seq) := (Has.new wr 68 _).cell 1
          have k2 : (wr.alloc (.cells #[.int .i64 x.client, .int .i64 x.seq, .int .i64 x.err, .string x.val] 68)).cell? ⟨wr.heap.size, 2, none⟩ = some (.int .i64 x.err) := (Has.new wr 68 _).cell 2
          have k4 : (wr.alloc (.cells #[.int .i64 x.client, .int .i64 x.seq, .int .i64 x.err, .string x.val] 68)).cell? ⟨wr.heap.size, 3, none⟩ = some (.string x.val) := (Has.new wr 68 _).cell 3
          have k3 : (wr.alloc (.cells #[.int .i64 x.client, .int .i64 x.seq, .int .i64 x.err, .string x.val] 68)).cell? ⟨b, off + (j - 1) * 4, none⟩ = some (.int .i64 q.client) := Lib.cell?_alloc_some _ hq
          have q2 : ((j : Int) - 1).toNat = j - 1 := by omega
          cases g1 : decide (x.client < 0) with
          | true =>
            go_quiet (fail)
            go_wp2
            (go_ret; exact ⟨by rw [rr_x hjl hp (by simp [badX, g1])]; rfl, below_drewN (HX.out.alloc HX.out.size _) _⟩)
          | false =>
            cases g2 : decide ((4 : Int) ≤ x.client) with
            | true =>
              go_quiet (fail)
              go_wp2
              (go_ret; exact ⟨by rw [rr_x hjl hp (by simp [badX, g1, g2])]; rfl, below_drewN (HX.out.alloc HX.out.size _) _⟩)
            | false =>
              cases g3 : decide (x.seq < 0) with
              | true =>
                go_quiet (fail)
                go_wp2
                (go_ret; exact ⟨by rw [rr_x hjl hp (by simp [badX, g1, g2, g3])]; rfl, below_drewN (HX.out.alloc HX.out.size _) _⟩)
              | false =>
                cases g4 : decide ((1048576 : Int) < x.seq) with
                | true =>
                  go_quiet (fail)
                  go_wp2
                  (go_ret; exact ⟨by rw [rr_x hjl hp (by simp [badX, g1, g2, g3, g4])]; rfl, below_drewN (HX.out.alloc HX.out.size _) _⟩)
                | false =>
                  cases g5 : decide (x.err < 0) with
                  | true =>
                    go_quiet (fail)
                    go_wp2
                    (go_ret; exact ⟨by rw [rr_x hjl hp (by simp [badX, g1, g2, g3, g4, g5])]; rfl, below_drewN (HX.out.alloc HX.out.size _) _⟩)
                  | false =>
                    cases g6 : decide ((14 : Int) < x.err) with
                    | true =>
                      go_quiet (fail)
                      go_wp2
                      (go_ret; exact ⟨by rw [rr_x hjl hp (by simp [badX, g1, g2, g3, g4, g5, g6])]; rfl, below_drewN (HX.out.alloc HX.out.size _) _⟩)
                    | false =>
                      cases g7 : decide ((16 : Int) < (x.val.size : Int)) with
                      | true =>
                        go_quiet (fail)
                        go_wp2
                        (go_ret; exact ⟨by rw [rr_x hjl hp (by simp [badX, g1, g2, g3, g4, g5, g6, g7])]; rfl, below_drewN (HX.out.alloc HX.out.size _) _⟩)
                      | false =>
                        cases h6 : decide (0 < j) with
                        | true =>
                          have h7 : 0 < j := of_decide_eq_true h6
                          have hpv : (if j = 0 then none else xs[j - 1]?) = some q := by rw [if_neg (by omega)]; exact hq'
                          have q1 : IntKind.i64.wrap ((j : Int) - 1) = (j : Int) - 1 := IntWalk.i64_in _ (by omega)
                          have q3 : (0 : Int) ≤ (j : Int) - 1 := by omega
                          have q4 : (j : Int) - 1 < (xs.length : Int) := by omega
                          cases h8 : decide (x.client ≤ q.client) with
                          | true =>
                            go_quiet (fail)
                            clear q1
                            go_wp2
                            (go_ret; exact ⟨by rw [rr_x hjl hp (by simp [badX, g1, g2, g3, g4, g5, g6, g7, hpv, h8])]; rfl, below_drewN (HX.out.alloc HX.out.size _) _⟩)
                          | false =>
                            go_quiet (fail)
                            clear q1
                            go_wp2
                            (go_roundw; (case rel => exact ⟨j + 1, by omega, by go_num, below_drewN (HX.out.alloc HX.out.size _) _, HG.out.snoc hp (by simp [badX, g1, g2, g3, g4, g5, g6, g7, hpv, h8])⟩); (case measure => simp [intOf]; omega))
                        | false =>
                          have h7 : j = 0 := by have := of_decide_eq_false h6; omega
                          have hpv : (if j = 0 then none else xs[j - 1]?) = none := by rw [if_pos h7]
                          go_quiet (fail)
                          go_wp2
                          (go_roundw; (case rel => exact ⟨j + 1, by omega, by go_num, below_drewN (HX.out.alloc HX.out.size _) _, HG.out.snoc hp (by simp [badX, g1, g2, g3, g4, g5, g6, g7, hpv])⟩); (case measure => simp [intOf]; omega))
        · obtain rfl : j = xs.length := by omega
          have HX := Lib.hid hx
          have HG := Lib.hid hg
          clear hx hg
          go_wp2
          go_ret
          exact ⟨by rw [← rr_end HGP.out HG.out]; rfl, HX.out⟩
end Go.Proofs.YtjkkclfndlfjhaaGreatDoor
/- Contracts of state.Right and delta.Right: what they answer; they turn nothing. -/
namespace Go.Proofs.YtjkkclfndlfjhaaGreatDoor
open Go.RowKit Crc Frm Go.ChangeShapes Go.WideShapes Go.ChangeAt

def noGone (ps : List Pr) (j : Nat) : Prop := ∀ i p, i < j → ps[i]? = some p → p.gone = false
open Classical in
noncomputable def rightS (index term : Int) (ps : List Pr) (xs : List Ss) : Bool := decide (noGone ps ps.length ∧ 0 ≤ index ∧ index ≤ 1048576 ∧ 0 ≤ term ∧ term ≤ 1048576) && rr ps xs 64
open Classical in
noncomputable def rightD (a b t : Int) (ps : List Pr) (xs : List Ss) : Bool := decide (0 ≤ a ∧ a ≤ b ∧ b ≤ 1048576 ∧ 0 ≤ t ∧ t ≤ 1048576) && rr ps xs 512
open Classical in
theorem rightS_not {index term : Int} {ps : List Pr} {xs : List Ss} (h : ¬ (noGone ps ps.length ∧ 0 ≤ index ∧ index ≤ 1048576 ∧ 0 ≤ term ∧ term ≤ 1048576)) : rightS index term ps xs = false := by
  unfold rightS; rw [decide_eq_false h]; rfl
open Classical in
theorem rightS_yes {index term : Int} {ps : List Pr} {xs : List Ss} (h : noGone ps ps.length ∧ 0 ≤ index ∧ index ≤ 1048576 ∧ 0 ≤ term ∧ term ≤ 1048576) : rightS index term ps xs = rr ps xs 64 := by
  unfold rightS; rw [decide_eq_true h]; rfl
open Classical in
theorem rightD_not {a b t : Int} {ps : List Pr} {xs : List Ss} (h : ¬ (0 ≤ a ∧ a ≤ b ∧ b ≤ 1048576 ∧ 0 ≤ t ∧ t ≤ 1048576)) : rightD a b t ps xs = false := by
  unfold rightD; rw [decide_eq_false h]; rfl
open Classical in
theorem rightD_yes {a b t : Int} {ps : List Pr} {xs : List Ss} (h : 0 ≤ a ∧ a ≤ b ∧ b ≤ 1048576 ∧ 0 ≤ t ∧ t ≤ 1048576) : rightD a b t ps xs = rr ps xs 512 := by
  unfold rightD; rw [decide_eq_true h]; rfl

set_option maxRecDepth 100000 in
set_option maxHeartbeats 3200000 in
theorem right_any (index term : Int) (psv xsv : Value) (ps : List Pr) (xs : List Ss) (hl1 : ps.length ≤ 100000000) (hl2 : xs.length ≤ 100000000) (W : World) (hps : IsL W layPr psv ps) (hxs : IsL W laySs xsv xs) :
    Calls Tryz.prog 54 #[.agg #[.int .i64 index, .int .i64 term, psv, xsv]] W (TheBool (rightS index term ps xs) W) := by
  have HP := Lib.hid hps
  have HXS := Lib.hid hxs
  obtain ⟨A, cap, rfl, -⟩ := hps
  obtain ⟨A2, cap2, rfl, -⟩ := hxs
  have hb0 : Below W.heap.size W (W.alloc (.cells #[.int .i64 index, .int .i64 term, .slice A ps.length cap, .slice A2 xs.length cap2] 30)) := (Below.refl _ W).alloc (Nat.le_refl _) _
  have HB := Lib.hid hb0
  have HK := Lib.hid (Has.new W 30 #[.int .i64 index, .int .i64 term, .slice A ps.length cap, .slice A2 xs.length cap2])
  clear hb0
  go_enter Tryz.func54, Tryz.ntmps54
  go_wp2
  go_loopw [8] (fun i wr => ∃ j : Nat, j ≤ ps.length ∧ i = .int .i64 (j : Int) ∧ Below W.heap.size W wr ∧ Has wr W.heap.size 30 #[.int .i64 index, .int .i64 term, .slice A ps.length cap, .slice A2 xs.length cap2] ∧ noGone ps j) (fun i _ => ps.length - (intOf i).toNat)
  case atStart => exact ⟨0, by omega, rfl, HB.out, HK.out, fun _ _ h => absurd h (Nat.not_lt_zero _)⟩
  case round =>
    clear HB HK
    obtain ⟨j, hj, rfl, hx, hk, hng⟩ := hrel
    by_cases hjl : j < ps.length
    · obtain ⟨p, hp⟩ : ∃ p, ps[j]? = some p := ⟨_, List.getElem?_eq_getElem hjl⟩
      obtain ⟨b, off, hA, hcell⟩ := (HP.out.below hx (Nat.le_refl _)).at_ hp
      obtain rfl := hA
      have c0 : wr.cell? ⟨b, off + j * 3, none⟩ = some (.string p.key) := hcell 0 _ rfl
      have c1 : wr.cell? ⟨b, off + j * 3 + 1, none⟩ = some (.string p.val) := hcell 1 _ rfl
      have c2 : wr.cell? ⟨b, off + j * 3 + 2, none⟩ = some (.bool p.gone) := hcell 2 _ rfl
      have HX := Lib.hid hx
      have HK := Lib.hid hk
      have HNG := Lib.hid hng
      clear hx hcell hk hng
      cases hg : p.gone with
      | true =>
        have hr : rightS index term ps xs = false := rightS_not fun ⟨h, _⟩ => by have := h j p hjl hp; rw [hg] at this; cases this
        have HE := Lib.hid hr
        rw [hg] at c2
        clear hr
        go_wp2
        go_ret
        exact ⟨by rw [HE.out]; rfl, HX.out.alloc HX.out.size _⟩
      | false =>
        have HN2 : Hid (noGone ps (j + 1)) := Lib.hid fun i q hi hq => by
          rcases Nat.lt_or_ge i j with h' | h'
          · exact HNG.out i q h' hq
          · obtain rfl : i = j := by omega
            rw [hp] at hq; cases hq; exact hg
        rw [hg] at c2
        go_wp2
        go_roundw
        case rel => exact ⟨j + 1, by omega, by go_num, HX.out.alloc HX.out.size _, HK.out.alloc _, HN2.out⟩
        case measure => simp [intOf]; omega
    · obtain rfl : j = ps.length := by omega
      have d0 : wr.cell? ⟨W.heap.size, 0, none⟩ = some (.int .i64 index) := hk.cell 0
      have d1 : wr.cell? ⟨W.heap.size, 1, none⟩ = some (.int .i64 term) := hk.cell 1
      have d2 : wr.cell? ⟨W.heap.size, 2, none⟩ = some (.slice A ps.length cap) := hk.cell 2
      have d3 : wr.cell? ⟨W.heap.size, 3, none⟩ = some (.slice A2 xs.length cap2) := hk.cell 3
      have HX := Lib.hid hx
      have HNG := Lib.hid hng
      clear hx hk hng
      by_cases h1 : 0 ≤ index
      · skip
        by_cases h2 : index ≤ 1048576
        · skip
          by_cases h3 : 0 ≤ term
          · skip
            by_cases h4 : term ≤ 1048576
            · skip
              have HE := Lib.hid (rightS_yes (index := index) (term := term) (ps := ps) (xs := xs) ⟨HNG.out, h1, h2, h3, h4⟩)
              go_wp2_with fail
              refine (rightrows_any _ _ ps xs 64 hl1 hl2 _ (HP.out.below HX.out (Nat.le_refl _)) (HXS.out.below HX.out (Nat.le_refl _))).mono ?_
              rintro e w2 ⟨rfl, hb⟩
              have HZ := Lib.hid (HX.out.trans (hb.mono HX.out.size))
              clear hb
              generalize rr ps xs 64 = r at *
              go_wp2
              go_ret
              exact ⟨by rw [HE.out]; rfl, HZ.out⟩
            · have HE := Lib.hid (rightS_not (index := index) (term := term) (ps := ps) (xs := xs) (by omega))
              go_wp2
              go_ret
              exact ⟨by rw [HE.out]; rfl, HX.out⟩
          · have HE := Lib.hid (rightS_not (index := index) (term := term) (ps := ps) (xs := xs) (by omega))
            go_wp2
            go_ret
            exact ⟨by rw [HE.out]; rfl, HX.out⟩
        · have HE := Lib.hid (rightS_not (index := index) (term := term) (ps := ps) (xs := xs) (by omega))
          go_wp2
          go_ret
          exact ⟨by rw [HE.out]; rfl, HX.out⟩
      · have HE := Lib.hid (rightS_not (index := index) (term := term) (ps := ps) (xs := xs) (by omega))
        go_wp2
        go_ret
        exact ⟨by rw [HE.out]; rfl, HX.out⟩

set_option maxRecDepth 100000 in
set_option maxHeartbeats 3200000 in
theorem deright_any (a b t : Int) (psv xsv : Value) (ps : List Pr) (xs : List Ss) (hl1 : ps.length ≤ 100000000) (hl2 : xs.length ≤ 100000000) (W : World) (hps : IsL W layPr psv ps) (hxs : IsL W laySs xsv xs) :
    Calls Tryz.prog 58 #[.agg #[.int .i64 a, .int .i64 b, .int .i64 t, psv, xsv]] W (TheBool (rightD a b t ps xs) W) := by
  have HP := Lib.hid hps
  have HXS := Lib.hid hxs
  obtain ⟨A, cap, rfl, -⟩ := hps
  obtain ⟨A2, cap2, rfl, -⟩ := hxs
  have hb0 : Below W.heap.size W (W.alloc (.cells #[.int .i64 a, .int .i64 b, .int .i64 t, .slice A ps.length cap, .slice A2 xs.length cap2] 87)) := (Below.refl _ W).alloc (Nat.le_refl _) _
  have HB := Lib.hid hb0
  clear hb0
  go_enter Tryz.func58, Tryz.ntmps58
  by_cases h1 : 0 ≤ a
  · skip
    by_cases h2 : a ≤ b
    · skip
      by_cases h3 : b ≤ 1048576
      · skip
        by_cases h4 : 0 ≤ t
        · skip
          by_cases h5 : t ≤ 1048576
          · skip
            have HE := Lib.hid (rightD_yes (a := a) (b := b) (t := t) (ps := ps) (xs := xs) ⟨h1, h2, h3, h4, h5⟩)
            go_wp2_with fail
            refine (rightrows_any _ _ ps xs 512 hl1 hl2 _ (HP.out.below HB.out (Nat.le_refl _)) (HXS.out.below HB.out (Nat.le_refl _))).mono ?_
            rintro e w2 ⟨rfl, hb⟩
            have HZ := Lib.hid (HB.out.trans (hb.mono HB.out.size))
            clear hb
            generalize rr ps xs 512 = r at *
            go_wp2
            go_ret
            exact ⟨by rw [HE.out]; rfl, HZ.out⟩
          · have HE := Lib.hid (rightD_not (a := a) (b := b) (t := t) (ps := ps) (xs := xs) (by omega))
            go_wp2
            go_ret
            exact ⟨by rw [HE.out]; rfl, HB.out⟩
        · have HE := Lib.hid (rightD_not (a := a) (b := b) (t := t) (ps := ps) (xs := xs) (by omega))
          go_wp2
          go_ret
          exact ⟨by rw [HE.out]; rfl, HB.out⟩
      · have HE := Lib.hid (rightD_not (a := a) (b := b) (t := t) (ps := ps) (xs := xs) (by omega))
        go_wp2
        go_ret
        exact ⟨by rw [HE.out]; rfl, HB.out⟩
    · have HE := Lib.hid (rightD_not (a := a) (b := b) (t := t) (ps := ps) (xs := xs) (by omega))
      go_wp2
      go_ret
      exact ⟨by rw [HE.out]; rfl, HB.out⟩
  · have HE := Lib.hid (rightD_not (a := a) (b := b) (t := t) (ps := ps) (xs := xs) (by omega))
    go_wp2
    go_ret
    exact ⟨by rw [HE.out]; rfl, HB.out⟩
end Go.Proofs.YtjkkclfndlfjhaaGreatDoor
