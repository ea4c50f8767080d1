/- Words for results that lie in a variable of several cells. -/
import Derived.Test.YtjkkclfndlfjhaaGreatDoorRgt
import Derived.Laws.ResultCell
import Derived.Laws.Rows
import Derived.Laws.StructEq
set_option linter.all false
namespace Go.Proofs.YtjkkclfndlfjhaaGreatDoor
open Go.RowKit Crc Frm Go.ChangeShapes Go.WideShapes Go.ChangeAt

theorem results_cell_row2 {P : Program} {fn : Func} {p u : Tmp} {ty : TypeId} (h : fn.results = #[.cell p ty, .tmp u]) (tmps : Array Value) (w : World) (g : Nat) (t : TypeId) (cs : Array Value) (fr : Nat × Nat) (d : TypeDesc)
    (hp : tmps.getD p undef = .pointer (some ⟨g, 0, none⟩)) (hg : w.heap[g]? = some (.cells cs t fr))
    (hu : P.underlying ty = some d) (hd : (match d with | .struct _ | .array _ _ => true | _ => false) = true) (hi : (P.info? ty).map (·.size) = some cs.size) :
    (results fn tmps).run P w = .ok (.tuple #[.agg cs, tmps.getD u undef]) w := by
  rw [results_cell_tmp h, hp]
  have hl := run_loadVar_row (P := P) w g t ty cs fr d hg hu hd hi
  simp [hl, asAddr]
theorem results_cell_row3 {P : Program} {fn : Func} {p u v : Tmp} {ty : TypeId} (h : fn.results = #[.cell p ty, .tmp u, .tmp v]) (tmps : Array Value) (w : World) (g : Nat) (t : TypeId) (cs : Array Value) (fr : Nat × Nat) (d : TypeDesc)
    (hp : tmps.getD p undef = .pointer (some ⟨g, 0, none⟩)) (hg : w.heap[g]? = some (.cells cs t fr))
    (hu : P.underlying ty = some d) (hd : (match d with | .struct _ | .array _ _ => true | _ => false) = true) (hi : (P.info? ty).map (·.size) = some cs.size) :
    (results fn tmps).run P w = .ok (.tuple #[.agg cs, tmps.getD u undef, tmps.getD v undef]) w := by
  have hp' : tmps[p]?.getD undef = .pointer (some ⟨g, 0, none⟩) := by simpa using hp
  have hl := run_loadVar_row (P := P) w g t ty cs fr d hg hu hd hi
  simp [results, h, hp', asAddr, hl]

theorem Has.set2 {w : World} {g : Nat} {t : TypeId} {a b : Value} (h : Has w g t #[a, b]) (a' b' : Value) :
    Has ((w.setCell ⟨g, 0, none⟩ a').setCell ⟨g, 1, none⟩ b') g t #[a', b'] := by
  simpa using (h.set 0 a').set 1 b'
theorem Has.set3 {w : World} {g : Nat} {t : TypeId} {a b c : Value} (h : Has w g t #[a, b, c]) (a' b' c' : Value) :
    Has (((w.setCell ⟨g, 0, none⟩ a').setCell ⟨g, 1, none⟩ b').setCell ⟨g, 2, none⟩ c') g t #[a', b', c'] := by
  simpa using ((h.set 0 a').set 1 b').set 2 c'
theorem Has.set4 {w : World} {g : Nat} {t : TypeId} {a b c d : Value} (h : Has w g t #[a, b, c, d]) (a' b' c' d' : Value) :
    Has ((((w.setCell ⟨g, 0, none⟩ a').setCell ⟨g, 1, none⟩ b').setCell ⟨g, 2, none⟩ c').setCell ⟨g, 3, none⟩ d') g t #[a', b', c', d'] := by
  simpa using (((h.set 0 a').set 1 b').set 2 c').set 3 d'
theorem Has.set5 {w : World} {g : Nat} {t : TypeId} {a b c d e : Value} (h : Has w g t #[a, b, c, d, e]) (a' b' c' d' e' : Value) :
    Has (((((w.setCell ⟨g, 0, none⟩ a').setCell ⟨g, 1, none⟩ b').setCell ⟨g, 2, none⟩ c').setCell ⟨g, 3, none⟩ d').setCell ⟨g, 4, none⟩ e') g t #[a', b', c', d', e'] := by
  simpa using ((((h.set 0 a').set 1 b').set 2 c').set 3 d').set 4 e'
theorem Fr.sets {S : Nat → Prop} {W w : World} (h : Fr S W w) (g j : Nat) (u : Value) (hS : g < W.heap.size → S g) : Fr S W (w.setCell ⟨g, j, none⟩ u) :=
  h.trans (Fr.set w g j u) fun k hk e => by cases e; exact hS hk
theorem below_set {n : Nat} {W w : World} (h : Below n W w) (g j : Nat) (u : Value) (hn : n ≤ g) (hw : n ≤ w.heap.size) : Below n W (w.setCell ⟨g, j, none⟩ u) :=
  h.grown (grown_set w g j u) hw fun k e => by cases e; exact hn
theorem Fr.set4 (w : World) (g : Nat) (a b c d : Value) : Fr (· = g) w ((((w.setCell ⟨g, 0, none⟩ a).setCell ⟨g, 1, none⟩ b).setCell ⟨g, 2, none⟩ c).setCell ⟨g, 3, none⟩ d) :=
  ((((Fr.refl (fun x => x = g) w).sets g 0 a fun _ => rfl).sets g 1 b fun _ => rfl).sets g 2 c fun _ => rfl).sets g 3 d fun _ => rfl
theorem Fr.set5 (w : World) (g : Nat) (a b c d e : Value) : Fr (· = g) w (((((w.setCell ⟨g, 0, none⟩ a).setCell ⟨g, 1, none⟩ b).setCell ⟨g, 2, none⟩ c).setCell ⟨g, 3, none⟩ d).setCell ⟨g, 4, none⟩ e) :=
  (Fr.set4 w g a b c d).sets g 4 e fun _ => rfl
theorem Fr.set3 (w : World) (g : Nat) (a b c : Value) : Fr (· = g) w (((w.setCell ⟨g, 0, none⟩ a).setCell ⟨g, 1, none⟩ b).setCell ⟨g, 2, none⟩ c) :=
  (((Fr.refl (fun x => x = g) w).sets g 0 a fun _ => rfl).sets g 1 b fun _ => rfl).sets g 2 c fun _ => rfl
theorem Fr.set2 (w : World) (g : Nat) (a b : Value) : Fr (· = g) w ((w.setCell ⟨g, 0, none⟩ a).setCell ⟨g, 1, none⟩ b) :=
  ((Fr.refl (fun x => x = g) w).sets g 0 a fun _ => rfl).sets g 1 b fun _ => rfl
theorem Rd.drew {W : World} {g : Nat} {R : Rs} (h : Rd W g R) : Rd W.drew g R := h
end Go.Proofs.YtjkkclfndlfjhaaGreatDoor
/- Contracts of cmds: May, Right, get, Read: what is told as read has these bytes. -/
namespace Go.Proofs.YtjkkclfndlfjhaaGreatDoor
open Go.RowKit Crc Frm Go.ChangeShapes Go.WideShapes Go.ChangeAt

/-- Which commands may be. -/
def mayB (c : Cm) : Bool :=
  if c.op < 0 ∨ 4 ≤ c.op ∨ (16 : Int) < (c.val.size : Int) ∨ (16 : Int) < (c.old.size : Int) then false
  else if c.op = 0 then decide (c.client = 0) && decide (c.seq = 0) && decide (c.key.toList = []) && decide (c.val.toList = []) && decide (c.old.toList = [])
  else decide (0 ≤ c.client) && decide (c.client < 4) && decide (0 ≤ c.seq) && decide (c.seq ≤ 1048576) && !c.key.toList.isEmpty && decide ((c.key.size : Int) ≤ 8)

set_option maxRecDepth 100000 in
set_option maxHeartbeats 3200000 in
theorem may_any (c : Cm) (W : World) : Calls Tryz.prog 91 #[c.v] W (TheBool (mayB c) W) := by
  have hb0 : ∀ o, Below W.heap.size W (W.alloc o) := fun o => (Below.refl _ W).alloc (Nat.le_refl _) _
  unfold Cm.v
  by_cases h5 : c.op = 0
  all_goals
    go_enter Tryz.func91, Tryz.ntmps91
    go_wp2
    all_goals
      go_ret
      refine ⟨?_, hb0 _⟩
      refine congrArg (fun b => Ending.returned (Value.bool b)) ?_
      first
        | (simp [mayB, *]; done)
        | (simp [mayB, *]; omega)
        | trace_state

theorem Has.set6 {w : World} {g : Nat} {t : TypeId} {a b c d e f : Value} (h : Has w g t #[a, b, c, d, e, f]) (a' b' c' d' e' f' : Value) :
    Has ((((((w.setCell ⟨g, 0, none⟩ a').setCell ⟨g, 1, none⟩ b').setCell ⟨g, 2, none⟩ c').setCell ⟨g, 3, none⟩ d').setCell ⟨g, 4, none⟩ e').setCell ⟨g, 5, none⟩ f') g t #[a', b', c', d', e', f'] := by
  simpa using (((((h.set 0 a').set 1 b').set 2 c').set 3 d').set 4 e').set 5 f'
theorem Fr.set6 (w : World) (g : Nat) (a b c d e f : Value) : Fr (· = g) w ((((((w.setCell ⟨g, 0, none⟩ a).setCell ⟨g, 1, none⟩ b).setCell ⟨g, 2, none⟩ c).setCell ⟨g, 3, none⟩ d).setCell ⟨g, 4, none⟩ e).setCell ⟨g, 5, none⟩ f) :=
  (Fr.set5 w g a b c d e).sets g 5 f fun _ => rfl
/-- Which entries may be. -/
def rightB (e : En) : Bool := decide (1 ≤ e.index) && decide (e.index ≤ 1048576) && decide (0 ≤ e.term) && decide (e.term ≤ 1048576) && mayB e.cmd
set_option maxRecDepth 100000 in
set_option maxHeartbeats 3200000 in
theorem cright_any (x : En) (W : World) : Calls Tryz.prog 36 #[x.v] W (TheBool (rightB x) W) := by
  have hb0 : Hid (∀ o, Below W.heap.size W (W.alloc o)) := Lib.hid fun o => (Below.refl _ W).alloc (Nat.le_refl _) _
  unfold En.v
  go_enter Tryz.func36, Tryz.ntmps36
  by_cases h1 : 1 ≤ x.index
  · skip
    by_cases h2 : x.index ≤ 1048576
    · skip
      by_cases h3 : 0 ≤ x.term
      · skip
        by_cases h4 : x.term ≤ 1048576
        · skip
          have HE := Lib.hid (show rightB x = mayB x.cmd by simp [rightB, h1, h2, h3, h4])
          go_wp2_with fail
          refine (may_any x.cmd _).mono ?_
          rintro e w2 ⟨rfl, hb⟩
          have HZ := Lib.hid ((hb0.out _).trans (hb.mono (by simp)))
          clear hb
          generalize mayB x.cmd = r at *
          go_wp2
          go_ret
          exact ⟨by rw [HE.out]; rfl, HZ.out⟩
        · skip
          have HE := Lib.hid (show rightB x = false by simp [rightB]; omega)
          go_wp2
          go_ret
          exact ⟨by rw [HE.out]; rfl, hb0.out _⟩
      · skip
        have HE := Lib.hid (show rightB x = false by simp [rightB]; omega)
        go_wp2
        go_ret
        exact ⟨by rw [HE.out]; rfl, hb0.out _⟩
    · skip
      have HE := Lib.hid (show rightB x = false by simp [rightB]; omega)
      go_wp2
      go_ret
      exact ⟨by rw [HE.out]; rfl, hb0.out _⟩
  · skip
    have HE := Lib.hid (show rightB x = false by simp [rightB]; omega)
    go_wp2
    go_ret
    exact ⟨by rw [HE.out]; rfl, hb0.out _⟩

set_option maxRecDepth 100000 in
set_option maxHeartbeats 3200000 in
theorem rget_any (g : Nat) (R : Rs) (hl : R.rest.length ≤ 1000000) (W : World) (h : Rd W g R) :
    Calls Tryz.prog 59 #[.pointer (some ⟨g, 0, none⟩)] W fun e W' => e = .returned R.cmd.1.v ∧ Rd W' g R.cmd.2 ∧ Fr (· = g) W W' := by
  have hgl := h.lt
  have ha := (Below.refl W.heap.size W).alloc (Nat.le_refl _) (.cells #[.int .i64 0, .int .i64 0, .int .i64 0, .string ⟨#[]⟩, .string ⟨#[]⟩, .string ⟨#[]⟩] 59)
  have HR0 := Lib.hid (h.kept ha)
  have HX0 := Lib.hid ((Fr.refl (· = g) W).below ha (Nat.le_refl _))
  have HZ0 := Lib.hid (Has.new W 59 #[.int .i64 0, .int .i64 0, .int .i64 0, .string ⟨#[]⟩, .string ⟨#[]⟩, .string ⟨#[]⟩])
  clear h ha
  go_enter Tryz.func59, Tryz.ntmps59
  go_wp2_with fail
  refine (rbyte_any g R (by omega) _ HR0.out).mono ?_
  rintro e w1 ⟨rfl, hr, hf⟩
  have hs1 := hf.size
  rw [World.size_alloc] at hs1
  have hcl := R.byte.1.toNat_lt
  have hl1 := R.byte_len
  have ha := (Below.refl w1.heap.size w1).alloc (Nat.le_refl _) (.cells #[.int .i64 (R.byte.1.toNat : Int), .int .i64 0, .int .i64 0, .string ⟨#[]⟩, .string ⟨#[]⟩, .string ⟨#[]⟩] 59)
  have HR1 := Lib.hid (hr.kept ha)
  have HK1 := Lib.hid (Has.new w1 59 #[.int .i64 (R.byte.1.toNat : Int), .int .i64 0, .int .i64 0, .string ⟨#[]⟩, .string ⟨#[]⟩, .string ⟨#[]⟩])
  have HX1 := Lib.hid ((HX0.out.trans hf fun _ _ h => h).below ha (by omega))
  have HZ1 := Lib.hid ((HZ0.out.fr hf (by omega)).below ha (by omega))
  clear hr hf ha HR0 HX0 HZ0
  go_wp2_with fail
  refine (rnum_any g R.byte.2 (by omega) _ HR1.out).mono ?_
  rintro e w2 ⟨rfl, hr, hf⟩
  have hs2 := hf.size
  simp only [World.size_alloc] at hs2
  have fs := Fr.set w2 w1.heap.size 1 (.int .i64 R.byte.2.num.1)
  have hk := HK1.out.fr hf (by omega)
  have HR2 := Lib.hid (hr.fr fs (fun b hb => by omega))
  have HK2 : Hid (Has _ w1.heap.size 59 #[.int .i64 (R.byte.1.toNat : Int), .int .i64 R.byte.2.num.1, .int .i64 0, .string ⟨#[]⟩, .string ⟨#[]⟩, .string ⟨#[]⟩]) := Lib.hid (hk.set 1 (.int .i64 R.byte.2.num.1))
  have HX2 := Lib.hid ((HX1.out.trans hf fun _ _ h => h).trans fs fun k hk e => by omega)
  have HZ2 := Lib.hid ((HZ1.out.fr hf (by omega)).fr fs (by omega))
  have hl2 := R.byte.2.num_len
  have c1 : w2.cell? ⟨w1.heap.size, 1, none⟩ = some (.int .i64 0) := hk.cell 1
  have f1 := hk.frozen 1
  clear hr hf fs hk HR1 HK1 HX1 HZ1
  go_wp2_with fail
  refine (rnum_any g R.byte.2.num.2 (by omega) _ HR2.out).mono ?_
  rintro e w3 ⟨rfl, hr, hf⟩
  have hs3 := hf.size
  simp only [World.size_setCell] at hs3
  have fs := Fr.set w3 w1.heap.size 2 (.int .i64 R.byte.2.num.2.num.1)
  have hk := HK2.out.fr hf (by omega)
  have HR3 := Lib.hid (hr.fr fs (fun b hb => by omega))
  have HK3 : Hid (Has _ w1.heap.size 59 #[.int .i64 (R.byte.1.toNat : Int), .int .i64 R.byte.2.num.1, .int .i64 R.byte.2.num.2.num.1, .string ⟨#[]⟩, .string ⟨#[]⟩, .string ⟨#[]⟩]) := Lib.hid (hk.set 2 (.int .i64 R.byte.2.num.2.num.1))
  have HX3 := Lib.hid ((HX2.out.trans hf fun _ _ h => h).trans fs fun k hk e => by omega)
  have HZ3 := Lib.hid ((HZ2.out.fr hf (by omega)).fr fs (by omega))
  have hl3 := R.byte.2.num.2.num_len
  have c2 : w3.cell? ⟨w1.heap.size, 2, none⟩ = some (.int .i64 0) := hk.cell 2
  have f2 := hk.frozen 2
  clear hr hf fs hk HR2 HK2 HX2 HZ2 c1 f1
  go_wp2_with fail
  refine (rtext_any g R.byte.2.num.2.num.2 (by omega) _ HR3.out).mono ?_
  rintro e w4 ⟨rfl, hr, hf⟩
  have hs4 := hf.size
  simp only [World.size_setCell] at hs4
  have fs := Fr.set w4 w1.heap.size 3 (.string R.byte.2.num.2.num.2.text.1)
  have hk := HK3.out.fr hf (by omega)
  have HR4 := Lib.hid (hr.fr fs (fun b hb => by omega))
  have HK4 : Hid (Has _ w1.heap.size 59 #[.int .i64 (R.byte.1.toNat : Int), .int .i64 R.byte.2.num.1, .int .i64 R.byte.2.num.2.num.1, .string R.byte.2.num.2.num.2.text.1, .string ⟨#[]⟩, .string ⟨#[]⟩]) := Lib.hid (hk.set 3 (.string R.byte.2.num.2.num.2.text.1))
  have HX4 := Lib.hid ((HX3.out.trans hf fun _ _ h => h).trans fs fun k hk e => by omega)
  have HZ4 := Lib.hid ((HZ3.out.fr hf (by omega)).fr fs (by omega))
  have hl4 := R.byte.2.num.2.num.2.text_len
  have c3 : w4.cell? ⟨w1.heap.size, 3, none⟩ = some (.string ⟨#[]⟩) := hk.cell 3
  have f3 := hk.frozen 3
  clear hr hf fs hk HR3 HK3 HX3 HZ3 c2 f2
  go_wp2_with fail
  refine (rtext_any g R.byte.2.num.2.num.2.text.2 (by omega) _ HR4.out).mono ?_
  rintro e w5 ⟨rfl, hr, hf⟩
  have hs5 := hf.size
  simp only [World.size_setCell] at hs5
  have fs := Fr.set w5 w1.heap.size 4 (.string R.byte.2.num.2.num.2.text.2.text.1)
  have hk := HK4.out.fr hf (by omega)
  have HR5 := Lib.hid (hr.fr fs (fun b hb => by omega))
  have HK5 : Hid (Has _ w1.heap.size 59 #[.int .i64 (R.byte.1.toNat : Int), .int .i64 R.byte.2.num.1, .int .i64 R.byte.2.num.2.num.1, .string R.byte.2.num.2.num.2.text.1, .string R.byte.2.num.2.num.2.text.2.text.1, .string ⟨#[]⟩]) := Lib.hid (hk.set 4 (.string R.byte.2.num.2.num.2.text.2.text.1))
  have HX5 := Lib.hid ((HX4.out.trans hf fun _ _ h => h).trans fs fun k hk e => by omega)
  have HZ5 := Lib.hid ((HZ4.out.fr hf (by omega)).fr fs (by omega))
  have hl5 := R.byte.2.num.2.num.2.text.2.text_len
  have c4 : w5.cell? ⟨w1.heap.size, 4, none⟩ = some (.string ⟨#[]⟩) := hk.cell 4
  have f4 := hk.frozen 4
  clear hr hf fs hk HR4 HK4 HX4 HZ4 c3 f3
  go_wp2_with fail
  refine (rtext_any g R.byte.2.num.2.num.2.text.2.text.2 (by omega) _ HR5.out).mono ?_
  rintro e w6 ⟨rfl, hr, hf⟩
  have hs6 := hf.size
  simp only [World.size_setCell] at hs6
  have fs := Fr.set w6 w1.heap.size 5 (.string R.byte.2.num.2.num.2.text.2.text.2.text.1)
  have hk := HK5.out.fr hf (by omega)
  have HR6 := Lib.hid (hr.fr fs (fun b hb => by omega))
  have HK6 : Hid (Has _ w1.heap.size 59 #[.int .i64 (R.byte.1.toNat : Int), .int .i64 R.byte.2.num.1, .int .i64 R.byte.2.num.2.num.1, .string R.byte.2.num.2.num.2.text.1, .string R.byte.2.num.2.num.2.text.2.text.1, .string R.byte.2.num.2.num.2.text.2.text.2.text.1]) := Lib.hid (hk.set 5 (.string R.byte.2.num.2.num.2.text.2.text.2.text.1))
  have HX6 := Lib.hid ((HX5.out.trans hf fun _ _ h => h).trans fs fun k hk e => by omega)
  have HZ6 := Lib.hid ((HZ5.out.fr hf (by omega)).fr fs (by omega))
  have hl6 := R.byte.2.num.2.num.2.text.2.text.2.text_len
  have c5 : w6.cell? ⟨w1.heap.size, 5, none⟩ = some (.string ⟨#[]⟩) := hk.cell 5
  have f5 := hk.frozen 5
  have d0 : w6.cell? ⟨w1.heap.size, 0, none⟩ = some (.int .i64 (R.byte.1.toNat : Int)) := hk.cell 0
  have d1 : w6.cell? ⟨w1.heap.size, 1, none⟩ = some (.int .i64 R.byte.2.num.1) := hk.cell 1
  have d2 : w6.cell? ⟨w1.heap.size, 2, none⟩ = some (.int .i64 R.byte.2.num.2.num.1) := hk.cell 2
  have d3 : w6.cell? ⟨w1.heap.size, 3, none⟩ = some (.string R.byte.2.num.2.num.2.text.1) := hk.cell 3
  have d4 : w6.cell? ⟨w1.heap.size, 4, none⟩ = some (.string R.byte.2.num.2.num.2.text.2.text.1) := hk.cell 4
  obtain ⟨z0, z1, z2, z3, z4, z5⟩ := (HZ5.out.fr hf (by omega)).six
  have g0 := (HZ5.out.fr hf (by omega)).frozen 0
  have g1 := (HZ5.out.fr hf (by omega)).frozen 1
  have g2 := (HZ5.out.fr hf (by omega)).frozen 2
  have g3 := (HZ5.out.fr hf (by omega)).frozen 3
  have g4 := (HZ5.out.fr hf (by omega)).frozen 4
  have g5 := (HZ5.out.fr hf (by omega)).frozen 5
  clear hr hf fs hk HR5 HK5 HX5 c4 f4
  go_wp2
  refine bodyPost_ret (results_cell_row rfl _ _ W.heap.size 59 _ (0, 0) _ rfl (HZ6.out.set6 (.int .i64 (R.byte.1.toNat : Int)) (.int .i64 R.byte.2.num.1) (.int .i64 R.byte.2.num.2.num.1) (.string R.byte.2.num.2.num.2.text.1) (.string R.byte.2.num.2.num.2.text.2.text.1) (.string R.byte.2.num.2.num.2.text.2.text.2.text.1)) Tryz.underlying59 rfl (by kernel_rfl)) rfl ⟨rfl, HR6.out.fr (Fr.set6 _ W.heap.size (.int .i64 (R.byte.1.toNat : Int)) (.int .i64 R.byte.2.num.1) (.int .i64 R.byte.2.num.2.num.1) (.string R.byte.2.num.2.num.2.text.1) (.string R.byte.2.num.2.num.2.text.2.text.1) (.string R.byte.2.num.2.num.2.text.2.text.2.text.1)) (fun b hb => by omega), HX6.out.trans (Fr.set6 _ W.heap.size (.int .i64 (R.byte.1.toNat : Int)) (.int .i64 R.byte.2.num.1) (.int .i64 R.byte.2.num.2.num.1) (.string R.byte.2.num.2.num.2.text.1) (.string R.byte.2.num.2.num.2.text.2.text.1) (.string R.byte.2.num.2.num.2.text.2.text.2.text.1)) fun k hk e => by omega⟩
end Go.Proofs.YtjkkclfndlfjhaaGreatDoor
/- Contract of cmds.Read: what is told as read may be, and has these bytes. -/
namespace Go.Proofs.YtjkkclfndlfjhaaGreatDoor
open Go.RowKit Crc Frm Go.ChangeShapes Go.WideShapes Go.ChangeAt

/-- What cmds.Read leaves of these bytes. -/
def CmRead (bs : List UInt8) (W : World) (e : Ending) (W' : World) : Prop :=
  ∃ (x : En) (ok : Bool), e = .returned (.tuple #[x.v, .bool ok]) ∧ Below W.heap.size W W' ∧ (ok = true → rightB x = true ∧ enBytes x = bs)
theorem Has.all8 {W : World} {g : Nat} {t : TypeId} {a b c d e f p q : Value} (h : Has W g t #[a, b, c, d, e, f, p, q]) :
    (W.cell? ⟨g, 0, none⟩ = some a ∧ W.cell? ⟨g, 1, none⟩ = some b ∧ W.cell? ⟨g, 2, none⟩ = some c ∧ W.cell? ⟨g, 3, none⟩ = some d ∧ W.cell? ⟨g, 4, none⟩ = some e ∧ W.cell? ⟨g, 5, none⟩ = some f ∧ W.cell? ⟨g, 6, none⟩ = some p ∧ W.cell? ⟨g, 7, none⟩ = some q) ∧
    (W.frozen? ⟨g, 0, none⟩ = false ∧ W.frozen? ⟨g, 1, none⟩ = false ∧ W.frozen? ⟨g, 2, none⟩ = false ∧ W.frozen? ⟨g, 3, none⟩ = false ∧ W.frozen? ⟨g, 4, none⟩ = false ∧ W.frozen? ⟨g, 5, none⟩ = false ∧ W.frozen? ⟨g, 6, none⟩ = false ∧ W.frozen? ⟨g, 7, none⟩ = false) :=
  ⟨⟨h.cell 0, h.cell 1, h.cell 2, h.cell 3, h.cell 4, h.cell 5, h.cell 6, h.cell 7⟩, ⟨h.frozen 0, h.frozen 1, h.frozen 2, h.frozen 3, h.frozen 4, h.frozen 5, h.frozen 6, h.frozen 7⟩⟩
/-- Six cells from the third on are written. -/
def put6 (w : World) (g : Nat) (a b c d e f : Value) : World := (((((w.setCell ⟨g, 2, none⟩ a).setCell ⟨g, 3, none⟩ b).setCell ⟨g, 4, none⟩ c).setCell ⟨g, 5, none⟩ d).setCell ⟨g, 6, none⟩ e).setCell ⟨g, 7, none⟩ f
theorem Has.put6 {w : World} {g : Nat} {t : TypeId} {a b c d e f p q : Value} (h : Has w g t #[p, q, a, b, c, d, e, f]) (a' b' c' d' e' f' : Value) :
    Has (put6 w g a' b' c' d' e' f') g t #[p, q, a', b', c', d', e', f'] := by
  unfold YtjkkclfndlfjhaaGreatDoor.put6
  simpa using (((((h.set 2 a').set 3 b').set 4 c').set 5 d').set 6 e').set 7 f'
theorem Fr.put6 (w : World) (g : Nat) (a b c d e f : Value) : Fr (· = g) w (put6 w g a b c d e f) :=
  ((((((Fr.refl (fun x => x = g) w).sets g 2 a fun _ => rfl).sets g 3 b fun _ => rfl).sets g 4 c fun _ => rfl).sets g 5 d fun _ => rfl).sets g 6 e fun _ => rfl).sets g 7 f fun _ => rfl
/-- Eight cells are written. -/
def put8 (w : World) (g : Nat) (x y a b c d e f : Value) : World := put6 ((w.setCell ⟨g, 0, none⟩ x).setCell ⟨g, 1, none⟩ y) g a b c d e f
theorem Has.put8 {w : World} {g : Nat} {t : TypeId} {a b c d e f p q : Value} (h : Has w g t #[p, q, a, b, c, d, e, f]) (x y a' b' c' d' e' f' : Value) :
    Has (put8 w g x y a' b' c' d' e' f') g t #[x, y, a', b', c', d', e', f'] := by
  have h2 : Has ((w.setCell ⟨g, 0, none⟩ x).setCell ⟨g, 1, none⟩ y) g t #[x, y, a, b, c, d, e, f] := by simpa using (h.set 0 x).set 1 y
  exact h2.put6 a' b' c' d' e' f'
theorem Fr.put8 (w : World) (g : Nat) (x y a b c d e f : Value) : Fr (· = g) w (put8 w g x y a b c d e f) :=
  (((Fr.refl (fun x => x = g) w).sets g 0 x fun _ => rfl).sets g 1 y fun _ => rfl).trans (Fr.put6 _ g a b c d e f) fun _ _ h => h

set_option maxRecDepth 100000 in
set_option maxHeartbeats 6400000 in
theorem cmread_any (v : Value) (bs : List UInt8) (hl : bs.length ≤ 16384) (W : World) (hv : IsBytes W v bs) : Calls Tryz.prog 19 #[v] W (CmRead bs W) := by
  have HV := Lib.hid hv
  obtain ⟨A, cap, rfl, -, -, -⟩ := hv
  have hb0 : Below W.heap.size W (W.alloc (.cells #[.int .i64 0, .int .i64 0, .int .i64 0, .int .i64 0, .int .i64 0, .string ⟨#[]⟩, .string ⟨#[]⟩, .string ⟨#[]⟩] 61)) := (Below.refl _ W).alloc (Nat.le_refl _) _
  have HB0 := Lib.hid hb0
  clear hb0
  go_enter Tryz.func19, Tryz.ntmps19
  go_wp2_with fail
  refine (rof_any _ bs _ (HV.out.below HB0.out)).mono ?_
  rintro e w1 ⟨rfl, hr, hb⟩
  have hs1 := hb.size
  simp only [World.size_alloc] at hr hb hs1 ⊢
  have hg1 := hr.lt
  have HR := Lib.hid hr
  have HB1 := Lib.hid (HB0.out.trans (hb.mono (Nat.le_succ _)))
  have HZ1 := Lib.hid ((Has.new W 61 #[.int .i64 0, .int .i64 0, .int .i64 0, .int .i64 0, .int .i64 0, .string ⟨#[]⟩, .string ⟨#[]⟩, .string ⟨#[]⟩]).below hb (Nat.lt_succ_self _))
  clear hr hb HB0
  generalize hR0 : (⟨bs, false⟩ : Rs) = R0 at *
  have hR0l : R0.rest.length ≤ 16384 := by rw [← hR0]; exact hl
  have hr0 : R0.rest = bs := by rw [← hR0]
  clear hR0
  go_wp2_with fail
  refine (rnum_any _ R0 (by omega) _ HR.out).mono ?_
  rintro e w2 ⟨rfl, hr, hf⟩
  have hs2 := hf.size
  have ha := (Below.refl w2.heap.size w2).alloc (Nat.le_refl _) (.cells #[.int .i64 R0.num.1, .int .i64 0, .int .i64 0, .int .i64 0, .int .i64 0, .string ⟨#[]⟩, .string ⟨#[]⟩, .string ⟨#[]⟩] 61)
  have HR1 := Lib.hid (hr.kept ha)
  have HK1 := Lib.hid (Has.new w2 61 #[.int .i64 R0.num.1, .int .i64 0, .int .i64 0, .int .i64 0, .int .i64 0, .string ⟨#[]⟩, .string ⟨#[]⟩, .string ⟨#[]⟩])
  have HB2 := Lib.hid ((HB1.out.trans (hf.toBelow (fun k e => by omega) (by omega))).trans (ha.mono (by omega)))
  have HZ2 := Lib.hid ((HZ1.out.fr hf (by omega)).below ha (by omega))
  have hl1 := R0.num_len
  clear hr hf ha HZ1 HB1
  go_wp2_with fail
  refine (rnum_any _ R0.num.2 (by omega) _ HR1.out).mono ?_
  rintro e w3 ⟨rfl, hr, hf⟩
  have hs3 := hf.size
  simp only [World.size_alloc] at hs3
  have fs := Fr.set w3 w2.heap.size 1 (.int .i64 R0.num.2.num.1)
  have hk := HK1.out.fr hf (by omega)
  have HR2 := Lib.hid (hr.fr fs (fun b hb => by omega))
  have HK2 : Hid (Has _ w2.heap.size 61 #[.int .i64 R0.num.1, .int .i64 R0.num.2.num.1, .int .i64 0, .int .i64 0, .int .i64 0, .string ⟨#[]⟩, .string ⟨#[]⟩, .string ⟨#[]⟩]) := Lib.hid (hk.set 1 (.int .i64 R0.num.2.num.1))
  have HB3 := Lib.hid ((HB2.out.trans (hf.toBelow (fun k e => by omega) (by simp; omega))).trans (fs.toBelow (fun k e => by omega) (by omega)))
  have HZ3 := Lib.hid ((HZ2.out.fr hf (by omega)).fr fs (by omega))
  have c1 : w3.cell? ⟨w2.heap.size, 1, none⟩ = some (.int .i64 0) := hk.cell 1
  have f1 := hk.frozen 1
  have hl2 := R0.num.2.num_len
  clear hr hf fs hk HZ2 HB2 HR1 HK1
  go_wp2_with fail
  refine (rget_any _ R0.num.2.num.2 (by omega) _ HR2.out).mono ?_
  rintro e w4 ⟨rfl, hr, hf⟩
  have hs4 := hf.size
  simp only [World.size_setCell] at hs4
  clear c1 f1
  have hent : R0.ent = (⟨R0.num.1, R0.num.2.num.1, R0.num.2.num.2.cmd.1⟩, R0.num.2.num.2.cmd.2) := rfl
  have hk := HK2.out.fr hf (by omega)
  obtain ⟨R', hR'⟩ : ∃ R', R' = R0.num.2.num.2.cmd.2 := ⟨_, rfl⟩
  rw [← hR'] at hr hent
  clear hR'
  obtain ⟨x, hx⟩ : ∃ x : En, x = ⟨R0.num.1, R0.num.2.num.1, R0.num.2.num.2.cmd.1⟩ := ⟨_, rfl⟩
  have hx1 : R0.num.1 = x.index := by rw [hx]
  have hx2 : R0.num.2.num.1 = x.term := by rw [hx]
  have hx3 : R0.num.2.num.2.cmd.1 = x.cmd := by rw [hx]
  have hbytes : R0.ent.2.bad = false → R0.ent.2.rest = [] → enBytes x = bs := fun h1 h2 => by
    have h := (R0.ent_spec h1).2
    rw [h2, List.append_nil, hr0] at h
    rw [h, hent, hx]
  rw [hent] at hbytes
  simp only at hbytes
  rw [← hx] at hent
  have HBY := Lib.hid hbytes
  have hfin := hk.put6 (.int .i64 x.cmd.op) (.int .i64 x.cmd.client) (.int .i64 x.cmd.seq) (.string x.cmd.key) (.string x.cmd.val) (.string x.cmd.old)
  rw [hx1, hx2] at hfin
  have fs := Fr.put6 w4 w2.heap.size (.int .i64 x.cmd.op) (.int .i64 x.cmd.client) (.int .i64 x.cmd.seq) (.string x.cmd.key) (.string x.cmd.val) (.string x.cmd.old)
  rw [hx3]
  unfold Cm.v
  obtain ⟨wz, hwz⟩ : ∃ wz, wz = put6 w4 w2.heap.size (.int .i64 x.cmd.op) (.int .i64 x.cmd.client) (.int .i64 x.cmd.seq) (.string x.cmd.key) (.string x.cmd.val) (.string x.cmd.old) := ⟨_, rfl⟩
  rw [← hwz] at fs hfin
  have HRF := Lib.hid (hr.fr fs (fun b hb => by omega))
  have HKF := Lib.hid hfin
  have HBF := Lib.hid ((HB3.out.trans (hf.toBelow (fun k e => by omega) (by simp; omega))).trans (fs.toBelow (fun k e => by omega) (by omega)))
  have HZF := Lib.hid ((HZ3.out.fr hf (by omega)).fr fs (by omega))
  obtain ⟨⟨d0, d1, d2, d3, d4, d5, d6, d7⟩, ⟨e0, e1, e2, e3, e4, e5, e6, e7⟩⟩ := hk.all8
  have hzs := fs.size
  clear hr hf fs hk HZ3 HB3 HR2 HK2 hbytes hent hx
  unfold put6 at hwz
  go_wp2_with fail
  rw [← hwz]
  refine (rdone_any _ R' _ HRF.out).mono ?_
  rintro e wx ⟨rfl, rfl⟩
  clear hwz d0 d1 d2 d3 d4 d5 d6 d7 e0 e1 e2 e3 e4 e5 e6 e7
  cases hdone : (!R'.bad && decide (R'.rest.length = 0)) with
  | false =>
    obtain ⟨⟨d0, d1, d2, d3, d4, d5, d6, d7⟩, ⟨e0, e1, e2, e3, e4, e5, e6, e7⟩⟩ := HZF.out.all8
    go_wp2
    refine bodyPost_ret (results_cell_row2 rfl _ _ W.heap.size 61 _ (0, 0) _ rfl (HZF.out.put8 (.int .i64 0) (.int .i64 0) (.int .i64 0) (.int .i64 0) (.int .i64 0) (.string ⟨#[]⟩) (.string ⟨#[]⟩) (.string ⟨#[]⟩)) Tryz.underlying61 rfl (by kernel_rfl)) rfl ⟨⟨0, 0, ⟨0, 0, 0, ⟨#[]⟩, ⟨#[]⟩, ⟨#[]⟩⟩⟩, false, rfl, HBF.out.trans ((Fr.put8 _ W.heap.size (.int .i64 0) (.int .i64 0) (.int .i64 0) (.int .i64 0) (.int .i64 0) (.string ⟨#[]⟩) (.string ⟨#[]⟩) (.string ⟨#[]⟩)).toBelow (n := W.heap.size) (fun k e => by omega) HBF.out.size), fun h => by cases h⟩
  | true =>
    have hd1 : R'.bad = false := by cases hb : R'.bad <;> simp_all
    have hd2 : R'.rest = [] := by simpa [hd1] using hdone
    have HEN := Lib.hid (HBY.out hd1 hd2)
    clear hd1 hd2
    obtain ⟨⟨d0, d1, d2, d3, d4, d5, d6, d7⟩, ⟨e0, e1, e2, e3, e4, e5, e6, e7⟩⟩ := HKF.out.all8
    clear e0 e1 e2 e3 e4 e5 e6 e7
    go_wp2_with fail
    refine (cright_any x _).mono ?_
    rintro e wy ⟨rfl, hb⟩
    clear d0 d1 d2 d3 d4 d5 d6 d7
    have HKY := Lib.hid (HKF.out.below hb HKF.out.lt)
    have HBYY := Lib.hid (HBF.out.trans (hb.mono HBF.out.size))
    have HZY := Lib.hid (HZF.out.below hb HZF.out.lt)
    clear hb
    cases hrt : rightB x with
    | false =>
      obtain ⟨⟨d0, d1, d2, d3, d4, d5, d6, d7⟩, ⟨e0, e1, e2, e3, e4, e5, e6, e7⟩⟩ := HZY.out.all8
      go_wp2
      refine bodyPost_ret (results_cell_row2 rfl _ _ W.heap.size 61 _ (0, 0) _ rfl (HZY.out.put8 (.int .i64 0) (.int .i64 0) (.int .i64 0) (.int .i64 0) (.int .i64 0) (.string ⟨#[]⟩) (.string ⟨#[]⟩) (.string ⟨#[]⟩)) Tryz.underlying61 rfl (by kernel_rfl)) rfl ⟨⟨0, 0, ⟨0, 0, 0, ⟨#[]⟩, ⟨#[]⟩, ⟨#[]⟩⟩⟩, false, rfl, HBYY.out.trans ((Fr.put8 _ W.heap.size (.int .i64 0) (.int .i64 0) (.int .i64 0) (.int .i64 0) (.int .i64 0) (.string ⟨#[]⟩) (.string ⟨#[]⟩) (.string ⟨#[]⟩)).toBelow (n := W.heap.size) (fun k e => by omega) HBYY.out.size), fun h => by cases h⟩
    | true =>
      obtain ⟨⟨d0, d1, d2, d3, d4, d5, d6, d7⟩, ⟨e0, e1, e2, e3, e4, e5, e6, e7⟩⟩ := HZY.out.all8
      obtain ⟨⟨y0, y1, y2, y3, y4, y5, y6, y7⟩, -⟩ := HKY.out.all8
      go_wp2
      refine bodyPost_ret (results_cell_row2 rfl _ _ W.heap.size 61 _ (0, 0) _ rfl (HZY.out.put8 (.int .i64 x.index) (.int .i64 x.term) (.int .i64 x.cmd.op) (.int .i64 x.cmd.client) (.int .i64 x.cmd.seq) (.string x.cmd.key) (.string x.cmd.val) (.string x.cmd.old)) Tryz.underlying61 rfl (by kernel_rfl)) rfl ⟨x, true, rfl, HBYY.out.trans ((Fr.put8 _ W.heap.size (.int .i64 x.index) (.int .i64 x.term) (.int .i64 x.cmd.op) (.int .i64 x.cmd.client) (.int .i64 x.cmd.seq) (.string x.cmd.key) (.string x.cmd.val) (.string x.cmd.old)).toBelow (n := W.heap.size) (fun k e => by omega) HBYY.out.size), fun _ => ⟨hrt, HEN.out⟩⟩
end Go.Proofs.YtjkkclfndlfjhaaGreatDoor
