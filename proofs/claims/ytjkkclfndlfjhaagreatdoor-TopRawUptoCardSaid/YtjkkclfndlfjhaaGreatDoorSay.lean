/- Contract of Say.Cmd: a command. -/
import Derived.Test.YtjkkclfndlfjhaaGreatDoorCmd
import Derived.Deep.RegionHeld3
import Derived.Test.YtjkkclfndlfjhaaGreatDoorRow
set_option linter.all false
namespace Go.Proofs.YtjkkclfndlfjhaaGreatDoor
open Go.RowKit Crc Frm Go.ChangeShapes Go.WideShapes Go.ChangeAt

/-- A command by numbers. -/
structure Sy where
  op : UInt8
  client : UInt8
  seq : UInt8
  key : UInt8
  val : UInt8
  old : UInt8
def Sy.cells (s : Sy) : List Value := [.int .u8 (s.op.toNat : Int), .int .u8 (s.client.toNat : Int), .int .u8 (s.seq.toNat : Int), .int .u8 (s.key.toNat : Int), .int .u8 (s.val.toNat : Int), .int .u8 (s.old.toNat : Int)]
def laySy : Lay Sy := ⟨6, Sy.cells, fun _ => rfl, by decide, fun _ u h => by simp [Sy.cells] at h; rcases h with rfl | rfl | rfl | rfl | rfl | rfl <;> rfl⟩

/-- Part of a text, by bounds of eight bits. -/
theorem str_part (s : ByteArray) (lo hi : Int) (h0 : 0 ≤ lo) (h1 : lo ≤ hi) (h2 : hi ≤ s.size) (h3 : s.size ≤ 100) : ∃ t, t.size ≤ 100 ∧ ∀ wx, (Instr.slice 9 (.string s) (some (.int .u8 lo)) (some (.int .u8 hi)) none).run Tryz.prog wx = .ok (.string t) wx := by
  have hu := fun wx => run_underlying (P := Tryz.prog) Tryz.underlying9 wx
  refine ⟨s.extract lo.toNat hi.toNat, by rw [ByteArray.size_extract]; omega, fun wx => ?_⟩
  simp [Instr.slice, Instr.sliceBounds, Instr.sliceBound, asIntOf, hu, h0, h2]
  rw [if_pos (by omega), if_pos (by omega)]
theorem str_head (s : ByteArray) (hi : Int) (h1 : 0 ≤ hi) (h2 : hi ≤ s.size) (h3 : s.size ≤ 100) : ∃ t, t.size ≤ 100 ∧ ∀ wx, (Instr.slice 9 (.string s) none (some (.int .u8 hi)) none).run Tryz.prog wx = .ok (.string t) wx := by
  have hu := fun wx => run_underlying (P := Tryz.prog) Tryz.underlying9 wx
  refine ⟨s.extract 0 hi.toNat, by rw [ByteArray.size_extract]; omega, fun wx => ?_⟩
  simp [Instr.slice, Instr.sliceBounds, Instr.sliceBound, asIntOf, hu, h1, h2]

/-- What lies behind the first statement of Cmd. -/
def SayIn (W : World) (a b c d e f : Nat) (wx : World) : Prop :=
  Below W.heap.size W wx ∧ Has wx W.heap.size 126 #[.int .u8 (a : Int), .int .u8 (b : Int), .int .u8 (c : Int), .int .u8 (d : Int), .int .u8 (e : Int), .int .u8 (f : Int)] ∧ Has wx (W.heap.size + 1) 59 #[.int .i64 0, .int .i64 0, .int .i64 0, .string ⟨#[]⟩, .string ⟨#[]⟩, .string ⟨#[]⟩] ∧
    ∃ (op cl sq : Int) (k v : ByteArray), Has wx (W.heap.size + 2) 59 #[.int .i64 op, .int .i64 cl, .int .i64 sq, .string k, .string v, .string ⟨#[]⟩]

theorem sayIn_mk {W W2 : World} {a b c d e f : Nat} (h1 : Below W.heap.size W W2) (h2 : Has W2 W.heap.size 126 #[.int .u8 (a : Int), .int .u8 (b : Int), .int .u8 (c : Int), .int .u8 (d : Int), .int .u8 (e : Int), .int .u8 (f : Int)]) (h3 : Has W2 (W.heap.size + 1) 59 #[.int .i64 0, .int .i64 0, .int .i64 0, .string ⟨#[]⟩, .string ⟨#[]⟩, .string ⟨#[]⟩]) (hs : W2.heap.size = W.heap.size + 2) (op cl sq : Int) (k v : ByteArray) :
    SayIn W a b c d e f (W2.alloc (.cells #[.int .i64 op, .int .i64 cl, .int .i64 sq, .string k, .string v, .string ⟨#[]⟩] 59)).drew := by
  have h := Has.new W2 59 #[.int .i64 op, .int .i64 cl, .int .i64 sq, .string k, .string v, .string ⟨#[]⟩]
  rw [hs] at h
  exact ⟨(h1.alloc h1.size _).drew, (h2.alloc _).drew, (h3.alloc _).drew, op, cl, sq, k, v, h.drew⟩

set_option maxRecDepth 100000 in
set_option maxHeartbeats 3200000 in
theorem cmd_any (s : Sy) (W : World) : Calls Tryz.prog 46 #[.agg #[.int .u8 (s.op.toNat : Int), .int .u8 (s.client.toNat : Int), .int .u8 (s.seq.toNat : Int), .int .u8 (s.key.toNat : Int), .int .u8 (s.val.toNat : Int), .int .u8 (s.old.toNat : Int)]] W fun e W' => ∃ c : Cm, e = .returned c.v ∧ Below W.heap.size W W' := by
  obtain ⟨a, ha, ha'⟩ : ∃ a : Nat, a < 256 ∧ s.op.toNat = a := ⟨_, s.op.toNat_lt, rfl⟩
  obtain ⟨b, hb, hb'⟩ : ∃ a : Nat, a < 256 ∧ s.client.toNat = a := ⟨_, s.client.toNat_lt, rfl⟩
  obtain ⟨c, hc, hc'⟩ : ∃ a : Nat, a < 256 ∧ s.seq.toNat = a := ⟨_, s.seq.toNat_lt, rfl⟩
  obtain ⟨d, hd, hd'⟩ : ∃ a : Nat, a < 256 ∧ s.key.toNat = a := ⟨_, s.key.toNat_lt, rfl⟩
  obtain ⟨e, he, he'⟩ : ∃ a : Nat, a < 256 ∧ s.val.toNat = a := ⟨_, s.val.toNat_lt, rfl⟩
  obtain ⟨f, hf, hf'⟩ : ∃ a : Nat, a < 256 ∧ s.old.toNat = a := ⟨_, s.old.toNat_lt, rfl⟩
  rw [ha', hb', hc', hd', he', hf']
  clear ha' hb' hc' hd' he' hf'
  obtain ⟨kd, hkd, ed⟩ : ∃ k : Nat, k < 8 ∧ (d : Int).tmod 8 = (k : Int) := ⟨d % 8, by omega, by rw [Int.tmod_eq_emod_of_nonneg (by omega)]; omega⟩
  obtain ⟨ke, hke, ee⟩ : ∃ k : Nat, k < 2 ∧ (e : Int).tmod 2 = (k : Int) := ⟨e % 2, by omega, by rw [Int.tmod_eq_emod_of_nonneg (by omega)]; omega⟩
  obtain ⟨le, hle, ge⟩ : ∃ k : Nat, k < 10 ∧ (e : Int).tmod 10 = (k : Int) := ⟨e % 10, by omega, by rw [Int.tmod_eq_emod_of_nonneg (by omega)]; omega⟩
  obtain ⟨kf, hkf, ef⟩ : ∃ k : Nat, k < 2 ∧ (f : Int).tmod 2 = (k : Int) := ⟨f % 2, by omega, by rw [Int.tmod_eq_emod_of_nonneg (by omega)]; omega⟩
  obtain ⟨lf, hlf, gf⟩ : ∃ k : Nat, k < 10 ∧ (f : Int).tmod 10 = (k : Int) := ⟨f % 10, by omega, by rw [Int.tmod_eq_emod_of_nonneg (by omega)]; omega⟩
  obtain ⟨t1, z1, r1⟩ := str_part ⟨#[97, 98, 99, 100, 101, 102, 103, 104]⟩ (kd : Int) ((kd : Int) + 1) (by omega) (by omega) (by show _ ≤ (8 : Int); omega) (by decide)
  obtain ⟨t2, z2, r2⟩ := str_head ⟨#[118]⟩ (ke : Int) (by omega) (by show _ ≤ (1 : Int); omega) (by decide)
  obtain ⟨t3, z3, r3⟩ := str_part ⟨#[48, 49, 50, 51, 52, 53, 54, 55, 56, 57]⟩ (le : Int) ((le : Int) + 1) (by omega) (by omega) (by show _ ≤ (10 : Int); omega) (by decide)
  obtain ⟨t4, z4, r4⟩ := str_head ⟨#[118]⟩ (kf : Int) (by omega) (by show _ ≤ (1 : Int); omega) (by decide)
  obtain ⟨t5, z5, r5⟩ := str_part ⟨#[48, 49, 50, 51, 52, 53, 54, 55, 56, 57]⟩ (lf : Int) ((lf : Int) + 1) (by omega) (by omega) (by show _ ≤ (10 : Int); omega) (by decide)
  have q1 : IntKind.u8.wrap ((kd : Int) + 1) = (kd : Int) + 1 := by rw [IntKind.wrap_u8]; omega
  have q2 : IntKind.u8.wrap ((le : Int) + 1) = (le : Int) + 1 := by rw [IntKind.wrap_u8]; omega
  have q3 : IntKind.u8.wrap ((lf : Int) + 1) = (lf : Int) + 1 := by rw [IntKind.wrap_u8]; omega
  have n1 : ¬ 9223372036854775807 < 1 + t1.size := by omega
  have n2 : ¬ 9223372036854775807 < ({ data := #[107] } : ByteArray).size + t1.size := by show ¬ 9223372036854775807 < 1 + t1.size; omega
  have n3 : ¬ 9223372036854775807 < t2.size + t3.size := by omega
  have n4 : ¬ 9223372036854775807 < t4.size + t5.size := by omega
  have g1 : (0 : Int) ≤ (kd : Int) + 1 := by omega
  have g2 : (kd : Int) ≤ (kd : Int) + 1 := by omega
  have g3 : (0 : Int) ≤ (le : Int) + 1 := by omega
  have g4 : (le : Int) ≤ (le : Int) + 1 := by omega
  have f1 : (kd : Int) + 1 ≤ 8 := by omega
  have f2 : (le : Int) + 1 ≤ 10 := by omega
  have f3 : (ke : Int) ≤ 1 := by omega
  have f4 : (kf : Int) ≤ 1 := by omega
  have f5 : (lf : Int) + 1 ≤ 10 := by omega
  have HX : Hid (Has ((W.alloc (.cells #[.int .u8 (a : Int), .int .u8 (b : Int), .int .u8 (c : Int), .int .u8 (d : Int), .int .u8 (e : Int), .int .u8 (f : Int)] 126)).alloc (.cells #[.int .i64 0, .int .i64 0, .int .i64 0, .string ⟨#[]⟩, .string ⟨#[]⟩, .string ⟨#[]⟩] 59)) W.heap.size 126 #[.int .u8 (a : Int), .int .u8 (b : Int), .int .u8 (c : Int), .int .u8 (d : Int), .int .u8 (e : Int), .int .u8 (f : Int)]) := Lib.hid ((Has.new W 126 _).alloc _)
  have HY : Hid (Has ((W.alloc (.cells #[.int .u8 (a : Int), .int .u8 (b : Int), .int .u8 (c : Int), .int .u8 (d : Int), .int .u8 (e : Int), .int .u8 (f : Int)] 126)).alloc (.cells #[.int .i64 0, .int .i64 0, .int .i64 0, .string ⟨#[]⟩, .string ⟨#[]⟩, .string ⟨#[]⟩] 59)) (W.heap.size + 1) 59 #[.int .i64 0, .int .i64 0, .int .i64 0, .string ⟨#[]⟩, .string ⟨#[]⟩, .string ⟨#[]⟩]) := by
    have h := Has.new (W.alloc (.cells #[.int .u8 (a : Int), .int .u8 (b : Int), .int .u8 (c : Int), .int .u8 (d : Int), .int .u8 (e : Int), .int .u8 (f : Int)] 126)) 59 #[.int .i64 0, .int .i64 0, .int .i64 0, .string ⟨#[]⟩, .string ⟨#[]⟩, .string ⟨#[]⟩]
    rw [World.size_alloc] at h
    exact h
  have hB0 : Below W.heap.size W ((W.alloc (.cells #[.int .u8 (a : Int), .int .u8 (b : Int), .int .u8 (c : Int), .int .u8 (d : Int), .int .u8 (e : Int), .int .u8 (f : Int)] 126)).alloc (.cells #[.int .i64 0, .int .i64 0, .int .i64 0, .string ⟨#[]⟩, .string ⟨#[]⟩, .string ⟨#[]⟩] 59)) := ((Below.refl _ W).alloc (Nat.le_refl _) _).alloc (by simp) _
  have hsz : ((W.alloc (.cells #[.int .u8 (a : Int), .int .u8 (b : Int), .int .u8 (c : Int), .int .u8 (d : Int), .int .u8 (e : Int), .int .u8 (f : Int)] 126)).alloc (.cells #[.int .i64 0, .int .i64 0, .int .i64 0, .string ⟨#[]⟩, .string ⟨#[]⟩, .string ⟨#[]⟩] 59)).heap.size = W.heap.size + 2 := by simp
  obtain ⟨W2, hW2⟩ : ∃ W2, W2 = (W.alloc (.cells #[.int .u8 (a : Int), .int .u8 (b : Int), .int .u8 (c : Int), .int .u8 (d : Int), .int .u8 (e : Int), .int .u8 (f : Int)] 126)).alloc (.cells #[.int .i64 0, .int .i64 0, .int .i64 0, .string ⟨#[]⟩, .string ⟨#[]⟩, .string ⟨#[]⟩] 59) := ⟨_, rfl⟩
  go_enter Tryz.func46, Tryz.ntmps46
  go_wp2
  rw [← hW2] at HX HY hB0 hsz ⊢
  clear hW2
  go_cut [3] from 4 to 38 (fun s3 wx => s3 = .pointer (some ⟨W.heap.size + 2, 0, none⟩) ∧ SayIn W a b c d e f wx)
  case first =>
    have c0 : W2.drew.cell? ⟨W.heap.size, 0, none⟩ = some (.int .u8 (a : Int)) := HX.out.cell 0
    have c1 : W2.drew.cell? ⟨W.heap.size, 1, none⟩ = some (.int .u8 (b : Int)) := HX.out.cell 1
    have c2 : W2.drew.cell? ⟨W.heap.size, 2, none⟩ = some (.int .u8 (c : Int)) := HX.out.cell 2
    have c3 : W2.drew.cell? ⟨W.heap.size, 3, none⟩ = some (.int .u8 (d : Int)) := HX.out.cell 3
    have c4 : W2.drew.cell? ⟨W.heap.size, 4, none⟩ = some (.int .u8 (e : Int)) := HX.out.cell 4
    have d0 : W2.cell? ⟨W.heap.size, 0, none⟩ = some (.int .u8 (a : Int)) := HX.out.cell 0
    have d1 : W2.cell? ⟨W.heap.size, 1, none⟩ = some (.int .u8 (b : Int)) := HX.out.cell 1
    have d2 : W2.cell? ⟨W.heap.size, 2, none⟩ = some (.int .u8 (c : Int)) := HX.out.cell 2
    have d3 : W2.cell? ⟨W.heap.size, 3, none⟩ = some (.int .u8 (d : Int)) := HX.out.cell 3
    have d4 : W2.cell? ⟨W.heap.size, 4, none⟩ = some (.int .u8 (e : Int)) := HX.out.cell 4
    go_region_held3 (fun w' => w'.cell? ⟨W.heap.size, 0, none⟩ = some (.int .u8 (a : Int)) ∧ w'.cell? ⟨W.heap.size, 1, none⟩ = some (.int .u8 (b : Int)) ∧ w'.cell? ⟨W.heap.size, 2, none⟩ = some (.int .u8 (c : Int)) ∧ w'.cell? ⟨W.heap.size, 3, none⟩ = some (.int .u8 (d : Int)) ∧ w'.cell? ⟨W.heap.size, 4, none⟩ = some (.int .u8 (e : Int)))
      (first | exact ⟨c0, c1, c2, c3, c4⟩ | go_keep) (fail)
    all_goals
      go_wp2_with fail
      go_meet
      exact ⟨rfl, sayIn_mk hB0 HX.out HY.out hsz _ _ _ _ _⟩
  case rest =>
    obtain ⟨rfl, hb, hx, hy, op, cl, sq, k, v, hz⟩ := hcut
    have HXX := Lib.hid hx
    have HYY := Lib.hid hy
    have HZ := Lib.hid hz
    have HB := Lib.hid hb
    have hlt := hz.lt
    clear hx hy hz hb HX HY hB0 r1 r2 r3
    have z0 := HZ.out.cell 0
    have z1 := HZ.out.cell 1
    have z2 := HZ.out.cell 2
    have z3 := HZ.out.cell 3
    have z4 := HZ.out.cell 4
    have z5 := HZ.out.cell 5
    have v0 := HZ.out.frozen 0
    have v1 := HZ.out.frozen 1
    have v2 := HZ.out.frozen 2
    have v3 := HZ.out.frozen 3
    have v4 := HZ.out.frozen 4
    have v5 := HZ.out.frozen 5
    have y0 := HYY.out.cell 0
    have y1 := HYY.out.cell 1
    have y2 := HYY.out.cell 2
    have y3 := HYY.out.cell 3
    have y4 := HYY.out.cell 4
    have y5 := HYY.out.cell 5
    have x0 := HYY.out.frozen 0
    have x1 := HYY.out.frozen 1
    have x2 := HYY.out.frozen 2
    have x3 := HYY.out.frozen 3
    have x4 := HYY.out.frozen 4
    have x5 := HYY.out.frozen 5
    by_cases o0 : op = 0
    · subst o0
      go_wp2
      refine bodyPost_ret (results_cell_row rfl _ _ (W.heap.size + 1) 59 _ (0, 0) _ rfl (HYY.out.set6 (.int .i64 0) (.int .i64 0) (.int .i64 0) (.string ⟨#[]⟩) (.string ⟨#[]⟩) (.string ⟨#[]⟩)) Tryz.underlying59 rfl (by kernel_rfl)) rfl
        ⟨⟨0, 0, 0, ⟨#[]⟩, ⟨#[]⟩, ⟨#[]⟩⟩, rfl, HB.out.trans ((Fr.set6 _ (W.heap.size + 1) (.int .i64 0) (.int .i64 0) (.int .i64 0) (.string ⟨#[]⟩) (.string ⟨#[]⟩) (.string ⟨#[]⟩)).toBelow (n := W.heap.size) (fun k e => by omega) HB.out.size)⟩
    · have e0 : (op == 0) = false := by simpa using o0
      by_cases o2 : op = 2
      · subst o2
        have HV := Lib.hid (HYY.out.kept (grown_set wc (W.heap.size + 2) 4 (.string ⟨#[]⟩)) (by simp))
        have HW := Lib.hid (HB.out.trans ((Fr.set wc (W.heap.size + 2) 4 (.string ⟨#[]⟩)).toBelow (n := W.heap.size) (fun k e => by omega) HB.out.size))
        go_wp2
        refine bodyPost_ret (results_cell_row rfl _ _ (W.heap.size + 1) 59 _ (0, 0) _ rfl (HV.out.set6 (.int .i64 2) (.int .i64 cl) (.int .i64 sq) (.string k) (.string ⟨#[]⟩) (.string ⟨#[]⟩)) Tryz.underlying59 rfl (by kernel_rfl)) rfl
          ⟨⟨2, cl, sq, k, ⟨#[]⟩, ⟨#[]⟩⟩, rfl, HW.out.trans ((Fr.set6 _ (W.heap.size + 1) (.int .i64 2) (.int .i64 cl) (.int .i64 sq) (.string k) (.string ⟨#[]⟩) (.string ⟨#[]⟩)).toBelow (n := W.heap.size) (fun k e => by omega) HW.out.size)⟩
      · have e2 : (op == 2) = false := by simpa using o2
        by_cases o3 : op = 3
        · subst o3
          have HV := Lib.hid (HYY.out.kept (grown_set wc (W.heap.size + 2) 5 (.string (t4 ++ t5))) (by simp))
          have HW := Lib.hid (HB.out.trans ((Fr.set wc (W.heap.size + 2) 5 (.string (t4 ++ t5))).toBelow (n := W.heap.size) (fun k e => by omega) HB.out.size))
          have c5 : wc.drew.cell? ⟨W.heap.size, 5, none⟩ = some (.int .u8 (f : Int)) := HXX.out.cell 5
          have d5 : wc.cell? ⟨W.heap.size, 5, none⟩ = some (.int .u8 (f : Int)) := HXX.out.cell 5
          have w5 : wc.drew.cell? ⟨W.heap.size + 2, 5, none⟩ = some (.string ⟨#[]⟩) := HZ.out.cell 5
          go_wp2_with fail
          go_region_held3 (fun w' => w'.cell? ⟨W.heap.size, 5, none⟩ = some (.int .u8 (f : Int)))
            (first | exact c5 | go_keep) (fail)
          all_goals
            go_wp2
            refine bodyPost_ret (results_cell_row rfl _ _ (W.heap.size + 1) 59 _ (0, 0) _ rfl (HV.out.set6 (.int .i64 3) (.int .i64 cl) (.int .i64 sq) (.string k) (.string v) (.string (t4 ++ t5))).drew Tryz.underlying59 rfl (by kernel_rfl)) rfl
              ⟨⟨3, cl, sq, k, v, t4 ++ t5⟩, rfl, (HW.out.trans ((Fr.set6 _ (W.heap.size + 1) (.int .i64 3) (.int .i64 cl) (.int .i64 sq) (.string k) (.string v) (.string (t4 ++ t5))).toBelow (n := W.heap.size) (fun k e => by omega) HW.out.size)).drew⟩
        · have e3 : (op == 3) = false := by simpa using o3
          go_wp2
          refine bodyPost_ret (results_cell_row rfl _ _ (W.heap.size + 1) 59 _ (0, 0) _ rfl (HYY.out.set6 (.int .i64 op) (.int .i64 cl) (.int .i64 sq) (.string k) (.string v) (.string ⟨#[]⟩)) Tryz.underlying59 rfl (by kernel_rfl)) rfl
            ⟨⟨op, cl, sq, k, v, ⟨#[]⟩⟩, rfl, HB.out.trans ((Fr.set6 _ (W.heap.size + 1) (.int .i64 op) (.int .i64 cl) (.int .i64 sq) (.string k) (.string v) (.string ⟨#[]⟩)).toBelow (n := W.heap.size) (fun k e => by omega) HB.out.size)⟩
end Go.Proofs.YtjkkclfndlfjhaaGreatDoor
/- Contract of Entries: up to 80 entries. -/
namespace Go.Proofs.YtjkkclfndlfjhaaGreatDoor
open Go.RowKit Crc Frm Go.ChangeShapes Go.WideShapes Go.ChangeAt

/-- The first ones of a slice. -/
theorem IsL.cut {α : Type} {L : Lay α} {w : World} {A : Option Addr} {n cap : Nat} {xs : List α} (h : IsL w L (.slice A n cap) xs) (m : Nat) (hm : m ≤ xs.length) : IsL w L (.slice A m cap) (xs.take m) := by
  obtain ⟨A', cap', hv, hl, hc, hr⟩ := h
  simp only [Value.slice.injEq] at hv
  obtain ⟨rfl, rfl, rfl⟩ := hv
  have hlen : (xs.take m).length = m := by rw [List.length_take]; omega
  refine ⟨A, cap, by rw [hlen], by omega, hc, fun hp => ?_⟩
  obtain ⟨b, off, rfl, hcell⟩ := hr (by omega)
  refine ⟨b, off, rfl, fun j u hu => hcell j u ?_⟩
  have e : L.flat xs = L.flat (xs.take m) ++ L.flat (xs.drop m) := by rw [← Lay.flat_append, List.take_append_drop]
  rw [e, List.getElem?_append_left (List.getElem?_eq_some_iff.1 hu).1]
  exact hu

set_option maxRecDepth 100000 in
set_option maxHeartbeats 3200000 in
theorem entries_any (u : Value) (ss : List Sy) (i0 t0 : Int) (W : World) (hu : IsL W laySy u ss) (hsl : ss.length ≤ 2000000) :
    Calls Tryz.prog 12 #[u, .int .i64 i0, .int .i64 t0] W fun e W' => ∃ v es, e = .returned v ∧ OwnL W' W.heap.size 61 layEn v es ∧ es.length ≤ 80 ∧ Below W.heap.size W W' := by
  obtain ⟨f0, hi0, hz0, hz1, hz2⟩ := info_parts info61
  obtain ⟨A, cap, rfl, hcl, hcm, -⟩ := id hu
  have hmax : cap ≤ 9223372036854775807 := hcm
  have HU := Lib.hid hu
  clear hu hcm
  go_enter Tryz.func12, Tryz.ntmps12
  go_upto_region 2 with fail
  go_cut [14, 15, 16] from 10 to 37 (fun s14 s15 s16 wx => ∃ m : Nat, m ≤ 80 ∧ m ≤ ss.length ∧ s14 = .slice A m cap ∧ s15 = .int .i64 (m : Int) ∧ s16 = .int .i64 0 ∧ wx = W)
  case first =>
    by_cases h : ss.length ≤ 80
    · go_wp2_with fail
      go_meet
      exact ⟨ss.length, h, Nat.le_refl _, rfl, rfl, rfl, rfl⟩
    · have h' : 80 < ss.length := by omega
      go_wp2_with fail
      go_meet
      exact ⟨80, Nat.le_refl _, by omega, rfl, rfl, rfl, rfl⟩
  case rest =>
    obtain ⟨m, hm1, hm2, rfl, rfl, rfl, rfl⟩ := hcut
    obtain ⟨ts, hts, htl⟩ : ∃ ts : List Sy, IsL wc laySy (.slice A m cap) ts ∧ ts.length = m := ⟨ss.take m, HU.out.cut m hm2, by rw [List.length_take]; omega⟩
    have HT := Lib.hid hts
    clear hts HU
    go_wp2
    go_loopw [2, 7, 16] (fun s2 s7 i wr => ∃ (j : Nat) (t : Int) (es : List En), j ≤ m ∧ s2 = .int .i64 t ∧ i = .int .i64 (j : Int) ∧ OwnL wr wc.heap.size 61 layEn s7 es ∧ es.length = j ∧ Below wc.heap.size wc wr) (fun _ _ i _ => m - (intOf i).toNat)
    case atStart => exact ⟨0, t0, [], by omega, rfl, rfl, OwnL.nil _ _ _ _, rfl, Below.refl _ _⟩
    case round =>
      obtain ⟨j, t, es, hj, rfl, rfl, ho, hel, hb⟩ := hrel
      have HO := Lib.hid ho
      have HB := Lib.hid hb
      have hbs := hb.size
      clear ho hb
      by_cases hjl : j < m
      · obtain ⟨x, hx⟩ : ∃ x, ts[j]? = some x := ⟨_, List.getElem?_eq_getElem (by omega)⟩
        obtain ⟨b, off, hA, hcell⟩ := (HT.out.below HB.out (Nat.le_refl _)).at_ hx
        obtain rfl := hA
        have c0 : wr.cell? ⟨b, off + j * 6, none⟩ = some (.int .u8 (x.op.toNat : Int)) := hcell 0 _ rfl
        have c1 : wr.cell? ⟨b, off + j * 6 + 1, none⟩ = some (.int .u8 (x.client.toNat : Int)) := hcell 1 _ rfl
        have c2 : wr.cell? ⟨b, off + j * 6 + 2, none⟩ = some (.int .u8 (x.seq.toNat : Int)) := hcell 2 _ rfl
        have c3 : wr.cell? ⟨b, off + j * 6 + 3, none⟩ = some (.int .u8 (x.key.toNat : Int)) := hcell 3 _ rfl
        have c4 : wr.cell? ⟨b, off + j * 6 + 4, none⟩ = some (.int .u8 (x.val.toNat : Int)) := hcell 4 _ rfl
        have c5 : wr.cell? ⟨b, off + j * 6 + 5, none⟩ = some (.int .u8 (x.old.toNat : Int)) := hcell 5 _ rfl
        have HOA := Lib.hid (HO.out.alloc (.cells #[.int .u8 (x.op.toNat : Int), .int .u8 (x.client.toNat : Int), .int .u8 (x.seq.toNat : Int), .int .u8 (x.key.toNat : Int), .int .u8 (x.val.toNat : Int), .int .u8 (x.old.toNat : Int)] 126))
        have HBA := Lib.hid (HB.out.alloc hbs (.cells #[.int .u8 (x.op.toNat : Int), .int .u8 (x.client.toNat : Int), .int .u8 (x.seq.toNat : Int), .int .u8 (x.key.toNat : Int), .int .u8 (x.val.toNat : Int), .int .u8 (x.old.toNat : Int)] 126))
        clear hcell hx
        by_cases hop : 230 < x.op.toNat
        · go_wp2_with fail
          refine (cmd_any x _).mono ?_
          rintro e w4 ⟨c, rfl, hb4⟩
          have hs4 := hb4.size
          rw [World.size_alloc] at hs4
          have HB4 := Lib.hid (HBA.out.trans (hb4.mono HBA.out.size))
          have HO4 := Lib.hid (HOA.out.below hb4 (Nat.le_refl _))
          clear hb4 c0 c1 c2 c3 c4 c5
          unfold Cm.v
          go_wp2_with (at_builtin; refine wpl_append_el _ rfl 32 61 (.tmp 26) (.tmp 34) rfl wc.heap.size u7 es ⟨wrap64 (i0 + (j : Int)), wrap64 (t + 1), c⟩ f0 _ 88 Tryz.underlying32 hi0 hz0 hz1 hz2 rfl (by decide) rfl (HO4.out.alloc _) ⟨w4.heap.size, 0, none⟩ 1 rfl (fun q y hy => cells_new w4 61 #[.int .i64 (wrap64 (i0 + (j : Int))), .int .i64 (wrap64 (t + 1)), .int .i64 c.op, .int .i64 c.client, .int .i64 c.seq, .string c.key, .string c.val, .string c.old] q y hy) (by omega) (by simp; omega) ?_)
          intro v5 w5 ho5 hg5 _
          have HO5 := Lib.hid ho5
          have HB5 := Lib.hid ((HB4.out.alloc (by omega) _).grown hg5 (by rw [World.size_alloc]; omega) fun k hk => (HO4.out.lt k hk).1)
          clear ho5 hg5
          go_wp2
          go_roundw
          case rel => exact ⟨j + 1, wrap64 (t + 1), es ++ [⟨wrap64 (i0 + (j : Int)), wrap64 (t + 1), c⟩], by omega, rfl, by go_num, HO5.out, by rw [List.length_append]; simp; omega, HB5.out⟩
          case measure => simp [intOf]; omega
        · go_wp2_with fail
          refine (cmd_any x _).mono ?_
          rintro e w4 ⟨c, rfl, hb4⟩
          have hs4 := hb4.size
          rw [World.size_alloc] at hs4
          have HB4 := Lib.hid (HBA.out.trans (hb4.mono HBA.out.size))
          have HO4 := Lib.hid (HOA.out.below hb4 (Nat.le_refl _))
          clear hb4 c0 c1 c2 c3 c4 c5
          unfold Cm.v
          go_wp2_with (at_builtin; refine wpl_append_el _ rfl 32 61 (.tmp 26) (.tmp 34) rfl wc.heap.size u7 es ⟨wrap64 (i0 + (j : Int)), t, c⟩ f0 _ 88 Tryz.underlying32 hi0 hz0 hz1 hz2 rfl (by decide) rfl (HO4.out.alloc _) ⟨w4.heap.size, 0, none⟩ 1 rfl (fun q y hy => cells_new w4 61 #[.int .i64 (wrap64 (i0 + (j : Int))), .int .i64 (t), .int .i64 c.op, .int .i64 c.client, .int .i64 c.seq, .string c.key, .string c.val, .string c.old] q y hy) (by omega) (by simp; omega) ?_)
          intro v5 w5 ho5 hg5 _
          have HO5 := Lib.hid ho5
          have HB5 := Lib.hid ((HB4.out.alloc (by omega) _).grown hg5 (by rw [World.size_alloc]; omega) fun k hk => (HO4.out.lt k hk).1)
          clear ho5 hg5
          go_wp2
          go_roundw
          case rel => exact ⟨j + 1, t, es ++ [⟨wrap64 (i0 + (j : Int)), t, c⟩], by omega, rfl, by go_num, HO5.out, by rw [List.length_append]; simp; omega, HB5.out⟩
          case measure => simp [intOf]; omega
      · obtain rfl : j = m := by omega
        go_wp2
        go_ret
        exact ⟨_, es, rfl, HO.out, by omega, HB.out⟩
end Go.Proofs.YtjkkclfndlfjhaaGreatDoor
