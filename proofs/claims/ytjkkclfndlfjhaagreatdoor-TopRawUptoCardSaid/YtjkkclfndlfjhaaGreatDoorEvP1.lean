/- What has to be looked up of a program, as a check that the kernel runs. -/
import Derived.Test.YtjkkclfndlfjhaaGreatDoorEvD
import Derived.Test.YtjkkclfndlfjhaaGreatDoorEvRun
set_option linter.all false
set_option linter.unusedSimpArgs false
namespace Go.Proofs.YtjkkclfndlfjhaaGreatDoor.Ev
open Go Go.RowKit

def Tr.ents {α : Type} : Tr α → Nat → Nat → List (Nat × α)
  | .e, _, _ => []
  | .n v l r, b, m => (match v with | some a => [(b, a)] | none => []) ++ (l.ents (b + m) (2 * m) ++ r.ents (b + 2 * m) (2 * m))
theorem Tr.mem_ents_at {α : Type} : ∀ (t : Tr α) {k b m : Nat} {a : α}, t.get k = some a → (b + m * k, a) ∈ t.ents b m
  | .e, k, b, m, a, h => by cases h
  | .n v l r, k, b, m, a, h => by
    rw [Tr.get_n] at h
    unfold Tr.ents
    by_cases h0 : k = 0
    · subst h0
      rw [if_pos rfl] at h
      subst h
      simp
    · rw [if_neg h0] at h
      refine List.mem_append_right _ (List.mem_append.2 ?_)
      by_cases h1 : k % 2 = 1
      · rw [if_pos h1] at h
        have := Tr.mem_ents_at l (b := b + m) (m := 2 * m) h
        rw [show b + m * k = b + m + 2 * m * (k / 2) by
          have e : k = 2 * (k / 2) + 1 := by omega
          conv => lhs; rw [e]
          rw [Nat.mul_add, ← Nat.mul_assoc, Nat.mul_comm m 2]; omega]
        exact .inl this
      · rw [if_neg h1] at h
        have := Tr.mem_ents_at r (b := b + 2 * m) (m := 2 * m) h
        rw [show b + m * k = b + 2 * m + 2 * m * (k / 2 - 1) by
          have e : k = 2 * (k / 2 - 1) + 2 := by omega
          conv => lhs; rw [e]
          rw [Nat.mul_add, ← Nat.mul_assoc, Nat.mul_comm m 2]; omega]
        exact .inr this
theorem Tr.mem_ents {α : Type} (t : Tr α) {k : Nat} {a : α} (h : t.get k = some a) : (k, a) ∈ t.ents 0 1 := by
  have := Tr.mem_ents_at t (b := 0) (m := 1) h
  rw [Nat.zero_add, Nat.one_mul] at this
  exact this
theorem forall_cons {α : Type} {p : α → Prop} {a : α} {l : List α} (h : p a) (t : ∀ x ∈ l, p x) : ∀ x ∈ a :: l, p x := List.forall_mem_cons.2 ⟨h, t⟩

-- TYPES

def zeroC : CV → Value → Bool
  | .b x, .bool y => x == y
  | .i k n, .int k' n' => decide (k = k') && decide (n = n')
  | .s [], .string s => s.data.size == 0
  | .np, .pointer none => true
  | .ns, .slice none 0 0 => true
  | .nm, .map none => true
  | .nf, .nilFunc => true
  | .ni, .nilIface => true
  | _, _ => false
theorem zeroC_ok {c : CV} {v : Value} (h : zeroC c v = true) (g : Gh) : RC g c v := by
  unfold zeroC at h
  split at h
  · rw [beq_iff_eq] at h; subst h; rfl
  · rw [Bool.and_eq_true, decide_eq_true_iff, decide_eq_true_iff] at h
    obtain ⟨rfl, rfl⟩ := h; rfl
  · rename_i s
    refine ⟨?_, fun x hx => by cases hx⟩
    obtain ⟨d⟩ := s
    have : d = #[] := by
      rw [beq_iff_eq] at h
      exact Array.eq_empty_of_size_eq_zero h
    rw [this]; rfl
  all_goals first | rfl | cases h
def zeroL : List CV → List Value → Bool
  | [], [] => true
  | a :: l, b :: m => zeroC a b && zeroL l m
  | _, _ => false
theorem zeroL_ok : ∀ {l : List CV} {m : List Value}, zeroL l m = true → ∀ g, F2 (RC g) l m
  | [], [], _, g => .nil
  | [], _ :: _, h, g => by cases h
  | _ :: _, [], h, g => by cases h
  | a :: l, b :: m, h, g => by
    replace h : (zeroC a b && zeroL l m) = true := h
    rw [Bool.and_eq_true] at h
    exact .cons (zeroC_ok h.1 g) (zeroL_ok h.2 g)
def shChk (P : Program) : TypeDesc → Sh → Bool
  | .int k, .int k' => decide (k = k')
  | .bool, .bool => true
  | .string, .str => true
  | .pointer _, .ptr => true
  | .func .., .func => true
  | .slice e, .slc e' => e == e'
  | .array n e, .arr n' e' => n == n' && e == e'
  | .map k e, .map k' e' => k == k' && e == e'
  | .struct F, .st fs => decide (F.toList.map (fun f => (f.type, f.offset)) = fs) && F.toList.all (fun f => P.cellsOf f.type != 0)
  | _, _ => false
theorem shChk_ok {P : Program} {d : TypeDesc} {s : Sh} (h : shChk P d s = true) : ShOk P d s := by
  unfold shChk at h
  split at h
  · rw [decide_eq_true_iff] at h; subst h; rfl
  · rfl
  · rfl
  · exact ⟨_, rfl⟩
  · exact ⟨_, _, _, rfl⟩
  · rw [beq_iff_eq] at h; subst h; rfl
  · rw [Bool.and_eq_true, beq_iff_eq, beq_iff_eq] at h; obtain ⟨rfl, rfl⟩ := h; rfl
  · rw [Bool.and_eq_true, beq_iff_eq, beq_iff_eq] at h; obtain ⟨rfl, rfl⟩ := h; rfl
  · rename_i F fs
    rw [Bool.and_eq_true, decide_eq_true_iff] at h
    exact ⟨F.toList, by simp, h.1, fun f hf => by
      have := List.all_eq_true.1 h.2 f hf
      simpa using this⟩
  · cases h
def isAggV : Value → Bool
  | .agg _ => true
  | _ => false
def tyChk (P : Program) (t : Nat) (i : TI) : Bool :=
  match P.info? t, P.underlying t with
  | some inf, some d => match inf.zero with
    | some z => (i.zero.length == i.size) && (inf.size == i.size) && (inf.bytes == i.bytes) && zeroL i.zero z.cells.toList && (isAggV z == i.agg) && shChk P d i.sh
    | none => false
  | _, _ => false
theorem tyChk_ok {P : Program} {t : Nat} {i : TI} (h : tyChk P t i = true) : TyOk P t i := by
  unfold tyChk at h
  split at h
  · rename_i inf d hi hd
    split at h
    · rename_i z hz
      simp only [Bool.and_eq_true, beq_iff_eq] at h
      obtain ⟨⟨⟨⟨⟨h1, h2⟩, h3⟩, h4⟩, h5⟩, h6⟩ := h
      refine ⟨h1, ⟨inf, z, hi, h2, h3, hz, zeroL_ok h4, fun ha => ?_, fun ha => ?_⟩, d, hd, shChk_ok h6⟩
      · rw [ha] at h5
        cases z <;> try cases h5
        rename_i A
        exact ⟨A.toList, by simp⟩
      · rw [ha] at h5
        cases z <;> first | rfl | cases h5
    · cases h
  · cases h

end Go.Proofs.YtjkkclfndlfjhaaGreatDoor.Ev
/- The given program answers the evaluator's tables. -/
namespace Go.Proofs.YtjkkclfndlfjhaaGreatDoor
open Go Ev
set_option maxRecDepth 100000
theorem fn_ents : fnTab.ents 0 1 = [(31, Tryz.f31), (63, Tryz.f63), (95, Tryz.f95), (47, Tryz.f47), (143, Tryz.f143), (271, Tryz.f271), (175, Tryz.f175), (239, Tryz.f239), (23, Tryz.f23), (39, Tryz.f39), (71, Tryz.f71), (135, Tryz.f135), (167, Tryz.f167), (55, Tryz.f55), (87, Tryz.f87), (151, Tryz.f151), (119, Tryz.f119), (183, Tryz.f183), (247, Tryz.f247), (19, Tryz.f19), (35, Tryz.f35), (99, Tryz.f99), (163, Tryz.f163), (51, Tryz.f51), (147, Tryz.f147), (211, Tryz.f211), (115, Tryz.f115), (243, Tryz.f243), (27, Tryz.f27), (43, Tryz.f43), (171, Tryz.f171), (235, Tryz.f235), (59, Tryz.f59), (91, Tryz.f91), (123, Tryz.f123), (251, Tryz.f251), (5, Tryz.f5), (65, Tryz.f65), (193, Tryz.f193), (97, Tryz.f97), (81, Tryz.f81), (209, Tryz.f209), (113, Tryz.f113), (177, Tryz.f177), (25, Tryz.f25), (41, Tryz.f41), (73, Tryz.f73), (201, Tryz.f201), (169, Tryz.f169), (233, Tryz.f233), (57, Tryz.f57), (89, Tryz.f89), (217, Tryz.f217), (121, Tryz.f121), (13, Tryz.f13), (37, Tryz.f37), (69, Tryz.f69), (197, Tryz.f197), (101, Tryz.f101), (165, Tryz.f165), (229, Tryz.f229), (53, Tryz.f53), (85, Tryz.f85), (149, Tryz.f149), (117, Tryz.f117), (181, Tryz.f181), (29, Tryz.f29), (45, Tryz.f45), (141, Tryz.f141), (173, Tryz.f173), (237, Tryz.f237), (93, Tryz.f93), (285, Tryz.f285), (8, Tryz.f8), (32, Tryz.f32), (64, Tryz.f64), (48, Tryz.f48), (80, Tryz.f80), (272, Tryz.f272), (240, Tryz.f240), (40, Tryz.f40), (72, Tryz.f72), (200, Tryz.f200), (104, Tryz.f104), (168, Tryz.f168), (232, Tryz.f232), (88, Tryz.f88), (152, Tryz.f152), (120, Tryz.f120), (248, Tryz.f248), (20, Tryz.f20), (36, Tryz.f36), (68, Tryz.f68), (132, Tryz.f132), (196, Tryz.f196), (100, Tryz.f100), (164, Tryz.f164), (228, Tryz.f228), (148, Tryz.f148), (212, Tryz.f212), (116, Tryz.f116), (180, Tryz.f180), (244, Tryz.f244), (28, Tryz.f28), (44, Tryz.f44), (140, Tryz.f140), (204, Tryz.f204), (172, Tryz.f172), (236, Tryz.f236), (60, Tryz.f60), (92, Tryz.f92), (124, Tryz.f124), (252, Tryz.f252), (66, Tryz.f66), (194, Tryz.f194), (98, Tryz.f98), (50, Tryz.f50), (210, Tryz.f210), (114, Tryz.f114), (178, Tryz.f178), (26, Tryz.f26), (42, Tryz.f42), (74, Tryz.f74), (106, Tryz.f106), (170, Tryz.f170), (234, Tryz.f234), (154, Tryz.f154), (250, Tryz.f250), (14, Tryz.f14), (22, Tryz.f22), (38, Tryz.f38), (70, Tryz.f70), (134, Tryz.f134), (198, Tryz.f198), (166, Tryz.f166), (86, Tryz.f86), (150, Tryz.f150), (118, Tryz.f118), (182, Tryz.f182), (246, Tryz.f246), (30, Tryz.f30), (78, Tryz.f78), (206, Tryz.f206), (174, Tryz.f174), (238, Tryz.f238), (62, Tryz.f62), (94, Tryz.f94), (286, Tryz.f286), (190, Tryz.f190)] := by kernel_rfl
theorem fn_names : (fnTab.ents 0 1).all (fun p => p.2.name != "runtime.NumGoroutine") = true := by kernel_rfl
theorem fn_funcs : ∀ p ∈ fnTab.ents 0 1, Tryz.prog.funcs[p.1]? = some p.2 := by
  rw [fn_ents]
  exact forall_cons Tryz.func31 (forall_cons Tryz.func63 (forall_cons Tryz.func95 (forall_cons Tryz.func47 (forall_cons Tryz.func143 (forall_cons Tryz.func271 (forall_cons Tryz.func175 (forall_cons Tryz.func239 (forall_cons Tryz.func23 (forall_cons Tryz.func39 (forall_cons Tryz.func71 (forall_cons Tryz.func135 (forall_cons Tryz.func167 (forall_cons Tryz.func55 (forall_cons Tryz.func87 (forall_cons Tryz.func151 (forall_cons Tryz.func119 (forall_cons Tryz.func183 (forall_cons Tryz.func247 (forall_cons Tryz.func19 (forall_cons Tryz.func35 (forall_cons Tryz.func99 (forall_cons Tryz.func163 (forall_cons Tryz.func51 (forall_cons Tryz.func147 (forall_cons Tryz.func211 (forall_cons Tryz.func115 (forall_cons Tryz.func243 (forall_cons Tryz.func27 (forall_cons Tryz.func43 (forall_cons Tryz.func171 (forall_cons Tryz.func235 (forall_cons Tryz.func59 (forall_cons Tryz.func91 (forall_cons Tryz.func123 (forall_cons Tryz.func251 (forall_cons Tryz.func5 (forall_cons Tryz.func65 (forall_cons Tryz.func193 (forall_cons Tryz.func97 (forall_cons Tryz.func81 (forall_cons Tryz.func209 (forall_cons Tryz.func113 (forall_cons Tryz.func177 (forall_cons Tryz.func25 (forall_cons Tryz.func41 (forall_cons Tryz.func73 (forall_cons Tryz.func201 (forall_cons Tryz.func169 (forall_cons Tryz.func233 (forall_cons Tryz.func57 (forall_cons Tryz.func89 (forall_cons Tryz.func217 (forall_cons Tryz.func121 (forall_cons Tryz.func13 (forall_cons Tryz.func37 (forall_cons Tryz.func69 (forall_cons Tryz.func197 (forall_cons Tryz.func101 (forall_cons Tryz.func165 (forall_cons Tryz.func229 (forall_cons Tryz.func53 (forall_cons Tryz.func85 (forall_cons Tryz.func149 (forall_cons Tryz.func117 (forall_cons Tryz.func181 (forall_cons Tryz.func29 (forall_cons Tryz.func45 (forall_cons Tryz.func141 (forall_cons Tryz.func173 (forall_cons Tryz.func237 (forall_cons Tryz.func93 (forall_cons Tryz.func285 (forall_cons Tryz.func8 (forall_cons Tryz.func32 (forall_cons Tryz.func64 (forall_cons Tryz.func48 (forall_cons Tryz.func80 (forall_cons Tryz.func272 (forall_cons Tryz.func240 (forall_cons Tryz.func40 (forall_cons Tryz.func72 (forall_cons Tryz.func200 (forall_cons Tryz.func104 (forall_cons Tryz.func168 (forall_cons Tryz.func232 (forall_cons Tryz.func88 (forall_cons Tryz.func152 (forall_cons Tryz.func120 (forall_cons Tryz.func248 (forall_cons Tryz.func20 (forall_cons Tryz.func36 (forall_cons Tryz.func68 (forall_cons Tryz.func132 (forall_cons Tryz.func196 (forall_cons Tryz.func100 (forall_cons Tryz.func164 (forall_cons Tryz.func228 (forall_cons Tryz.func148 (forall_cons Tryz.func212 (forall_cons Tryz.func116 (forall_cons Tryz.func180 (forall_cons Tryz.func244 (forall_cons Tryz.func28 (forall_cons Tryz.func44 (forall_cons Tryz.func140 (forall_cons Tryz.func204 (forall_cons Tryz.func172 (forall_cons Tryz.func236 (forall_cons Tryz.func60 (forall_cons Tryz.func92 (forall_cons Tryz.func124 (forall_cons Tryz.func252 (forall_cons Tryz.func66 (forall_cons Tryz.func194 (forall_cons Tryz.func98 (forall_cons Tryz.func50 (forall_cons Tryz.func210 (forall_cons Tryz.func114 (forall_cons Tryz.func178 (forall_cons Tryz.func26 (forall_cons Tryz.func42 (forall_cons Tryz.func74 (forall_cons Tryz.func106 (forall_cons Tryz.func170 (forall_cons Tryz.func234 (forall_cons Tryz.func154 (forall_cons Tryz.func250 (forall_cons Tryz.func14 (forall_cons Tryz.func22 (forall_cons Tryz.func38 (forall_cons Tryz.func70 (forall_cons Tryz.func134 (forall_cons Tryz.func198 (forall_cons Tryz.func166 (forall_cons Tryz.func86 (forall_cons Tryz.func150 (forall_cons Tryz.func118 (forall_cons Tryz.func182 (forall_cons Tryz.func246 (forall_cons Tryz.func30 (forall_cons Tryz.func78 (forall_cons Tryz.func206 (forall_cons Tryz.func174 (forall_cons Tryz.func238 (forall_cons Tryz.func62 (forall_cons Tryz.func94 (forall_cons Tryz.func286 (forall_cons Tryz.func190 (fun p hp => by cases hp)))))))))))))))))))))))))))))))))))))))))))))))))))))))))))))))))))))))))))))))))))))))))))))))))))))))))))))))))))))))))))))))))))))))))))))))))))))
theorem fnOK : FnOK Tryz.prog fnTab.get := fun f fn h => by
  have hm := Tr.mem_ents fnTab h
  exact ⟨fn_funcs _ hm, by have := List.all_eq_true.1 fn_names _ hm; simpa using this⟩
theorem ty_ents : (tyTab.ents 0 1).all (fun p => tyChk Tryz.prog p.1 p.2) = true := by kernel_rfl
theorem tyAll : TyAll Tryz.prog tyTab.get := fun t i h => tyChk_ok (List.all_eq_true.1 ty_ents _ (Tr.mem_ents tyTab h))
theorem mixed : Tryz.prog.follows .mixedOrders = true := rfl
end Go.Proofs.YtjkkclfndlfjhaaGreatDoor
