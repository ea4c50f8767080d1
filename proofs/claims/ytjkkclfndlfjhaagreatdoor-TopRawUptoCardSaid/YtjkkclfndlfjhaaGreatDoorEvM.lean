/- One operation in a frame, on the machine; a region in its own order. -/
import Derived.Test.YtjkkclfndlfjhaaGreatDoorEvN
import Derived.AtR
set_option linter.all false
set_option linter.unusedSimpArgs false
namespace Go.Proofs.YtjkkclfndlfjhaaGreatDoor.Ev
open Go Go.RowKit

variable {P : Program} {ty : Nat → Option TI}

/-- An operation is carried out: what it gives, and the world behind it. -/
def Goes (P : Program) (b : Frame) (a : Act) (k : List Item) (cs : List Frame) (ops : Array Oper) (i : Nat) (rest : List Nat) (w : World) (V : Value) (w' : World) : Prop :=
  Steps P (lone (b.atR a (.inRegion ops (i :: rest) :: k)) cs w) (lone (b.atR (a.put ((ops[i]?).bind (·.dst)) V) (.inRegion ops rest :: k)) cs w')

section steps
variable {b : Frame} {a : Act} {k : List Item} {cs : List Frame} {ops : Array Oper} {i : Nat} {rest : List Nat} {w w' : World} {o : Oper}

theorem goes_value (ho : ops[i]? = some o) (hw : Region.wanted o (yielded ops a.tmps) = true) (hd : ∀ c, o.op ≠ .defer c) {V : Value} (hr : (execOp a.eval o).run P w = .ok (.value V) w') : Goes P b a k cs ops i rest w V w' := by
  unfold Goes
  rw [← Frame.finish_atR]
  refine .one (step_lone_go ?_)
  rw [stepGR_op ho hw, Oper.semAt_eq _ _ _ hd]
  simp [stepG.apply, hr]
theorem goes_skip (ho : ops[i]? = some o) (hw : Region.wanted o (yielded ops a.tmps) = true) (hd : ∀ c, o.op ≠ .defer c) (hr : (execOp a.eval o).run P w = .ok .skip w') : Goes P b a k cs ops i rest w undef w' := by
  unfold Goes
  rw [← Frame.finish_atR]
  refine .one (step_lone_go ?_)
  rw [stepGR_op ho hw, Oper.semAt_eq _ _ _ hd]
  simp [stepG.apply, hr]
theorem goes_enter (ho : ops[i]? = some o) (hw : Region.wanted o (yielded ops a.tmps) = true) (hd : ∀ c, o.op ≠ .defer c) {f : FuncId} {A : Array Value} {w1 : World} (hr : (execOp a.eval o).run P w = .ok (.enter f A) w1) {R : Value → World → Prop}
    (hc : Calls P f A w1 fun e w' => ∃ V, e = .returned V ∧ R V w') : ∃ V w', R V w' ∧ Goes P b a k cs ops i rest w V w' := by
  obtain ⟨e, w', fr, ⟨V, rfl, hR⟩, hcomes, _, hleave⟩ := hc (b.atR a (.inRegion ops (i :: rest) :: k) :: cs)
  refine ⟨V, w', hR, ?_⟩
  unfold Goes
  rw [← Frame.finish_atR]
  refine .head (step_lone_go ?_) (Steps.trans hcomes (.one (step_leave_returned hleave)))
  rw [stepGR_op ho hw, Oper.semAt_eq _ _ _ hd]
  simp [stepG.apply, hr, Frame.atR]
theorem goes_round (ho : ops[i]? = some o) (hw : Region.wanted o (yielded ops a.tmps) = true) (hd : ∀ c, o.op ≠ .defer c) {l : Nat} {f : FuncId} {T : Array Value} {x y : Code} {w1 : World} (hr : (execOp a.eval o).run P w = .ok (.round l f T x y) w1) {V : Value}
    (hc : Steps P (lone (Frame.round l f T x y .normal) (b.atR a (.inRegion ops (i :: rest) :: k) :: cs) w1) (lone ((b.atR a (.inRegion ops (i :: rest) :: k)).finish V) cs w')) : Goes P b a k cs ops i rest w V w' := by
  unfold Goes
  rw [← Frame.finish_atR]
  refine .head (step_lone_go ?_) hc
  rw [stepGR_op ho hw, Oper.semAt_eq _ _ _ hd]
  simp [stepG.apply, hr, Frame.atR]
end steps

/-- What is known of calls, and of rounds. -/
structure RecOK (P : Program) (n0 : Nat) (w0 : World) (R : Rec) : Prop where
  call : ∀ {g : Gh} {S : St} {w : World} {f : Nat} {args : List TV} {S' : St} {v : TV} {A : List Value}, Sim n0 w0 g S w → R.call f args S = some (v, S') → F2 (RT g) args A →
    (∀ w, (callFunc f A.toArray).run P w = .ok (.enter f A.toArray) w) ∧ Calls P f A.toArray w fun e w' => ∃ V, e = .returned V ∧ Post n0 w0 g S w v S' V w'
  yield : ∀ {g : Gh} {S : St} {w : World} {l : Nat} {args : List TV} {S' : St} {v : TV} {A : List Value} {L : Nat}, Sim n0 w0 g S w → R.yield l args S = some (v, S') → F2 (RT g) args A → g.var l = some L →
    ∃ f T x y, (Instr.yield L A.toArray).run P w = .ok (.round L f T x y) w ∧ ∀ c cs, ∃ V w', Steps P (lone (Frame.round L f T x y .normal) (c :: cs) w) (lone (c.finish V) cs w') ∧ Post n0 w0 g S w v S' V w'

theorem ptrs_rt {g : Gh} {l : List (Nat × Nat)} {F : List Value} (h : F2 (PtrV g) l F) : F2 (RT g) (ptrs l) F := by
  induction h with
  | nil => exact .nil
  | cons h1 _ ih => exact .cons h1 ih
theorem args_rt {g : Gh} {t : Tm} {ρ : Operand → Value} {l : List Operand} (hx : ∀ o ∈ l, OpR g t ρ o) {as : List TV} (h : mapO (opd t) l = some as) : F2 (RT g) as (l.map ρ) := by
  have hF := mapO_some h
  clear h
  induction hF with
  | nil => exact .nil
  | cons h1 _ ih => exact .cons (hx _ (by simp) _ h1) (ih fun o ho => hx o (by simp [ho]))

section
variable {n0 : Nat} {w0 : World} {R : Rec} {g : Gh} {S : St} {t : Tm} {w : World}
variable {b : Frame} {a : Act} {k : List Item} {cs : List Frame} {ops : Array Oper} {i : Nat} {rest : List Nat} {o : Oper}

/-- The loud operations. -/
theorem cl_no (hrec : RecOK P n0 w0 R) (hty : TyAll P ty) (hS : Sim n0 w0 g S w) (ho : ops[i]? = some o) (hw : Region.wanted o (yielded ops a.tmps) = true) (hx : ∀ x ∈ o.op.operands, OpR g t a.eval x) {f : St → Option (TV × St)} (h : cl ty R t o.op = .no f) {v : TV} {S' : St} (hv : f S = some (v, S')) :
    ∃ V w', Goes P b a k cs ops i rest w V w' ∧ Post n0 w0 g S w v S' V w' := by
  obtain ⟨dst, op, type, pos, after, guard⟩ := o
  cases op <;> simp only [cl] at h <;> try cases h
  all_goals first | (cases hv; done) | skip
  case store ti x y =>
    obtain ⟨w', hr, hp⟩ := nStore_sound hty hS (hx x (by simp [Op.operands])) (hx y (by simp [Op.operands])) hv
    exact ⟨undef, w', goes_skip ho hw (fun c => by simp) (by simp only [execOp, Sem.run_bind, hr, Result.andThen_ok, Sem.run_pure]), hp⟩
  case mapUpdate ti m q x =>
    obtain ⟨w', hr, hp⟩ := nMapUpdate_sound hty hS (hx m (by simp [Op.operands])) (hx q (by simp [Op.operands])) (hx x (by simp [Op.operands])) hv
    exact ⟨undef, w', goes_skip ho hw (fun c => by simp) (by simp only [execOp, Sem.run_bind, hr, Result.andThen_ok, Sem.run_pure]), hp⟩
  case call c =>
    obtain ⟨callee, args, argTypes⟩ := c
    cases callee with
    | invoke r m =>
      simp only [clCall] at h
      cases h; cases hv
    | builtin bi =>
      have hA : ∀ o ∈ args.toList, OpR g t a.eval o := fun o ho => hx o (by simpa [Op.operands, Call.operands] using ho)
      cases bi <;> simp only [clCall, clBuiltin] at h <;> cases h <;> try cases hv
      · obtain ⟨V, w', hr, hp⟩ := nAppend_sound hty hS hA (T := type) hv
        refine ⟨V, w', goes_value ho hw (fun c => by simp) ?_, hp⟩
        simp only [Array.toArray_toList] at hr
        simp only [execOp, resolve, invoke, builtin, map_args, Sem.run_bind, Sem.run_pure, hr, Result.andThen_ok]
      · obtain ⟨w', hr, hp⟩ := nDelete_sound hty hS hA (T := type) hv
        refine ⟨undef, w', goes_value ho hw (fun c => by simp) ?_, hp⟩
        simp only [Array.toArray_toList] at hr
        simp only [execOp, resolve, invoke, builtin, map_args, Sem.run_bind, Sem.run_pure, hr, Result.andThen_ok]
    | value fo =>
      simp only [clCall] at h
      cases h
      replace hv := bnd_some hv; obtain ⟨fv, hfv, hv⟩ := hv
      replace hv := bnd_some hv; obtain ⟨as, has, hv⟩ := hv
      have hA : ∀ o ∈ args.toList, OpR g t a.eval o := fun o ho => hx o (by simp [Op.operands, Call.operands]; exact .inr (by simpa using ho))
      have hF := hx fo (by simp [Op.operands, Call.operands])
      have hArgs := args_rt hA has
      unfold callV at hv
      split at hv
      · rename_i f first caps
        obtain ⟨F, C, e1, h1, h2⟩ := hF.c hfv
        rw [appR_eq, appR_eq] at hv
        obtain ⟨hc1, hc2⟩ := hrec.call hS hv ((ptrs_rt h1).append (hArgs.append (ptrs_rt h2)))
        obtain ⟨V, w', hp, hg⟩ := goes_enter (b := b) (k := k) (cs := cs) (rest := rest) ho hw (fun c => by simp) (f := f) (A := (F ++ (args.toList.map a.eval ++ C)).toArray) (w1 := w) (by
          have := hc1 w
          simp only [execOp, resolve, e1, Deferred.ofValue, invoke, map_args, Sem.run_bind, Sem.run_pure, Result.andThen_ok]
          simpa [List.append_assoc] using this) hc2
        exact ⟨V, w', hg, hp⟩
      · rename_i l
        obtain ⟨L, e1, hL⟩ := hF.c hfv
        obtain ⟨f, T, x, y, hy, hst⟩ := hrec.yield hS hv hArgs hL
        obtain ⟨V, w', hs, hp⟩ := hst (b.atR a (.inRegion ops (i :: rest) :: k)) cs
        refine ⟨V, w', goes_round ho hw (fun c => by simp) (w1 := w) ?_ hs, hp⟩
        simp only [execOp, resolve, e1, Deferred.ofValue, invoke, map_args, Sem.run_bind, Sem.run_pure, Result.andThen_ok]
        simpa using hy
      · cases hv

-- SLOTS

theorem TmR.op {n : Nat} (h : TmR g n t a.tmps) (x : Operand) : OpR g t a.eval x := by
  intro v hv
  cases x with
  | tmp k => exact (h.2 k v hv).2
  | const c => exact cvt_sound hv g
  | global q => cases hv
  | func f => cases hv; exact ⟨[], [], rfl, .nil, .nil⟩

theorem putT_put {n : Nat} (h : TmR g n t a.tmps) {d : Option Nat} (hd : ∀ x, d = some x → x < n) {v : TV} {V : Value} (hr : RT g v V) : TmR g n (putT t d v) (a.put d V).tmps := by
  cases d with
  | none => exact h
  | some x => exact h.upd (hd x rfl) hr
theorem keepT_kept {keep : Nat} {tk : Tm} (h : Kept keep tk) (d : Option Nat) (v : TV) : Kept keep (keepT keep tk d v) := by
  cases d with
  | none => exact h
  | some d =>
    intro k u hk
    unfold keepT at hk
    cases hb : bit keep d with
    | false => simp only [hb] at hk; exact h k u hk
    | true =>
      simp only [hb] at hk
      change upd tk d v k = some u at hk
      rw [upd_eq] at hk
      split at hk
      · rename_i e; subst e; exact hb
      · exact h k u hk
theorem keepT_put {n keep : Nat} {tk : Tm} (h : TmR g n tk a.tmps) (hk : Kept keep tk) {d : Option Nat} (hd : ∀ x, d = some x → x < n) {v : TV} {V : Value} (hr : RT g v V) : TmR g n (keepT keep tk d v) (a.put d V).tmps := by
  cases d with
  | none => exact h
  | some x =>
    show TmR g n (sel (bit keep x) (upd tk x v) tk) _
    cases hb : bit keep x with
    | true => exact h.upd (hd x rfl) hr
    | false =>
      refine ⟨by simp [Act.put, h.1], fun j u hj => ?_⟩
      have hne : j ≠ x := fun e => by subst e; have := hk j u hj; rw [hb] at this; cases this
      obtain ⟨h1, h2⟩ := h.2 j u hj
      refine ⟨h1, ?_⟩
      show RT g u ((a.tmps.setIfInBounds x V).getD j undef)
      rw [Array.getD_eq_getD_getElem?, Array.getElem?_setIfInBounds_ne (Ne.symm hne), ← Array.getD_eq_getD_getElem?]
      exact h2

theorem dstsOk_mem {n : Nat} : ∀ {l : List Oper}, dstsOk n l = true → ∀ o ∈ l, ∀ d, o.dst = some d → d < n
  | [], _, o, ho, _, _ => by simp at ho
  | x :: l, h, o, ho, d, hd => by
    have hrec : dstsOk n l = true ∧ ∀ d, x.dst = some d → d < n := by
      change (match x.dst with | some d => sel (Nat.blt d n) (dstsOk n l) false | none => dstsOk n l) = true at h
      cases hx : x.dst with
      | none => rw [hx] at h; exact ⟨h, by simp⟩
      | some d =>
        rw [hx] at h
        cases hb : Nat.blt d n with
        | false => simp only [hb] at h; cases h
        | true => simp only [hb] at h; exact ⟨h, fun d' e => by cases e; exact blt_true hb⟩
    rcases List.mem_cons.1 ho with rfl | ho
    · exact hrec.2 d hd
    · exact dstsOk_mem hrec.1 o ho d hd

theorem TmR.at_ {n : Nat} (h : TmR g n t a.tmps) {d : Nat} {v : TV} (hd : t d = some v) : ∃ V, a.tmps[d]? = some V ∧ RT g v V := by
  obtain ⟨h1, h2⟩ := h.2 d v hd
  rw [← h.1] at h1
  rw [Array.getD_eq_getD_getElem?, Array.getElem?_eq_getElem h1] at h2
  exact ⟨_, Array.getElem?_eq_getElem h1, h2⟩

theorem yieldedA_sound {q r : Bool} {x : Option TV} (h : yieldedA q x = some r) : ∃ u, x = some u ∧ ∀ V, RT g u V → ((match some V with | some (.bool b) => some b | _ => none : Option Bool) == some q) = r := by
  unfold yieldedA at h
  split at h
  · rename_i b
    cases h
    refine ⟨_, rfl, fun V hV => ?_⟩
    obtain rfl : V = .bool b := hV
    rw [eqB_eq]
    cases b <;> cases q <;> rfl
  · cases h
    refine ⟨_, rfl, fun V hV => ?_⟩
    obtain ⟨L, rfl, _⟩ := hV
    rfl
  · cases h

theorem wanted_sound {n : Nat} (h : TmR g n t a.tmps) {o : Oper} {q : Bool} (hq : wantedA ops.toList t o.guard = some q) : Region.wanted o (yielded ops a.tmps) = q := by
  unfold Region.wanted
  unfold wantedA at hq
  cases hgd : o.guard with
  | none => rw [hgd] at hq; exact Option.some.inj hq
  | some p =>
    obtain ⟨j, want⟩ := p
    rw [hgd] at hq
    replace hq := bnd_some hq; obtain ⟨oj, hoj, hq⟩ := hq
    replace hq := bnd_some hq; obtain ⟨d, hd, hq⟩ := hq
    obtain ⟨u, hu, hV⟩ := yieldedA_sound (g := g) hq
    obtain ⟨V, hT, hr⟩ := h.at_ hu
    have := hV V hr
    simp only [yielded]
    rw [show ops[j]? = some oj by simpa using hoj]
    simp only [Option.bind_some, hd, hT]
    exact this

-- A REGION IN ITS OWN ORDER

/-- What is kept over two steps. -/
theorem Keep.trans {H H' : Tr AB} {g1 g2 : Gh} {w1 w2 : World} (h : Keep g H w g1 w1) (k : Keep g1 H' w1 g2 w2)
    (hH : ∀ b o, H'.get b = some o → (∃ o', H.get b = some o') ∨ (∀ B, g1.var b = some B → w.heap.size ≤ B) ∧ ∀ B A, g1.arr B = some A → A.b = b → w.heap.size ≤ B) : Keep g H w g2 w2 := by
  refine ⟨Nat.le_trans h.size k.size, h.le.trans k.le, fun b B hb => ?_, fun B A hA => ?_, fun B hB h1 h2 => ?_⟩
  · rcases k.var b B hb with hb | hb
    · exact h.var b B hb
    · exact .inr (Nat.le_trans h.size hb)
  · rcases k.arr B A hA with ⟨A0, hA⟩ | hA
    · exact h.arr B A0 hA
    · exact .inr (Nat.le_trans h.size hA)
  · refine (k.same B (Nat.lt_of_lt_of_le hB h.size) (fun b o hb hv => ?_) fun A hA => ?_).trans (h.same B hB h1 h2)
    · rcases hH b o hb with ⟨o', hb'⟩ | ⟨hn, _⟩
      · rcases h.var b B hv with hv' | hv'
        · exact h1 b o' hb' hv'
        · omega
      · have := hn B hv; omega
    · cases hg : H'.get A.b with
      | none => rfl
      | some o =>
        exfalso
        rcases hH _ o hg with ⟨o', hb'⟩ | ⟨_, hn⟩
        · rcases h.arr B A hA with ⟨A0, hA0⟩ | hA'
          · obtain ⟨h', _, e⟩ := h.le.2 B A0 hA0
            rw [e] at hA
            cases hA
            rw [h2 A0 hA0] at hb'
            cases hb'
          · omega
        · have := hn B A hA rfl; omega

/-- From one state to another one. -/
structure Way (n0 : Nat) (w0 : World) (g : Gh) (S : St) (w : World) (g' : Gh) (S' : St) (w' : World) : Prop where
  sim : Sim n0 w0 g' S' w'
  keep : Keep g S.heap w g' w'
  next : S.next ≤ S'.next
  names : Names S S'
  gn : GN g S g'

theorem Way.refl (h : Sim n0 w0 g S w) : Way n0 w0 g S w g S w := ⟨h, ⟨Nat.le_refl _, Le.refl g, fun _ _ h => .inl h, fun _ A h => .inl ⟨A, h⟩, fun _ _ _ _ => rfl⟩, Nat.le_refl _, Names.refl S, GN.refl g S⟩
theorem Way.trans (hS : Sim n0 w0 g S w) {g1 g2 : Gh} {S1 S2 : St} {w1 w2 : World} (h : Way n0 w0 g S w g1 S1 w1) (k : Way n0 w0 g1 S1 w1 g2 S2 w2) : Way n0 w0 g S w g2 S2 w2 := by
  refine ⟨k.sim, h.keep.trans k.keep fun b o hb => ?_, Nat.le_trans h.next k.next, fun b o hb => ?_, h.gn.trans k.gn h.next h.names⟩
  · rcases h.names b o hb with ⟨o', h1⟩ | h1
    · exact .inl ⟨o', h1⟩
    · refine .inr ⟨fun B hB => ?_, fun B A hA hAb => ?_⟩
      · rcases h.keep.var b B hB with h2 | h2
        · have := (hS.vlt _ _ h2).1; omega
        · exact h2
      · rcases h.keep.arr B A hA with ⟨A0, h2⟩ | h2
        · obtain ⟨h', _, e⟩ := h.keep.le.2 B A0 h2
          rw [e] at hA; cases hA
          have := (hS.alt _ _ h2).1
          simp only at hAb; omega
        · exact h2
  · rcases k.names b o hb with ⟨o', h1⟩ | h1
    · exact h.names b o' h1
    · exact .inr (Nat.le_trans h.next h1)
theorem Post.way {v : TV} {S' : St} {V : Value} {w' : World} (h : Post n0 w0 g S w v S' V w') : ∃ g', Way n0 w0 g S w g' S' w' ∧ RT g' v V :=
  let ⟨g', h1, h2, h3, h4, h5, h6⟩ := h; ⟨g', ⟨h1, h2, h4, h5, h6⟩, h3⟩
theorem Way.post {v : TV} {S' : St} {V : Value} {w' : World} {g' : Gh} (h : Way n0 w0 g S w g' S' w') (hr : RT g' v V) : Post n0 w0 g S w v S' V w' := ⟨g', h.sim, h.keep, hr, h.next, h.names, h.gn⟩

/-- One operation, of whatever kind, in its own order. -/
theorem evCl_sound (hrec : RecOK P n0 w0 R) (hty : TyAll P ty) (hcmp : CmpAll P ty) {n : Nat} (hS : Sim n0 w0 g S w) (ht : TmR g n t a.tmps) (ho : ops[i]? = some o) (hw : Region.wanted o (yielded ops a.tmps) = true) {v : TV} {S' : St} (h : evCl S (cl ty R t o.op) = some (v, S')) :
    ∃ V w', Goes P b a k cs ops i rest w V w' ∧ Post n0 w0 g S w v S' V w' := by
  have hx : ∀ x ∈ o.op.operands, OpR g t a.eval x := fun x _ => ht.op x
  have hnd : (∀ c, o.op ≠ .defer c) ∨ cl ty R t o.op = .no fun _ => none := by
    cases ho : o.op <;> first | exact .inr rfl | exact .inl (fun c => by simp)
  rcases hnd with hnd | hnd
  case inr => rw [hnd] at h; cases h
  cases hc : cl ty R t o.op with
  | q x =>
    rw [hc] at h
    replace h := bnd_some h; obtain ⟨u, hu, h⟩ := h
    cases h
    subst hu
    obtain ⟨V, hV, hr⟩ := cl_q hty hcmp hx hc w
    exact ⟨V, w, goes_value ho hw hnd hV, same_post hS hr⟩
  | r f =>
    rw [hc] at h
    replace h := bnd_some h; obtain ⟨u, hu, h⟩ := h
    cases h
    obtain ⟨V, hV, hr⟩ := cl_r hty hx hc hS.heap hu
    exact ⟨V, w, goes_value ho hw hnd hV, same_post hS hr⟩
  | al x =>
    rw [hc] at h
    replace h := bnd_some h; obtain ⟨⟨ab, m⟩, hu, h⟩ := h
    cases h
    subst hu
    obtain ⟨O, hO, hm⟩ := cl_al hty hx hc w
    have hvn : g.var S.next = none := by
      cases hv : g.var S.next with
      | none => rfl
      | some B => have := (hS.vlt _ _ hv).1; omega
    obtain ⟨g', h1, h2, h3, h4, h5⟩ := hS.made hm (nm := S.next) (N := S.next + 1) hvn (fun B A hA e => by have := (hS.alt _ _ hA).1; omega) (by omega) (by omega) (Grew.alloc w O)
    exact ⟨_, _, goes_value ho hw hnd hO, g', h1, h2, h3, Nat.le_succ _, Names.set (.inr (Nat.le_refl _)), fun x X hx => (h4 x X hx).imp id fun e => by omega, fun X A hA => (h5 X A hA).imp id fun e => .inl (by omega)⟩
  | no f =>
    rw [hc] at h
    exact cl_no hrec hty hS ho hw hx hc h

theorem seq_sound (hrec : RecOK P n0 w0 R) (hty : TyAll P ty) (hcmp : CmpAll P ty) {n keep : Nat} (hd : dstsOk n ops.toList = true) : ∀ (l : List Oper) (i0 : Nat) (g : Gh) (S : St) (w : World) (tk t : Tm) (a : Act) (tk' : Tm) (S' : St),
    ops.toList.drop i0 = l → seqOps ty R keep ops.toList l tk t S = some (tk', S') → Sim n0 w0 g S w → TmR g n t a.tmps → TmR g n tk a.tmps → Kept keep tk →
    ∃ g' a' w', Steps P (lone (b.atR a (.inRegion ops (List.range' i0 l.length) :: k)) cs w) (lone (b.atR a' k) cs w') ∧ Way n0 w0 g S w g' S' w' ∧ TmR g' n tk' a'.tmps ∧ Kept keep tk' ∧ a'.defers = a.defers
  | [], i0, g, S, w, tk, t, a, tk', S', _, h, hS, _, htk, hk => by
    cases h
    exact ⟨g, a, w, .one stepR_region_end, .refl hS, htk, hk, rfl⟩
  | o :: l, i0, g, S, w, tk, t, a, tk', S', hl, h, hS, ht, htk, hk => by
    have ho : ops[i0]? = some o := by
      have := congrArg (fun l : List Oper => l[0]?) hl
      simpa using this
    have hl' : ops.toList.drop (i0 + 1) = l := by
      rw [← List.drop_drop, hl]; rfl
    have hmem : o ∈ ops.toList := List.mem_of_getElem? (by simpa using ho)
    have hdo := dstsOk_mem hd o hmem
    have hbind : (ops[i0]?).bind (·.dst) = o.dst := by rw [ho]; rfl
    rw [List.length_cons, List.range'_succ]
    replace h : bnd (wantedA ops.toList t o.guard) (fun q => match q with
      | true => bnd (evCl S (cl ty R t o.op)) fun p => seqOps ty R keep ops.toList l (keepT keep tk o.dst p.1) (putT t o.dst p.1) p.2
      | false => seqOps ty R keep ops.toList l (keepT keep tk o.dst undefA) (putT t o.dst undefA) S) = some (tk', S') := h
    replace h := bnd_some h; obtain ⟨q, hq, h⟩ := h
    have hw := wanted_sound (ops := ops) ht hq
    cases q with
    | true =>
      replace h := bnd_some h; obtain ⟨⟨v, S1⟩, hv, h⟩ := h
      obtain ⟨V, w1, hg, hp⟩ := evCl_sound (b := b) (k := k) (cs := cs) (rest := List.range' (i0 + 1) l.length) hrec hty hcmp hS ht ho hw hv
      obtain ⟨g1, hway, hr⟩ := hp.way
      obtain ⟨g2, a2, w2, hst, hway2, ht2, hk2, hdf⟩ := seq_sound hrec hty hcmp hd l (i0 + 1) g1 S1 w1 _ _ (a.put o.dst V) tk' S' hl' h hway.sim (putT_put (ht.mono hway.keep.le) hdo hr) (keepT_put (htk.mono hway.keep.le) hk hdo hr) (keepT_kept hk _ _)
      refine ⟨g2, a2, w2, Steps.trans ?_ hst, hway.trans hS hway2, ht2, hk2, by rw [hdf]; cases o.dst <;> rfl⟩
      unfold Goes at hg
      rw [hbind] at hg
      exact hg
    | false =>
      obtain ⟨g2, a2, w2, hst, hway2, ht2, hk2, hdf⟩ := seq_sound hrec hty hcmp hd l (i0 + 1) g S w _ _ (a.put o.dst undef) tk' S' hl' h hS (putT_put ht hdo (RT.undef g)) (keepT_put htk hk hdo (RT.undef g)) (keepT_kept hk _ _)
      refine ⟨g2, a2, w2, Steps.head ?_ hst, hway2, ht2, hk2, by rw [hdf]; cases o.dst <;> rfl⟩
      have := stepR_op_skip (P := P) (b := b) (a := a) (k := k) (cs := cs) (w := w) (ops := ops) (i := i0) (rest := List.range' (i0 + 1) l.length) (by rw [ho]; exact hw)
      rw [hbind] at this
      exact this

end
end Go.Proofs.YtjkkclfndlfjhaaGreatDoor.Ev
