/- A frame's body, calls and rounds: what the evaluator tells of them is what the machine does. -/
import Derived.Test.YtjkkclfndlfjhaaGreatDoorEvM
import Derived.RangeFuncLeaves
set_option linter.all false
set_option linter.unusedSimpArgs false
namespace Go.Proofs.YtjkkclfndlfjhaaGreatDoor.Ev
open Go Go.RowKit

variable {P : Program} {ty : Nat → Option TI}

/-- What is to be shown of a region whose order is drawn. -/
def DrawOK (P : Program) (ty : Nat → Option TI) (n0 : Nat) (w0 : World) (R : Rec) : Prop :=
  ∀ {g : Gh} {S : St} {w : World} {b : Frame} {a : Act} {k : List Item} {cs : List Frame} {ops : Array Oper} {id n keep : Nat} {t t' : Tm} {S' : St}, drawOps ty R keep ops.toList t S = some (t', S') → dstsOk n ops.toList = true →
    Sim n0 w0 g S w → TmR g n t a.tmps → Kept keep t →
    ∃ g' a' w', Steps P (lone (b.atR a (.code (.region id ops true) :: k)) cs w) (lone (b.atR a' k) cs w') ∧ Way n0 w0 g S w g' S' w' ∧ TmR g' n t' a'.tmps ∧ Kept keep t' ∧ a'.defers = a.defers

section
variable {n0 : Nat} {w0 : World} {R : Rec} {g : Gh} {S : St} {t : Tm} {w : World}
variable {b : Frame} {a : Act} {k : List Item} {cs : List Frame} {ops : Array Oper}

theorem region_sound (hrec : RecOK P n0 w0 R) (hdraw : DrawOK P ty n0 w0 R) (hty : TyAll P ty) (hcmp : CmpAll P ty) {id n keep : Nat} {draw : Bool} {t' : Tm} {S' : St} (h : evRegion ty R keep ops.toList draw t S = some (t', S')) (hd : dstsOk n ops.toList = true)
    (hS : Sim n0 w0 g S w) (ht : TmR g n t a.tmps) (hk : Kept keep t) :
    ∃ g' a' w', Steps P (lone (b.atR a (.code (.region id ops draw) :: k)) cs w) (lone (b.atR a' k) cs w') ∧ Way n0 w0 g S w g' S' w' ∧ TmR g' n t' a'.tmps ∧ Kept keep t' ∧ a'.defers = a.defers := by
  cases draw with
  | true => exact hdraw h hd hS ht hk
  | false =>
    obtain ⟨g', a', w', hst, h1, h2, h3, h4⟩ := seq_sound (b := b) (k := k) (cs := cs) hrec hty hcmp hd ops.toList 0 g S w t t a t' S' rfl h hS ht ht hk
    refine ⟨g', a', w', Steps.head stepR_region ?_, h1, h2, h3, h4⟩
    rw [List.range_eq_range']
    simpa using hst

/-- What is still to be done in a frame. -/
def ItR (g : Gh) (ro : Option Nat) : It → Item → Prop
  | .code c, x => x = .code c
  | .blk id, x => x = .inBlock id
  | .lp c, x => x = .inLoop c
  | .sc c, x => x = .inScope c
  | .bgn l, x => x = .beginRound ∧ ∃ L, ro = some L ∧ g.var l = some L
def MkR (g : Gh) (d : Nat) (df : Deferred) : Prop := ∃ D, df = { target := .collected D, args := #[] } ∧ g.var d = some D
theorem ItR.mono {g g' : Gh} (hl : Le g g') {ro : Option Nat} {x : It} {y : Item} (h : ItR g ro x y) : ItR g' ro x y := by
  cases x <;> first | exact h | skip
  obtain ⟨e, L, e2, h⟩ := h
  exact ⟨e, L, e2, hl.1 _ _ h⟩
theorem MkR.mono {g g' : Gh} (hl : Le g g') {d : Nat} {df : Deferred} (h : MkR g d df) : MkR g' d df := let ⟨D, e, h⟩ := h; ⟨D, e, hl.1 _ _ h⟩

theorem exit_some {ro : Option Nat} {id : Nat} : ∀ {r : List It} {k : List Item}, F2 (ItR g ro) r k →
    (∀ r', exitA id r = some r' → ∃ k', exitTo id k = some k' ∧ F2 (ItR g ro) r' k') ∧ (exitA id r = none → exitTo id k = none)
  | [], k, h => by cases h; exact ⟨fun r' h => (by cases h), fun _ => rfl⟩
  | x :: r, k, h => by
    cases h with
    | cons h1 ht =>
      obtain ⟨ih1, ih2⟩ := exit_some (id := id) ht
      cases x with
      | blk id' =>
        obtain rfl := h1
        have e : ∀ q, exitA id (.blk id' :: r) = q → (match Nat.beq id' id with | true => some r | false => exitA id r) = q := fun q h => h
        by_cases hid : id' = id
        · subst hid
          refine ⟨fun r' hr => ?_, fun hr => ?_⟩
          · have := e _ hr
            simp only [Nat.beq_refl] at this
            cases this
            exact ⟨_, by simp [exitTo], ht⟩
          · have := e _ hr
            simp only [Nat.beq_refl] at this
            cases this
        · have hb : Nat.beq id' id = false := by
            cases hx : Nat.beq id' id with
            | false => rfl
            | true => exact absurd (Nat.eq_of_beq_eq_true hx) hid
          refine ⟨fun r' hr => ?_, fun hr => ?_⟩
          · have := e _ hr
            rw [hb] at this
            obtain ⟨k', h2, h3⟩ := ih1 r' this
            exact ⟨k', by simpa [exitTo, hid] using h2, h3⟩
          · have := e _ hr
            rw [hb] at this
            simpa [exitTo, hid] using ih2 this
      | code c => obtain rfl := h1; exact ⟨fun r' hr => ih1 r' hr, fun hr => ih2 hr⟩
      | lp c => obtain rfl := h1; exact ⟨fun r' hr => ih1 r' hr, fun hr => ih2 hr⟩
      | sc c => obtain rfl := h1; exact ⟨fun r' hr => ih1 r' hr, fun hr => ih2 hr⟩
      | bgn l => obtain ⟨rfl, _⟩ := h1; exact ⟨fun r' hr => ih1 r' hr, fun hr => ih2 hr⟩

/-- How a frame stands where it is left. -/
def LeftAt (j : Option Code) (todo : List Item) : Prop :=
  match j with
  | none => todo = []
  | some .ret => ∃ k, todo = .code .ret :: k
  | some (.exit id) => ∃ k, todo = .code (.exit id) :: k ∧ exitTo id k = none
  | some _ => False

/-- The frame's round: here and there. -/
def RoR (g : Gh) (round : Option Nat) (ro : Option Nat) : Prop :=
  match round with
  | none => ro = none
  | some l => ∃ L, ro = some L ∧ g.var l = some L
theorem RoR.mono {g g' : Gh} (hl : Le g g') {round ro : Option Nat} (h : RoR g round ro) : RoR g' round ro := by
  cases round with
  | none => exact h
  | some l => obtain ⟨L, e, h⟩ := h; exact ⟨L, e, hl.1 _ _ h⟩

theorem Sim.loopAt (hS : Sim n0 w0 g S w) {l : Nat} {lp : Lp} (h : S.heap.get l = some (.loop lp)) : ∃ (B : Nat) (L : Loop), g.var l = some B ∧ B < w.heap.size ∧ w.heap[B]? = some (.loop L) ∧ L.state = lp.st ∧ L.pending = lp.pend ∧ L.fn = lp.fn ∧ TmR g lp.n lp.tmps L.tmps ∧ L.params.toList = lp.params ∧ L.assign = lp.assign ∧ L.body = lp.body ∧ g.var lp.mark = some L.defers ∧ Kept lp.keep lp.tmps := by
  obtain ⟨B, O, hB, hO, L, rfl, h1⟩ := hS.heap _ _ h
  exact ⟨B, L, hB, (hS.vlt _ _ hB).2.2, hO, h1⟩

/-- The loop's record turned. -/
theorem Sim.loopPut (hS : Sim n0 w0 g S w) {l : Nat} {lp : Lp} (h : S.heap.get l = some (.loop lp)) {B : Nat} {L : Loop} (hB : g.var l = some B) (hw : w.heap[B]? = some (.loop L)) (hall : L.state = lp.st ∧ L.pending = lp.pend ∧ L.fn = lp.fn ∧ TmR g lp.n lp.tmps L.tmps ∧ L.params.toList = lp.params ∧ L.assign = lp.assign ∧ L.body = lp.body ∧ g.var lp.mark = some L.defers ∧ Kept lp.keep lp.tmps)
    (st : LoopState) (pe : Option Code) : Way n0 w0 g S w g (S.put l (.loop { lp with st := st, pend := pe })) (w.putObj B (.loop { L with state := st, pending := pe })) := by
  obtain ⟨_, _, h3, h4, h5, h6, h7, h8, h9⟩ := hall
  obtain ⟨s1, s2⟩ := hS.turn (o' := .loop { lp with st := st, pend := pe }) hB h ⟨{ L with state := st, pending := pe }, rfl, rfl, rfl, h3, h4, h5, h6, h7, h8, h9⟩ (Turn.putObj (hS.vlt _ _ hB).2.2)
  exact ⟨s1, s2, Nat.le_refl _, Names.set (.inl ⟨_, h⟩), GN.refl g S⟩

theorem apply_enter {fr : Frame} {l : Nat} {sem : Sem Next} {f : FuncId} {A : Array Value} {w1 : World} (ht : fr.todo = .inRangeFunc l :: k) (hr : sem.run P w = .ok (.enter f A) w1) :
    (stepG.apply P true fr cs none sem w).bare = .go { frame := Frame.enter P f A .normal, callers := fr :: cs, status := .running, dying := none } w1 := by
  simp [stepG.apply, hr, ht]

/-- Into the iterator of a range, and out of it. -/
theorem steps_rangeFunc (hb : b.roundOf = none) {f : Operand} {params : Array Tmp} {assign body : Code} {F C : List Value} {fid : Nat} (hf : a.eval f = .func (.func fid) F.toArray C.toArray) {w1 w2 w3 : World} {jump : Option Code}
    (hw1 : w1 = (w.alloc (.deferred (some []))).alloc (.loop { state := .ready, pending := none, fn := b.fn, tmps := a.tmps, params, assign, body, defers := w.heap.size }))
    (henter : (callFunc fid (F ++ ([Value.func (.yield (w.heap.size + 1)) #[] #[]] ++ C)).toArray).run P w1 = .ok (.enter fid (F ++ ([Value.func (.yield (w.heap.size + 1)) #[] #[]] ++ C)).toArray) w1) {V : Value}
    (hcall : Steps P (lone (Frame.enter P fid (F ++ ([Value.func (.yield (w.heap.size + 1)) #[] #[]] ++ C)).toArray .normal) (b.atR { a with defers := { target := .collected w.heap.size, args := #[] } :: a.defers } (.inRangeFunc (w.heap.size + 1) :: k) :: cs) w1)
      (lone ((b.atR { a with defers := { target := .collected w.heap.size, args := #[] } :: a.defers } (.inRangeFunc (w.heap.size + 1) :: k)).finish V) cs w2))
    (hend : (Instr.endLoop (w.heap.size + 1)).run P w2 = .ok jump w3) :
    Steps P (lone (b.atR a (.code (.rangeFunc f params assign body) :: k)) cs w) (lone (b.atR { a with defers := { target := .collected w.heap.size, args := #[] } :: a.defers } ((jump.map Item.code).toList ++ k)) cs w3) := by
  have he := run_enterLoop_outer (P := P) (w := w) b.fn a.tmps params assign body
  have hstep : step P (lone (b.atR a (.code (.rangeFunc f params assign body) :: k)) cs w) = .next (lone (Frame.enter P fid (F ++ ([Value.func (.yield (w.heap.size + 1)) #[] #[]] ++ C)).toArray .normal)
      (b.atR { a with defers := { target := .collected w.heap.size, args := #[] } :: a.defers } (.inRangeFunc (w.heap.size + 1) :: k) :: cs) w1) := by
    refine step_lone_go ?_
    have hinv : ((do let d ← resolve ((b.atR { a with defers := { target := .collected w.heap.size, args := #[] } :: a.defers } (.inRangeFunc (w.heap.size + 1) :: k)).eval) { callee := .value f, args := #[.const (.func (.yield (w.heap.size + 1)) #[] #[])], argTypes := #[] } 0; invoke d.target d.args) : Sem Next).run P w1 =
        .ok (.enter fid (F ++ ([Value.func (.yield (w.heap.size + 1)) #[] #[]] ++ C)).toArray) w1 := by
      have : (b.atR { a with defers := { target := .collected w.heap.size, args := #[] } :: a.defers } (.inRangeFunc (w.heap.size + 1) :: k)).eval f = .func (.func fid) F.toArray C.toArray := by
        rw [← hf]; cases f <;> rfl
      simp only [resolve, this, Deferred.ofValue, invoke, Sem.run_bind, Sem.run_pure, Result.andThen_ok]
      simpa [Frame.eval, List.append_assoc] using henter
    have hcode : stepG P true { frame := b.atR a (.code (.rangeFunc f params assign body) :: k), callers := cs, status := .running, dying := none } w =
        (let (r, es) := (Instr.enterLoop b.fn a.tmps params assign body none).runT P w #[]
         GStep.after (seen P b.fn es) <| match r with
          | .ok (l, mark) w =>
            stepG.apply P true (b.atR { a with defers := mark ++ a.defers } (.inRangeFunc l :: k)) cs none (do let d ← resolve ((b.atR { a with defers := mark ++ a.defers } (.inRangeFunc l :: k)).eval) { callee := .value f, args := #[.const (.func (.yield l) #[] #[])], argTypes := #[] } 0; invoke d.target d.args) w
          | .halt _ w => .ended (.stuck "range over a function: no such loop" ((b.atR a (.code (.rangeFunc f params assign body) :: k)).pos P)) w) := by
      obtain ⟨b1, b2, b3, b4, b5, b6, b7⟩ := b
      simp only at hb
      subst hb
      rfl
    rw [hcode]
    simp only [Sem.runT_eq, he, GStep.bare_after, ← hw1, List.singleton_append]
    exact apply_enter rfl hinv
  refine Steps.head hstep (Steps.trans hcall ?_)
  have hfin : (b.atR { a with defers := { target := .collected w.heap.size, args := #[] } :: a.defers } (.inRangeFunc (w.heap.size + 1) :: k)).finish V = b.atR { a with defers := { target := .collected w.heap.size, args := #[] } :: a.defers } (.endRangeFunc (w.heap.size + 1) :: k) := rfl
  rw [hfin]
  exact .one (step_lone_go (by simp [stepG, stepG.exec, Frame.atR, Sem.runT_eq, hend]))

/-- The name of a variable that is new. -/
theorem Sim.fresh_var (hS : Sim n0 w0 g S w) {x : Nat} (hx : S.next ≤ x) : g.var x = none := by
  cases hv : g.var x with
  | none => rfl
  | some B => have := (hS.vlt _ _ hv).1; omega
theorem Sim.fresh_arr (hS : Sim n0 w0 g S w) {x : Nat} (hx : S.next ≤ x) (B : Nat) (A : Arr) (hA : g.arr B = some A) : A.b ≠ x := fun e => by
  have := (hS.alt _ _ hA).1; omega

/-- The two blocks of a range over a function. -/
theorem loop_made (hS : Sim n0 w0 g S w) {n keep : Nat} (ht : TmR g n t a.tmps) (hk : Kept keep t) (fn : Nat) (params : Array Tmp) (assign body : Code) :
    ∃ g', Way n0 w0 g S w g' ((S.new (.dfr true)).new (.loop { st := .ready, pend := none, fn, keep, n, tmps := t, params := params.toList, assign, body, mark := S.next }))
        ((w.alloc (.deferred (some []))).alloc (.loop { state := .ready, pending := none, fn, tmps := a.tmps, params, assign, body, defers := w.heap.size })) ∧ g'.var S.next = some w.heap.size ∧ g'.var (S.next + 1) = some (w.heap.size + 1) := by
  obtain ⟨h1, h2⟩ := hS.pushVar (b := S.next) (N := S.next + 1) (o := .dfr true) (O := .deferred (some [])) (hS.fresh_var (Nat.le_refl _)) (hS.fresh_arr (Nat.le_refl _)) (by omega) (by omega) rfl (Grew.alloc w _)
  obtain ⟨g1, hg1⟩ : ∃ g1, g1 = g.setVar S.next w.heap.size := ⟨_, rfl⟩
  rw [← hg1] at h1 h2
  have hv1 : g1.var S.next = some w.heap.size := by rw [hg1]; exact if_pos rfl
  have hway1 : Way n0 w0 g S w g1 (S.new (.dfr true)) (w.alloc (.deferred (some []))) := ⟨h1, h2, Nat.le_succ _, Names.set (.inr (Nat.le_refl _)), by rw [hg1]; exact GN.var (Nat.le_refl _)⟩
  have hsz : (w.alloc (.deferred (some []))).heap.size = w.heap.size + 1 := by simp
  have hle2 : Le g1 (g1.setVar (S.next + 1) (w.heap.size + 1)) := Le.setVar (hway1.sim.fresh_var (x := S.next + 1) (Nat.le_refl _))
  have hlp : RO (g1.setVar (S.next + 1) (w.heap.size + 1)) (.loop { st := .ready, pend := none, fn, keep, n, tmps := t, params := params.toList, assign, body, mark := S.next })
      (.loop { state := .ready, pending := none, fn, tmps := a.tmps, params, assign, body, defers := w.heap.size }) :=
    ⟨_, rfl, rfl, rfl, rfl, (ht.mono h2.le).mono hle2, rfl, rfl, rfl, hle2.1 _ _ hv1, hk⟩
  have hp := hway1.sim.pushVar (b := S.next + 1) (N := S.next + 2) (hway1.sim.fresh_var (Nat.le_refl _)) (hway1.sim.fresh_arr (Nat.le_refl _)) (by omega) (Nat.le_succ _) (by rw [hsz]; exact hlp) (Grew.alloc _ _)
  rw [hsz] at hp
  obtain ⟨h3, h4⟩ := hp
  refine ⟨_, hway1.trans hS ⟨h3, h4, Nat.le_succ _, Names.set (.inr (Nat.le_refl _)), GN.var (Nat.le_refl _)⟩, hle2.1 _ _ hv1, if_pos rfl⟩

theorem body_sound (hrec : RecOK P n0 w0 R) (hdraw : DrawOK P ty n0 w0 R) (hty : TyAll P ty) (hcmp : CmpAll P ty) {keep fn n : Nat} {round : Option Nat} (hfn : b.fn = fn) : ∀ (fuel : Nat) (todo : List It) (t : Tm) (ms : List Nat) (S : St) (L : Left) (g : Gh) (w : World) (a : Act) (items : List Item),
    evBody ty R keep fn n round fuel todo t ms S = some L → Sim n0 w0 g S w → TmR g n t a.tmps → Kept keep t → F2 (ItR g b.roundOf) todo items → F2 (MkR g) ms a.defers → RoR g round b.roundOf →
    ∃ g' a' items' w', Steps P (lone (b.atR a items) cs w) (lone (b.atR a' items') cs w') ∧ Way n0 w0 g S w g' L.S w' ∧ TmR g' n L.t a'.tmps ∧ F2 (MkR g') L.ms a'.defers ∧ LeftAt L.jump items'
  | 0, todo, t, ms, S, L, g, w, a, items, h, _, _, _, _, _, _ => by cases h
  | fuel + 1, todo, t, ms, S, L, g, w, a, items, h, hS, ht, hk, hI, hM, hR => by
    -- one step within the frame, and on
    have go : ∀ {todo' : List It} {items' : List Item}, evBody ty R keep fn n round fuel todo' t ms S = some L → F2 (ItR g b.roundOf) todo' items' → step P (lone (b.atR a items) cs w) = .next (lone (b.atR a items') cs w) →
        ∃ g' a' items' w', Steps P (lone (b.atR a items) cs w) (lone (b.atR a' items') cs w') ∧ Way n0 w0 g S w g' L.S w' ∧ TmR g' n L.t a'.tmps ∧ F2 (MkR g') L.ms a'.defers ∧ LeftAt L.jump items' := fun h' hI' hst => by
      obtain ⟨g', a', i', w', h1, h2⟩ := body_sound hrec hdraw hty hcmp hfn fuel _ t ms S L g w a _ h' hS ht hk hI' hM hR
      exact ⟨g', a', i', w', .head hst h1, h2⟩
    replace h : bStep ty R keep fn n round (evBody ty R keep fn n round fuel) todo t ms S = some L := h
    cases hI with
    | nil => cases h; exact ⟨g, a, [], w, .refl _ _, .refl hS, ht, hM, rfl⟩
    | cons hx hI' =>
      rename_i x y r k
      cases x with
      | blk id => obtain rfl := hx; exact go h hI' stepR_inBlock
      | sc c => obtain rfl := hx; exact go h hI' (step_lone_go (by simp [stepG, stepG.exec, Frame.atR]))
      | lp c => obtain rfl := hx; exact go h (.cons rfl (.cons rfl hI')) stepR_inLoop
      | bgn l =>
        obtain ⟨rfl, Lr, hro, hv⟩ := hx
        replace h : bBgn (evBody ty R keep fn n round fuel) l r t ms S = some L := h
        unfold bBgn at h
        split at h
        · rename_i lp hlp
          split at h
          · rename_i hst
            obtain ⟨B, Lo, hB, _, hw, hall⟩ := hS.loopAt hlp
            rw [hv] at hB; cases hB
            have hway := hS.loopPut hlp hv hw hall .busy lp.pend
            have hrun := run_beginRound (P := P) hw (by rw [hall.1, hst])
            have e1 : ({ lp with st := LoopState.busy } : Lp) = { lp with st := .busy, pend := lp.pend } := rfl
            have e2 : ({ Lo with state := LoopState.busy } : Loop) = { Lo with state := .busy, pending := lp.pend } := by rw [← hall.2.1]
            rw [e1] at h
            rw [e2] at hrun
            obtain ⟨g', a', i', w', h1, h2, h3⟩ := body_sound hrec hdraw hty hcmp hfn fuel _ t ms _ L g _ a _ h hway.sim ht hk hI' hM hR
            exact ⟨g', a', i', w', .head (stepR_beginRound hro hrun) h1, hway.trans hS h2, h3⟩
          · cases h
        · cases h
      | code c =>
        obtain rfl := hx
        replace h : bCode ty R keep fn n round (evBody ty R keep fn n round fuel) c r t ms S = some L := h
        cases c with
        | skip => exact go h hI' stepR_skip
        | label l => exact go h hI' stepR_label
        | ret => cases h; exact ⟨g, a, _, w, .refl _ _, .refl hS, ht, hM, _, rfl⟩
        | seq x y => exact go h (.cons rfl (.cons rfl hI')) stepR_seq
        | cond c x y =>
          replace h : bCond (evBody ty R keep fn n round fuel) c x y r t ms S = some L := h
          unfold bCond at h
          split at h
          · rename_i hc
            exact go h (.cons rfl hI') (stepR_cond (t := true) ((ht.op c).c hc))
          · rename_i hc
            exact go h (.cons rfl hI') (stepR_cond (t := false) ((ht.op c).c hc))
          · cases h
        | block id c => exact go h (.cons rfl (.cons rfl hI')) stepR_block
        | loop c => exact go h (.cons rfl (.cons rfl hI')) stepR_loop
        | scope c => exact go h (.cons rfl (.cons rfl hI')) (step_lone_go (by simp [stepG, stepG.exec, Frame.atR]))
        | exit id =>
          replace h : bExit (evBody ty R keep fn n round fuel) id r t ms S = some L := h
          obtain ⟨hx1, hx2⟩ := exit_some (id := id) hI'
          unfold bExit at h
          split at h
          · rename_i r' hr
            obtain ⟨k', h1, h2⟩ := hx1 r' hr
            exact go h h2 (stepR_exit h1)
          · rename_i hr
            cases h
            exact ⟨g, a, _, w, .refl _ _, .refl hS, ht, hM, _, rfl, hx2 hr⟩
        | region id ops draw =>
          replace h : bRegion ty R keep n (evBody ty R keep fn n round fuel) ops.toList draw r t ms S = some L := h
          replace h := sel_true h; obtain ⟨hd, h⟩ := h
          replace h := bnd_some h; obtain ⟨⟨t', S'⟩, hr, h⟩ := h
          obtain ⟨g1, a1, w1, hst, hway, ht1, hk1, hdf⟩ := region_sound (b := b) (k := k) (cs := cs) (id := id) hrec hdraw hty hcmp hr hd hS ht hk
          obtain ⟨g', a', i', w', h1, h2, h3⟩ := body_sound hrec hdraw hty hcmp hfn fuel _ t' ms S' L g1 w1 a1 _ h hway.sim ht1 hk1 (hI'.mono fun _ _ => ItR.mono hway.keep.le) (by rw [hdf]; exact hM.mono fun _ _ => MkR.mono hway.keep.le) (hR.mono hway.keep.le)
          exact ⟨g', a', i', w', hst.trans h1, hway.trans hS h2, h3⟩
        | rangeFunc f params assign body =>
          replace h : bRange R (evBody ty R keep fn n round fuel) keep fn n round f params.toList assign body r t ms S = some L := h
          unfold bRange at h
          split at h
          · cases h
          · have hro : b.roundOf = none := hR
            replace h := bnd_some h; obtain ⟨fv, hfv, h⟩ := h
            split at h
            · rename_i fid first caps
              replace h := bnd_some h; obtain ⟨⟨v, S3⟩, hcall, h⟩ := h
              obtain ⟨F, C, ef, h1, h2⟩ := (ht.op f).c hfv
              obtain ⟨g2, hway2, hv1, hv2⟩ := loop_made hS ht hk fn params assign body
              rw [appR_eq, appR_eq] at hcall
              have hargs : F2 (RT g2) (ptrs first ++ ([ofC (.y (Nat.succ S.next))] ++ ptrs caps)) (F ++ ([Value.func (.yield (w.heap.size + 1)) #[] #[]] ++ C)) :=
                (ptrs_rt (h1.mono fun _ _ => PtrV.mono hway2.keep.le)).append (F2.append (.cons ⟨_, rfl, hv2⟩ .nil) (ptrs_rt (h2.mono fun _ _ => PtrV.mono hway2.keep.le)))
              obtain ⟨hc1, hc2⟩ := hrec.call hway2.sim hcall hargs
              subst hfn
              replace h : bEnd (evBody ty R keep b.fn n none fuel) (Nat.succ S.next) S.next r t ms S3 = some L := h
              unfold bEnd at h
              split at h
              · rename_i lp hlp
                -- the iterator has returned
                obtain ⟨e, w2, fr, ⟨V, rfl, hp⟩, hcomes, _, hleave⟩ := hc2 (b.atR { a with defers := { target := .collected w.heap.size, args := #[] } :: a.defers } (.inRangeFunc (w.heap.size + 1) :: k) :: cs)
                obtain ⟨g3, hway3, _⟩ := hp.way
                have hv2' := hway3.keep.le.1 _ _ hv2
                obtain ⟨B, Lo, hB, _, hw, hall⟩ := hway3.sim.loopAt hlp
                rw [show Nat.succ S.next = S.next + 1 from rfl, hv2'] at hB
                cases hB
                have hway4 := hway3.sim.loopPut hlp hv2' hw hall .exhausted lp.pend
                have fin : lp.st ≠ .busy → evBody ty R keep b.fn n none fuel (match lp.pend with | none => r | some c => .code c :: r) t (S.next :: ms) (S3.put (Nat.succ S.next) (.loop { lp with st := .exhausted })) = some L →
                    ∃ g' a' items' w', Steps P (lone (b.atR a (.code (.rangeFunc f params assign body) :: k)) cs w) (lone (b.atR a' items') cs w') ∧ Way n0 w0 g S w g' L.S w' ∧ TmR g' n L.t a'.tmps ∧ F2 (MkR g') L.ms a'.defers ∧ LeftAt L.jump items' := fun hnb h => by
                  have hrun := run_endLoop (P := P) hw (by rw [hall.1]; exact hnb)
                  have e2 : ({ Lo with state := LoopState.exhausted } : Loop) = { Lo with state := .exhausted, pending := lp.pend } := by rw [← hall.2.1]
                  rw [e2] at hrun
                  have hst := steps_rangeFunc (P := P) (cs := cs) (k := k) (f := f) (params := params) (assign := assign) (body := body) (V := V) hro ef rfl (hc1 _) (Steps.trans hcomes (.one (step_leave_returned hleave))) hrun
                  · have hlet := (hway2.keep.le.trans hway3.keep.le).trans hway4.keep.le
                    have hIt : F2 (ItR g3 b.roundOf) (match lp.pend with | none => r | some c => .code c :: r) ((Lo.pending.map Item.code).toList ++ k) := by
                      rw [hall.2.1]
                      cases lp.pend with
                      | none => exact hI'.mono fun _ _ => ItR.mono hlet
                      | some c => exact .cons rfl (hI'.mono fun _ _ => ItR.mono hlet)
                    obtain ⟨g', a', i', w', h3, h4, h5⟩ := body_sound (round := none) hrec hdraw hty hcmp rfl fuel _ t _ _ L g3 _ { a with defers := { target := .collected w.heap.size, args := #[] } :: a.defers } _ h hway4.sim (ht.mono hlet) hk hIt
                      (.cons ⟨_, rfl, hway3.keep.le.1 _ _ hv1⟩ (hM.mono fun _ _ => MkR.mono hlet)) hro
                    exact ⟨g', a', i', w', hst.trans h3, ((hway2.trans hS hway3).trans hS hway4).trans hS h4, h5⟩
                split at h
                · cases h
                · rename_i hnb
                  exact fin hnb h
              · cases h
            · cases h
        | goto l => cases h
        | refuse w => cases h

end
end Go.Proofs.YtjkkclfndlfjhaaGreatDoor.Ev
/- Calls and rounds. -/
set_option linter.unusedSimpArgs false
namespace Go.Proofs.YtjkkclfndlfjhaaGreatDoor.Ev
open Go Go.RowKit

variable {P : Program} {ty : Nat → Option TI}
section
variable {n0 : Nat} {w0 : World} {R : Rec} {g : Gh} {S : St} {t : Tm} {w : World} {cs : List Frame}

theorem bind_sound {keep n : Nat} : ∀ {ps : List Nat} {vs : List TV} {A : List Value} {t t' : Tm} {T : Array Value}, bindTs keep n ps vs t = some t' → TmR g n t T → Kept keep t → F2 (RT g) vs A →
    ps.length = A.length ∧ TmR g n t' ((ps.zip A).foldl (fun tmps (p : Nat × Value) => tmps.setIfInBounds p.1 p.2) T) ∧ Kept keep t'
  | [], vs, A, t, t', T, h, ht, hk, hF => by
    cases hF with
    | nil => cases h; exact ⟨rfl, ht, hk⟩
    | cons _ _ => cases h
  | p :: ps, vs, A, t, t', T, h, ht, hk, hF => by
    cases hF with
    | nil => cases h
    | cons h1 hF =>
      rename_i v V vs A
      replace h := sel_true h; obtain ⟨hp, h⟩ := h
      replace h := sel_true h; obtain ⟨hb, h⟩ := h
      obtain ⟨h2, h3, h4⟩ := bind_sound h (ht.upd (blt_true hp) h1) (fun k u hu => by
        rw [upd_eq] at hu
        split at hu
        · rename_i e; subst e; exact hb
        · exact hk k u hu) hF
      exact ⟨by simp [h2], h3, h4⟩

theorem yield_sound (hrec : RecOK P n0 w0 R) (hdraw : DrawOK P ty n0 w0 R) (hty : TyAll P ty) (hcmp : CmpAll P ty) {fuel : Nat} {l : Nat} {args : List TV} {S' : St} {v : TV} {A : List Value} {L : Nat}
    (hS : Sim n0 w0 g S w) (h : recYield ty R fuel l args S = some (v, S')) (hA : F2 (RT g) args A) (hv : g.var l = some L) :
    ∃ f T x y, (Instr.yield L A.toArray).run P w = .ok (.round L f T x y) w ∧ ∀ c cs, ∃ V w', Steps P (lone (Frame.round L f T x y .normal) (c :: cs) w) (lone (c.finish V) cs w') ∧ Post n0 w0 g S w v S' V w' := by
  unfold recYield at h
  split at h
  · rename_i lp hlp
    replace h := bnd_some h; obtain ⟨t, hb, h⟩ := h
    replace h := bnd_some h; obtain ⟨x, hx, h⟩ := h
    obtain ⟨B, Lo, hB, _, hw, hst, hpe, hfn, htm, hps, has, hbo, hmk, hkp⟩ := hS.loopAt hlp
    rw [hv] at hB; cases hB
    obtain ⟨h1, h2, h3⟩ := bind_sound hb htm hkp hA
    have hpa : Lo.params = lp.params.toArray := by rw [← hps]
    refine ⟨Lo.fn, _, Lo.assign, Lo.body, run_yield hw (by rw [hpa]; simp [h1]), fun c cs => ?_⟩
    have hfold : ((Lo.params.zip A.toArray).foldl (fun tmps (t, a) => tmps.setIfInBounds t a) Lo.tmps) = (lp.params.zip A).foldl (fun tmps (p : Nat × Value) => tmps.setIfInBounds p.1 p.2) Lo.tmps := by
      rw [hpa]; simp [List.zip_toArray]
    rw [hfold, has, hbo]
    obtain ⟨g', a', i', w', hs, hway, ht', hm', hl⟩ := body_sound (b := { (default : Frame) with fn := Lo.fn, kind := .normal, roundOf := some L }) (cs := c :: cs) hrec hdraw hty hcmp hfn fuel _ t [] S x g w
      { tmps := (lp.params.zip A).foldl (fun tmps (p : Nat × Value) => tmps.setIfInBounds p.1 p.2) Lo.tmps, defers := [] } [.code lp.assign, .beginRound, .code lp.body] hx hS h2 h3
      (.cons rfl (.cons ⟨rfl, L, rfl, hv⟩ (.cons rfl .nil))) .nil ⟨L, rfl, hv⟩
    -- the round is shut
    unfold endRound at h
    split at h
    · rename_i lp' hlp'
      have hv' := hway.keep.le.1 _ _ hv
      obtain ⟨B, Lo', hB, _, hw', hall⟩ := hway.sim.loopAt hlp'
      rw [hv'] at hB; cases hB
      have hrun := fun j => run_endRound (P := P) j hw'
      have fin : ∀ (j : Option Code), x.jump = j → ∃ V w', Steps P (lone (Frame.round L Lo.fn ((lp.params.zip A).foldl (fun tmps (p : Nat × Value) => tmps.setIfInBounds p.1 p.2) Lo.tmps) lp.assign lp.body .normal) (c :: cs) w) (lone (c.finish V) cs w') ∧
          Way n0 w0 g S w g' (x.S.put l (.loop { lp' with st := if j.isNone then .ready else .done, pend := j })) w' ∧ V = .bool j.isNone := fun j hj => by
        have hway2 := hway.sim.loopPut hlp' hv' hw' hall (if j.isNone then .ready else .done) j
        refine ⟨_, _, hs.trans (.one ?_), hway.trans hS hway2, rfl⟩
        rw [hj] at hl
        cases j with
        | none =>
          obtain rfl := hl
          exact stepR_round_end rfl rfl (hrun none)
        | some cd =>
          cases cd <;> try exact hl.elim
          · obtain ⟨k', rfl, hx'⟩ := hl
            exact stepR_round_exit rfl rfl hx' (hrun _)
          · obtain ⟨k', rfl⟩ := hl
            exact stepR_round_ret rfl rfl (hrun _)
      split at h
      · rename_i hj
        cases h
        obtain ⟨V, w2, h1, h2, rfl⟩ := fin _ hj
        exact ⟨_, w2, h1, h2.post rfl⟩
      · rename_i cd hj
        cases h
        obtain ⟨V, w2, h1, h2, rfl⟩ := fin _ hj
        exact ⟨_, w2, h1, h2.post rfl⟩
    · cases h
  · cases h

theorem close_sound {fr : Frame} : ∀ {ms : List Nat} {S S' : St} {w : World} {ds : List Deferred}, closeMarks ms S = some S' → Sim n0 w0 g S w → F2 (MkR g) ms ds → fr.mode ≠ .run →
    ∃ w', Steps P (lone { fr with defers := ds } cs w) (lone { fr with defers := [] } cs w') ∧ Way n0 w0 g S w g S' w'
  | [], S, S', w, ds, h, hS, hF, hm => by
    cases hF; cases h
    exact ⟨w, .refl _ _, .refl hS⟩
  | d :: ms, S, S', w, ds, h, hS, hF, hm => by
    cases hF with
    | cons h1 hF =>
      rename_i df ds
      obtain ⟨D, rfl, hD⟩ := h1
      unfold closeMarks at h
      split at h
      · rename_i hd
        obtain ⟨B, O, hB, hO, hRO⟩ := hS.heap _ _ hd
        rw [hD] at hB; cases hB
        obtain rfl : O = .deferred (some []) := hRO
        obtain ⟨s1, s2⟩ := hS.turn (o' := .dfr false) (O := .deferred none) hD hd rfl (Turn.putObj (hS.vlt _ _ hD).2.2)
        have hway : Way n0 w0 g S w g (S.put d (.dfr false)) (w.putObj D (.deferred none)) := ⟨s1, s2, Nat.le_refl _, Names.set (.inl ⟨_, hd⟩), GN.refl g S⟩
        obtain ⟨w', h2, h3⟩ := close_sound h s1 hF hm
        exact ⟨w', .head (step_collected (fr := { fr with defers := { target := .collected D, args := #[] } :: ds }) hm rfl rfl (run_takeDeferred hO)) h2, hway.trans hS h3⟩
      · cases h

/-- A result variable, read. -/
def resV (T : Array Value) : ResultVar → Sem Value
  | .tmp t => pure (T.getD t undef)
  | .cell a t => do loadVar t (← asAddr (T.getD a undef))
theorem results_eq (fn : Func) (T : Array Value) : results fn T = (do let vs ← fn.results.mapM (resV T); pure (if h : vs.size = 1 then vs[0] else .tuple vs)) := by
  have : (fun r : ResultVar => match r with | .tmp t => (pure (T.getD t undef) : Sem Value) | .cell a t => do loadVar t (← asAddr (T.getD a undef))) = resV T := by
    funext r; cases r <;> rfl
  unfold results
  rw [← this]
  rfl

theorem readVar_sound (hty : TyAll P ty) {n : Nat} {T : Array Value} (hs : HS g S.heap w) (ht : TmR g n t T) {r : ResultVar} {v : AV} (h : readVar ty S.heap t r = some v) :
    ∃ V, (resV T r).run P w = .ok V w ∧ RA g v V := by
  cases r with
  | tmp k =>
    simp only [readVar] at h
    split at h
    · rename_i u hu; cases h
      exact ⟨_, rfl, (ht.2 k _ hu).2⟩
    · cases h
  | cell q ti =>
    simp only [readVar] at h
    replace h := bnd_some h; obtain ⟨i, hi, h⟩ := h
    replace h := bnd_some h; obtain ⟨p, hp, h⟩ := h
    replace h := bnd_some h; obtain ⟨c, hc, h⟩ := h
    have hop : OpR g t (fun | .tmp k => T.getD k undef | _ => undef) (.tmp q) := fun u hu => (ht.2 q u hu).2
    obtain ⟨ad, e1, had⟩ := hop.p hp
    have e1 : T.getD q undef = .pointer (some ad) := e1
    obtain ⟨hl, hn⟩ := hs.lies_row hc had
    obtain ⟨V, hV, hr⟩ := run_loadVar_sim (hty _ _ hi) hl hn h
    exact ⟨V, by simp [resV, e1, asAddr, hV], hr⟩

theorem results_sound (hty : TyAll P ty) {n : Nat} {T : Array Value} (hs : HS g S.heap w) (ht : TmR g n t T) : ∀ {rs : List ResultVar} {vs : List AV}, mapO (readVar ty S.heap t) rs = some vs →
    ∃ V : List Value, (rs.mapM (resV T)).run P w = .ok V w ∧ F2 (RA g) vs V
  | [], vs, h => by cases h; exact ⟨[], rfl, .nil⟩
  | r :: rs, vs, h => by
    replace h : bnd (readVar ty S.heap t r) (fun b => bnd (mapO (readVar ty S.heap t) rs) fun l => some (b :: l)) = some vs := h
    replace h := bnd_some h; obtain ⟨v, hv, h⟩ := h
    replace h := bnd_some h; obtain ⟨l, hl, h⟩ := h
    cases h
    obtain ⟨V, hV, hr⟩ := readVar_sound hty hs ht hv
    obtain ⟨Vs, hVs, hF⟩ := results_sound hty hs ht hl
    refine ⟨V :: Vs, ?_, .cons hr hF⟩
    rw [List.mapM_cons]
    simp only [Sem.run_bind, hV, hVs, Result.andThen_ok, Sem.run_pure]

theorem results_run (hty : TyAll P ty) {n : Nat} {T : Array Value} (hs : HS g S.heap w) (ht : TmR g n t T) {fn : Func} {vs : List AV} (h : mapO (readVar ty S.heap t) fn.results.toList = some vs) :
    ∃ V, (results fn T).run P w = .ok V w ∧ RT g (asRes vs) V := by
  obtain ⟨Vs, hVs, hF⟩ := results_sound (P := P) hty hs ht h
  have hrs : fn.results = fn.results.toList.toArray := by simp
  have hm : (fn.results.mapM (resV T)).run P w = .ok Vs.toArray w := by
    rw [hrs, List.mapM_toArray, Sem.run_map, hVs]
    rfl
  refine ⟨if h : Vs.toArray.size = 1 then Vs.toArray[0] else .tuple Vs.toArray, ?_, ?_⟩
  · rw [results_eq, Sem.run_bind, hm]
    rfl
  · cases hF with
    | nil => exact ⟨[], rfl, .nil⟩
    | cons h1 hF =>
      cases hF with
      | nil => exact h1
      | cons h2 hF => exact ⟨_, by simp, .cons h1 (.cons h2 hF)⟩

-- CALLS

/-- The functions that the evaluator knows. -/
def FnOK (P : Program) (fnOf : Nat → Option Func) : Prop := ∀ f fn, fnOf f = some fn → P.funcs[f]? = some fn ∧ fn.name ≠ "runtime.NumGoroutine"
/-- The functions whose contracts are taken. -/
def PrimOK (P : Program) (n0 : Nat) (w0 : World) (prim : Nat → Option (List TV → St → Option (TV × St))) : Prop :=
  ∀ {f : Nat} {p : List TV → St → Option (TV × St)} {g : Gh} {S : St} {w : World} {args : List TV} {S' : St} {v : TV} {A : List Value}, prim f = some p → Sim n0 w0 g S w → p args S = some (v, S') → F2 (RT g) args A →
    (∀ w, (callFunc f A.toArray).run P w = .ok (.enter f A.toArray) w) ∧ Calls P f A.toArray w fun e w' => ∃ V, e = .returned V ∧ Post n0 w0 g S w v S' V w'

theorem run_callFunc {f : Nat} {fn : Func} {c : Code} (hf : P.funcs[f]? = some fn) (hn : fn.name ≠ "runtime.NumGoroutine") (hb : fn.body = some c) (A : Array Value) (w : World) : (callFunc f A).run P w = .ok (.enter f A) w := by
  simp [callFunc, hf, hn, hb]

theorem bindArgs_sound {keep n : Nat} : ∀ {vs : List TV} {A : List Value} {k : Nat} {t t' : Tm}, bindArgs keep k vs t = some t' → F2 (RT g) vs A → Kept keep t → ∀ (T : Array Value), TmR g n t T → k + A.length ≤ n → (∀ j, j < A.length → T[k + j]? = A[j]?) → TmR g n t' T ∧ Kept keep t'
  | [], A, k, t, t', h, hF, hk, T, ht, _, _ => by cases hF; cases h; exact ⟨ht, hk⟩
  | v :: vs, A, k, t, t', h, hF, hk, T, ht, hn, hT => by
    cases hF with
    | cons h1 hF =>
      rename_i V A
      replace h := sel_true h; obtain ⟨hb, h⟩ := h
      simp only [List.length_cons] at hn
      refine bindArgs_sound (k := k + 1) h hF (fun j u hu => ?_) T ⟨ht.1, fun j u hu => ?_⟩ (by omega) (fun j hj => ?_)
      · rw [upd_eq] at hu
        split at hu
        · rename_i e; subst e; exact hb
        · exact hk j u hu
      · rw [upd_eq] at hu
        split at hu
        · rename_i e; subst e; cases hu
          refine ⟨by omega, ?_⟩
          have := hT 0 (by simp)
          rw [Array.getD_eq_getD_getElem?]
          simp only [Nat.add_zero, List.getElem?_cons_zero] at this
          rw [this]
          exact h1
        · exact ht.2 j u hu
      · have := hT (j + 1) (by simp; omega)
        rw [show k + 1 + j = k + (j + 1) by omega, this]
        rfl

theorem call_sound (hrec : RecOK P n0 w0 R) (hdraw : DrawOK P ty n0 w0 R) (hty : TyAll P ty) (hcmp : CmpAll P ty) {fnOf : Nat → Option Func} (hfo : FnOK P fnOf) {keep : Nat → Nat} {prim : Nat → Option (List TV → St → Option (TV × St))} (hprim : PrimOK P n0 w0 prim)
    {fuel f : Nat} {args : List TV} {S' : St} {v : TV} {A : List Value} (hS : Sim n0 w0 g S w) (h : recCall ty fnOf keep prim R fuel f args S = some (v, S')) (hA : F2 (RT g) args A) :
    (∀ w, (callFunc f A.toArray).run P w = .ok (.enter f A.toArray) w) ∧ Calls P f A.toArray w fun e w' => ∃ V, e = .returned V ∧ Post n0 w0 g S w v S' V w' := by
  unfold recCall at h
  split at h
  · rename_i p hp
    exact hprim hp hS h hA
  · replace h := bnd_some h; obtain ⟨fn, hfn, h⟩ := h
    replace h := bnd_some h; obtain ⟨c, hc, h⟩ := h
    replace h := sel_true h; obtain ⟨hn, h⟩ := h
    replace h := bnd_some h; obtain ⟨t, ht, h⟩ := h
    replace h := bnd_some h; obtain ⟨l, hl, h⟩ := h
    obtain ⟨hf, hname⟩ := hfo f fn hfn
    have hn : A.length ≤ fn.ntmps := by
      have := Nat.le_of_ble_eq_true hn
      rw [lenR_eq, hA.length] at this
      exact this
    refine ⟨fun w => run_callFunc hf hname hc _ w, fun cs => ?_⟩
    obtain ⟨T, hT⟩ : ∃ T, T = A.toArray ++ Array.replicate (fn.ntmps - A.toArray.size) undef := ⟨_, rfl⟩
    have hTs : T.size = fn.ntmps := by rw [hT]; simp; omega
    obtain ⟨h1, h2⟩ := bindArgs_sound (g := g) (n := fn.ntmps) (A := A) (k := 0) ht hA (fun _ _ h => by cases h) T ⟨hTs, fun _ _ h => by cases h⟩ (by omega) (fun j hj => by
      rw [hT, Nat.zero_add, Array.getElem?_append_left (by simpa using hj)]; simp)
    have henter : Frame.enter P f A.toArray .normal = ({ (default : Frame) with fn := f, kind := .normal } : Frame).atR { tmps := T, defers := [] } [.code c] := by
      rw [hT]; simp [Frame.enter, Frame.atR, hf, hc]; rfl
    obtain ⟨g', a', i', w1, hs, hway, ht', hm', hle⟩ := body_sound (b := { (default : Frame) with fn := f, kind := .normal }) (cs := cs) (round := none) hrec hdraw hty hcmp rfl fuel _ t [] S l g w { tmps := T, defers := [] } [.code c] hl hS h1 h2 (.cons rfl .nil) .nil rfl
    rw [henter]
    unfold endCall at h
    split at h
    · rename_i hlv
      replace h := bnd_some h; obtain ⟨S2, hS2, h⟩ := h
      replace h := bnd_some h; obtain ⟨vs, hvs, h⟩ := h
      cases h
      -- out of the body
      obtain ⟨todo, hret⟩ : ∃ todo, Steps P (lone (({ (default : Frame) with fn := f, kind := .normal } : Frame).atR a' i') cs w1) (lone { ({ (default : Frame) with fn := f, kind := .normal } : Frame).atR a' todo with mode := .returning } cs w1) := by
        cases hj : l.jump with
        | none =>
          rw [hj] at hle
          obtain rfl := hle
          exact ⟨_, .one (stepR_end rfl)⟩
        | some cd =>
          rw [hj] at hle hlv
          cases cd <;> try cases hlv
          obtain ⟨k', rfl⟩ := hle
          exact ⟨_, .one (stepR_ret rfl)⟩
      obtain ⟨w2, hclose, hway2⟩ := close_sound (cs := cs) (fr := { ({ (default : Frame) with fn := f, kind := .normal } : Frame).atR a' todo with mode := .returning }) hS2 hway.sim hm' (by simp)
      obtain ⟨V, hV, hr⟩ := results_run (P := P) hty hway2.sim.heap ht' hvs
      exact ⟨.returned V, w2, _, ⟨V, rfl, (hway.trans hS hway2).post hr⟩, hs.trans (hret.trans hclose), rfl, rfl, rfl, rfl, fn, hf, hV⟩
    · cases h

theorem rec_sound (hdraw : ∀ R, RecOK P n0 w0 R → DrawOK P ty n0 w0 R) (hty : TyAll P ty) (hcmp : CmpAll P ty) {fnOf : Nat → Option Func} (hfo : FnOK P fnOf) {keep : Nat → Nat} {prim : Nat → Option (List TV → St → Option (TV × St))} (hprim : PrimOK P n0 w0 prim) :
    ∀ fuel, RecOK P n0 w0 (evRec ty fnOf keep prim fuel)
  | 0 => ⟨fun _ h _ => (by cases h), fun _ h _ _ => (by cases h)⟩
  | fuel + 1 => by
    have ih := rec_sound hdraw hty hcmp hfo (keep := keep) hprim fuel
    exact ⟨fun hS h hA => call_sound ih (hdraw _ ih) hty hcmp hfo hprim hS h hA, fun hS h hA hv => yield_sound ih (hdraw _ ih) hty hcmp hS h hA hv⟩

end
end Go.Proofs.YtjkkclfndlfjhaaGreatDoor.Ev
