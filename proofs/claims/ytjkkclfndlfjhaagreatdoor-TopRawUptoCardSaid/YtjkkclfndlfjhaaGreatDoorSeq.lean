/- A range over a function whose iterator makes memory: what is known of each element as it comes goes to the loop's body. -/
import Derived.Test.YtjkkclfndlfjhaaGreatDoorMany
import Derived.RangeFuncNested
import Derived.RangeFuncBound
import Derived.RangeFuncCalls
import Derived.RangeFuncLeaves
import Derived.RangeFuncBox
set_option linter.all false
namespace Go.Proofs.YtjkkclfndlfjhaaGreatDoor
open Go.RowKit

/-- What is said of a world holds on wherever all that lay lies as it lay. -/
def Lasts {β : Type} (J : β → World → Prop) : Prop := ∀ s W W', J s W → Below W.heap.size W W' → J s W'
/-- .. and where a block that is no cells, at or beyond B, has turned. -/
def Bears {β : Type} (B : Nat) (J : β → World → Prop) : Prop := ∀ s W l o o', J s W → B ≤ l → W.heap[l]? = some o → o.isCells = false → J s (W.putObj l o')

/-- WHAT AN ITERATOR GIVES TO EVERY LOOP BODY: R pre x W: what is known of x as it comes behind pre · Kp: what a round keeps that goes on. -/
def Tells {α : Type} (gf : Nat) (lb : Array Value) (encs : α → Array Value) (Kp : World → World → Prop) (R : List α → α → World → Prop) (S : List α → Prop) (w : World) : Prop :=
  ∀ (n l : Nat) (J Jx : List α → World → Prop) (W : World), Below w.heap.size w W → Lasts J → Lasts Jx →
    (∀ pre x W1, J pre W1 → R pre x W1 → YieldAt Fence.wide n Tryz.prog l (encs x) W1 fun e W' =>
      (e = .returned (.bool true) ∧ J (pre ++ [x]) W' ∧ Kp W1 W') ∨ (e = .returned (.bool false) ∧ Jx (pre ++ [x]) W')) →
    J [] W →
    CallsIn Fence.wide (n + 1) Tryz.prog gf (#[.func (.yield l) #[] #[]] ++ lb) W fun e W' => (∃ v, e = .returned v) ∧ ((∃ xs, S xs ∧ J xs W') ∨ (∃ pre, Jx pre W'))

/-- How the body of a round may be left. -/
def roundOut {α : Type} (Kp : World → World → Prop) (I : List α → World → Prop) (Ix : Code → List α → World → Prop) (xs : List α) (W : World) : Exit → Act → World → Prop
  | .normal, _, W' => KeepsOthers W W' ∧ Kp W W' ∧ I xs W'
  | .ret, _, W' => KeepsOthers W W' ∧ Ix .ret xs W'
  | .exit id, _, W' => KeepsOthers W W' ∧ Ix (.exit id) xs W'
  | .goto t, _, W' => KeepsOthers W W' ∧ Ix (.goto t) xs W'
  | .panic _, _, _ => False
  | .outgrown, _, _ => False

/-- THE STATEMENT 'for .. := range g { .. }', its iterator of such a kind. -/
theorem wp_range {α : Type} {g : Operand} {ps : Array Tmp} {assign body : Code} {Q : Exit → Act → World → Prop} {a : Act} {w w0 : World} {n gf : Nat} {lb : Array Value}
    (hg : a.eval g = .func (.func gf) #[] lb) (eg : ∀ args w, (callFunc gf args).run Tryz.prog w = .ok (.enter gf args) w)
    {encs : α → Array Value} {Kp : World → World → Prop} {R : List α → α → World → Prop} {S : List α → Prop} (hseq : Tells gf lb encs Kp R S w0) (hb0 : Below w0.heap.size w0 w)
    (hKt : ∀ {A B C : World}, Kp A B → Kp B C → Kp A C) (hKb : ∀ (W : World) (l : Nat) (o o' : Obj), w.heap.size ≤ l → W.heap[l]? = some o → o.isCells = false → Kp W (W.putObj l o'))
    (hps : ∀ x, (encs x).size = ps.size) (hRb : ∀ pre x W l o o', R pre x W → w.heap.size ≤ l → W.heap[l]? = some o → o.isCells = false → R pre x (W.putObj l o'))
    (I : List α → World → Prop) (Ix : Code → List α → World → Prop) (hIl : Lasts I) (hIb : Bears w.heap.size I) (hXl : ∀ c, Lasts (Ix c)) (hXb : ∀ c, Bears w.heap.size (Ix c)) (h0 : I [] w) (a₁ : α → Act)
    (hassign : ∀ (l : Nat) (x : α) (W : World) (K : Act → World → Prop), K (a₁ x) W →
      assign.wpIn (Fence.wide.inRound l) n Tryz.prog (Exit.then K (fun _ _ _ => False)) { tmps := (ps.zip (encs x)).foldl (fun t (p, v) => t.setIfInBounds p v) a.tmps, defers := [] } W)
    (hbody : ∀ (l : Nat) (pre : List α) (x : α) (W : World), I pre W → R pre x W → body.wpIn (Fence.wide.inRound l) n Tryz.prog (roundOut Kp I Ix (pre ++ [x]) W) (a₁ x) W)
    (hdone : ∀ (D : Nat) (xs : List α) (W : World), w.heap.size ≤ D → S xs → I xs W → W.heap[D]? = some (.deferred (some [])) → Q .normal { a with defers := { target := .collected D, args := #[] } :: a.defers } W)
    (hstop : ∀ (D : Nat) (c : Code) (pre : List α) (W : World), w.heap.size ≤ D → Ix c pre W → W.heap[D]? = some (.deferred (some [])) → c.wpIn Fence.wide (n + 2) Tryz.prog Q { a with defers := { target := .collected D, args := #[] } :: a.defers } W) :
    (Code.rangeFunc g ps assign body).wpIn Fence.wide (n + 2) Tryz.prog Q a w := by
  refine wpIn_rangeFunc fun fn hfn => ?_
  -- the loop's record, and the world where it has been laid
  obtain ⟨rec, hrec⟩ : ∃ rec : LoopState → Option Code → Loop, rec = fun st pe => { state := st, pending := pe, fn, tmps := a.tmps, params := ps, assign, body, defers := w.heap.size } := ⟨_, rfl⟩
  obtain ⟨W1, hW1⟩ : ∃ W1, W1 = (w.alloc (.deferred (some []))).alloc (.loop (rec .ready none)) := ⟨_, rfl⟩
  have hB1 : Below w.heap.size w W1 := by rw [hW1]; exact ((Below.refl _ w).alloc (Nat.le_refl _) _).alloc (by simp) _
  have hL1 : W1.heap[w.heap.size + 1]? = some (.loop (rec .ready none)) := by
    have := World.alloc_heap_new (w.alloc (.deferred (some []))) (.loop (rec .ready none))
    rw [World.size_alloc] at this
    rw [hW1]; exact this
  have hD1 : W1.heap[w.heap.size]? = some (.deferred (some [])) := by
    rw [hW1]; exact (Below.heap_alloc _ _ _ (by simp)).trans (World.alloc_heap_new w _)
  -- what is carried from round to round, the record and the block for deferred calls with it
  let J : List α → World → Prop := fun pre W => I pre W ∧ W.heap[w.heap.size + 1]? = some (.loop (rec .ready none)) ∧ W.heap[w.heap.size]? = some (.deferred (some []))
  let Jx : List α → World → Prop := fun pre W => ∃ c, Ix c pre W ∧ W.heap[w.heap.size + 1]? = some (.loop (rec .done (some c))) ∧ W.heap[w.heap.size]? = some (.deferred (some []))
  have keep : ∀ {W W' : World} {k : Nat} {o : Obj}, Below W.heap.size W W' → W.heap[k]? = some o → W'.heap[k]? = some o := fun hb hk => (hb.block _ (Array.getElem?_eq_some_iff.1 hk).1).trans hk
  have hJ : Lasts J := fun s W W' hs hb => ⟨hIl s W W' hs.1 hb, keep hb hs.2.1, keep hb hs.2.2⟩
  have hJx : Lasts Jx := fun s W W' hs hb => by
    obtain ⟨c, h1, h2, h3⟩ := hs
    exact ⟨c, hXl c s W W' h1 hb, keep hb h2, keep hb h3⟩
  have round : ∀ pre x W, J pre W → R pre x W → YieldAt Fence.wide n Tryz.prog (w.heap.size + 1) (encs x) W fun e W' =>
      (e = .returned (.bool true) ∧ J (pre ++ [x]) W' ∧ Kp W W') ∨ (e = .returned (.bool false) ∧ Jx (pre ++ [x]) W') := by
    rintro pre x W ⟨hi, hl, hd⟩ hx
    have hy := run_yield (P := Tryz.prog) (args := encs x) hl (by rw [hrec]; exact hps x)
    rw [hrec] at hy
    refine ⟨fn, _, assign, body, hy, roundIn_of_wpIn hfn (hassign _ x W _ ⟨_, run_beginRound hl (by rw [hrec]), ?_⟩)⟩
    obtain ⟨W2, hW2⟩ : ∃ W2, W2 = W.putObj (w.heap.size + 1) (.loop { rec .ready none with state := .busy }) := ⟨_, rfl⟩
    rw [← hW2]
    have hl2 : W2.heap[w.heap.size + 1]? = some (.loop { rec .ready none with state := .busy }) := by rw [hW2]; exact World.putObj_heap_same (Array.getElem?_eq_some_iff.1 hl).1
    have hd2 : W2.heap[w.heap.size]? = some (.deferred (some [])) := by rw [hW2]; exact (World.putObj_heap_other (by omega)).trans hd
    have hk2 : Kp W W2 := by rw [hW2]; exact hKb _ _ _ _ (by omega) hl rfl
    have hi2 : I pre W2 := by rw [hW2]; exact hIb _ _ _ _ _ hi (by omega) hl rfl
    have hx2 : R pre x W2 := by rw [hW2]; exact hRb _ _ _ _ _ _ hx (by omega) hl rfl
    -- the record is shut behind the body, whichever way it was left
    have shut : ∀ (jump : Option Code) (W3 : World), KeepsOthers W2 W3 → ∃ o, W3.heap[w.heap.size + 1]? = some o ∧ o.isCells = false ∧
        (Instr.endRound (w.heap.size + 1) jump).run Tryz.prog W3 = .ok (.bool jump.isNone) (W3.putObj (w.heap.size + 1) (.loop (rec (if jump.isNone then .ready else .done) jump))) ∧
        (W3.putObj (w.heap.size + 1) (.loop (rec (if jump.isNone then .ready else .done) jump))).heap[w.heap.size + 1]? = some (.loop (rec (if jump.isNone then .ready else .done) jump)) ∧
        (W3.putObj (w.heap.size + 1) (.loop (rec (if jump.isNone then .ready else .done) jump))).heap[w.heap.size]? = some (.deferred (some [])) := fun jump W3 hk3 => by
      have hl3 := hk3.same _ _ hl2 rfl
      have hd3 := hk3.same _ _ hd2 rfl
      have hend := run_endRound (P := Tryz.prog) jump hl3
      refine ⟨_, hl3, rfl, ?_, World.putObj_heap_same (Array.getElem?_eq_some_iff.1 hl3).1, (World.putObj_heap_other (by omega)).trans hd3⟩
      rw [hrec] at hend ⊢
      exact hend
    refine wpIn_mono (hbody _ pre x W2 hi2 hx2) ?_
    rintro e a3 W3 hp
    cases e with
    | normal =>
      obtain ⟨hk3, hkp, hi3⟩ := hp
      obtain ⟨o, h1, h2, h3, h4, h5⟩ := shut none W3 hk3
      exact ⟨_, _, h3, .inl ⟨rfl, ⟨hIb _ _ _ _ _ hi3 (by omega) h1 h2, h4, h5⟩, hKt (hKt hk2 hkp) (hKb _ _ _ _ (by omega) h1 h2)⟩⟩
    | ret =>
      obtain ⟨o, h1, h2, h3, h4, h5⟩ := shut (some .ret) W3 hp.1
      exact ⟨_, _, h3, .inr ⟨rfl, .ret, hXb _ _ _ _ _ _ hp.2 (by omega) h1 h2, h4, h5⟩⟩
    | exit id =>
      obtain ⟨o, h1, h2, h3, h4, h5⟩ := shut (some (.exit id)) W3 hp.1
      exact ⟨_, _, h3, .inr ⟨rfl, .exit id, hXb _ _ _ _ _ _ hp.2 (by omega) h1 h2, h4, h5⟩⟩
    | goto t =>
      obtain ⟨o, h1, h2, h3, h4, h5⟩ := shut (some (.goto t)) W3 hp.1
      exact ⟨_, _, h3, .inr ⟨rfl, .goto t, hXb _ _ _ _ _ _ hp.2 (by omega) h1 h2, h4, h5⟩⟩
    | panic ch => exact hp.elim
    | outgrown => exact hp.elim
  refine ⟨w.heap.size + 1, [{ target := .collected w.heap.size, args := #[] }], W1, { target := .fn (.func gf) lb, args := #[.func (.yield (w.heap.size + 1)) #[] #[]] }, W1, gf,
    #[.func (.yield (w.heap.size + 1)) #[] #[]] ++ lb, W1, ?_, ?_, fun _ _ => trivial, ?_, fun h => (by cases h), ?_⟩
  · rw [hW1, hrec]; exact run_enterLoop_outer _ _ _ _ _
  · simp only [resolve, hg]
    simp [go_sem]
  · simp [invoke, go_sem, eg]
  · refine (hseq n (w.heap.size + 1) J Jx W1 (hb0.trans (hB1.mono hb0.size)) hJ hJx round ⟨hIl _ _ _ h0 hB1, hL1, hD1⟩).mono ?_
    rintro e W2 ⟨⟨v, rfl⟩, (⟨xs, hS, hi, hl, hd⟩ | ⟨pre, c, hi, hl, hd⟩)⟩
    · refine ⟨none, _, by have := run_endLoop (P := Tryz.prog) hl (by rw [hrec]; simp); rw [hrec] at this; exact this, ?_⟩
      exact hdone _ xs _ (Nat.le_refl _) hS (hIb _ _ _ _ _ hi (by omega) hl rfl) ((World.putObj_heap_other (by omega)).trans hd)
    · refine ⟨some c, _, by have := run_endLoop (P := Tryz.prog) hl (by rw [hrec]; simp); rw [hrec] at this; exact this, ?_⟩
      exact hstop _ c pre _ (Nat.le_refl _) (hXb _ _ _ _ _ _ hi (by omega) hl rfl) ((World.putObj_heap_other (by omega)).trans hd)

end Go.Proofs.YtjkkclfndlfjhaaGreatDoor
