/- What a step does to the world, and to the evaluator's state: a block turned, a block made, an array gone on. -/
import Derived.Test.YtjkkclfndlfjhaaGreatDoorEvQ
import Derived.RangeFuncRecord
set_option linter.all false
set_option linter.unusedSimpArgs false
namespace Go.Proofs.YtjkkclfndlfjhaaGreatDoor.Ev
open Go Go.RowKit

/-- One block has turned. -/
structure Turn (w w' : World) (B : Nat) (O : Obj) : Prop where
  os : w'.os = w.os
  tape : w'.tape = w.tape
  output : w'.output = w.output
  size : w'.heap.size = w.heap.size
  at_ : w'.heap[B]? = some O
  other : ∀ k, k ≠ B → w'.heap[k]? = w.heap[k]?
/-- One block has been made. -/
structure Grew (w w' : World) (O : Obj) : Prop where
  os : w'.os = w.os
  tape : w'.tape = w.tape
  output : w'.output = w.output
  heap : w'.heap = w.heap.push O

theorem Turn.setRow {w : World} {B : Nat} {old cs : Array Value} {t : TypeId} (h : w.heap[B]? = some (.cells old t (0, 0))) : Turn w (w.setRow B cs) B (.cells cs t (0, 0)) :=
  ⟨rfl, rfl, rfl, setRow_size w B cs, setRow_heap w B old cs t (0, 0) h, fun k hk => setRow_other w B k cs hk⟩
theorem Turn.putObj {w : World} {B : Nat} {o : Obj} (h : B < w.heap.size) : Turn w (w.putObj B o) B o :=
  ⟨rfl, rfl, rfl, by simp [World.putObj], by simp [World.putObj, h], fun k hk => by simp [World.putObj, Ne.symm hk]⟩
theorem Grew.alloc (w : World) (o : Obj) : Grew w (w.alloc o) o := ⟨rfl, rfl, rfl, rfl⟩
theorem Grew.old {w w' : World} {O : Obj} (h : Grew w w' O) {k : Nat} (hk : k < w.heap.size) : w'.heap[k]? = w.heap[k]? := by
  rw [h.heap, Array.getElem?_push, if_neg (by omega)]
theorem Grew.new {w w' : World} {O : Obj} (h : Grew w w' O) : w'.heap[w.heap.size]? = some O := by
  rw [h.heap]; simp
theorem Grew.size {w w' : World} {O : Obj} (h : Grew w w' O) : w'.heap.size = w.heap.size + 1 := by rw [h.heap]; simp
theorem Turn.below {n0 B : Nat} {w0 w w' : World} {O : Obj} (h : Below n0 w0 w) (ht : Turn w w' B O) (hB : n0 ≤ B) : Below n0 w0 w' :=
  h.trans ⟨ht.os, ht.tape, ht.output, Nat.le_of_eq ht.size.symm, fun k hk => ht.other k (by omega)⟩
theorem Grew.below {n0 : Nat} {w0 w w' : World} {O : Obj} (h : Below n0 w0 w) (hg : Grew w w' O) (hn : n0 ≤ w.heap.size) : Below n0 w0 w' :=
  h.trans ⟨hg.os, hg.tape, hg.output, by rw [hg.size]; omega, fun k hk => hg.old (by omega)⟩

section
variable {n0 : Nat} {w0 : World} {g : Gh} {S : St} {w w' : World}

theorem ArrOk.keep {cs : List CV} {B : Nat} {A : Arr} (h : ArrOk g w cs B A) (hk : w'.heap[B]? = w.heap[B]?) {g' : Gh} (hl : Le g g') : ArrOk g' w' cs B A := by
  obtain ⟨h1, C, el, h2, h3, h4, h5⟩ := h
  refine ⟨h1, C, el, hk.trans h2, h3, h4, fun i v hi hi2 hv => ?_⟩
  obtain ⟨V, hV, hr⟩ := h5 i v hi hi2 hv
  exact ⟨V, hV, hr.mono hl⟩
theorem ArrOk.ext {cs : List CV} {B : Nat} {A : Arr} (h : ArrOk g w cs B A) (new : List CV) : ArrOk g w (cs ++ new) B A := by
  obtain ⟨h1, C, el, h2, h3, h4, h5⟩ := h
  refine ⟨by rw [List.length_append]; omega, C, el, h2, h3, h4, fun i v hi hi2 hv => h5 i v hi hi2 ?_⟩
  rw [List.getElem?_append_left (by omega)] at hv
  exact hv

/-- A block that lies as it lay is what it was. -/
theorem HR.keep {b : Nat} {o : AB} (h : HR g w b o) {g' : Gh} (hl : Le g g') (hv : g.var b = none → g'.var b = none) (ha : ∀ B A, g'.arr B = some A → A.b = b → g.arr B = some A)
    (hk : ∀ B, (g.var b = some B ∨ ∃ A, g.arr B = some A ∧ A.b = b) → w'.heap[B]? = w.heap[B]?) : HR g' w' b o := by
  cases o with
  | arr e cs =>
    obtain ⟨h1, h2⟩ := h
    refine ⟨hv h1, fun B A hA hb => ?_⟩
    obtain ⟨h3, h4⟩ := h2 B A (ha B A hA hb) hb
    exact ⟨h3, h4.keep (hk B (.inr ⟨A, ha B A hA hb, hb⟩)) hl⟩
  | row cs => obtain ⟨B, O, h1, h2, h3⟩ := h; exact ⟨B, O, hl.1 _ _ h1, (hk B (.inl h1)).trans h2, h3.mono hl⟩
  | map es => obtain ⟨B, O, h1, h2, h3⟩ := h; exact ⟨B, O, hl.1 _ _ h1, (hk B (.inl h1)).trans h2, h3.mono hl⟩
  | loop lp => obtain ⟨B, O, h1, h2, h3⟩ := h; exact ⟨B, O, hl.1 _ _ h1, (hk B (.inl h1)).trans h2, h3.mono hl⟩
  | dfr on => obtain ⟨B, O, h1, h2, h3⟩ := h; exact ⟨B, O, hl.1 _ _ h1, (hk B (.inl h1)).trans h2, h3.mono hl⟩

/-- What the evaluator forgets costs nothing. -/
theorem Sim.forget (h : Sim n0 w0 g S w) {H' : Tr AB} (hH : ∀ b o, H'.get b = some o → S.heap.get b = some o) : Sim n0 w0 g { heap := H', next := S.next } w :=
  ⟨h.below, fun b o hb => h.heap b o (hH b o hb), h.inj, h.apart, h.vlt, h.alt, fun b o hb => h.hlt b o (hH b o hb), h.n0⟩
theorem Sim.drew (h : Sim n0 w0 g S w) : Sim n0 w0 g S w.drew :=
  ⟨h.below.drew, h.heap, h.inj, h.apart, h.vlt, h.alt, h.hlt, h.n0⟩

theorem HR.of_RO {b B : Nat} {o : AB} {O : Obj} (hb : g.var b = some B) (hw : w.heap[B]? = some O) (h : RO g o O) : HR g w b o := by
  cases o with
  | arr e cs => exact h.elim
  | row cs => exact ⟨B, O, hb, hw, h⟩
  | map es => exact ⟨B, O, hb, hw, h⟩
  | loop lp => exact ⟨B, O, hb, hw, h⟩
  | dfr on => exact ⟨B, O, hb, hw, h⟩

theorem Sim.turn (h : Sim n0 w0 g S w) {b B : Nat} {o o' : AB} {O : Obj} (hb : g.var b = some B) (hg : S.heap.get b = some o) (hO : RO g o' O) (ht : Turn w w' B O) :
    Sim n0 w0 g (S.put b o') w' ∧ Keep g S.heap w g w' := by
  have hv := h.vlt _ _ hb
  refine ⟨⟨Turn.below h.below ht hv.2.1, fun c o'' hc => ?_, h.inj, h.apart, fun c C hc => by rw [ht.size]; exact h.vlt c C hc, fun C A hA => by rw [ht.size]; exact h.alt C A hA, fun c o'' hc => ?_, by rw [ht.size]; exact h.n0⟩,
    ⟨Nat.le_of_eq ht.size.symm, Le.refl g, fun c C hc => .inl hc, fun C A hA => .inl ⟨A, hA⟩, fun k hk h1 h2 => ht.other k fun e => h1 b o hg (e ▸ hb)⟩⟩
  · change (S.heap.set b o').get c = some o'' at hc
    rw [Tr.get_set] at hc
    split at hc
    · rename_i e; subst e; cases hc
      exact HR.of_RO hb ht.at_ hO
    · rename_i e
      refine (h.heap c o'' hc).keep (Le.refl g) id (fun _ _ h _ => h) fun C hC => ht.other C fun e' => ?_
      subst e'
      rcases hC with hC | ⟨A, hA, _⟩
      · exact e (h.inj _ _ _ hC hb)
      · rw [h.apart _ _ hb] at hA; cases hA
  · change (S.heap.set b o').get c = some o'' at hc
    rw [Tr.get_set] at hc
    split at hc
    · rename_i e; subst e; exact hv.1
    · exact h.hlt c o'' hc

def Gh.setVar (g : Gh) (b B : Nat) : Gh := { g with var := fun x => if x = b then some B else g.var x }
def Gh.setArr (g : Gh) (B : Nat) (A : Arr) : Gh := { g with arr := fun x => if x = B then some A else g.arr x }

theorem Le.setVar {b B : Nat} (hb : g.var b = none) : Le g (g.setVar b B) := by
  refine ⟨fun x X hx => ?_, fun X A hA => ⟨A.h, Nat.le_refl _, hA⟩⟩
  show (if x = b then some B else g.var x) = some X
  rw [if_neg (fun e => by rw [e, hb] at hx; cases hx)]
  exact hx

/-- A variable, a map, a loop's record: a new block of a name of its own. -/
theorem Sim.pushVar (h : Sim n0 w0 g S w) {b N : Nat} {o : AB} {O : Obj} (hb : g.var b = none) (hbA : ∀ B A, g.arr B = some A → A.b ≠ b) (hbN : b < N) (hN : S.next ≤ N) (hO : RO (g.setVar b w.heap.size) o O) (ht : Grew w w' O) :
    Sim n0 w0 (g.setVar b w.heap.size) { heap := S.heap.set b o, next := N } w' ∧ Keep g S.heap w (g.setVar b w.heap.size) w' := by
  have hle : Le g (g.setVar b w.heap.size) := Le.setVar hb
  have hvar : ∀ x X, (g.setVar b w.heap.size).var x = some X → (x = b ∧ X = w.heap.size) ∨ (x ≠ b ∧ g.var x = some X) := fun x X hx => by
    change (if x = b then some w.heap.size else g.var x) = some X at hx
    split at hx
    · rename_i e; cases hx; exact .inl ⟨e, rfl⟩
    · rename_i e; exact .inr ⟨e, hx⟩
  have hsz := ht.size
  refine ⟨⟨Grew.below h.below ht h.n0, fun c o'' hc => ?_, fun x y X hx hy => ?_, fun x X hx => ?_, fun x X hx => ?_, fun X A hA => ?_, fun c o'' hc => ?_, by have := h.n0; omega⟩, ⟨by omega, hle, fun x X hx => ?_, fun X A hA => .inl ⟨A, hA⟩, fun k hk h1 h2 => ht.old hk⟩⟩
  · change (S.heap.set b o).get c = some o'' at hc
    rw [Tr.get_set] at hc
    split at hc
    · rename_i e; subst e; cases hc
      exact HR.of_RO (show (if c = c then some w.heap.size else g.var c) = some w.heap.size from if_pos rfl) ht.new hO
    · rename_i e
      refine (h.heap c o'' hc).keep hle (fun hn => ?_) (fun _ _ h _ => h) fun C hC => ht.old ?_
      · show (if c = b then some w.heap.size else g.var c) = none
        rw [if_neg e]; exact hn
      · rcases hC with hC | ⟨A, hA, _⟩
        · exact (h.vlt _ _ hC).2.2
        · exact (h.alt _ _ hA).2.2.1
  · rcases hvar x X hx with ⟨e1, e2⟩ | ⟨_, hx'⟩ <;> rcases hvar y _ hy with ⟨e3, e4⟩ | ⟨_, hy'⟩
    · rw [e1, e3]
    · have := (h.vlt _ _ hy').2.2; omega
    · have := (h.vlt _ _ hx').2.2; omega
    · exact h.inj _ _ _ hx' hy'
  · show g.arr X = none
    rcases hvar x X hx with ⟨rfl, rfl⟩ | ⟨_, hx⟩
    · cases hA : g.arr w.heap.size with
      | none => rfl
      | some A => have := (h.alt _ _ hA).2.2.1; omega
    · exact h.apart _ _ hx
  · rcases hvar x X hx with ⟨rfl, rfl⟩ | ⟨_, hx⟩
    · exact ⟨hbN, h.n0, by omega⟩
    · have := h.vlt _ _ hx; exact ⟨Nat.lt_of_lt_of_le this.1 hN, this.2.1, by omega⟩
  · obtain ⟨h1, h2, h3, h4, h5⟩ := h.alt X A hA
    refine ⟨Nat.lt_of_lt_of_le h1 hN, h2, by omega, ?_, h5⟩
    show (if A.b = b then some w.heap.size else g.var A.b) = none
    rw [if_neg (hbA _ _ hA)]; exact h4
  · change (S.heap.set b o).get c = some o'' at hc
    rw [Tr.get_set] at hc
    split at hc
    · rename_i e; subst e; exact hbN
    · exact Nat.lt_of_lt_of_le (h.hlt c o'' hc) hN
  · rcases hvar x X hx with ⟨rfl, rfl⟩ | ⟨_, hx⟩
    · exact .inr (Nat.le_refl _)
    · exact .inl hx

theorem Le.setArr {B : Nat} {A : Arr} (hB : ∀ A0, g.arr B = some A0 → ∃ h', A0.h ≤ h' ∧ A = { A0 with h := h' }) : Le g (g.setArr B A) := by
  refine ⟨fun x X hx => hx, fun X A0 hA => ?_⟩
  show ∃ h', A0.h ≤ h' ∧ (if X = B then some A else g.arr X) = some { A0 with h := h' }
  split
  · rename_i e; subst e
    obtain ⟨h', hl, rfl⟩ := hB A0 hA
    exact ⟨h', hl, rfl⟩
  · exact ⟨A0.h, Nat.le_refl _, hA⟩

/-- The cells of an array's version, read. -/
theorem ArrOk.mk {cs : List CV} {B : Nat} {A : Arr} {C : List Value} {el : TypeId} (hw : w.heap[B]? = some (.cells C.toArray el (0, 0))) (h1 : A.h ≤ cs.length) (h2 : C.length = A.size) (h3 : A.h ≤ A.a0 + A.size)
    (h4 : ∀ i v, A.a0 ≤ i → i < A.h → cs[i]? = some v → ∃ V, C[i - A.a0]? = some V ∧ RC g v V) : ArrOk g w cs B A := ⟨h1, C, el, hw, h2, h3, h4⟩

/-- A new array in the world: of a new block here, or of one that went on. -/
theorem Sim.pushArr (h : Sim n0 w0 g S w) {b N e : Nat} {cs : List CV} {C : List Value} {el : TypeId} {A : Arr} (hvb : g.var b = none) (hbN : b < N) (hN : S.next ≤ N) (hAb : A.b = b) (hAe : A.esz = e) (hA0 : A.a0 ≤ A.h)
    (hold : ∀ B A', g.arr B = some A' → A'.b = b → A'.esz = e ∧ ArrOk g w cs B A') (ht : Grew w w' (.cells C.toArray el (0, 0)))
    (h1 : A.h ≤ cs.length) (h2 : C.length = A.size) (h3 : A.h ≤ A.a0 + A.size) (h4 : ∀ i v, A.a0 ≤ i → i < A.h → cs[i]? = some v → ∃ V, C[i - A.a0]? = some V ∧ RC g v V) :
    Sim n0 w0 (g.setArr w.heap.size A) { heap := S.heap.set b (.arr e cs), next := N } w' ∧ Keep g S.heap w (g.setArr w.heap.size A) w' := by
  have hnew : g.arr w.heap.size = none := by
    cases hA : g.arr w.heap.size with
    | none => rfl
    | some A => have := (h.alt _ _ hA).2.2.1; omega
  have hle : Le g (g.setArr w.heap.size A) := Le.setArr fun A0 h0 => by rw [hnew] at h0; cases h0
  have harr : ∀ X A', (g.setArr w.heap.size A).arr X = some A' → (X = w.heap.size ∧ A' = A) ∨ (X ≠ w.heap.size ∧ g.arr X = some A') := fun X A' hA => by
    change (if X = w.heap.size then some A else g.arr X) = some A' at hA
    split at hA
    · rename_i e; cases hA; exact .inl ⟨e, rfl⟩
    · rename_i e; exact .inr ⟨e, hA⟩
  have hsz := ht.size
  refine ⟨⟨Grew.below h.below ht h.n0, fun c o'' hc => ?_, h.inj, fun x X hx => ?_, fun x X hx => ?_, fun X A' hA => ?_, fun c o'' hc => ?_, by have := h.n0; omega⟩, ⟨by omega, hle, fun x X hx => .inl hx, fun X A' hA => ?_, fun k hk _ _ => ht.old hk⟩⟩
  · change (S.heap.set b (.arr e cs)).get c = some o'' at hc
    rw [Tr.get_set] at hc
    split at hc
    · rename_i ec; subst ec; cases hc
      refine ⟨hvb, fun X A' hA hb => ?_⟩
      rcases harr X A' hA with ⟨rfl, rfl⟩ | ⟨_, hA'⟩
      · exact ⟨hAe, ArrOk.mk ht.new h1 h2 h3 fun i v hi hi2 hv => by
          obtain ⟨V, hV, hr⟩ := h4 i v hi hi2 hv
          exact ⟨V, hV, hr.mono hle⟩⟩
      · obtain ⟨h5, h6⟩ := hold X A' hA' hb
        exact ⟨h5, h6.keep (ht.old (h.alt _ _ hA').2.2.1) hle⟩
    · rename_i ec
      refine (h.heap c o'' hc).keep hle id (fun X A' hA hb => ?_) fun X hX => ht.old ?_
      · rcases harr X A' hA with ⟨_, rfl⟩ | ⟨_, hA'⟩
        · exact absurd (hb.symm.trans hAb) ec
        · exact hA'
      · rcases hX with hX | ⟨A', hA', _⟩
        · exact (h.vlt _ _ hX).2.2
        · exact (h.alt _ _ hA').2.2.1
  · show (if X = w.heap.size then some A else g.arr X) = none
    rw [if_neg (fun e => by have := (h.vlt _ _ hx).2.2; omega)]
    exact h.apart _ _ hx
  · have := h.vlt _ _ hx; exact ⟨Nat.lt_of_lt_of_le this.1 hN, this.2.1, by omega⟩
  · rcases harr X A' hA with ⟨rfl, rfl⟩ | ⟨_, hA'⟩
    · exact ⟨by rw [hAb]; exact hbN, h.n0, by omega, by rw [hAb]; exact hvb, hA0⟩
    · obtain ⟨h5, h6, h7, h8, h9⟩ := h.alt X A' hA'
      exact ⟨Nat.lt_of_lt_of_le h5 hN, h6, by omega, h8, h9⟩
  · change (S.heap.set b (.arr e cs)).get c = some o'' at hc
    rw [Tr.get_set] at hc
    split at hc
    · rename_i e; subst e; exact hbN
    · exact Nat.lt_of_lt_of_le (h.hlt c o'' hc) hN
  · rcases harr X A' hA with ⟨rfl, rfl⟩ | ⟨_, hA'⟩
    · exact .inr (Nat.le_refl _)
    · exact .inl ⟨A', hA'⟩

/-- An array that goes on in its own spare cells. -/
theorem Sim.onArr (h : Sim n0 w0 g S w) {b B e : Nat} {cs new : List CV} {A : Arr} {C' : List Value} {el : TypeId} (hA : g.arr B = some A) (hAb : A.b = b) (hg : S.heap.get b = some (.arr e cs)) (hfull : A.h = cs.length)
    (ht : Turn w w' B (.cells C'.toArray el (0, 0))) (h2 : C'.length = A.size) (h3 : A.h + new.length ≤ A.a0 + A.size)
    (h4 : ∀ i v, A.a0 ≤ i → i < A.h + new.length → (cs ++ new)[i]? = some v → ∃ V, C'[i - A.a0]? = some V ∧ RC g v V) :
    Sim n0 w0 (g.setArr B { A with h := A.h + new.length }) (S.put b (.arr e (cs ++ new))) w' ∧ Keep g S.heap w (g.setArr B { A with h := A.h + new.length }) w' := by
  have hle : Le g (g.setArr B { A with h := A.h + new.length }) := Le.setArr fun A0 h0 => by
    rw [hA] at h0; cases h0
    exact ⟨A.h + new.length, by omega, rfl⟩
  have harr : ∀ X A', (g.setArr B { A with h := A.h + new.length }).arr X = some A' → (X = B ∧ A' = { A with h := A.h + new.length }) ∨ (X ≠ B ∧ g.arr X = some A') := fun X A' hA => by
    change (if X = B then some _ else g.arr X) = some A' at hA
    split at hA
    · rename_i e; cases hA; exact .inl ⟨e, rfl⟩
    · rename_i e; exact .inr ⟨e, hA⟩
  obtain ⟨a1, a2, a3, a4, a5⟩ := h.alt _ _ hA
  obtain ⟨hvb, hall⟩ := h.heap b _ hg
  have hsz := ht.size
  refine ⟨⟨Turn.below h.below ht a2, fun c o'' hc => ?_, h.inj, fun x X hx => ?_, fun x X hx => by rw [hsz]; exact h.vlt x X hx, fun X A' hA' => ?_, fun c o'' hc => ?_, by rw [hsz]; exact h.n0⟩, ⟨by omega, hle, fun x X hx => .inl hx, fun X A' hA' => ?_, fun k hk _ h1 => ht.other k fun e => ?_⟩⟩
  · change (S.heap.set b _).get c = some o'' at hc
    rw [Tr.get_set] at hc
    split at hc
    · rename_i ec; subst ec; cases hc
      refine ⟨hvb, fun X A' hA' hb => ?_⟩
      rcases harr X A' hA' with ⟨rfl, rfl⟩ | ⟨hne, hA''⟩
      · refine ⟨(hall X A hA hAb).1, ArrOk.mk ht.at_ (by rw [List.length_append]; show A.h + _ ≤ _; omega) h2 h3 fun i v hi hi2 hv => ?_⟩
        obtain ⟨V, hV, hr⟩ := h4 i v hi hi2 hv
        exact ⟨V, hV, hr.mono hle⟩
      · obtain ⟨h5, h6⟩ := hall X A' hA'' hb
        exact ⟨h5, (h6.ext new).keep (ht.other X hne) hle⟩
    · rename_i ec
      refine (h.heap c o'' hc).keep hle id (fun X A' hA' hb => ?_) fun X hX => ht.other X fun eX => ?_
      · rcases harr X A' hA' with ⟨_, rfl⟩ | ⟨_, hA''⟩
        · exact absurd (hb.symm.trans hAb) ec
        · exact hA''
      · subst eX
        rcases hX with hX | ⟨A', hA', hb⟩
        · rw [h.apart _ _ hX] at hA; cases hA
        · rw [hA] at hA'; cases hA'
          exact ec (hb.symm.trans hAb)
  · show (if X = B then some _ else g.arr X) = none
    rw [if_neg (fun e => by rw [← e, h.apart _ _ hx] at hA; cases hA)]
    exact h.apart _ _ hx
  · rcases harr X A' hA' with ⟨rfl, rfl⟩ | ⟨_, hA''⟩
    · exact ⟨a1, a2, by omega, a4, by show A.a0 ≤ A.h + _; omega⟩
    · rw [hsz]; exact h.alt X A' hA''
  · change (S.heap.set b _).get c = some o'' at hc
    rw [Tr.get_set] at hc
    split at hc
    · rename_i e; subst e; exact h.hlt _ _ hg
    · exact h.hlt c o'' hc
  · rcases harr X A' hA' with ⟨rfl, rfl⟩ | ⟨_, hA''⟩
    · exact .inl ⟨A, hA⟩
    · exact .inl ⟨A', hA''⟩
  · subst e
    have := h1 A hA
    rw [hAb, hg] at this
    cases this

end
end Go.Proofs.YtjkkclfndlfjhaaGreatDoor.Ev
