/- How the evaluator's state stands to a world: the blocks here and there, what lies in them. -/
import Derived.Test.YtjkkclfndlfjhaaGreatDoorEvE
import Derived.Calls
import Derived.Below
import Derived.Laws.Cells
import Derived.Laws.CopyRow
import Derived.ChangeKeysEq
set_option linter.all false
namespace Go.Proofs.YtjkkclfndlfjhaaGreatDoor.Ev
open Go Go.RowKit

theorem bnd_some {α β : Type} {x : Option α} {f : α → Option β} {b : β} (h : bnd x f = some b) : ∃ a, x = some a ∧ f a = some b := by
  cases x with
  | none => cases h
  | some a => exact ⟨a, rfl, h⟩
theorem sel_true {α : Type} {b : Bool} {x : Option α} {a : α} (h : sel b x none = some a) : b = true ∧ x = some a := by
  cases b with
  | false => cases h
  | true => exact ⟨rfl, h⟩

/-- Two lists, place by place. -/
inductive F2 {α β : Type} (r : α → β → Prop) : List α → List β → Prop where
  | nil : F2 r [] []
  | cons {a : α} {b : β} {l : List α} {m : List β} (h : r a b) (t : F2 r l m) : F2 r (a :: l) (b :: m)
section
variable {α β : Type} {r s : α → β → Prop}
theorem F2.mono (h : ∀ a b, r a b → s a b) {l : List α} {m : List β} (hl : F2 r l m) : F2 s l m := by
  induction hl with
  | nil => exact .nil
  | cons h1 _ ih => exact .cons (h _ _ h1) ih
theorem F2.length {l : List α} {m : List β} (h : F2 r l m) : l.length = m.length := by
  induction h with
  | nil => rfl
  | cons _ _ ih => simp [ih]
theorem F2.get {l : List α} {m : List β} (h : F2 r l m) : ∀ (i : Nat) (a : α), l[i]? = some a → ∃ b, m[i]? = some b ∧ r a b := by
  induction h with
  | nil => intro i a hi; simp at hi
  | cons h1 _ ih =>
    intro i a hi
    cases i with
    | zero => exact ⟨_, rfl, by simp at hi; subst hi; exact h1⟩
    | succ i => simpa using ih i a (by simpa using hi)
theorem F2.append {l l' : List α} {m m' : List β} (h : F2 r l m) (h' : F2 r l' m') : F2 r (l ++ l') (m ++ m') := by
  induction h with
  | nil => exact h'
  | cons h1 _ ih => exact .cons h1 ih
theorem F2.take {l : List α} {m : List β} (h : F2 r l m) : ∀ n, F2 r (l.take n) (m.take n) := by
  induction h with
  | nil => intro n; simp; exact .nil
  | cons h1 _ ih => intro n; cases n with
    | zero => exact .nil
    | succ n => exact .cons h1 (ih n)
theorem F2.drop {l : List α} {m : List β} (h : F2 r l m) : ∀ n, F2 r (l.drop n) (m.drop n) := by
  induction h with
  | nil => intro n; simp; exact .nil
  | cons h1 t ih => intro n; cases n with
    | zero => exact .cons h1 t
    | succ n => exact ih n
theorem F2.of_get {l : List α} {m : List β} (hn : l.length = m.length) (h : ∀ (i : Nat) (a : α), l[i]? = some a → ∃ b, m[i]? = some b ∧ r a b) : F2 r l m := by
  induction l generalizing m with
  | nil => cases m with
    | nil => exact .nil
    | cons b m => simp at hn
  | cons a l ih => cases m with
    | nil => simp at hn
    | cons b m =>
      obtain ⟨b', e, hb⟩ := h 0 a rfl
      simp at e; subst e
      exact .cons hb (ih (by simpa using hn) fun i x hi => by simpa using h (i + 1) x (by simpa using hi))
end

/-- The bytes of a text. -/
def baOf (l : List Nat) : ByteArray := ⟨(l.map UInt8.ofNat).toArray⟩

/-- An array of the world's as a version of a block here: which block, from which place on, up to which place, how large an element is, how many cells it has. -/
structure Arr where
  b : Nat
  a0 : Nat
  h : Nat
  esz : Nat
  size : Nat

structure Gh where
  var : Nat → Option Nat
  arr : Nat → Option Arr

def Le (g g' : Gh) : Prop := (∀ b B, g.var b = some B → g'.var b = some B) ∧ ∀ B A, g.arr B = some A → ∃ h', A.h ≤ h' ∧ g'.arr B = some { A with h := h' }
theorem Le.refl (g : Gh) : Le g g := ⟨fun _ _ h => h, fun _ A h => ⟨A.h, Nat.le_refl _, h⟩⟩
theorem Le.trans {a b c : Gh} (h : Le a b) (k : Le b c) : Le a c := by
  refine ⟨fun x B hx => k.1 x B (h.1 x B hx), fun B A hA => ?_⟩
  obtain ⟨h1, l1, e1⟩ := h.2 B A hA
  obtain ⟨h2, l2, e2⟩ := k.2 B _ e1
  exact ⟨h2, Nat.le_trans l1 l2, e2⟩

def PtrR (g : Gh) (b off : Nat) (a : Addr) : Prop := a.spot = none ∧ g.var b = some a.block ∧ a.off = off
/-- A pointer into an element of an array. -/
def ElR (g : Gh) (b off lim : Nat) (a : Addr) : Prop := a.spot = none ∧ ∃ A, g.arr a.block = some A ∧ A.b = b ∧ off = A.a0 + a.off ∧ lim ≤ A.h
def SlR (g : Gh) (b off len esz : Nat) (clip : Bool) (a : Addr) (cap : Nat) : Prop :=
  a.spot = none ∧ len ≤ cap ∧ (clip = true → cap = len) ∧
    (cap = 0 ∨ ∃ A, g.arr a.block = some A ∧ A.b = b ∧ A.esz = esz ∧ off = A.a0 + a.off ∧ off + len * esz ≤ A.h ∧ a.off + cap * esz ≤ A.size)
def PtrV (g : Gh) (p : Nat × Nat) (v : Value) : Prop := ∃ a, v = .pointer (some a) ∧ PtrR g p.1 p.2 a

/-- What lies in a cell. -/
def RC (g : Gh) : CV → Value → Prop
  | .b x, v => v = .bool x
  | .i k n, v => v = .int k n
  | .s l, v => v = .string (baOf l) ∧ ∀ x ∈ l, x < 256
  | .np, v => v = .pointer none
  | .p b off, v => PtrV g (b, off) v
  | .pe b off lim, v => ∃ a, v = .pointer (some a) ∧ ElR g b off lim a
  | .ns, v => v = .slice none 0 0
  | .sl b off len esz clip, v => ∃ a cap, v = .slice (some a) len cap ∧ SlR g b off len esz clip a cap
  | .nm, v => v = .map none
  | .m id, v => ∃ B, v = .map (some B) ∧ g.var id = some B
  | .fn f fs cs, v => ∃ F C : List Value, v = .func (.func f) F.toArray C.toArray ∧ F2 (PtrV g) fs F ∧ F2 (PtrV g) cs C
  | .y l, v => ∃ B, v = .func (.yield B) #[] #[] ∧ g.var l = some B
  | .nf, v => v = .nilFunc
  | .ni, v => v = .nilIface
def RA (g : Gh) : AV → Value → Prop
  | .c v, V => RC g v V
  | .g l, V => ∃ L : List Value, V = .agg L.toArray ∧ F2 (RC g) l L
def RT (g : Gh) : TV → Value → Prop
  | .a v, V => RA g v V
  | .t l, V => ∃ L : List Value, V = .tuple L.toArray ∧ F2 (RA g) l L

theorem PtrR.mono {g g' : Gh} (hl : Le g g') {b off : Nat} {a : Addr} (h : PtrR g b off a) : PtrR g' b off a := ⟨h.1, hl.1 _ _ h.2.1, h.2.2⟩
theorem ElR.mono {g g' : Gh} (hl : Le g g') {b off lim : Nat} {a : Addr} (h : ElR g b off lim a) : ElR g' b off lim a := by
  obtain ⟨h0, A, h1, h2, h3, h4⟩ := h
  obtain ⟨h', l', e'⟩ := hl.2 _ _ h1
  exact ⟨h0, _, e', h2, h3, Nat.le_trans h4 l'⟩
theorem SlR.mono {g g' : Gh} (hl : Le g g') {b off len esz : Nat} {clip : Bool} {a : Addr} {cap : Nat} (h : SlR g b off len esz clip a cap) : SlR g' b off len esz clip a cap := by
  refine ⟨h.1, h.2.1, h.2.2.1, ?_⟩
  rcases h.2.2.2 with h0 | ⟨A, h1, h2, h3, h4, h5, h6⟩
  · exact .inl h0
  · obtain ⟨h', l', e'⟩ := hl.2 _ _ h1
    exact .inr ⟨_, e', h2, h3, h4, Nat.le_trans h5 l', h6⟩
theorem PtrV.mono {g g' : Gh} (hl : Le g g') {p : Nat × Nat} {v : Value} (h : PtrV g p v) : PtrV g' p v := let ⟨a, e, h⟩ := h; ⟨a, e, h.mono hl⟩
theorem RC.mono {g g' : Gh} (hl : Le g g') {c : CV} {v : Value} (h : RC g c v) : RC g' c v := by
  cases c with
  | p b off => exact PtrV.mono hl h
  | pe b off lim => obtain ⟨a, e, h⟩ := h; exact ⟨a, e, h.mono hl⟩
  | sl b off len esz clip => obtain ⟨a, cap, e, h⟩ := h; exact ⟨a, cap, e, h.mono hl⟩
  | m id => obtain ⟨B, e, h⟩ := h; exact ⟨B, e, hl.1 _ _ h⟩
  | fn f fs cs => obtain ⟨F, C, e, h1, h2⟩ := h; exact ⟨F, C, e, F2.mono (fun _ _ => PtrV.mono hl) h1, F2.mono (fun _ _ => PtrV.mono hl) h2⟩
  | y l => obtain ⟨B, e, h⟩ := h; exact ⟨B, e, hl.1 _ _ h⟩
  | _ => exact h
theorem RA.mono {g g' : Gh} (hl : Le g g') {c : AV} {v : Value} (h : RA g c v) : RA g' c v := by
  cases c with
  | c v => exact RC.mono hl h
  | g l => obtain ⟨L, e, h⟩ := h; exact ⟨L, e, F2.mono (fun _ _ => RC.mono hl) h⟩
theorem RT.mono {g g' : Gh} (hl : Le g g') {c : TV} {v : Value} (h : RT g c v) : RT g' c v := by
  cases c with
  | a v => exact RA.mono hl h
  | t l => obtain ⟨L, e, h⟩ := h; exact ⟨L, e, F2.mono (fun _ _ => RA.mono hl) h⟩

theorem RT.undef (g : Gh) : RT g undefA undef := ⟨[], rfl, .nil⟩

/-- The slots. -/
def TmR (g : Gh) (n : Nat) (t : Tm) (T : Array Value) : Prop := T.size = n ∧ ∀ k v, t k = some v → k < n ∧ RT g v (T.getD k undef)
theorem TmR.mono {g g' : Gh} (hl : Le g g') {n : Nat} {t : Tm} {T : Array Value} (h : TmR g n t T) : TmR g' n t T := ⟨h.1, fun k v hk => ⟨(h.2 k v hk).1, (h.2 k v hk).2.mono hl⟩⟩

theorem upd_eq (t : Tm) (k : Nat) (x : TV) (j : Nat) : upd t k x j = if j = k then some x else t j := sel_beq j k _ _
theorem TmR.upd {g : Gh} {n : Nat} {t : Tm} {T : Array Value} (h : TmR g n t T) {d : Nat} (hd : d < n) {v : TV} {V : Value} (hv : RT g v V) : TmR g n (upd t d v) (T.setIfInBounds d V) := by
  refine ⟨by simp [h.1], fun k u hk => ?_⟩
  rw [upd_eq] at hk
  by_cases e : k = d
  · subst e
    rw [if_pos rfl] at hk
    cases hk
    refine ⟨hd, ?_⟩
    rw [Array.getD_eq_getD_getElem?, Array.getElem?_setIfInBounds_self_of_lt (by rw [h.1]; exact hd)]
    exact hv
  · rw [if_neg e] at hk
    obtain ⟨h1, h2⟩ := h.2 k u hk
    refine ⟨h1, ?_⟩
    rw [Array.getD_eq_getD_getElem?, Array.getElem?_setIfInBounds_ne (Ne.symm e), ← Array.getD_eq_getD_getElem?]
    exact h2

/-- The slots that are kept. -/
def Kept (keep : Nat) (tk : Tm) : Prop := ∀ k v, tk k = some v → bit keep k = true

/-- What a block holds that is no array of a slice's. -/
def RO (g : Gh) : AB → Obj → Prop
  | .row cs, o => ∃ (C : List Value) (el : TypeId), o = .cells C.toArray el (0, 0) ∧ F2 (RC g) cs C
  | .arr .., _ => False
  | .map es, o => ∃ (E : List MapEntry) (clock : Nat), o = .map E.toArray clock ∧ F2 (fun p e => RC g p.1 e.key ∧ RC g p.2 e.val) es E ∧ (∀ e ∈ E, e.born < clock) ∧ E.Pairwise (fun a b => a.born ≠ b.born)
  | .loop lp, o => ∃ L : Loop, o = .loop L ∧ L.state = lp.st ∧ L.pending = lp.pend ∧ L.fn = lp.fn ∧ TmR g lp.n lp.tmps L.tmps ∧ L.params.toList = lp.params ∧ L.assign = lp.assign ∧ L.body = lp.body ∧ g.var lp.mark = some L.defers ∧ Kept lp.keep lp.tmps
  | .dfr on, o => o = .deferred (match on with | true => some [] | false => none)
theorem RO.mono {g g' : Gh} (hl : Le g g') {b : AB} {o : Obj} (h : RO g b o) : RO g' b o := by
  cases b with
  | row cs => obtain ⟨C, el, e, h⟩ := h; exact ⟨C, el, e, F2.mono (fun _ _ => RC.mono hl) h⟩
  | arr e cs => exact h
  | map es => obtain ⟨E, clock, e, h, h2⟩ := h; exact ⟨E, clock, e, F2.mono (fun _ _ hp => ⟨hp.1.mono hl, hp.2.mono hl⟩) h, h2⟩
  | loop lp => obtain ⟨L, e, h1, h2, h3, h4, h5, h6, h7, h8, h9⟩ := h; exact ⟨L, e, h1, h2, h3, h4.mono hl, h5, h6, h7, hl.1 _ _ h8, h9⟩
  | dfr on => exact h

/-- An array of the world's holds the block's cells, as far as it is a version of it. -/
def ArrOk (g : Gh) (w : World) (cs : List CV) (B : Nat) (A : Arr) : Prop :=
  A.h ≤ cs.length ∧ ∃ (C : List Value) (el : TypeId), w.heap[B]? = some (.cells C.toArray el (0, 0)) ∧ C.length = A.size ∧ A.h ≤ A.a0 + A.size ∧
    ∀ i v, A.a0 ≤ i → i < A.h → cs[i]? = some v → ∃ V, C[i - A.a0]? = some V ∧ RC g v V
def HR (g : Gh) (w : World) (b : Nat) : AB → Prop
  | .arr e cs => g.var b = none ∧ ∀ B A, g.arr B = some A → A.b = b → A.esz = e ∧ ArrOk g w cs B A
  | o => ∃ B O, g.var b = some B ∧ w.heap[B]? = some O ∧ RO g o O

/-- THE HEAP HERE, AND THE WORLD's. -/
def HS (g : Gh) (H : Tr AB) (w : World) : Prop := ∀ b o, H.get b = some o → HR g w b o

structure Sim (n0 : Nat) (w0 : World) (g : Gh) (S : St) (w : World) : Prop where
  below : Below n0 w0 w
  heap : HS g S.heap w
  inj : ∀ b b' B, g.var b = some B → g.var b' = some B → b = b'
  apart : ∀ b B, g.var b = some B → g.arr B = none
  vlt : ∀ b B, g.var b = some B → b < S.next ∧ n0 ≤ B ∧ B < w.heap.size
  alt : ∀ B A, g.arr B = some A → A.b < S.next ∧ n0 ≤ B ∧ B < w.heap.size ∧ g.var A.b = none ∧ A.a0 ≤ A.h
  hlt : ∀ b o, S.heap.get b = some o → b < S.next
  n0 : n0 ≤ w.heap.size

/-- What a step keeps: what it knows nothing of lies as it lay; what it came to know of is new. -/
structure Keep (g : Gh) (H : Tr AB) (w : World) (g' : Gh) (w' : World) : Prop where
  size : w.heap.size ≤ w'.heap.size
  le : Le g g'
  var : ∀ b B, g'.var b = some B → g.var b = some B ∨ w.heap.size ≤ B
  arr : ∀ B A, g'.arr B = some A → (∃ A0, g.arr B = some A0) ∨ w.heap.size ≤ B
  same : ∀ B, B < w.heap.size → (∀ b o, H.get b = some o → g.var b ≠ some B) → (∀ A, g.arr B = some A → H.get A.b = none) → w'.heap[B]? = w.heap[B]?

end Go.Proofs.YtjkkclfndlfjhaaGreatDoor.Ev
/- Small laws: lists, operands, types, what is read of a heap. -/
namespace Go.Proofs.YtjkkclfndlfjhaaGreatDoor.Ev
open Go Go.RowKit

section
variable {α β : Type}
theorem lenR_eq (l : List α) : lenR l = l.length := by
  induction l with
  | nil => rfl
  | cons a l ih => show (lenR l).succ = _; rw [ih]; rfl
theorem appR_eq (l m : List α) : appR l m = l ++ m := by
  induction l with
  | nil => rfl
  | cons a l ih => show a :: appR l m = _; rw [ih]; rfl
theorem dropR_eq (n : Nat) : ∀ l : List α, dropR n l = l.drop n := by
  induction n with
  | zero => intro l; rfl
  | succ n ih => intro l; cases l with
    | nil => rfl
    | cons a l => exact ih l
theorem takeR_eq (n : Nat) : ∀ l : List α, takeR n l = l.take n := by
  induction n with
  | zero => intro l; rfl
  | succ n ih => intro l; cases l with
    | nil => rfl
    | cons a l => show a :: takeR n l = _; rw [ih]; rfl
theorem setAt_eq (new : List α) (k : Nat) : ∀ l : List α, k ≤ l.length → setAt new k l = l.take k ++ new ++ l.drop (k + new.length) := by
  induction k with
  | zero => intro l _; show appR new (dropR (lenR new) l) = _; rw [appR_eq, dropR_eq, lenR_eq]; simp
  | succ k ih => intro l hk; cases l with
    | nil => simp at hk
    | cons a l =>
      show a :: setAt new k l = _
      rw [ih l (by simpa using hk), Nat.add_right_comm]
      rfl
theorem cut_some {l r : List α} {off n : Nat} (h : cut l off n = some r) : off + n ≤ l.length ∧ r = (l.drop off).take n := by
  obtain ⟨h1, h2⟩ := sel_true h
  have := Nat.le_of_ble_eq_true h1
  rw [lenR_eq] at this
  refine ⟨this, ?_⟩
  cases h2
  rw [takeR_eq, dropR_eq]
theorem F2.flip {r : α → β → Prop} {s : β → α → Prop} (h : ∀ a b, r a b → s b a) {l : List α} {m : List β} (hl : F2 r l m) : F2 s m l := by
  induction hl with
  | nil => exact .nil
  | cons h1 _ ih => exact .cons (h _ _ h1) ih
theorem mapO_some {f : α → Option β} {l : List α} : ∀ {r : List β}, mapO f l = some r → F2 (fun a b => f a = some b) l r := by
  induction l with
  | nil => intro r h; cases h; exact .nil
  | cons a l ih =>
    intro r h
    have h : bnd (f a) (fun b => bnd (mapO f l) fun r => some (b :: r)) = some r := h
    obtain ⟨b, hb, h⟩ := bnd_some h
    obtain ⟨r', hr, h⟩ := bnd_some h
    cases h
    exact .cons hb (ih hr)
end

theorem blt_true {a b : Nat} (h : Nat.blt a b = true) : a < b := Nat.lt_of_succ_le (Nat.le_of_ble_eq_true h)
theorem eqB_eq (x y : Bool) : eqB x y = (x == y) := by cases x <;> cases y <;> rfl
theorem eqL_eq : ∀ l m : List Nat, eqL l m = true ↔ l = m
  | [], [] => by simp [eqL]
  | [], b :: m => by simp [eqL]
  | a :: l, [] => by simp [eqL]
  | a :: l, b :: m => by
    rw [eqL]
    cases h : Nat.beq a b with
    | true => simp [Nat.eq_of_beq_eq_true h, eqL_eq l m]
    | false => simp [Nat.ne_of_beq_eq_false h]

-- OPERANDS

section
variable {g : Gh} {t : Tm} {ρ : Operand → Value}

def OpR (g : Gh) (t : Tm) (ρ : Operand → Value) (x : Operand) : Prop := ∀ v, opd t x = some v → RT g v (ρ x)

theorem OpR.a {x : Operand} (h : OpR g t ρ x) {v : AV} (hx : opA t x = some v) : RA g v (ρ x) := by
  unfold opA at hx
  split at hx
  · rename_i u hu; cases hx; exact h _ hu
  · cases hx
theorem OpR.c {x : Operand} (h : OpR g t ρ x) {v : CV} (hx : opC t x = some v) : RC g v (ρ x) := by
  unfold opC at hx
  split at hx
  · rename_i u hu; cases hx; exact h _ hu
  · cases hx
theorem OpR.p {x : Operand} (h : OpR g t ρ x) {p : Nat × Nat} (hx : opP t x = some p) : PtrV g p (ρ x) := by
  unfold opP at hx
  split at hx
  · rename_i b o hu; cases hx; exact h.c hu
  · cases hx
theorem OpR.i {x : Operand} (h : OpR g t ρ x) {n : Int} (hx : opI t x = some n) : ∃ k, ρ x = .int k n := by
  unfold opI at hx
  split at hx
  · rename_i k m hu; cases hx; exact ⟨k, h.c hu⟩
  · cases hx
theorem natOf_some {i : Int} {n : Nat} (h : natOf i = some n) : i = (n : Int) := by
  cases i with
  | ofNat k => cases h; rfl
  | negSucc k => cases h
theorem OpR.n {x : Operand} (h : OpR g t ρ x) {n : Nat} (hx : opN t x = some n) : ∃ k, ρ x = .int k (n : Int) := by
  obtain ⟨i, hi, hn⟩ := bnd_some hx
  obtain ⟨k, hk⟩ := h.i hi
  exact ⟨k, by rw [hk, natOf_some hn]⟩

theorem cvtC_sound {v : Value} {c : CV} (h : cvtC v = some c) (g : Gh) : RC g c v := by
  unfold cvtC at h
  split at h <;> first | cases h | skip
  all_goals first | rfl | skip
  rename_i s
  refine ⟨?_, fun x hx => ?_⟩
  · unfold baOf
    rw [List.map_map]
    have : (UInt8.ofNat ∘ fun x : UInt8 => x.toNat) = id := by funext x; simp
    rw [this, List.map_id]
  · simp only [List.mem_map] at hx
    obtain ⟨u, _, rfl⟩ := hx
    exact u.toNat_lt
theorem cvt_sound {v : Value} {c : TV} (h : cvt v = some c) (g : Gh) : RT g c v := by
  unfold cvt at h
  split at h
  · rename_i l
    obtain ⟨r, hr, h⟩ := bnd_some h
    cases h
    exact ⟨l.toList, by simp, (mapO_some hr).flip fun _ _ h => cvtC_sound h g⟩
  · rename_i l
    split at h
    · rename_i hl; cases h; exact ⟨[], by rw [← hl], .nil⟩
    · cases h
  · obtain ⟨r, hr, h⟩ := bnd_some h
    cases h
    exact cvtC_sound hr g
end
end Go.Proofs.YtjkkclfndlfjhaaGreatDoor.Ev
