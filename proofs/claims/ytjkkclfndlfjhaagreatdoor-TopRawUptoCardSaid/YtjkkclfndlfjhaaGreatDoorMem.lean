/- Words for variables of several cells that a call turns, and what else stays as it was. -/
import Derived.Test.YtjkkclfndlfjhaaGreatDoorAll
import Derived.Test.YtjkkclfndlfjhaaGreatDoorDat
set_option linter.all false
namespace Go.Proofs.YtjkkclfndlfjhaaGreatDoor
open Go.RowKit Crc

/-- Block g holds these cells. -/
def Has (W : World) (g : Nat) (t : TypeId) (cs : Array Value) : Prop := W.heap[g]? = some (.cells cs t (0, 0))
theorem Has.lt {W : World} {g : Nat} {t : TypeId} {cs : Array Value} (h : Has W g t cs) : g < W.heap.size := (Array.getElem?_eq_some_iff.1 h).1
theorem Has.cell {W : World} {g : Nat} {t : TypeId} {cs : Array Value} (h : Has W g t cs) (j : Nat) : W.cell? ⟨g, j, none⟩ = cs[j]? := by simp [World.cell?, show W.heap[g]? = _ from h]
theorem Has.frozen {W : World} {g : Nat} {t : TypeId} {cs : Array Value} (h : Has W g t cs) (j : Nat) : W.frozen? ⟨g, j, none⟩ = false := by simp [World.frozen?, show W.heap[g]? = _ from h]
theorem Has.new (W : World) (t : TypeId) (cs : Array Value) : Has (W.alloc (.cells cs t)) W.heap.size t cs := World.alloc_heap_new W _
theorem Has.kept {W W' : World} {row : Option Nat} {g : Nat} {t : TypeId} {cs : Array Value} (h : Has W g t cs) (hg : W.grownBy W' row) (hne : some g ≠ row) : Has W' g t cs := (hg.block g h.lt hne).trans h
theorem Has.alloc {W : World} {g : Nat} {t : TypeId} {cs : Array Value} (h : Has W g t cs) (o : Obj) : Has (W.alloc o) g t cs := h.kept (World.grownBy_alloc W o none) (by simp)
theorem Has.below {W W' : World} {g B : Nat} {t : TypeId} {cs : Array Value} (h : Has W g t cs) (hb : Below B W W') (hB : g < B) : Has W' g t cs := (hb.block g hB).trans h
theorem Has.drew {W : World} {g : Nat} {t : TypeId} {cs : Array Value} (h : Has W g t cs) : Has W.drew g t cs := h
theorem Has.set {W : World} {g : Nat} {t : TypeId} {cs : Array Value} (h : Has W g t cs) (j : Nat) (u : Value) : Has (W.setCell ⟨g, j, none⟩ u) g t (cs.setIfInBounds j u) := by
  obtain ⟨hlt, hk⟩ := Array.getElem?_eq_some_iff.1 h
  show (W.heap.modify g _)[g]? = _
  rw [Array.getElem?_eq_getElem (by rw [Array.size_modify]; exact hlt), Array.getElem_modify_self, hk]
  rfl
theorem grown_set (W : World) (g j : Nat) (u : Value) : W.grownBy (W.setCell ⟨g, j, none⟩ u) (some g) :=
  ⟨rfl, rfl, rfl, by simp, fun k _ hk => heap_setCell_other W ⟨g, j, none⟩ k u (fun e => hk (by simp [e]))⟩

/-- The blocks of some types. -/
def ByT (ts : List TypeId) (W : World) (k : Nat) : Prop := ∃ cs t fz, W.heap[k]? = some (.cells cs t fz) ∧ t ∈ ts
/-- FRAME: nothing but blocks of these types has turned, and new ones. -/
def FrT (ts : List TypeId) (W W' : World) : Prop := Fr (ByT ts W) W W'
theorem FrT.refl (ts : List TypeId) (W : World) : FrT ts W W := Fr.refl _ W
theorem FrT.trans {ts : List TypeId} {a b c : World} (h1 : FrT ts a b) (h2 : FrT ts b c) : FrT ts a c :=
  Fr.trans h1 h2 fun k hk ⟨cs, t, fz, hb, ht⟩ => Classical.byContradiction fun hn => hn ⟨cs, t, fz, (h1.block k hk hn).symm.trans hb, ht⟩
theorem FrT.mono {ts us : List TypeId} {a b : World} (h1 : FrT ts a b) (h : ∀ t ∈ ts, t ∈ us) : FrT us a b := Fr.mono h1 fun _ _ ⟨cs, t, fz, hb, ht⟩ => ⟨cs, t, fz, hb, h t ht⟩
theorem FrT.alloc {ts : List TypeId} {a b : World} (h : FrT ts a b) (o : Obj) : FrT ts a (b.alloc o) := Fr.alloc h o
theorem FrT.drew {ts : List TypeId} {a b : World} (h : FrT ts a b) : FrT ts a b.drew := Fr.drew h
theorem FrT.below {ts : List TypeId} {a b c : World} (h : FrT ts a b) (hb : Below b.heap.size b c) : FrT ts a c := Fr.below h hb h.size
theorem FrT.ofBelow {ts : List TypeId} {a b : World} (h : Below a.heap.size a b) : FrT ts a b := (FrT.refl ts a).below h
theorem FrT.grown {ts : List TypeId} {r : Option Nat} {a b : World} (h : a.grownBy b r) (hr : ∀ k, r = some k → ByT ts a k) : FrT ts a b := (Fr.ofGrown h).mono fun k _ e => hr k e.symm
theorem FrT.set {ts : List TypeId} {W : World} {g : Nat} {t : TypeId} {cs : Array Value} {fz : Nat × Nat} (h : W.heap[g]? = some (.cells cs t fz)) (ht : t ∈ ts) (j : Nat) (u : Value) : FrT ts W (W.setCell ⟨g, j, none⟩ u) :=
  FrT.grown (grown_set W g j u) fun k e => by cases e; exact ⟨cs, t, fz, h, ht⟩
theorem Has.frT {ts : List TypeId} {W W' : World} {g : Nat} {t : TypeId} {cs : Array Value} (h : Has W g t cs) (f : FrT ts W W') (ht : t ∉ ts) : Has W' g t cs :=
  (f.block g h.lt fun ⟨cs', t', fz, hb, ht'⟩ => by rw [show W.heap[g]? = _ from h] at hb; cases hb; exact ht ht').trans h
theorem OwnL.frT {α : Type} {L : Lay α} {ts : List TypeId} {W W' : World} {base : Nat} {e : TypeId} {v : Value} {xs : List α} (h : OwnL W base e L v xs) (f : FrT ts W W') (ht : e ∉ ts) : OwnL W' base e L v xs :=
  h.fr f fun b hb ⟨cs', t', fz, hb', ht'⟩ => by
    obtain ⟨cs, hc⟩ := h.typed b hb
    rw [hc] at hb'; cases hb'; exact ht ht'

theorem IsBytes.grown {w w' : World} {u : Value} {r : List UInt8} {row : Option Nat} (h : IsBytes w u r) (hg : w.grownBy w' row) (hne : 0 < r.length → u.ownBlock ≠ row) : IsBytes w' u r := h.kept hg hne

/-- The first k bytes of a slice. -/
theorem part_run (v : Value) (b : List UInt8) (w : World) (hv : IsBytes w v b) (k : Nat) (hk : k ≤ b.length) :
    ∃ u, (∀ wx, (Instr.slice 72 v none (some (.int .i64 (k : Int))) none).run Tryz.prog wx = .ok u wx) ∧ IsBytes w u (b.take k) ∧ u.ownBlock = v.ownBlock := by
  obtain ⟨A, cap, rfl, hl, hc, hr⟩ := hv
  obtain ⟨i0, hi0, hz0, hz1, hz2⟩ := info_parts info5
  have hlen : (b.take k).length = k := by rw [List.length_take]; omega
  refine ⟨.slice A k cap, fun wx => ?_, ?_, ?_⟩
  · have h1 := run_underlying (P := Tryz.prog) Tryz.underlying72 wx
    have h2 : k ≤ cap := by omega
    have ha : ∀ x : Addr, x.add 0 = x := fun x => by simp [Addr.add]
    simp [Instr.slice, Instr.sliceBounds, Instr.sliceBound, asIntOf, h1, h2, sizeOf, typeInfo, hi0, ha]
  · refine ⟨A, cap, by rw [hlen], by omega, hc, fun hp => ?_⟩
    obtain ⟨g, off, rfl, hcell⟩ := hr (by omega)
    refine ⟨g, off, rfl, fun i c hi => hcell i c ?_⟩
    rw [List.getElem?_take] at hi
    split at hi
    · exact hi
    · cases hi
  · cases A <;> rfl
/-- The bytes from k on. -/
theorem drop_run (v : Value) (b : List UInt8) (w : World) (hv : IsBytes w v b) (k : Nat) (hk : k ≤ b.length) :
    ∃ u, (∀ wx, (Instr.slice 72 v (some (.int .i64 (k : Int))) none none).run Tryz.prog wx = .ok u wx) ∧ IsBytes w u (b.drop k) ∧ u.ownBlock = v.ownBlock := by
  obtain ⟨A, cap, rfl, hl, hc, hr⟩ := hv
  obtain ⟨i0, hi0, hz0, hz1, hz2⟩ := info_parts info5
  have hlen : (b.drop k).length = b.length - k := List.length_drop
  refine ⟨.slice (if cap = k then A else A.map (·.add k)) (b.length - k) (cap - k), fun wx => ?_, ?_, ?_⟩
  · have h1 := run_underlying (P := Tryz.prog) Tryz.underlying72 wx
    simp [Instr.slice, Instr.sliceBounds, Instr.sliceBound, asIntOf, h1, hk, sizeOf, typeInfo, hi0, hz1]
  · by_cases hkb : k < b.length
    · obtain ⟨g, off, rfl, hcell⟩ := hr (by omega)
      rw [if_neg (by omega)]
      have := sub_bytes hcell k (b.length - k) (cap - k) (by omega) (by omega) (by simp only [maxLen] at hc ⊢; omega)
      rw [List.take_of_length_le (by omega)] at this
      simpa [Go.WideShapes.add_plain] using this
    · refine ⟨_, cap - k, by rw [hlen], by omega, by simp only [maxLen] at hc ⊢; omega, fun h => by omega⟩
  · by_cases hck : cap = k
    · rw [if_pos hck]
      cases A <;> rfl
    · rw [if_neg hck]
      cases A with
      | none => rfl
      | some a => simp only [Option.map_some, Value.ownBlock, Addr.add]; split <;> rfl

/-- A Reader at block g that has this still. -/
def Rd (W : World) (g : Nat) (R : Rs) : Prop := ∃ v, Has W g 231 #[v, .bool R.bad] ∧ IsBytes W v R.rest ∧ (0 < R.rest.length → ∀ b, v.ownBlock = some b → b < g)
theorem Rd.lt {W : World} {g : Nat} {R : Rs} (h : Rd W g R) : g < W.heap.size := by obtain ⟨v, h, _⟩ := h; exact h.lt
theorem Rd.kept {W W' : World} {g : Nat} {R : Rs} (h : Rd W g R) (hb : Below W.heap.size W W') : Rd W' g R := by
  obtain ⟨v, h1, h2, h3⟩ := h
  exact ⟨v, h1.below hb h1.lt, h2.below hb, h3⟩
theorem IsBytes.fr {S : Nat → Prop} {w w' : World} {v : Value} {xs : List UInt8} (h : IsBytes w v xs) (f : Fr S w w') (hne : 0 < xs.length → ∀ b, v.ownBlock = some b → ¬ S b) : IsBytes w' v xs := by
  by_cases hp : 0 < xs.length
  · obtain ⟨b, hb, hlt⟩ := h.block hp
    have hn := hne hp b hb
    obtain ⟨A, cap, rfl, hl, hc, hr⟩ := h
    obtain ⟨b', off, rfl, hcell⟩ := hr hp
    simp only [Value.ownBlock, Option.some.injEq] at hb
    subst hb
    refine ⟨_, _, rfl, hl, hc, fun _ => ⟨_, _, rfl, fun i c hi => ?_⟩⟩
    have hh := f.block b' hlt hn
    rw [← hcell i c hi]
    simp only [World.cell?]
    rw [hh]
  · obtain ⟨A, cap, rfl, hl, hc, hr⟩ := h
    exact ⟨_, _, rfl, hl, hc, fun h' => absurd h' hp⟩
theorem Rd.fr {S : Nat → Prop} {W W' : World} {g : Nat} {R : Rs} (h : Rd W g R) (f : Fr S W W') (hS : ∀ b, b ≤ g → ¬ S b) : Rd W' g R := by
  obtain ⟨v, h1, h2, h3⟩ := h
  exact ⟨v, (f.block g h1.lt (hS g (Nat.le_refl _))).trans h1, h2.fr f (fun hp b hb => hS b (Nat.le_of_lt (h3 hp b hb))), h3⟩
theorem Has.fr {S : Nat → Prop} {W W' : World} {g : Nat} {t : TypeId} {cs : Array Value} (h : Has W g t cs) (f : Fr S W W') (hS : ¬ S g) : Has W' g t cs := (f.block g h.lt hS).trans h
end Go.Proofs.YtjkkclfndlfjhaaGreatDoor
