/- The operations that turn the heap: stores, maps, append; those that make a block. -/
import Derived.Test.YtjkkclfndlfjhaaGreatDoorEvS
import Derived.Laws.Append
set_option linter.all false
set_option linter.unusedSimpArgs false
namespace Go.Proofs.YtjkkclfndlfjhaaGreatDoor.Ev
open Go Go.RowKit

variable {P : Program} {ty : Nat → Option TI}
section ops
variable {n0 : Nat} {w0 : World} {g : Gh} {S : St} {t : Tm} {ρ : Operand → Value} {w : World}

/-- Names that came are new. -/
def Names (S S' : St) : Prop := ∀ b o, S'.heap.get b = some o → (∃ o', S.heap.get b = some o') ∨ S.next ≤ b
theorem Names.refl (S : St) : Names S S := fun b o h => .inl ⟨o, h⟩
theorem Names.set {S : St} {k N : Nat} {o : AB} (h : (∃ o', S.heap.get k = some o') ∨ S.next ≤ k) : Names S { heap := S.heap.set k o, next := N } := fun b o' hb => by
  change (S.heap.set k o).get b = some o' at hb
  rw [Tr.get_set] at hb
  split at hb
  · rename_i e; subst e; exact h
  · exact .inl ⟨o', hb⟩

/-- Names that came to be known are new, or of arrays that went on. -/
def GN (g : Gh) (S : St) (g' : Gh) : Prop := (∀ b B, g'.var b = some B → g.var b = some B ∨ S.next ≤ b) ∧ ∀ B A, g'.arr B = some A → g.arr B = some A ∨ S.next ≤ A.b ∨ ∃ o, S.heap.get A.b = some o
theorem GN.refl (g : Gh) (S : St) : GN g S g := ⟨fun _ _ h => .inl h, fun _ _ h => .inl h⟩
theorem GN.arr {g : Gh} {S : St} {B : Nat} {A : Arr} (h : S.next ≤ A.b ∨ ∃ o, S.heap.get A.b = some o) : GN g S (g.setArr B A) := by
  refine ⟨fun _ _ h => .inl h, fun X A' hA => ?_⟩
  change (if X = B then some A else g.arr X) = some A' at hA
  split at hA
  · cases hA; exact .inr h
  · exact .inl hA
theorem GN.var {g : Gh} {S : St} {b B : Nat} (h : S.next ≤ b) : GN g S (g.setVar b B) := by
  refine ⟨fun x X hx => ?_, fun _ _ h => .inl h⟩
  change (if x = b then some B else g.var x) = some X at hx
  split at hx
  · rename_i e; subst e; exact .inr h
  · exact .inl hx
theorem GN.trans {g g1 g2 : Gh} {S S1 : St} (h : GN g S g1) (k : GN g1 S1 g2) (hn : S.next ≤ S1.next) (hN : Names S S1) : GN g S g2 := by
  refine ⟨fun b B hb => ?_, fun B A hA => ?_⟩
  · rcases k.1 b B hb with h1 | h1
    · exact h.1 b B h1
    · exact .inr (Nat.le_trans hn h1)
  · rcases k.2 B A hA with h1 | h1 | ⟨o, h1⟩
    · exact h.2 B A h1
    · exact .inr (.inl (Nat.le_trans hn h1))
    · rcases hN _ _ h1 with h2 | h2
      · exact .inr (.inr h2)
      · exact .inr (.inl h2)

/-- What an operation comes to. -/
def Post (n0 : Nat) (w0 : World) (g : Gh) (S : St) (w : World) (v : TV) (S' : St) (V : Value) (w' : World) : Prop :=
  ∃ g', Sim n0 w0 g' S' w' ∧ Keep g S.heap w g' w' ∧ RT g' v V ∧ S.next ≤ S'.next ∧ Names S S' ∧ GN g S g'

theorem RC.one {c : CV} {v : Value} (h : RC g c v) : v.oneCell' = true := by
  cases c <;> simp only [RC] at h
  case p => obtain ⟨a, rfl, _⟩ := h; rfl
  case pe => obtain ⟨a, rfl, _⟩ := h; rfl
  case sl => obtain ⟨a, cap, rfl, _⟩ := h; rfl
  case m => obtain ⟨B, rfl, _⟩ := h; rfl
  case fn => obtain ⟨F, C, rfl, _⟩ := h; rfl
  case y => obtain ⟨B, rfl, _⟩ := h; rfl
  case s => obtain ⟨rfl, _⟩ := h; rfl
  all_goals subst h; rfl
theorem F2.one {l : List CV} {L : List Value} (h : F2 (RC g) l L) : ∀ v ∈ L, v.oneCell' = true := by
  induction h with
  | nil => simp
  | cons h1 _ ih =>
    intro v hv
    rcases List.mem_cons.1 hv with rfl | hv
    · exact h1.one
    · exact ih v hv

theorem fillStep_some {v : AV} {off size : Nat} {cs r : List CV} (h : fillStep v off size cs = some r) : (cells v).length = size ∧ off + size ≤ cs.length ∧ r = cs.take off ++ cells v ++ cs.drop (off + (cells v).length) := by
  unfold fillStep at h
  split at h
  · rename_i h1 h2
    have h1 := Nat.eq_of_beq_eq_true h1
    have h2 := Nat.le_of_ble_eq_true h2
    rw [lenR_eq] at h1 h2
    cases h
    have h2 : off + size ≤ cs.length := h2
    exact ⟨h1, h2, setAt_eq _ _ _ (by omega)⟩
  · cases h

theorem nStore_sound (hty : TyAll P ty) (hS : Sim n0 w0 g S w) {ti : Nat} {a x : Operand} (ha : OpR g t ρ a) (hx : OpR g t ρ x) {v : TV} {S' : St} (h : nStore ty t S ti a x = some (v, S')) :
    ∃ w', (Instr.storeAt ti (ρ a) (ρ x)).run P w = .ok () w' ∧ Post n0 w0 g S w v S' undef w' := by
  replace h := bnd_some h; obtain ⟨i, hi, h⟩ := h
  replace h := bnd_some h; obtain ⟨p, hp, h⟩ := h
  replace h := bnd_some h; obtain ⟨u, hu, h⟩ := h
  obtain ⟨ad, e1, hsp, hv, ho⟩ := ha.p hp
  obtain ⟨L, hL, hF⟩ := cells_of (hx.a hu)
  change (match S.heap.get p.1 with | some (.row cs) => storeRow S p.1 p.2 i.size u cs | _ => none) = some (v, S') at h
  split at h
  · rename_i cs hH
    replace h := bnd_some h; obtain ⟨cs', hcs, h⟩ := h
    cases h
    obtain ⟨hlen, hoff, rfl⟩ := fillStep_some hcs
    obtain ⟨B, O, hB, hO, C, el, rfl, hC⟩ := hS.heap _ _ hH
    rw [hv] at hB; cases hB
    have hlF := hF.length
    have hlC := hC.length
    obtain ⟨blk, off, sp⟩ := ad
    simp only at hsp ho hv
    subst hsp; subst ho
    have hst := run_storeCells_at (P := P) blk p.2 el L 0 C.toArray w hO (by simp; omega) hF.one
    simp only [Nat.add_zero, List.toList_toArray] at hst
    obtain ⟨hs1, hs2⟩ := hS.turn (o' := .row (cs.take p.2 ++ cells u ++ cs.drop (p.2 + (cells u).length))) hv hH
      ⟨C.take p.2 ++ L ++ C.drop (p.2 + L.length), el, rfl, hC.splice hF p.2⟩ (Turn.setRow (cs := (C.take p.2 ++ L ++ C.drop (p.2 + L.length)).toArray) hO)
    refine ⟨_, ?_, g, hs1, hs2, RT.undef g, Nat.le_refl _, Names.set (.inl ⟨_, hH⟩), GN.refl g S⟩
    simp only [Instr.storeAt, e1, Instr.sureAddr, Sem.run_bind, Sem.run_pure, Result.andThen_ok, storeVar, hL, (hty _ _ hi).run_size, List.size_toArray]
    rw [if_neg (by omega)]
    simpa using hst
  · cases h

-- MAPS

theorem set_sound {l : List Nat} (hl : ∀ x ∈ l, x < 256) {c : CV} {V : Value} (hc : RC g c V) (clock : Nat) : ∀ {es es' : List (CV × CV)} {E : List MapEntry} (i : Nat), MapR g es E → keySet (.s l) c es = some es' →
    (Instr.findNow .string (.string (baOf l)) E i = some none ∧ MapR g es' (E ++ [{ key := .string (baOf l), val := V, born := clock }])) ∨
    ∃ j e, E[j]? = some e ∧ e.key = .string (baOf l) ∧ Instr.findNow .string (.string (baOf l)) E i = some (some (i + j, e.val)) ∧ MapR g es' (E.set j { e with key := .string (baOf l), val := V })
  | [], es', E, i, hF, h => by
    cases hF; cases h
    exact .inl ⟨rfl, .cons ⟨⟨rfl, hl⟩, hc⟩ .nil⟩
  | p :: es, es', E, i, hF, h => by
    cases hF with
    | cons h1 ht =>
      rename_i e E
      unfold keySet at h
      split at h
      · rename_i hk
        obtain ⟨m, hm, hb⟩ := eqC_s hk
        cases h
        have hkey := h1.1
        rw [hm] at hkey
        obtain ⟨hkey, hmb⟩ := hkey
        have hlm : l = m := (eqL_eq l m).1 hb.symm
        refine .inr ⟨0, e, rfl, by rw [hkey, hlm], ?_, .cons ⟨⟨rfl, hl⟩, hc⟩ ht⟩
        simp [Instr.findNow, Instr.sameNow, hkey, baOf_beq hl hmb, ← hb]
      · rename_i hk
        obtain ⟨m, hm, hb⟩ := eqC_s hk
        replace h := bnd_some h; obtain ⟨r, hr, h⟩ := h
        cases h
        have hkey := h1.1
        rw [hm] at hkey
        obtain ⟨hkey, hmb⟩ := hkey
        have step : Instr.findNow .string (.string (baOf l)) (e :: E) i = Instr.findNow .string (.string (baOf l)) E (i + 1) := by
          rw [Instr.findNow]
          simp [Instr.sameNow, hkey, baOf_beq hl hmb, ← hb]
        rcases set_sound hl hc clock (i + 1) ht hr with ⟨h2, h3⟩ | ⟨j, e', h2, h3, h4, h5⟩
        · exact .inl ⟨by rw [step, h2], .cons h1 h3⟩
        · refine .inr ⟨j + 1, e', h2, h3, ?_, .cons h1 h5⟩
          rw [step, h4]; congr 3; omega
      · cases h

theorem nMapUpdate_sound (hty : TyAll P ty) (hS : Sim n0 w0 g S w) {ti : Nat} {m k x : Operand} (hm : OpR g t ρ m) (hk : OpR g t ρ k) (hx : OpR g t ρ x) {v : TV} {S' : St} (h : nMapUpdate ty t S ti m k x = some (v, S')) :
    ∃ w', (Instr.mapUpdate ti (ρ m) (ρ k) (ρ x)).run P w = .ok () w' ∧ Post n0 w0 g S w v S' undef w' := by
  replace h := bnd_some h; obtain ⟨i, hi, h⟩ := h
  replace h := bnd_some h; obtain ⟨mv, hmv, h⟩ := h
  replace h := bnd_some h; obtain ⟨kv, hkv, h⟩ := h
  replace h := bnd_some h; obtain ⟨c, hc, h⟩ := h
  replace h := bnd_some h; obtain ⟨e, he, h⟩ := h
  obtain ⟨kt, ki, l, hsh, rfl, hki, hks⟩ := keyOk_some he
  obtain ⟨d, hd, hds⟩ := (hty _ _ hi).und
  rw [hsh] at hds; obtain rfl : d = _ := hds
  obtain ⟨kd, hkd, hkds⟩ := (hty _ _ hki).und
  rw [hks] at hkds; obtain rfl : kd = _ := hkds
  obtain ⟨e1, hl⟩ : ρ k = .string (baOf l) ∧ ∀ x ∈ l, x < 256 := hk.c hkv
  split at h
  · rename_i id
    split at h
    · rename_i es hH
      replace h := bnd_some h; obtain ⟨es', hes, h⟩ := h
      cases h
      obtain ⟨B, e2, hB⟩ := hm.c hmv
      obtain ⟨B', O, hB', hO, E, clock, rfl, hF, hborn, hpw⟩ := hS.heap _ _ hH
      rw [hB] at hB'; cases hB'
      have hBlt : B < w.heap.size := (hS.vlt _ _ hB).2.2
      have common : ∀ E' clock', (∀ e ∈ E', e.born < clock') → E'.Pairwise (fun a b => a.born ≠ b.born) → MapR g es' E' → Post n0 w0 g S w undefA (S.put id (.map es')) undef (w.putObj B (.map E'.toArray clock')) := fun E' clock' h1 h2 h3 => by
        obtain ⟨hs1, hs2⟩ := hS.turn (o' := .map es') hB hH ⟨E', clock', rfl, h3, h1, h2⟩ (Turn.putObj (o := .map E'.toArray clock') hBlt)
        exact ⟨g, hs1, hs2, RT.undef g, Nat.le_refl _, Names.set (.inl ⟨_, hH⟩), GN.refl g S⟩
      have hset : ∀ o, (setObj B o).run P w = .ok () (w.putObj B o) := fun o => by
        simp [setObj, Sem.run, hO, World.putObj]
      rcases set_sound hl (hx.c hc) clock 0 hF hes with ⟨h1, h2⟩ | ⟨j, en, h1, h2, h3, h4⟩
      · refine ⟨_, ?_, common _ (clock + 1) (fun a ha => ?_) ?_ h2⟩
        · simp [Instr.mapUpdate, run_underlying hd, e2, run_getObj hO (by simp), e1, run_checkKey_str hkd _ 9999, Instr.findKey, run_underlying hkd, h1, hset]
        · rcases List.mem_append.1 ha with ha | ha
          · have := hborn a ha; omega
          · simp at ha; subst ha; simp
        · refine List.pairwise_append.2 ⟨hpw, by simp, fun a ha b hb => ?_⟩
          simp at hb; subst hb
          have := hborn a ha
          simp; omega
      · refine ⟨_, ?_, common _ clock (fun a ha => ?_) ?_ h4⟩
        · have hthat : (Instr.keyThatStays (.string (baOf l)) (.string (baOf l))).run P w = .ok (.string (baOf l)) w := by
            have : Instr.sameBits 10000 (.string (baOf l)) (.string (baOf l)) = true := by
              show (baOf l == baOf l) = true
              rw [baOf_beq hl hl, eqL_eq]
            simp [Instr.keyThatStays, this]
          have hmod : E.modify j (fun e => { e with key := .string (baOf l), val := ρ x }) = E.set j { en with key := .string (baOf l), val := ρ x } := by
            simp [List.modify_eq_set, h1]
          simp only [Nat.zero_add] at h3
          simp [Instr.mapUpdate, run_underlying hd, e2, run_getObj hO (by simp), e1, run_checkKey_str hkd _ 9999, Instr.findKey, run_underlying hkd, h3, hset, h1, h2, hthat]
          rw [hmod]
        · rcases List.mem_or_eq_of_mem_set ha with ha | rfl
          · exact hborn a ha
          · exact hborn en (List.mem_of_getElem? h1)
        · have hj : j < E.length := (List.getElem?_eq_some_iff.1 h1).1
          have hmapeq : (E.set j { en with key := .string (baOf l), val := ρ x }).map (·.born) = E.map (·.born) := by
            rw [List.map_set]
            apply List.ext_getElem?
            intro q
            rw [List.getElem?_set]
            split
            · rename_i e; subst e
              have := (List.getElem?_eq_some_iff.1 h1).2
              simp [hj, this]
            · rfl
          have key : ∀ l : List MapEntry, l.Pairwise (fun a b => a.born ≠ b.born) ↔ (l.map (·.born)).Pairwise (· ≠ ·) := fun l => by rw [List.pairwise_map]
          rw [key, hmapeq, ← key]
          exact hpw
    · cases h
  · cases h

theorem del_sound {l : List Nat} (hl : ∀ x ∈ l, x < 256) : ∀ {es es' : List (CV × CV)} {E : List MapEntry} (i : Nat), MapR g es E → keyDel (.s l) es = some es' →
    (Instr.findNow .string (.string (baOf l)) E i = some none ∧ MapR g es' E) ∨
    ∃ j e, E[j]? = some e ∧ Instr.findNow .string (.string (baOf l)) E i = some (some (i + j, e.val)) ∧ MapR g es' (E.eraseIdx j)
  | [], es', E, i, hF, h => by
    cases hF; cases h
    exact .inl ⟨rfl, .nil⟩
  | p :: es, es', E, i, hF, h => by
    cases hF with
    | cons h1 ht =>
      rename_i e E
      unfold keyDel at h
      split at h
      · rename_i hk
        obtain ⟨m, hm, hb⟩ := eqC_s hk
        cases h
        have hkey := h1.1
        rw [hm] at hkey
        obtain ⟨hkey, hmb⟩ := hkey
        refine .inr ⟨0, e, rfl, ?_, ht⟩
        simp [Instr.findNow, Instr.sameNow, hkey, baOf_beq hl hmb, ← hb]
      · rename_i hk
        obtain ⟨m, hm, hb⟩ := eqC_s hk
        replace h := bnd_some h; obtain ⟨r, hr, h⟩ := h
        cases h
        have hkey := h1.1
        rw [hm] at hkey
        obtain ⟨hkey, hmb⟩ := hkey
        have step : Instr.findNow .string (.string (baOf l)) (e :: E) i = Instr.findNow .string (.string (baOf l)) E (i + 1) := by
          rw [Instr.findNow]
          simp [Instr.sameNow, hkey, baOf_beq hl hmb, ← hb]
        rcases del_sound hl (i + 1) ht hr with ⟨h2, h3⟩ | ⟨j, e', h2, h4, h5⟩
        · exact .inl ⟨by rw [step, h2], .cons h1 h3⟩
        · refine .inr ⟨j + 1, e', h2, ?_, .cons h1 h5⟩
          rw [step, h4]; congr 3; omega
      · cases h

theorem nDelete_sound (hty : TyAll P ty) (hS : Sim n0 w0 g S w) {argTypes : List Nat} {args : List Operand} (hx : ∀ o ∈ args, OpR g t ρ o) {T : TypeId} {v : TV} {S' : St} (h : nDelete ty t S argTypes args = some (v, S')) :
    ∃ w', (Builtin.delete_ argTypes.toArray T (args.map ρ).toArray).run P w = .ok undef w' ∧ Post n0 w0 g S w v S' undef w' := by
  unfold nDelete at h
  split at h
  · rename_i ti rt m k
    replace h := bnd_some h; obtain ⟨i, hi, h⟩ := h
    replace h := bnd_some h; obtain ⟨mv, hmv, h⟩ := h
    replace h := bnd_some h; obtain ⟨kv, hkv, h⟩ := h
    replace h := bnd_some h; obtain ⟨e, he, h⟩ := h
    obtain ⟨kt, ki, l, hsh, rfl, hki, hks⟩ := keyOk_some he
    obtain ⟨d, hd, hds⟩ := (hty _ _ hi).und
    rw [hsh] at hds; obtain rfl : d = _ := hds
    obtain ⟨kd, hkd, hkds⟩ := (hty _ _ hki).und
    rw [hks] at hkds; obtain rfl : kd = _ := hkds
    obtain ⟨e1, hl⟩ : ρ k = .string (baOf l) ∧ ∀ x ∈ l, x < 256 := (hx k (by simp)).c hkv
    split at h
    · rename_i id
      split at h
      · rename_i es hH
        replace h := bnd_some h; obtain ⟨es', hes, h⟩ := h
        cases h
        obtain ⟨B, e2, hB⟩ := (hx m (by simp)).c hmv
        obtain ⟨B', O, hB', hO, E, clock, rfl, hF, hborn, hpw⟩ := hS.heap _ _ hH
        rw [hB] at hB'; cases hB'
        have hBlt : B < w.heap.size := (hS.vlt _ _ hB).2.2
        have common : ∀ E', (∀ e ∈ E', e.born < clock) → E'.Pairwise (fun a b => a.born ≠ b.born) → MapR g es' E' → Post n0 w0 g S w undefA (S.put id (.map es')) undef (w.putObj B (.map E'.toArray clock)) := fun E' h1 h2 h3 => by
          obtain ⟨hs1, hs2⟩ := hS.turn (o' := .map es') hB hH ⟨E', clock, rfl, h3, h1, h2⟩ (Turn.putObj (o := .map E'.toArray clock) hBlt)
          exact ⟨g, hs1, hs2, RT.undef g, Nat.le_refl _, Names.set (.inl ⟨_, hH⟩), GN.refl g S⟩
        have hset : ∀ o, (setObj B o).run P w = .ok () (w.putObj B o) := fun o => by
          simp [setObj, Sem.run, hO, World.putObj]
        have go : (Builtin.delete_ (ti :: rt).toArray T ([m, k].map ρ).toArray).run P w = (Builtin.delete_ (ti :: rt).toArray T #[.map (some B), .string (baOf l)]).run P w := by rw [← e2, ← e1]; rfl
        rw [go]
        rcases del_sound hl 0 hF hes with ⟨h1, h2⟩ | ⟨j, en, h1, h3, h4⟩
        · refine ⟨_, ?_, common _ hborn hpw h2⟩
          simp [Builtin.delete_, run_underlying hd, run_getObj hO (by simp), run_checkKey_str hkd _ 9999, Instr.findKey, run_underlying hkd, h1, hset]
          rfl
        · refine ⟨_, ?_, common _ (fun a ha => hborn a (List.mem_of_mem_eraseIdx ha)) (hpw.sublist (List.eraseIdx_sublist _ _)) h4⟩
          simp only [Nat.zero_add] at h3
          have hj : j < E.length := (List.getElem?_eq_some_iff.1 h1).1
          simp [Builtin.delete_, run_underlying hd, run_getObj hO (by simp), run_checkKey_str hkd _ 9999, Instr.findKey, run_underlying hkd, h3, hset]
          rfl
      · cases h
    · cases h
  · cases h

-- APPEND

theorem src_sound {H : Tr AB} (hs : HS g H w) {esz n : Nat} {x : CV} {new : List CV} (h : srcOf H esz x = some (n, new)) {X : Value} (hX : RC g x X) :
    (Builtin.lenOf X).run P w = .ok n w ∧ new.length = n * esz ∧ ∃ L : List Value, F2 (RC g) new L ∧ (∀ w', w'.heap = w.heap → (Builtin.firstCells esz n X).run P w' = .ok L.toArray w') := by
  cases x <;> simp only [srcOf] at h <;> try cases h
  · rename_i l
    replace h := sel_true h; obtain ⟨he, h⟩ := h
    cases h
    obtain rfl := Nat.eq_of_beq_eq_true he
    obtain ⟨rfl, hl⟩ := hX
    rw [lenR_eq]
    refine ⟨by simp [Builtin.lenOf, baOf_size], by simp, l.map fun n => .int .u8 ((UInt8.ofNat n).toNat : Int), F2.of_get (by simp) fun i a hi => ?_, fun w' _ => ?_⟩
    · rw [List.getElem?_map] at hi ⊢
      cases hli : l[i]? with
      | none => rw [hli] at hi; cases hi
      | some b =>
        rw [hli] at hi
        cases hi
        refine ⟨_, rfl, ?_⟩
        show Value.int IntKind.u8 ((UInt8.ofNat b).toNat : Int) = Value.int IntKind.u8 (b : Int)
        rw [ofNat_toNat (hl b (List.mem_of_getElem? hli))]
    · simp only [Builtin.firstCells, baOf_sub, Sem.run_pure, Nat.sub_zero, List.drop_zero, List.take_length]
      simp [baOf, List.map_map, Function.comp_def]
  · obtain rfl : X = _ := hX
    exact ⟨rfl, by simp, [], .nil, fun w' _ => rfl⟩
  · rename_i b off len e clip
    replace h := sel_true h; obtain ⟨he, h⟩ := h
    replace h := bnd_some h; obtain ⟨cs, hcs, h⟩ := h
    cases h
    obtain rfl := Nat.eq_of_beq_eq_true he
    obtain ⟨a, cap, rfl, hsl⟩ := hX
    obtain ⟨⟨L, hF, hc⟩, hn⟩ := hs.lies_sl hcs hsl
    refine ⟨rfl, hn, L, hF, fun w' hw => ?_⟩
    have hl : L.length = n * e := by rw [← hF.length]; exact hn
    show (loadCells a (n * e)).run P w' = _
    rw [← hl]
    exact run_loadCells_list w' a L fun j v hj => by
      have := hc j v hj
      simpa [World.cell?, hw] using this

/-- The spare cells. -/
theorem zeroCells_eq (z : Array Value) (n : Nat) : ∃ Z : List Value, Builtin.zeroCells z n = Z.toArray ∧ Z.length = n * z.size := by
  refine ⟨(Builtin.zeroCells z n).toList, by simp, ?_⟩
  simp [Builtin.zeroCells]

theorem run_askRoom (n : Nat) (w : World) : (askRoom n).run P w = .ok () w := by
  unfold askRoom
  split <;> simp [mark, Sem.run]

/-- The world behind an append that makes a new array. -/
theorem run_append_new (hty : TyAll P ty) {ti xt e : Nat} {ei xi : TI} (hd : P.underlying ti = some (.slice e)) (hei : ty e = some ei) (hxi : ty xt = some xi) (hni : notInt xi.sh = true) (hby : ei.bytes ≤ 65536)
    {S X : Value} {base : Option Addr} {sLen sCap n : Nat} (hSe : S = .slice base sLen sCap) {L0 L1 : List Value} (hlen : (Builtin.lenOf X).run P w = .ok n w) (h0 : ∀ w', w'.heap = w.heap → (Builtin.firstCells ei.size sLen S).run P w' = .ok L0.toArray w')
    (h1 : ∀ w', w'.heap = w.heap → (Builtin.firstCells ei.size n X).run P w' = .ok L1.toArray w') (hcap : sCap < sLen + n) (hmax : sLen + n ≤ 1048576) (T : TypeId) :
    ∃ newCap Z, sLen + n ≤ newCap ∧ Z.length = (newCap - (sLen + n)) * ei.size ∧
      (Builtin.append_ #[ti, xt] T #[S, X]).run P w = .ok (.slice (some ⟨w.heap.size, 0, none⟩) (sLen + n) newCap) (w.drew.alloc (.cells (L0 ++ L1 ++ Z).toArray e)) := by
  obtain ⟨inf, z0, hinf, hsz, hbytes, hzero, _, _, _⟩ := (hty _ _ hei).info
  obtain ⟨xd, hxd, hxs⟩ := (hty _ _ hxi).und
  have hxn : xd = .string ∨ ∃ e, xd = .slice e := by
    cases hsh : xi.sh <;> rw [hsh] at hni hxs <;> simp only [notInt] at hni <;> try cases hni
    · exact .inl hxs
    · exact .inr ⟨_, hxs⟩
  obtain ⟨q, hq⟩ : ∃ q, q = Question.cut (.appendCap (sLen + n) sCap e) (w.tape w.drawn (.appendCap (sLen + n) sCap e)) := ⟨_, rfl⟩
  have hql : sLen + n ≤ q := by rw [hq]; simp [Question.cut]
  obtain ⟨Z, hZ, hZl⟩ := zeroCells_eq z0.cells (q - (sLen + n))
  have hz0 : z0.cells.size = ei.size := by
    obtain ⟨inf', z', h1', h2', _, h4', h5', h6', h7'⟩ := (hty _ _ hei).info
    rw [hinf] at h1'; cases h1'
    rw [hzero] at h4'; cases h4'
    rw [← (hty _ _ hei).zlen, (h5' ⟨fun _ => none, fun _ => none⟩).length]
    simp
  refine ⟨q, Z, hql, by rw [hZl, hz0], ?_⟩
  subst hSe
  have hgrow : ¬ Builtin.nextslicecap (sLen + n) sCap * inf.bytes > 2 ^ 48 := by
    have := growslice_fits (bytes := inf.bytes) hcap (by
      rw [hbytes]
      have := Nat.mul_le_mul hmax hby
      omega)
    omega
  have hna : ¬ ((sLen + n : Nat) : Int) > IntKind.i64.max := by
    have : IntKind.i64.max = 9223372036854775807 := by decide
    rw [this]; omega
  have h0' := h0 w.drew rfl
  have h1' := h1 w.drew rfl
  have hz' : (zeroValue e).run P w.drew = .ok z0 w.drew := by simp [zeroValue, run_typeInfo _ hinf, hzero]
  have hti : ∀ w', (typeInfo e).run P w' = .ok inf w' := fun w' => run_typeInfo w' hinf
  have hch : (choose (.appendCap (sLen + n) sCap e)).run P w = .ok q w.drew := by
    rw [hq]; rfl
  have hnr : ∀ cs, (newRow e cs).run P w.drew = .ok ⟨w.heap.size, 0, none⟩ (w.drew.alloc (.cells cs e)) := fun _ => rfl
  rcases hxn with rfl | ⟨xe, rfl⟩
  all_goals
    simp only [Builtin.append_, List.getElem?_toArray, List.getElem?_cons_zero, List.getElem?_cons_succ, Sem.run_bind, run_underlying hd, run_underlying hxd, Result.andThen_ok, Sem.run_pure, (hty _ _ hei).run_size, Bool.false_eq_true, if_false, hlen]
    rw [if_neg (show ¬ sLen + n ≤ sCap by omega)]
    simp only [Sem.run_bind, hti, Result.andThen_ok]
    rw [if_neg (fun h => hna h.1)]
    simp only [Sem.run_bind, hti, Result.andThen_ok]
    rw [if_neg hgrow]
    simp only [Sem.run_bind, hch, hti, run_askRoom, h0', h1', hz', Result.andThen_ok, Bool.not_false, if_true, hZ, hnr, Sem.run_pure]
    simp [List.append_assoc]

theorem run_append_room (hty : TyAll P ty) {ti xt e : Nat} {ei xi : TI} (hd : P.underlying ti = some (.slice e)) (hei : ty e = some ei) (hxi : ty xt = some xi) (hni : notInt xi.sh = true)
    {X : Value} {a : Addr} {sLen sCap n : Nat} {L1 : List Value} (hlen : (Builtin.lenOf X).run P w = .ok n w) (h1 : (Builtin.firstCells ei.size n X).run P w = .ok L1.toArray w) (hcap : sLen + n ≤ sCap) (T : TypeId) {w' : World}
    (hst : (storeCells (a.add (sLen * ei.size)) L1).run P w = .ok () w') : (Builtin.append_ #[ti, xt] T #[.slice (some a) sLen sCap, X]).run P w = .ok (.slice (some a) (sLen + n) sCap) w' := by
  obtain ⟨xd, hxd, hxs⟩ := (hty _ _ hxi).und
  have hxn : xd = .string ∨ ∃ e, xd = .slice e := by
    cases hsh : xi.sh <;> rw [hsh] at hni hxs <;> simp only [notInt] at hni <;> try cases hni
    · exact .inl hxs
    · exact .inr ⟨_, hxs⟩
  rcases hxn with rfl | ⟨xe, rfl⟩
  all_goals
    simp only [Builtin.append_, List.getElem?_toArray, List.getElem?_cons_zero, List.getElem?_cons_succ, Sem.run_bind, run_underlying hd, run_underlying hxd, Result.andThen_ok, Sem.run_pure, (hty _ _ hei).run_size, Bool.false_eq_true, if_false, hlen]
    rw [if_pos hcap]
    simp only [Sem.run_bind, Bool.not_false, if_true, h1, Result.andThen_ok, hst, Sem.run_pure]
theorem run_append_nil (hty : TyAll P ty) {ti xt e : Nat} {ei xi : TI} (hd : P.underlying ti = some (.slice e)) (hei : ty e = some ei) (hxi : ty xt = some xi) (hni : notInt xi.sh = true)
    {X : Value} {L1 : List Value} (hlen : (Builtin.lenOf X).run P w = .ok 0 w) (h1 : (Builtin.firstCells ei.size 0 X).run P w = .ok L1.toArray w) (T : TypeId) :
    (Builtin.append_ #[ti, xt] T #[.slice none 0 0, X]).run P w = .ok (.slice none 0 0) w := by
  obtain ⟨xd, hxd, hxs⟩ := (hty _ _ hxi).und
  have hxn : xd = .string ∨ ∃ e, xd = .slice e := by
    cases hsh : xi.sh <;> rw [hsh] at hni hxs <;> simp only [notInt] at hni <;> try cases hni
    · exact .inl hxs
    · exact .inr ⟨_, hxs⟩
  rcases hxn with rfl | ⟨xe, rfl⟩
  all_goals
    simp only [Builtin.append_, List.getElem?_toArray, List.getElem?_cons_zero, List.getElem?_cons_succ, Sem.run_bind, run_underlying hd, run_underlying hxd, Result.andThen_ok, Sem.run_pure, (hty _ _ hei).run_size, Bool.false_eq_true, if_false, hlen]
    rw [if_pos (by omega)]
    simp only [Sem.run_bind, Bool.not_false, if_true, h1, Result.andThen_ok, Sem.run_pure]

theorem Keep.of_drew {H : Tr AB} {g' : Gh} {w' : World} (h : Keep g H w.drew g' w') : Keep g H w g' w' := ⟨h.size, h.le, h.var, h.arr, h.same⟩

/-- A new array of a new block: behind an append to nothing, or to a slice without room. -/
theorem post_appNew (hS : Sim n0 w0 g S w) {esz e : Nat} {len newCap : Nat} {all : List CV} {L Z : List Value} (hF : F2 (RC g) all L) (hlen : all.length = len * esz) (hcap : len ≤ newCap) (hZ : Z.length = (newCap - len) * esz) {v : TV} {S' : St} (h : appNew S esz len all = (v, S')) :
    Post n0 w0 g S w v S' (.slice (some ⟨w.heap.size, 0, none⟩) len newCap) (w.drew.alloc (.cells (L ++ Z).toArray e)) := by
  cases h
  have hvn : g.var S.next = none := by
    cases hv : g.var S.next with
    | none => rfl
    | some B => have := (hS.vlt _ _ hv).1; omega
  have hl := hF.length
  have htot : (L ++ Z).length = newCap * esz := by
    rw [List.length_append, hZ, ← hl, hlen, ← Nat.add_mul]; congr 1; omega
  have hle : len * esz ≤ newCap * esz := Nat.mul_le_mul_right _ hcap
  obtain ⟨h1, h2⟩ := (hS.drew).pushArr (b := S.next) (N := S.next + 1) (e := esz) (cs := all) (C := L ++ Z) (el := e) (A := ⟨S.next, 0, all.length, esz, (L ++ Z).length⟩) hvn (by omega) (by omega) rfl rfl (Nat.zero_le _)
    (fun B A' hA hb => by have := (hS.alt _ _ hA).1; omega) (Grew.alloc _ _) (Nat.le_refl _) rfl (by show all.length ≤ 0 + (L ++ Z).length; omega)
    (fun i v _ hi hv => by
      obtain ⟨V, hV, hr⟩ := hF.get i v hv
      have : i < L.length := (List.getElem?_eq_some_iff.1 hV).1
      exact ⟨V, by rw [Nat.sub_zero, List.getElem?_append_left this]; exact hV, hr⟩)
  refine ⟨_, h1, h2.of_drew, ⟨⟨w.heap.size, 0, none⟩, newCap, rfl, rfl, hcap, fun h => (by cases h), .inr ⟨⟨S.next, 0, all.length, esz, (L ++ Z).length⟩, ?_, rfl, rfl, rfl, ?_, ?_⟩⟩, Nat.le_succ _, Names.set (.inr (Nat.le_refl _)), GN.arr (.inl (Nat.le_refl _))⟩
  · exact if_pos rfl
  · show 0 + len * esz ≤ all.length; omega
  · show 0 + newCap * esz ≤ (L ++ Z).length; omega

theorem SlR.len_le {b off len esz : Nat} {clip : Bool} {a : Addr} {cap : Nat} (h : SlR g b off len esz clip a cap) : len ≤ cap := h.2.1

/-- The slice's own cells. -/
theorem first_own {H : Tr AB} (hs : HS g H w) {b off len esz cap : Nat} {clip : Bool} {old : List CV} (hr : readSl H b off (len * esz) = some old) {a : Addr} (ha : SlR g b off len esz clip a cap) :
    old.length = len * esz ∧ ∃ L : List Value, F2 (RC g) old L ∧ ∀ w', w'.heap = w.heap → (Builtin.firstCells esz len (.slice (some a) len cap)).run P w' = .ok L.toArray w' := by
  have h : srcOf H esz (.sl b off len esz clip) = some (len, old) := by
    show sel (Nat.beq esz esz) (bnd (readSl H b off (len * esz)) fun cs => some (len, cs)) none = _
    rw [Nat.beq_refl, hr]; rfl
  obtain ⟨_, h2, L, hF, h3⟩ := src_sound (P := P) hs h (X := .slice (some a) len cap) ⟨a, cap, rfl, ha⟩
  exact ⟨h2, L, hF, h3⟩

theorem same_post (hS : Sim n0 w0 g S w) {v : TV} {V : Value} (hr : RT g v V) : Post n0 w0 g S w v S V w :=
  ⟨g, hS, ⟨Nat.le_refl _, Le.refl g, fun _ _ h => .inl h, fun _ A h => .inl ⟨A, h⟩, fun _ _ _ _ => rfl⟩, hr, Nat.le_refl _, Names.refl S, GN.refl g S⟩

/-- The settings of an append. -/
structure AppSet (P : Program) (ty : Nat → Option TI) (ti xt e : Nat) (ei xi : TI) : Prop where
  hd : P.underlying ti = some (.slice e)
  hei : ty e = some ei
  hxi : ty xt = some xi
  hni : notInt xi.sh = true
  hby : ei.bytes ≤ 65536

/-- An append to a slice that ends where its array ends: in its spare cells, or into a new array. -/
theorem appOn_sound (hty : TyAll P ty) (hS : Sim n0 w0 g S w) {ti xt e n : Nat} {ei xi : TI} (hset : AppSet P ty ti xt e ei xi) {b off len cap : Nat} {a : Addr} (hsl : SlR g b off len ei.size false a cap) {new : List CV} {X : Value} {L1 : List Value}
    (hn0 : n ≠ 0) (hlen : (Builtin.lenOf X).run P w = .ok n w) (hnew : new.length = n * ei.size) (hF1 : F2 (RC g) new L1) (h1 : ∀ w', w'.heap = w.heap → (Builtin.firstCells ei.size n X).run P w' = .ok L1.toArray w') (hmax : len + n ≤ 1048576) {T : TypeId} {v : TV} {S' : St}
    (h : appOn S ei.size b off len n new = some (v, S')) : ∃ V w', (Builtin.append_ #[ti, xt] T #[.slice (some a) len cap, X]).run P w = .ok V w' ∧ Post n0 w0 g S w v S' V w' := by
  obtain ⟨hd, hei, hxi, hni, hby⟩ := hset
  unfold appOn at h
  split at h
  · rename_i e' cs hH
    split at h
    · rename_i he' hend
      obtain rfl := Nat.eq_of_beq_eq_true he'
      have hend : off + len * ei.size = cs.length := by rw [← lenR_eq]; exact Nat.eq_of_beq_eq_true hend
      cases h
      rw [appR_eq]
      obtain ⟨hvb, hall⟩ := hS.heap b _ hH
      have hn1 : L1.length = n * ei.size := by rw [← hF1.length]; exact hnew
      by_cases hroom : len + n ≤ cap ∧ cap ≠ 0
      · -- the spare cells
        obtain ⟨hroom, hc0⟩ := hroom
        obtain ⟨hsp, hlc, _, hp⟩ := hsl
        rcases hp with h0 | ⟨A, hA, hAb, hAe, ho, hle, hsz⟩
        · exact absurd h0 hc0
        obtain ⟨_, hcs, C, el, hO, hCl, hhs, hcell⟩ := hall _ _ hA hAb
        have hfull : A.h = cs.length := by omega
        obtain ⟨blk, ao, sp⟩ := a
        simp only at hsp hA ho hsz hO
        subst hsp
        have hpos : ao + len * ei.size + L1.length ≤ C.length := by
          rw [hCl, hn1]
          have : (len + n) * ei.size ≤ cap * ei.size := Nat.mul_le_mul_right _ hroom
          rw [Nat.add_mul] at this
          omega
        have hst := run_storeCells_at (P := P) blk (ao + len * ei.size) el L1 0 C.toArray w hO (by simp; omega) hF1.one
        simp only [Nat.add_zero, List.toList_toArray] at hst
        have hao : ao + len * ei.size = cs.length - A.a0 := by omega
        have ha5 := (hS.alt _ _ hA).2.2.2.2
        obtain ⟨h2, h3⟩ := hS.onArr (new := new) (C' := C.take (ao + len * ei.size) ++ L1 ++ C.drop (ao + len * ei.size + L1.length)) hA hAb hH hfull (Turn.setRow hO)
          (by simp; omega) (by rw [hnew]; rw [hn1] at hpos; omega) (fun i v hi hi2 hv => by
            by_cases hlt : i < cs.length
            · rw [List.getElem?_append_left hlt] at hv
              obtain ⟨V, hV, hr⟩ := hcell i v hi (by omega) hv
              refine ⟨V, ?_, hr⟩
              rw [List.getElem?_append_left (by simp; omega), List.getElem?_append_left (by simp; omega), List.getElem?_take, if_pos (by omega)]
              exact hV
            · rw [List.getElem?_append_right (by omega)] at hv
              obtain ⟨V, hV, hr⟩ := hF1.get _ v hv
              have hVl : i - cs.length < L1.length := (List.getElem?_eq_some_iff.1 hV).1
              refine ⟨V, ?_, hr⟩
              rw [List.getElem?_append_left (by simp; omega), List.getElem?_append_right (by simp; omega)]
              rw [show i - A.a0 - (C.take (ao + len * ei.size)).length = i - cs.length by simp; omega]
              exact hV)
        refine ⟨_, _, run_append_room hty hd hei hxi hni hlen (h1 w rfl) hroom T (by rw [add_plain rfl]; exact hst), _, h2, h3, ⟨⟨blk, ao, none⟩, cap, rfl, rfl, hroom, fun h => (by cases h), .inr ⟨{ A with h := A.h + new.length }, if_pos rfl, hAb, hAe, ho, ?_, hsz⟩⟩, Nat.le_refl _, Names.set (.inl ⟨_, hH⟩), GN.arr (.inr ⟨_, by show S.heap.get A.b = _; rw [hAb]; exact hH⟩)⟩
        show off + (len + n) * ei.size ≤ A.h + new.length
        rw [Nat.add_mul]; omega
      · -- a new array
        have hcap : cap < len + n := by omega
        have hold : readSl S.heap b off (len * ei.size) = some ((cs.drop off).take (len * ei.size)) := by
          unfold readSl
          rw [hH]
          show sel (Nat.ble (off + len * ei.size) (lenR cs)) (some (takeR _ (dropR off cs))) none = _
          rw [lenR_eq, hend, takeR_eq, dropR_eq]
          rw [show Nat.ble cs.length cs.length = true from by simp]
          rfl
        obtain ⟨hol, L0, hF0, h0⟩ := first_own (P := P) hS.heap hold hsl
        obtain ⟨newCap, Z, hc, hZ, hrun⟩ := run_append_new hty hd hei hxi hni hby (S := .slice (some a) len cap) rfl hlen h0 h1 hcap hmax T
        have hL0 := hF0.length
        have hle : (len + n) * ei.size ≤ newCap * ei.size := Nat.mul_le_mul_right _ hc
        have htot : (L0 ++ L1 ++ Z).length = newCap * ei.size := by
          rw [List.length_append, List.length_append, hZ, ← hL0, hol, hn1, ← Nat.add_mul, ← Nat.add_mul]; congr 1; omega
        obtain ⟨h2, h3⟩ := (hS.drew).pushArr (b := b) (N := S.next) (e := ei.size) (cs := cs ++ new) (C := L0 ++ L1 ++ Z) (el := e) (A := ⟨b, off, cs.length + new.length, ei.size, (L0 ++ L1 ++ Z).length⟩) hvb (hS.hlt _ _ hH) (Nat.le_refl _) rfl rfl
          (by show off ≤ cs.length + new.length; omega) (fun B A' hA hb => ⟨(hall B A' hA hb).1, ((hall B A' hA hb).2.keep (w' := w.drew) rfl (Le.refl g)).ext new⟩) (Grew.alloc _ _) (by simp) rfl
          (by show cs.length + new.length ≤ off + (L0 ++ L1 ++ Z).length; rw [htot, hnew]; rw [Nat.add_mul] at hle; omega)
          (fun i v hi hi2 hv => by
            have hi : off ≤ i := hi
            show ∃ V, (L0 ++ L1 ++ Z)[i - off]? = some V ∧ _
            by_cases hlt : i < cs.length
            · rw [List.getElem?_append_left hlt] at hv
              obtain ⟨V, hV, hr⟩ := hF0.get (i - off) v (by rw [List.getElem?_take, if_pos (by omega), List.getElem?_drop]; rw [show off + (i - off) = i by omega]; exact hv)
              have hVl : i - off < L0.length := (List.getElem?_eq_some_iff.1 hV).1
              exact ⟨V, by rw [List.getElem?_append_left (by simp; omega), List.getElem?_append_left hVl]; exact hV, hr⟩
            · rw [List.getElem?_append_right (by omega)] at hv
              obtain ⟨V, hV, hr⟩ := hF1.get _ v hv
              have hVl : i - cs.length < L1.length := (List.getElem?_eq_some_iff.1 hV).1
              refine ⟨V, ?_, hr⟩
              rw [List.getElem?_append_left (by simp; omega), List.getElem?_append_right (by omega)]
              rw [show i - off - L0.length = i - cs.length by omega]
              exact hV)
        refine ⟨_, _, hrun, _, h2, h3.of_drew, ⟨⟨w.heap.size, 0, none⟩, newCap, rfl, rfl, hc, fun h => (by cases h), .inr ⟨⟨b, off, cs.length + new.length, ei.size, (L0 ++ L1 ++ Z).length⟩, if_pos rfl, rfl, rfl, rfl, ?_, ?_⟩⟩, Nat.le_refl _, Names.set (.inl ⟨_, hH⟩), GN.arr (.inr ⟨_, hH⟩)⟩
        · show off + (len + n) * ei.size ≤ cs.length + new.length
          rw [Nat.add_mul]; omega
        · show 0 + newCap * ei.size ≤ (L0 ++ L1 ++ Z).length; omega
    · cases h
  · cases h

theorem nAppend_sound (hty : TyAll P ty) (hS : Sim n0 w0 g S w) {argTypes : List Nat} {args : List Operand} (hx : ∀ o ∈ args, OpR g t ρ o) {T : TypeId} {v : TV} {S' : St} (h : nAppend ty t S argTypes args = some (v, S')) :
    ∃ V w', (Builtin.append_ argTypes.toArray T (args.map ρ).toArray).run P w = .ok V w' ∧ Post n0 w0 g S w v S' V w' := by
  unfold nAppend at h
  split at h
  · rename_i ti xt so xo
    replace h := bnd_some h; obtain ⟨i, hi, h⟩ := h
    split at h
    · rename_i e hsh
      replace h := bnd_some h; obtain ⟨ei, hei, h⟩ := h
      replace h := bnd_some h; obtain ⟨xi, hxi, h⟩ := h
      replace h := bnd_some h; obtain ⟨sv, hsv, h⟩ := h
      replace h := bnd_some h; obtain ⟨xv, hxv, h⟩ := h
      replace h := sel_true h; obtain ⟨hni, h⟩ := h
      replace h := sel_true h; obtain ⟨hby, h⟩ := h
      replace h := bnd_some h; obtain ⟨⟨n, new⟩, hsrc, h⟩ := h
      replace h := sel_true h; obtain ⟨hmax, h⟩ := h
      replace hby := Nat.le_of_ble_eq_true hby
      replace hmax : lenS sv + n ≤ 1048576 := Nat.le_of_ble_eq_true hmax
      obtain ⟨d, hd, hds⟩ := (hty _ _ hi).und
      rw [hsh] at hds; obtain rfl : d = _ := hds
      have hX := (hx xo (by simp)).c hxv
      have hSv := (hx so (by simp)).c hsv
      obtain ⟨hlen, hnew, L1, hF1, h1⟩ := src_sound (P := P) hS.heap hsrc hX
      have hn1 : L1.length = n * ei.size := by rw [← hF1.length]; exact hnew
      have go : ∀ SV, ρ so = SV → (Builtin.append_ [ti, xt].toArray T ([so, xo].map ρ).toArray).run P w = (Builtin.append_ #[ti, xt] T #[SV, ρ xo]).run P w := fun SV e => by rw [← e]; rfl
      cases sv <;> simp only [appendA] at h <;> try cases h
      · -- onto nothing
        have e1 : ρ so = .slice none 0 0 := hSv
        rw [go _ e1]
        split at h
        · rename_i hn
          cases h
          obtain rfl := Nat.eq_of_beq_eq_true hn
          exact ⟨_, w, run_append_nil hty hd hei hxi hni hlen (h1 w rfl) T, same_post hS rfl⟩
        · rename_i hn
          have hn0 := Nat.ne_of_beq_eq_false hn
          simp only [lenS, Nat.zero_add] at hmax
          obtain ⟨newCap, Z, hc, hZ, hrun⟩ := run_append_new hty hd hei hxi hni hby (S := .slice none 0 0) rfl (L0 := []) hlen (fun w' _ => rfl) h1 (by omega) (by omega) T
          simp only [Nat.zero_add, List.nil_append] at hrun hc hZ
          exact ⟨_, _, hrun, post_appNew hS hF1 hnew hc hZ (Option.some.inj h)⟩
      · rename_i b off len esz clip
        simp only [lenS] at hmax
        obtain ⟨a, cap, e1, hsl⟩ := hSv
        replace h := sel_true h; obtain ⟨hes, h⟩ := h
        have hes := Nat.eq_of_beq_eq_true hes
        subst hes
        rw [go _ e1]
        cases hn : Nat.beq n 0 with
        | true =>
          rw [hn] at h
          cases h
          obtain rfl := Nat.eq_of_beq_eq_true hn
          have hL1 : L1 = [] := List.eq_nil_of_length_eq_zero (by rw [hn1, Nat.zero_mul])
          subst hL1
          exact ⟨_, w, run_append_room hty hd hei hxi hni hlen (h1 w rfl) hsl.len_le T rfl, same_post hS ⟨a, cap, rfl, hsl⟩⟩
        | false =>
          have hn0 := Nat.ne_of_beq_eq_false hn
          rw [hn] at h
          cases clip with
          | true =>
            replace h := bnd_some h; obtain ⟨old, hold, h⟩ := h
            have hold : readSl S.heap b off (len * ei.size) = some old := hold
            obtain ⟨hol, L0, hF0, h0⟩ := first_own (P := P) hS.heap hold hsl
            have hcl := hsl.2.2.1 rfl
            obtain ⟨newCap, Z, hc, hZ, hrun⟩ := run_append_new hty hd hei hxi hni hby (S := .slice (some a) len cap) rfl hlen h0 h1 (by omega) hmax T
            refine ⟨_, _, hrun, ?_⟩
            rw [appR_eq] at h
            exact post_appNew hS (hF0.append hF1) (by rw [List.length_append, hol, hnew, ← Nat.add_mul]) hc hZ (Option.some.inj h)
          | false => exact appOn_sound hty hS ⟨hd, hei, hxi, hni, hby⟩ hsl hn0 hlen hnew hF1 h1 hmax h
    · cases h
  · cases h

end ops
end Go.Proofs.YtjkkclfndlfjhaaGreatDoor.Ev
/- The operations that make a block; and all operations but calls, as the model runs them. -/
set_option linter.unusedSimpArgs false
namespace Go.Proofs.YtjkkclfndlfjhaaGreatDoor.Ev
open Go Go.RowKit

/-- What was made, and what it is called. -/
def Made (g : Gh) : AB → Mk → Obj → Prop
  | .arr e cs, .sl len esz, O => e = esz ∧ cs.length = len * esz ∧ ∃ (C : List Value) (el : TypeId), O = .cells C.toArray el (0, 0) ∧ F2 (RC g) cs C
  | .row cs, .ptr, O => RO g (.row cs) O
  | .map es, .map, O => RO g (.map es) O
  | _, _, _ => False
def Mk.val (m : Mk) (B : Nat) : Value := match m with
  | .ptr => .pointer (some ⟨B, 0, none⟩)
  | .sl len _ => .slice (some ⟨B, 0, none⟩) len len
  | .map => .map (some B)

theorem Made.mono {g g' : Gh} (hl : Le g g') {b : AB} {m : Mk} {O : Obj} (h : Made g b m O) : Made g' b m O := by
  cases b with
  | row cs => cases m with
    | ptr => exact RO.mono (b := .row cs) hl h
    | sl _ _ => exact h.elim
    | map => exact h.elim
  | arr e cs => cases m with
    | sl len esz =>
      obtain ⟨h1, h2, C, el, h3, h4⟩ := h
      exact ⟨h1, h2, C, el, h3, F2.mono (fun _ _ => RC.mono hl) h4⟩
    | ptr => exact h.elim
    | map => exact h.elim
  | map es => cases m with
    | map => exact RO.mono (b := .map es) hl h
    | ptr => exact h.elim
    | sl _ _ => exact h.elim
  | loop lp => cases m <;> exact h.elim
  | dfr on => cases m <;> exact h.elim

variable {P : Program} {ty : Nat → Option TI}
section
variable {n0 : Nat} {w0 : World} {g : Gh} {S : St} {t : Tm} {ρ : Operand → Value} {w : World}

/-- What was made gets its name. -/
theorem Sim.made (hS : Sim n0 w0 g S w) {b : AB} {m : Mk} {O : Obj} (h : Made g b m O) {nm N : Nat} (hv : g.var nm = none) (ha : ∀ B A, g.arr B = some A → A.b ≠ nm) (hnN : nm < N) (hN : S.next ≤ N) {w' : World} (ht : Grew w w' O) :
    ∃ g', Sim n0 w0 g' { heap := S.heap.set nm b, next := N } w' ∧ Keep g S.heap w g' w' ∧ RT g' (m.at nm) (m.val w.heap.size) ∧
      (∀ x X, g'.var x = some X → g.var x = some X ∨ x = nm) ∧ (∀ X A, g'.arr X = some A → g.arr X = some A ∨ A.b = nm) := by
  have hvar : ∀ (o : AB), RO (g.setVar nm w.heap.size) o O → ∃ g', Sim n0 w0 g' { heap := S.heap.set nm o, next := N } w' ∧ Keep g S.heap w g' w' ∧ g'.var nm = some w.heap.size ∧
      (∀ x X, g'.var x = some X → g.var x = some X ∨ x = nm) ∧ (∀ X A, g'.arr X = some A → g.arr X = some A ∨ A.b = nm) := fun o hO => by
    obtain ⟨h1, h2⟩ := hS.pushVar hv ha hnN hN hO ht
    refine ⟨_, h1, h2, if_pos rfl, fun x X hx => ?_, fun X A hA => .inl hA⟩
    change (if x = nm then _ else g.var x) = some X at hx
    split at hx
    · rename_i e; exact .inr e
    · exact .inl hx
  cases b <;> cases m <;> try exact h.elim
  · rename_i cs
    obtain ⟨g', h1, h2, h3, h4⟩ := hvar (.row cs) (RO.mono (b := .row cs) (Le.setVar hv) h)
    exact ⟨g', h1, h2, ⟨_, rfl, rfl, h3, rfl⟩, h4⟩
  · rename_i e cs len esz
    obtain ⟨rfl, hlen, C, el, rfl, hF⟩ := h
    have hl := hF.length
    obtain ⟨h1, h2⟩ := hS.pushArr (b := nm) (N := N) (e := e) (cs := cs) (C := C) (el := el) (A := ⟨nm, 0, cs.length, e, C.length⟩) hv hnN hN rfl rfl (Nat.zero_le _)
      (fun B A' hA hb => absurd hb (ha B A' hA)) ht (Nat.le_refl _) rfl (by show cs.length ≤ 0 + C.length; omega) (fun i v _ _ hv => by
        obtain ⟨V, hV, hr⟩ := hF.get i v hv
        exact ⟨V, hV, hr⟩)
    refine ⟨_, h1, h2, ⟨⟨w.heap.size, 0, none⟩, len, rfl, rfl, Nat.le_refl _, fun _ => rfl, .inr ⟨_, if_pos rfl, rfl, rfl, rfl, ?_, ?_⟩⟩, fun x X hx => .inl hx, fun X A hA => ?_⟩
    · show 0 + len * e ≤ cs.length; omega
    · show 0 + len * e ≤ C.length; omega
    · change (if X = w.heap.size then _ else g.arr X) = some A at hA
      split at hA
      · cases hA; exact .inr rfl
      · exact .inl hA
  · rename_i es
    obtain ⟨g', h1, h2, h3, h4⟩ := hvar (.map es) (RO.mono (b := .map es) (Le.setVar hv) h)
    exact ⟨g', h1, h2, ⟨_, rfl, h3⟩, h4⟩

theorem aAlloc_sound (hty : TyAll P ty) {e : Nat} {b : AB} {m : Mk} (h : aAlloc ty e = some (b, m)) : ∃ O, (Instr.alloc e true (.tuple #[])).run P w = .ok (m.val w.heap.size) (w.alloc O) ∧ Made g b m O := by
  replace h := bnd_some h; obtain ⟨i, hi, h⟩ := h
  cases h
  obtain ⟨z, hz, hzF, _, _⟩ := (hty _ _ hi).run_zero w
  refine ⟨.cells z.cells e, ?_, z.cells.toList, e, by simp, hzF g⟩
  simp only [Instr.alloc, Sem.run_bind, hz, Result.andThen_ok]
  rfl
theorem aBox_sound {e : Nat} {x : Operand} (hx : OpR g t ρ x) {b : AB} {m : Mk} (h : aBox t e x = some (b, m)) : ∃ O, (Instr.box e (ρ x)).run P w = .ok (m.val w.heap.size) (w.alloc O) ∧ Made g b m O := by
  replace h := bnd_some h; obtain ⟨v, hv, h⟩ := h
  cases h
  obtain ⟨L, hL, hF⟩ := cells_of (hx.a hv)
  refine ⟨.cells L.toArray e, ?_, L, e, rfl, hF⟩
  simp only [Instr.box, newVar, hL]
  rfl

theorem reps_get (z : List CV) (hz : z ≠ []) : ∀ (n : Nat) (i : Nat), i < n * z.length → (reps n z)[i]? = z[i % z.length]? := by
  intro n
  induction n with
  | zero => intro i h; simp at h
  | succ n ih =>
    intro i hi
    rw [Nat.add_mul] at hi
    show (appR z (reps n z))[i]? = _
    rw [appR_eq]
    have hpos : 0 < z.length := List.length_pos_iff.2 hz
    by_cases h : i < z.length
    · rw [List.getElem?_append_left h, Nat.mod_eq_of_lt h]
    · rw [List.getElem?_append_right (by omega), ih _ (by omega)]
      congr 1
      conv => rhs; rw [show i = (i - z.length) + z.length by omega]
      rw [Nat.add_mod_right]
theorem reps_length (z : List CV) : ∀ n, (reps n z).length = n * z.length
  | 0 => by simp [reps]
  | n + 1 => by show (appR z (reps n z)).length = _; rw [appR_eq, List.length_append, reps_length z n, Nat.add_mul]; omega

theorem fillA_length {place : Nat → Option (Nat × Nat)} : ∀ {l : List (Nat × Operand)} {cs r : List CV}, fillA place t l cs = some r → r.length = cs.length
  | [], cs, r, h => by cases h; rfl
  | p :: l, cs, r, h => by
    replace h : bnd (place p.1) (fun q => bnd (opA t p.2) fun v => bnd (fillStep v q.1 q.2 cs) fun cs' => fillA place t l cs') = some r := h
    replace h := bnd_some h; obtain ⟨q, hq, h⟩ := h
    replace h := bnd_some h; obtain ⟨v, hv, h⟩ := h
    replace h := bnd_some h; obtain ⟨cs', hcs, h⟩ := h
    obtain ⟨h1, h2, rfl⟩ := fillStep_some hcs
    rw [fillA_length h]
    simp; omega

theorem aSlice_sound (hty : TyAll P ty) {ti len : Nat} {parts : List (Nat × Operand)} (hx : ∀ p ∈ parts, OpR g t ρ p.2) {b : AB} {m : Mk} (h : aSlice ty t ti len parts = some (b, m)) :
    ∃ O, (Instr.buildSlice ti len (parts.map fun p => (p.1, ρ p.2)).toArray).run P w = .ok (m.val w.heap.size) (w.alloc O) ∧ Made g b m O := by
  replace h := bnd_some h; obtain ⟨i, hi, h⟩ := h
  obtain ⟨d, hd, hds⟩ := (hty _ _ hi).und
  split at h
  · rename_i e hsh
    rw [hsh] at hds; obtain rfl : d = _ := hds
    replace h := bnd_some h; obtain ⟨j, hj, h⟩ := h
    replace h := sel_true h; obtain ⟨hb, h⟩ := h
    replace hb : len * j.size ≤ 16777216 := Nat.le_of_ble_eq_true hb
    replace h := bnd_some h; obtain ⟨cs, hcs, h⟩ := h
    cases h
    obtain ⟨z, hz, hzF, _, _⟩ := (hty _ _ hj).run_zero w
    have hzl : j.zero.length = j.size := (hty _ _ hj).zlen
    have hzc : z.cells.size = j.size := by rw [← hzl, (hzF g).length]; simp
    obtain ⟨Z, hZ⟩ : ∃ Z : Array Value, Z = if len * j.size = 0 then #[] else z.cells := ⟨_, rfl⟩
    have hF0 : F2 (RC g) (reps len j.zero) ((Array.range (len * j.size)).map (Z[· % Z.size]!)).toList := by
      refine F2.of_get (by simp [reps_length, hzl]) fun q a hq => ?_
      have hql : q < len * j.size := by
        have := (List.getElem?_eq_some_iff.1 hq).1
        rwa [reps_length, hzl] at this
      have hj0 : 0 < j.size := Nat.pos_of_ne_zero fun e => by rw [e] at hql; simp at hql
      have hZe : Z = z.cells := by rw [hZ, if_neg (by omega)]
      have hzne : j.zero ≠ [] := fun e => by rw [e] at hzl; simp at hzl; omega
      rw [reps_get _ hzne _ _ (by rw [hzl]; exact hql), hzl] at hq
      obtain ⟨V, hV, hr⟩ := (hzF g).get _ a hq
      refine ⟨V, ?_, hr⟩
      have hm : q % j.size < z.cells.size := by rw [hzc]; exact Nat.mod_lt _ hj0
      rw [Array.getElem?_toList] at hV
      rw [hZe]
      simp only [Array.toList_map, List.getElem?_map, Array.toList_range, List.getElem?_range hql, Option.map_some, hzc]
      rw [Array.getElem!_eq_getD, Array.getD_eq_getD_getElem?, hV]
      rfl
    obtain ⟨R, hR, hRF⟩ := fill_sound (fun _ _ h => h) hx hF0 hcs
    refine ⟨.cells R.toArray e, ?_, rfl, by rw [fillA_length hcs, reps_length, hzl], R, e, rfl, hRF⟩
    simp only [Array.toArray_toList] at hR
    simp only [Instr.buildSlice, Sem.run_bind, run_underlying hd, Result.andThen_ok, (hty _ _ hj).run_size]
    rw [if_neg (by omega)]
    by_cases h0 : len * j.size = 0
    · rw [if_pos h0] at hZ ⊢
      subst hZ
      simp only [Sem.run_bind, Sem.run_pure, Result.andThen_ok]
      rw [show (fun i => some (i * j.size, j.size)) = placeArr j.size from rfl, hR]
      rfl
    · rw [if_neg h0] at hZ ⊢
      subst hZ
      simp only [Sem.run_bind, hz, Sem.run_pure, Result.andThen_ok]
      rw [show (fun i => some (i * j.size, j.size)) = placeArr j.size from rfl, hR]
      rfl
  · cases h
theorem aMap_sound {ti : Nat} {r : Option Operand} {b : AB} {m : Mk} (h : aMap r = some (b, m)) : ∃ O, (Instr.makeMap ti (r.map ρ)).run P w = .ok (m.val w.heap.size) (w.alloc O) ∧ Made g b m O := by
  unfold aMap at h
  split at h
  · cases h
    exact ⟨.map #[] 0, rfl, [], 0, rfl, .nil, by simp, .nil⟩
  · cases h

-- ALL OPERATIONS BUT THE LOUD ONES

theorem mem_parts {parts : Array (Nat × Operand)} {p : Nat × Operand} (h : p ∈ parts.toList) : p.2 ∈ ((parts.toList.map (·.2)).toArray : Array Operand) := by
  simp only [List.mem_toArray, List.mem_map]
  exact ⟨p, h, rfl⟩
theorem map_parts (parts : Array (Nat × Operand)) : (parts.map fun (i, x) => (i, ρ x)) = (parts.toList.map fun p => (p.1, ρ p.2)).toArray := by
  apply Array.ext'
  simp
theorem map_args (args : Array Operand) : args.map ρ = (args.toList.map ρ).toArray := by
  apply Array.ext'
  simp

theorem cl_q {R : Rec} (hty : TyAll P ty) (hcmp : CmpAll P ty) {o : Oper} (hx : ∀ x ∈ o.op.operands, OpR g t ρ x) {v : TV} (h : cl ty R t o.op = .q (some v)) (w : World) :
    ∃ V, (execOp ρ o).run P w = .ok (.value V) w ∧ RT g v V := by
  obtain ⟨dst, op, type, pos, after, guard⟩ := o
  cases op <;> simp only [cl] at h <;> try cases h
  case move x => exact ⟨ρ x, rfl, hx x (by simp [Op.operands]) v (by injection h)⟩
  case assign x => exact ⟨ρ x, rfl, hx x (by simp [Op.operands]) v (by injection h)⟩
  case pick c a b =>
    obtain ⟨x, e, hr⟩ := qPick_sound (hx c (by simp [Op.operands])) (hx a (by simp [Op.operands])) (hx b (by simp [Op.operands])) (Cl.q.inj h)
    refine ⟨_, ?_, hr⟩
    cases x <;> simp [execOp, e, asBool]
  case build ti parts =>
    obtain ⟨V, hV, hr⟩ := qBuild_sound (w := w) hty (fun p hp => hx p.2 (by simp only [Op.operands]; exact mem_parts hp)) (Cl.q.inj h)
    refine ⟨V, ?_, hr⟩
    simp only [execOp, map_parts, Sem.run_bind, hV, Result.andThen_ok, Sem.run_pure]
  case nilCheck x =>
    have hX := hx x (by simp [Op.operands])
    have h := Cl.q.inj h
    unfold qNil at h
    split at h
    · rename_i hc; cases h
      obtain ⟨a, e, ha⟩ := hX.c hc
      exact ⟨ρ x, by simp [execOp, e], by rw [e]; exact ⟨a, rfl, ha⟩⟩
    · rename_i hc; cases h
      obtain ⟨a, e, ha⟩ := hX.c hc
      exact ⟨ρ x, by simp [execOp, e], by rw [e]; exact ⟨a, rfl, ha⟩⟩
    · rename_i hc; cases h
      obtain ⟨F, C, e, ha⟩ := hX.c hc
      exact ⟨ρ x, by simp [execOp, e], by rw [e]; exact ⟨F, C, rfl, ha⟩⟩
    · rename_i hc; cases h
      obtain ⟨B, e, ha⟩ := hX.c hc
      exact ⟨ρ x, by simp [execOp, e], by rw [e]; exact ⟨B, rfl, ha⟩⟩
    · cases h
  case binOp bop ti x y yt =>
    obtain ⟨V, hV, hr⟩ := qBin_sound (w := w) hty hcmp (hx x (by simp [Op.operands])) (hx y (by simp [Op.operands])) (Cl.q.inj h)
    refine ⟨V, ?_, hr⟩
    simp only [execOp, Sem.run_bind, hV, Result.andThen_ok, Sem.run_pure]
  case unOp uop ti x =>
    obtain ⟨V, hV, hr⟩ := qUn_sound (P := P) (w := w) (hx x (by simp [Op.operands])) (Cl.q.inj h)
    exact ⟨V, by simp only [execOp, Sem.run_bind, hV, Result.andThen_ok, Sem.run_pure], hr⟩
  case makeFunc f first caps =>
    have hr := qMakeFunc_sound (ρ := ρ) (fun o ho => hx o (by simp [Op.operands]; exact .inl (by simpa using ho))) (fun o ho => hx o (by simp [Op.operands]; exact .inr (by simpa using ho))) (Cl.q.inj h)
    refine ⟨_, ?_, hr⟩
    simp only [execOp, Instr.makeFunc, map_args, Sem.run_bind, Sem.run_pure, Result.andThen_ok]
  case slice ti x lo hi mx =>
    have hX := hx x (by simp [Op.operands])
    obtain ⟨V, hV, hr⟩ := qSlice_sound (w := w) hty hX (fun o e => hx o (by subst e; simp [Op.operands])) (fun o e => hx o (by subst e; simp [Op.operands])) (fun o e => hx o (by subst e; simp [Op.operands])) (Cl.q.inj h)
    exact ⟨V, by simp only [execOp, Sem.run_bind, hV, Result.andThen_ok, Sem.run_pure], hr⟩
  case fieldAddr si x f =>
    obtain ⟨V, hV, hr⟩ := qFieldAddr_sound (w := w) hty (hx x (by simp [Op.operands])) (Cl.q.inj h)
    exact ⟨V, by simp only [execOp, Sem.run_bind, hV, Result.andThen_ok, Sem.run_pure], hr⟩
  case field si x f =>
    obtain ⟨V, hV, hr⟩ := qField_sound (w := w) hty (hx x (by simp [Op.operands])) (Cl.q.inj h)
    exact ⟨V, by simp only [execOp, Sem.run_bind, hV, Result.andThen_ok, Sem.run_pure], hr⟩
  case indexAddr ti x ix =>
    obtain ⟨V, hV, hr⟩ := qIndexAddr_sound (w := w) hty (hx x (by simp [Op.operands])) (hx ix (by simp [Op.operands])) (Cl.q.inj h)
    exact ⟨V, by simp only [execOp, Sem.run_bind, hV, Result.andThen_ok, Sem.run_pure], hr⟩
  case index ti x ix =>
    obtain ⟨V, hV, hr⟩ := qIndex_sound (w := w) hty (hx x (by simp [Op.operands])) (hx ix (by simp [Op.operands])) (Cl.q.inj h)
    exact ⟨V, by simp only [execOp, Sem.run_bind, hV, Result.andThen_ok, Sem.run_pure], hr⟩
  case extract x n =>
    obtain ⟨V, hV, hr⟩ := qExtract_sound (P := P) (w := w) (hx x (by simp [Op.operands])) (Cl.q.inj h)
    exact ⟨V, by simp only [execOp, Sem.run_bind, hV, Result.andThen_ok, Sem.run_pure], hr⟩
  case call c =>
    obtain ⟨callee, args, argTypes⟩ := c
    have hA : ∀ o ∈ args.toList, OpR g t ρ o := fun o ho => hx o (by simp [Op.operands, Call.operands]; exact .inr (by simpa using ho))
    cases callee with
    | value f => cases h
    | invoke r m => cases h
    | builtin b =>
      cases b <;> simp only [clCall, clBuiltin] at h <;> try cases h
      · obtain ⟨V, hV, hr⟩ := qMax_sound (P := P) (w := w) (A := argTypes) (T := type) hA (Cl.q.inj h)
        exact ⟨V, by simp only [execOp, resolve, invoke, builtin, map_args, Sem.run_bind, Sem.run_pure, hV, Result.andThen_ok], hr⟩
      · obtain ⟨V, hV, hr⟩ := qMin_sound (P := P) (w := w) (A := argTypes) (T := type) hA (Cl.q.inj h)
        exact ⟨V, by simp only [execOp, resolve, invoke, builtin, map_args, Sem.run_bind, Sem.run_pure, hV, Result.andThen_ok], hr⟩

theorem cl_r {R : Rec} (hty : TyAll P ty) {o : Oper} (hx : ∀ x ∈ o.op.operands, OpR g t ρ x) {f : Tr AB → Option TV} (h : cl ty R t o.op = .r f) {H : Tr AB} (hs : HS g H w) {v : TV} (hv : f H = some v) :
    ∃ V, (execOp ρ o).run P w = .ok (.value V) w ∧ RT g v V := by
  obtain ⟨dst, op, type, pos, after, guard⟩ := o
  cases op <;> simp only [cl] at h <;> try cases h
  case load ti a =>
    obtain ⟨V, hV, hr⟩ := qLoad_sound hty hs (hx a (by simp [Op.operands])) hv
    exact ⟨V, by simp only [execOp, Sem.run_bind, hV, Result.andThen_ok, Sem.run_pure], hr⟩
  case convert src dst x =>
    obtain ⟨V, hV, hr⟩ := qConv_sound hty hs (hx x (by simp [Op.operands])) hv
    exact ⟨V, by simp only [execOp, Sem.run_bind, hV, Result.andThen_ok, Sem.run_pure], hr⟩
  case lookup ti m k ok =>
    obtain ⟨V, hV, hr⟩ := qLookup_sound hty hs (hx m (by simp [Op.operands])) (hx k (by simp [Op.operands])) hv
    exact ⟨V, by simp only [execOp, Sem.run_bind, hV, Result.andThen_ok, Sem.run_pure], hr⟩
  case call c =>
    obtain ⟨callee, args, argTypes⟩ := c
    have hA : ∀ o ∈ args.toList, OpR g t ρ o := fun o ho => hx o (by simp [Op.operands, Call.operands]; exact .inr (by simpa using ho))
    cases callee with
    | value f => cases h
    | invoke r m => cases h
    | builtin b =>
      cases b <;> simp only [clCall, clBuiltin] at h <;> try cases h
      obtain ⟨V, hV, hr⟩ := qLen_sound hty hs hA (T := type) hv
      refine ⟨V, ?_, hr⟩
      simp only [Array.toArray_toList] at hV
      simp only [execOp, resolve, invoke, builtin, map_args, Sem.run_bind, Sem.run_pure, hV, Result.andThen_ok]

theorem cl_al {R : Rec} (hty : TyAll P ty) {o : Oper} (hx : ∀ x ∈ o.op.operands, OpR g t ρ x) {b : AB} {m : Mk} (h : cl ty R t o.op = .al (some (b, m))) (w : World) :
    ∃ O, (execOp ρ o).run P w = .ok (.value (m.val w.heap.size)) (w.alloc O) ∧ Made g b m O := by
  obtain ⟨dst, op, type, pos, after, guard⟩ := o
  cases op <;> simp only [cl] at h <;> try cases h
  case alloc e =>
    obtain ⟨O, hO, hm⟩ := aAlloc_sound (P := P) (g := g) (w := w) hty (Cl.al.inj h)
    exact ⟨O, by simp only [execOp, Sem.run_bind, hO, Result.andThen_ok, Sem.run_pure], hm⟩
  case box e x =>
    obtain ⟨O, hO, hm⟩ := aBox_sound (P := P) (w := w) (hx x (by simp [Op.operands])) (Cl.al.inj h)
    exact ⟨O, by simp only [execOp, Sem.run_bind, hO, Result.andThen_ok, Sem.run_pure], hm⟩
  case buildSlice ti len parts =>
    obtain ⟨O, hO, hm⟩ := aSlice_sound (w := w) hty (fun p hp => hx p.2 (by simp only [Op.operands]; exact mem_parts hp)) (Cl.al.inj h)
    exact ⟨O, by simp only [execOp, map_parts, Sem.run_bind, hO, Result.andThen_ok, Sem.run_pure], hm⟩
  case makeMap ti r =>
    obtain ⟨O, hO, hm⟩ := aMap_sound (P := P) (ρ := ρ) (g := g) (w := w) (ti := ti) (Cl.al.inj h)
    exact ⟨O, by simp only [execOp, Sem.run_bind, hO, Result.andThen_ok, Sem.run_pure], hm⟩
  case call c =>
    obtain ⟨callee, args, argTypes⟩ := c
    cases callee with
    | value f => cases h
    | invoke r m => cases h
    | builtin b => cases b <;> cases h

end
end Go.Proofs.YtjkkclfndlfjhaaGreatDoor.Ev
