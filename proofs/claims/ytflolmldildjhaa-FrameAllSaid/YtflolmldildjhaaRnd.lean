/- A region that draws its order and only reads, in a round of a loop over an iterator: it is walked once. -/
import Derived.Test.YtflolmldildjhaaAll
import Derived.Sort.QuietIn
import Derived.OrdersIn
namespace Go.Proofs.Ytflolmldildjhaa
open Go.RowKit

def Plain (o : Oper) : Bool := match o.op with | .defer _ => false | _ => true
theorem Plain.ne {o : Oper} (h : Plain o = true) (c : Call) : o.op ≠ .defer c := by
  intro e
  unfold Plain at h
  rw [e] at h
  cases h

theorem oper_in_round {n : Nat} {P : Program} {o : Oper} {a : Act} {w : World} {K : Act → World → Prop} {Q : Exit → Act → World → Prop} (l : Nat) (ho : Plain o = true) (h : o.wpIn Fence.wide n P a w K Q) : o.wpIn (Fence.wide.inRound l) n P a w K Q := by
  refine ⟨h.1, ?_⟩
  have h2 := h.2
  have e : o.semAt (Fence.wide.inRound l).round a.eval = o.semAt Fence.wide.round a.eval := by
    rw [Oper.semAt_plain _ _ _ (Plain.ne ho)]
    rw [Oper.semAt_plain _ _ _ (Plain.ne ho)]
  rw [e]
  exact h2

theorem ops_in_round {n : Nat} {P : Program} {ops : Array Oper} {Q : Exit → Act → World → Prop} (l : Nat) (hp : ops.toList.all Plain = true) : ∀ (is : List Nat) (a : Act) (w : World), wpOpsIn Fence.wide n P ops Q is a w → wpOpsIn (Fence.wide.inRound l) n P ops Q is a w
  | [], _, _, h => h
  | i :: is, a, w, h => by
    unfold wpOpsIn at h ⊢
    cases ho : ops[i]? with
    | none => rw [ho] at h; exact ops_in_round l hp is a w h
    | some o =>
      rw [ho] at h
      have hpo : Plain o = true := List.all_eq_true.1 hp o (by
        have := Array.mem_of_getElem? ho
        exact Array.mem_toList_iff.2 this)
      simp only [] at h ⊢
      by_cases hw : Region.wanted o (yielded ops a.tmps) = true
      · rw [if_pos hw] at h ⊢
        exact oper_in_round l hpo (Oper.wpIn_mono (fun a w hh => ops_in_round l hp is a w hh) h)
      · rw [if_neg hw] at h ⊢
        exact ⟨h.1, ops_in_round l hp is _ _ h.2⟩

/-- A REGION THAT ONLY READS, IN A ROUND. -/
theorem quiet_in_round {id n l : Nat} {P : Program} {Q : Exit → Act → World → Prop} {a : Act} {w : World} {lo : List Oper} (hm : P.follows .mixedOrders = true) (hB : Region.lexB .any lo.toArray = true) (hp : lo.all Plain = true)
    (h : wpQuietIn Fence.wide n P lo.toArray (fun w' => ∃ k, w' = w.drewN k) (fun a' => ∀ w', (∃ k, w' = w.drewN k) → Q .normal a' w') lo a) : (Code.region id lo.toArray true).wpIn (Fence.wide.inRound l) n P Q a w := by
  refine wpIn_region_draw fun t => ops_in_round l (by simpa using hp) _ _ _ ?_
  simp only [Region.schedule, hm, Bool.true_or, if_true]
  refine wpAnyIn_sound lo.toArray.size t _ a _ ?_
  simp only [Region.lexB, Bool.and_eq_true] at hB
  refine wpAnyIn_of_quiet (C := fun w' => ∃ k, w' = w.drewN k) (Q := fun a' => ∀ w', (∃ k, w' = w.drewN k) → Q .normal a' w') rfl (fun _ w' hw' h => h w' hw') _ _ _ _ ⟨1, rfl⟩ ?_
  have := wpAnyQIn_lex (F := Fence.wide) (n := n) (C := fun w' => ∃ k, w' = w.drewN k) (md := .any) hB.1 lo.toArray.toList 0 (Array.replicate lo.toArray.size false) a (by simp) (by simpa using hB.2) (by simpa using h)
  simpa using this


end Go.Proofs.Ytflolmldildjhaa
