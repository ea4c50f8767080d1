/- The bytes that all files have: a range over a map, in whatever order. -/
import Derived.Test.YtjkkclfndlfjhaaGreatDoorEvP3
import Derived.Laws.IdiomRangeMap
import Derived.Maps.RangeRun
set_option linter.all false
set_option linter.unusedSimpArgs false
namespace Go.Proofs.YtjkkclfndlfjhaaGreatDoor
open Go Go.RowKit

/-- How long the slice is that lies behind an entry. -/
def lenE (w : World) (e : MapEntry) : Nat := match e.val with
  | .pointer (some a) => match w.cell? a with
    | some (.slice _ n _) => n
    | _ => 0
  | _ => 0
def mapE (w : World) (e : MapEntry) : MapEntry := { e with val := .int .i64 (lenE w e) }
def FileE (w : World) (e : MapEntry) : Prop := ∃ (b o : Nat) (A : Option Addr) (n cap : Nat), e.val = .pointer (some ⟨b, o, none⟩) ∧ w.cell? ⟨b, o, none⟩ = some (.slice A n cap)
def totE (w : World) (es : List MapEntry) : Nat := (es.map (lenE w)).sum

theorem FileE.len {w : World} {e : MapEntry} (h : FileE w e) : ∃ (b o : Nat) (A : Option Addr) (cap : Nat), e.val = .pointer (some ⟨b, o, none⟩) ∧ w.cell? ⟨b, o, none⟩ = some (.slice A (lenE w e) cap) := by
  obtain ⟨b, o, A, n, cap, h1, h2⟩ := h
  refine ⟨b, o, A, cap, h1, ?_⟩
  unfold lenE
  rw [h1]
  simp only [h2]

theorem seen_le (w : World) (seen : Array Nat) : ∀ es : List MapEntry, 0 ≤ seenSum (es.map (mapE w)) seen ∧ seenSum (es.map (mapE w)) seen ≤ (totE w es : Int)
  | [] => ⟨Int.le_refl _, Int.le_refl _⟩
  | e :: l => by
    obtain ⟨h1, h2⟩ := seen_le w seen l
    have e1 : (totE w (e :: l) : Int) = (lenE w e : Int) + (totE w l : Int) := by simp [totE]
    rw [e1]
    show 0 ≤ (if seen.contains (mapE w e).born then valOf (mapE w e).val else 0) + seenSum (l.map (mapE w)) seen ∧ (if seen.contains (mapE w e).born then valOf (mapE w e).val else 0) + seenSum (l.map (mapE w)) seen ≤ _
    have e2 : valOf (mapE w e).val = (lenE w e : Int) := rfl
    rw [e2]
    split <;> omega
theorem seen_all (w : World) (es : List MapEntry) (seen : Array Nat) (h : (leftOf es.toArray seen).size = 0) : seenSum (es.map (mapE w)) seen = (totE w es : Int) := by
  have h1 := all_seen es.toArray seen h
  rw [seenSum_full seen (es.map (mapE w)) fun x hx => by
    obtain ⟨e, he, rfl⟩ := List.mem_map.1 hx
    exact h1 e (by simpa using he)]
  clear h h1
  induction es with
  | nil => rfl
  | cons e l ih =>
    simp only [List.map_cons, List.sum_cons, totE] at ih ⊢
    rw [ih]
    show (lenE w e : Int) + _ = _
    omega

theorem iter_below {w wr w1 : World} {o o' : Obj} (hb : Below w.heap.size w wr) (hr : wr.heap[w.heap.size]? = some o) (h1 : w1 = wr ∨ w1 = wr.drew) : Below w.heap.size w (Go.ChangeMaps.setBlock w1 w.heap.size o') ∧ (Go.ChangeMaps.setBlock w1 w.heap.size o').heap[w.heap.size]? = some o' := by
  have hlt : w.heap.size < wr.heap.size := by
    rcases Nat.lt_or_ge w.heap.size wr.heap.size with h | h
    · exact h
    · rw [Array.getElem?_eq_none h] at hr; cases hr
  have h2 : Below w.heap.size w w1 ∧ w.heap.size < w1.heap.size := by
    rcases h1 with rfl | rfl
    · exact ⟨hb, hlt⟩
    · exact ⟨hb.drew, hlt⟩
  refine ⟨⟨h2.1.os, h2.1.tape, h2.1.output, by simpa [Go.ChangeMaps.setBlock] using h2.1.size, fun k hk => ?_⟩, ?_⟩
  · rw [← h2.1.block k hk]
    simp only [Go.ChangeMaps.setBlock]
    rw [Array.getElem?_setIfInBounds_ne (by omega)]
  · simp only [Go.ChangeMaps.setBlock]
    rw [Array.getElem?_setIfInBounds_self_of_lt h2.2]

set_option maxRecDepth 1000000 in
set_option maxHeartbeats 800000 in
theorem used_any (db dof bm : Nat) (es : List MapEntry) (clock : Nat) (w : World) (hd : w.cell? ⟨db, dof, none⟩ = some (.map (some bm))) (hb : w.heap[bm]? = some (.map es.toArray clock)) (hold : ∀ x ∈ es, x.born < clock) (hnd : (es.map (·.born)).Nodup)
    (hf : ∀ x ∈ es, FileE w x) (htot : totE w es ≤ 1000000000) :
    Calls Tryz.prog 270 #[.pointer (some ⟨db, dof, none⟩)] w fun e w' => e = .returned (.int .i64 (totE w es : Int)) ∧ Below w.heap.size w w' := by
  have hrg := run_range_map (P := Tryz.prog) w 261 9 324 bm es.toArray clock Tryz.underlying261 hb
  have hlt : bm < w.heap.size := by
    rcases Nat.lt_or_ge bm w.heap.size with h | h
    · exact h
    · rw [Array.getElem?_eq_none h] at hb; cases hb
  have HF := Lib.hid hf
  have HO := Lib.hid hold
  have HN := Lib.hid hnd
  clear hf hold hnd
  go_enter Tryz.func270, Tryz.ntmps270
  go_wp2
  go_loopw [3] (fun s w' => ∃ (seen : Array Nat), Below w.heap.size w w' ∧ w'.heap[w.heap.size]? = some (.mapIter (some bm) clock seen clock) ∧ s = .int .i64 (seenSum (es.map (mapE w)) seen)) (fun _ w' => (leftOf es.toArray (w'.iterSeen w.heap.size)).size)
  case atStart => exact ⟨#[], (Below.refl _ w).alloc (Nat.le_refl _) _, heap_alloc_new w _, by rw [seenSum_none]⟩
  case round =>
    rename_i wr
    obtain ⟨seen, hbw, hir, rfl⟩ := hrel
    have hb1 : wr.heap[bm]? = some (.map es.toArray clock) := (hbw.block bm hlt).trans hb
    rcases run_next_at (P := Tryz.prog) wr 0 w.heap.size bm clock clock seen es.toArray clock hir hb1 (by simpa using HO.out) (Nat.le_refl _) with ⟨h0, hrun⟩ | ⟨e, he, w1, hw1, hrun⟩
    · have hnx : ∀ ty, (Instr.next (.pointer (some ⟨w.heap.size, 0, none⟩)) false ty).run Tryz.prog wr = _ := fun _ => hrun
      go_wp2
      go_ret
      rw [seen_all w es seen h0]
      exact ⟨rfl, hbw⟩
    · obtain ⟨hem, hes⟩ := mem_left he
      have hem : e ∈ es := by simpa using hem
      obtain ⟨b, o, A, cap, hval, hcell⟩ := (HF.out e hem).len
      obtain ⟨hbw2, hir2⟩ := iter_below (o' := .mapIter (some bm) clock (seen.push e.born) clock) hbw hir hw1
      obtain ⟨w2, hw2⟩ : ∃ w2, w2 = Go.ChangeMaps.setBlock w1 w.heap.size (.mapIter (some bm) clock (seen.push e.born) clock) := ⟨_, rfl⟩
      rw [← hw2] at hrun hbw2 hir2
      clear hw2
      have hen := run_entry_at (P := Tryz.prog) w2 w.heap.size bm clock seen es.toArray clock e hir2 ((hbw2.block bm hlt).trans hb) (by simpa using hem) (by simpa using HN.out)
      rw [hval] at hrun hen
      have hnx : ∀ ty, (Instr.next (.pointer (some ⟨w.heap.size, 0, none⟩)) false ty).run Tryz.prog wr = _ := fun _ => hrun
      have hc2 : w2.cell? ⟨b, o, none⟩ = some (.slice A (lenE w e) cap) := cell_later hbw2 hcell
      obtain ⟨hs0, hs1⟩ := seen_le w seen es
      have HS2 := Lib.hid (seenSum_push seen (mapE w e) hes (es.map (mapE w)) (by rw [List.map_map]; exact HN.out) (List.mem_map_of_mem hem))
      obtain ⟨hs2, hs3⟩ := seen_le w (seen.push e.born) es
      obtain ⟨T, hT⟩ : ∃ T, T = seenSum (es.map (mapE w)) seen := ⟨_, rfl⟩
      obtain ⟨U, hU⟩ : ∃ U, U = seenSum (es.map (mapE w)) (seen.push e.born) := ⟨_, rfl⟩
      rw [← hT] at hs0 hs1 ⊢
      rw [← hU] at hs2 hs3
      have hTU : U = T + (lenE w e : Int) := by rw [hU, hT]; exact HS2.out
      obtain ⟨n, hn⟩ : ∃ n, n = lenE w e := ⟨_, rfl⟩
      rw [← hn] at hc2 hTU
      have HT := Lib.hid hT
      have HU := Lib.hid hU
      have HTU := Lib.hid hTU
      have hb0 : T + (n : Int) ≤ 1000000000 := by omega
      clear hT hU hTU hn hval hcell hs1 hs2 hs3
      go_wp2
      refine ⟨⟨seen.push e.born, hbw2, hir2, by rw [← HU.out, HTU.out]⟩, ?_⟩
      have e1 : w2.iterSeen w.heap.size = seen.push e.born := by simp [World.iterSeen, hir2]
      have e2 : wr.iterSeen w.heap.size = seen := by simp [World.iterSeen, hir]
      rw [e1, e2]
      exact left_shrinks es.toArray seen e he
end Go.Proofs.YtjkkclfndlfjhaaGreatDoor
