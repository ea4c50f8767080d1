/- Arguments: bytes, commands by numbers; what a bound on the bulk gives; arguments stay as they were. -/
import Derived.Test.YtjkkclfndlfjhaaGreatDoorSay
import Derived.Test.YtjkkclfndlfjhaaGreatDoorRows
import Derived.ProofKit
import Derived.SizedLaws
import Derived.OpenShut
import Derived.Deep.Slices
set_option linter.all false
namespace Go.Proofs.YtjkkclfndlfjhaaGreatDoor
open Go.RowKit Crc Go.WideShapes Go.ChangeShapes

theorem own : ownKnob Tryz.prog.godebug = none := by kernel_rfl
theorem laidOut : laidOutB Tryz.prog = true := by kernel_rfl
theorem cells5 : Tryz.prog.cellsOf 5 = 1 := by kernel_rfl
theorem cells126 : Tryz.prog.cellsOf 126 = 6 := by kernel_rfl

/-- The arguments read as they did: nothing below the heap's old size has turned. -/
theorem args_stay {H : Type} {enc : TypeId × Value → H} {P : Program} {W W' : World} {sp : Nat → Bool} (hlo : laidOutB P = true) (hb : Below W.heap.size W W') (ts : List TypeId) :
    ∀ (vs : List Value) (ds : List (DataW H)) (ps : List MemPlace), (∀ t ∈ ts, P.readableRec t = true ∧ t < P.types.size) →
      DataW.TrodAll enc P W 0 (fun _ => true) true ts vs ds ps → (∀ x ∈ ps, x.block < W.heap.size) → (∀ x ∈ ps, sp x.block = true) → DataW.TrodAll enc P W' 0 sp true ts vs ds ps := by
  induction ts with
  | nil =>
    intro vs ds ps _ h _ _
    cases vs <;> cases ds <;> first | exact h | cases h
  | cons t ts ih =>
    intro vs ds ps hr h hlt hsp
    cases vs with
    | nil => cases h
    | cons v vs =>
      cases ds with
      | nil => cases h
      | cons d ds =>
        obtain ⟨p, q, h1, h2, rfl⟩ := h
        exact ⟨p, q, Go.WideElems.Trod_stays hlo (hr t (by simp)).1 (hr t (by simp)).2 h1 (fun x hx => hb.same (hlt x (List.mem_append_left _ hx))) (fun x hx => hsp x (List.mem_append_left _ hx)),
          ih vs ds q (fun u hu => hr u (List.mem_cons_of_mem _ hu)) h2 (fun x hx => hlt x (List.mem_append_right _ hx)) (fun x hx => hsp x (List.mem_append_right _ hx)), rfl⟩

theorem ok5 : Tryz.prog.readableRec 5 = true ∧ 5 < Tryz.prog.types.size := ⟨by kernel_rfl, of_decide_eq_true (by kernel_rfl)⟩
theorem ok72 : Tryz.prog.readableRec 72 = true ∧ 72 < Tryz.prog.types.size := ⟨by kernel_rfl, of_decide_eq_true (by kernel_rfl)⟩
theorem ok73 : Tryz.prog.readableRec 73 = true ∧ 73 < Tryz.prog.types.size := ⟨by kernel_rfl, of_decide_eq_true (by kernel_rfl)⟩
theorem ok74 : Tryz.prog.readableRec 74 = true ∧ 74 < Tryz.prog.types.size := ⟨by kernel_rfl, of_decide_eq_true (by kernel_rfl)⟩

theorem byte_of (n : Int) (h : (Lit.int .u8 n).wf = true) : ((UInt8.ofNat n.toNat).toNat : Int) = n := by
  have hb := bounds_u8 h
  rw [UInt8.toNat_ofNat']
  omega

/-- What the bound gives: the length of a slice that comes in. -/
theorem part_le {H : Type} {d : DataW H} {l : List (DataW H)} (h : d ∈ l) : Rows.uptoBulk d ≤ Rows.uptoBulkAll l := by
  induction l with
  | nil => cases h
  | cons x r ih =>
    simp only [Rows.uptoBulkAll]
    cases List.mem_cons.1 h with
    | inl e => subst e; omega
    | inr e => have := ih e; omega
theorem one_le {H : Type} (d : DataW H) : 1 ≤ Rows.uptoBulk d := by
  cases d with
  | lit l => cases l <;> simp [Rows.uptoBulk]
  | nil => simp [Rows.uptoBulk]
  | ptr d => simp [Rows.uptoBulk]
  | slice elems spare => simp [Rows.uptoBulk]
  | agg parts => simp [Rows.uptoBulk]
  | iface t d => simp [Rows.uptoBulk]
  | map entries => simp [Rows.uptoBulk]
  | held h => simp [Rows.uptoBulk]
theorem length_le {H : Type} (l : List (DataW H)) : l.length ≤ Rows.uptoBulkAll l := by
  induction l with
  | nil => simp [Rows.uptoBulkAll]
  | cons x r ih => have := one_le x; simp only [Rows.uptoBulkAll, List.length_cons]; omega
theorem short {H : Type} {l : List (DataW H)} {d : DataW H} {elems spare : List (DataW H)} (hk : Rows.uptoSmall H l = true) (hd : d ∈ l) (e : d = .slice elems spare) : elems.length + spare.length ≤ 1048576 := by
  have h : Rows.uptoBulkAll l ≤ 1048576 := of_decide_eq_true hk
  have h1 := part_le hd
  rw [e] at h1
  simp only [Rows.uptoBulk] at h1
  have h2 := length_le elems
  have h3 := length_le spare
  omega

set_option maxRecDepth 100000 in
theorem arg_short {H : Type} {enc : TypeId × Value → H} {W : World} {base : Nat} {v : Value} {d : DataW H} {p : List MemPlace} (hv : Value.okWide Tryz.prog W .any base 72 v)
    (h : DataW.Trod enc Tryz.prog W 0 (fun _ => true) true 72 v d p) (hs : ∀ elems spare, d = .slice elems spare → elems.length + spare.length ≤ 1048576) :
    ∃ bs, IsBytes W v bs ∧ bs.length ≤ 1048576 := by
  obtain ⟨a0, len, cap, rfl⟩ := okWide_slice Tryz.underlying72 hv
  obtain ⟨fuel, hf⟩ := h
  rcases open_ints Tryz.underlying72 Tryz.underlying5 cells5 hf with ⟨hcs, _⟩ | ⟨a, len', cap', zs, hcs, _, hl, hm, hz, hx, hcell, hwz⟩
  · simp only [Value.cells, List.cons.injEq, Value.slice.injEq, and_true] at hcs
    obtain ⟨rfl, rfl, rfl⟩ := hcs
    exact ⟨[], ⟨none, 0, rfl, by simp, by decide, fun h => by simp at h⟩, by simp⟩
  · simp only [Value.cells, List.cons.injEq, Value.slice.injEq, and_true] at hcs
    obtain ⟨rfl, rfl, rfl⟩ := hcs
    simp only [Prod.mk.injEq] at hx
    have hb := hs _ _ hx.1
    simp only [if_true] at hz
    simp only [lits, List.length_map, List.length_take, List.length_drop] at hb
    have hlen : ((zs.take len).map fun n => UInt8.ofNat n.toNat).length = len := by simp; omega
    refine ⟨(zs.take len).map fun n => UInt8.ofNat n.toNat, ⟨some a, cap, by rw [hlen], by omega, hm, fun hp => ?_⟩, by omega⟩
    obtain ⟨b, off, rfl, hc⟩ := ints_at hcell (by omega)
    refine ⟨b, off, rfl, fun i c hi => ?_⟩
    rw [List.getElem?_map] at hi
    have hil : i < len := by
      rcases Nat.lt_or_ge i len with h1 | h1
      · exact h1
      · rw [List.getElem?_eq_none (by simp; omega)] at hi; cases hi
    have hiz : i < zs.length := by omega
    rw [List.getElem?_take_of_lt hil, List.getElem?_eq_getElem hiz] at hi
    simp only [Option.map_some, Option.some.injEq] at hi
    rw [hc i hiz, ← hi, byte_of _ (hwz _ (List.getElem_mem hiz))]
    simp [List.getD, hiz]

set_option maxRecDepth 100000 in
/-- Six cells that read as a command by numbers. -/
theorem say_read {H : Type} {enc : TypeId × Value → H} {W : World} {n : Nat} {cs : List Value} {x : DataW H × List MemPlace} (h : DataW.trod enc Tryz.prog W 0 (fun _ => true) true n 126 cs = some x) : ∃ s : Sy, cs = s.cells := by
  obtain ⟨xs, k, _, _, hcl, hxl, hf⟩ := DataW.trod_struct Tryz.underlying126 h
  rw [cells126] at hcl
  match cs, hcl with
  | [v0, v1, v2, v3, v4, v5], _ =>
    have key : ∀ (v : Value) (o : Option (DataW H × List MemPlace)), DataW.trod enc Tryz.prog W 0 (fun _ => true) true k 5 [v] = o → o.isSome = true → ∃ c : UInt8, v = .int .u8 (c.toNat : Int) := fun v o ho hs => by
      obtain ⟨y, hy⟩ := Option.isSome_iff_exists.1 hs
      rw [hy] at ho
      obtain ⟨z, hz, _, hw⟩ := DataW.trod_int Tryz.underlying5 ho
      cases hz
      exact ⟨UInt8.ofNat z.toNat, by rw [byte_of _ hw]⟩
    have hx : ∀ j, j < 6 → (xs[j]?).isSome = true := fun j hj => by
      rw [List.getElem?_eq_getElem (by rw [hxl]; exact hj)]
      rfl
    have g0 : DataW.trod enc Tryz.prog W 0 (fun _ => true) true k 5 (List.take (Tryz.prog.cellsOf 5) (List.drop 0 [v0, v1, v2, v3, v4, v5])) = xs[0]? := hf 0 _ rfl
    have g1 : DataW.trod enc Tryz.prog W 0 (fun _ => true) true k 5 (List.take (Tryz.prog.cellsOf 5) (List.drop 1 [v0, v1, v2, v3, v4, v5])) = xs[1]? := hf 1 _ rfl
    have g2 : DataW.trod enc Tryz.prog W 0 (fun _ => true) true k 5 (List.take (Tryz.prog.cellsOf 5) (List.drop 2 [v0, v1, v2, v3, v4, v5])) = xs[2]? := hf 2 _ rfl
    have g3 : DataW.trod enc Tryz.prog W 0 (fun _ => true) true k 5 (List.take (Tryz.prog.cellsOf 5) (List.drop 3 [v0, v1, v2, v3, v4, v5])) = xs[3]? := hf 3 _ rfl
    have g4 : DataW.trod enc Tryz.prog W 0 (fun _ => true) true k 5 (List.take (Tryz.prog.cellsOf 5) (List.drop 4 [v0, v1, v2, v3, v4, v5])) = xs[4]? := hf 4 _ rfl
    have g5 : DataW.trod enc Tryz.prog W 0 (fun _ => true) true k 5 (List.take (Tryz.prog.cellsOf 5) (List.drop 5 [v0, v1, v2, v3, v4, v5])) = xs[5]? := hf 5 _ rfl
    rw [cells5] at g0 g1 g2 g3 g4 g5
    simp only [List.drop_zero, List.drop_succ_cons, List.take_succ_cons, List.take_zero] at g0 g1 g2 g3 g4 g5
    obtain ⟨c0, rfl⟩ := key _ _ g0 (hx 0 (by omega))
    obtain ⟨c1, rfl⟩ := key _ _ g1 (hx 1 (by omega))
    obtain ⟨c2, rfl⟩ := key _ _ g2 (hx 2 (by omega))
    obtain ⟨c3, rfl⟩ := key _ _ g3 (hx 3 (by omega))
    obtain ⟨c4, rfl⟩ := key _ _ g4 (hx 4 (by omega))
    obtain ⟨c5, rfl⟩ := key _ _ g5 (hx 5 (by omega))
    exact ⟨⟨c0, c1, c2, c3, c4, c5⟩, rfl⟩

set_option maxRecDepth 100000 in
/-- AN ARGUMENT THAT IS A SLICE OF COMMANDS BY NUMBERS. -/
theorem arg_says {H : Type} {enc : TypeId × Value → H} {W : World} {base : Nat} {v : Value} {d : DataW H} {p : List MemPlace} (hv : Value.okWide Tryz.prog W .any base 73 v)
    (h : DataW.Trod enc Tryz.prog W 0 (fun _ => true) true 73 v d p) (hs : ∀ elems spare, d = .slice elems spare → elems.length + spare.length ≤ 1048576) : ∃ ss, IsL W laySy v ss ∧ ss.length ≤ 1048576 := by
  obtain ⟨a0, len, cap, rfl⟩ := okWide_slice Tryz.underlying73 hv
  obtain ⟨fuel, hf⟩ := h
  rcases Go.Deep.open_slice Tryz.underlying73 hf with ⟨hcs, _⟩ | ⟨a, len', cap', m, n, D, Pl, hcs, _, hl, hm, hmm, hx, hel⟩
  · simp only [Value.cells, List.cons.injEq, Value.slice.injEq, and_true] at hcs
    obtain ⟨rfl, rfl, rfl⟩ := hcs
    exact ⟨[], IsL.nil _ _, by simp⟩
  · simp only [Value.cells, List.cons.injEq, Value.slice.injEq, and_true] at hcs
    obtain ⟨rfl, rfl, rfl⟩ := hcs
    simp only [if_true] at hmm
    subst hmm
    simp only [Prod.mk.injEq] at hx
    have hb := hs _ _ hx.1
    simp only [List.length_map, List.length_range] at hb
    have each : ∀ i, ∃ s : Sy, i < len → ∀ j u, s.cells[j]? = some u → W.cell? (a.add (i * 6 + j)) = some u := fun i => by
      by_cases hi : i < len
      · obtain ⟨cs, h1, h2⟩ := hel i (by omega)
        rw [cells126] at h1
        obtain ⟨s, rfl⟩ := say_read h2
        obtain ⟨_, _, h3⟩ := World.cells?_some h1
        refine ⟨s, fun _ j u hu => ?_⟩
        have hj : j < 6 := by have := (List.getElem?_eq_some_iff.1 hu).1; simpa [Sy.cells] using this
        have := h3 j hj
        rw [hu] at this
        rw [← this, Go.Deep.add_add]
      · exact ⟨⟨0, 0, 0, 0, 0, 0⟩, fun h => absurd h hi⟩
    obtain ⟨s, hs'⟩ := Classical.axiomOfChoice each
    have hlen : ((List.range len).map s).length = len := by simp
    refine ⟨(List.range len).map s, ⟨some a, m, by rw [hlen], by omega, hm, fun hp => ?_⟩, by omega⟩
    obtain ⟨b, off, spot⟩ := a
    have hspot : spot = none := by
      have := hs' 0 (by omega) 0 _ rfl
      simpa [Addr.add] using World.cell?_spot this
    subst hspot
    refine ⟨b, off, rfl, fun q u hq => ?_⟩
    obtain ⟨hlt, hget⟩ := List.getElem?_eq_some_iff.1 hq
    have hq6 : q < len * 6 := by rw [Lay.flat_len, hlen] at hlt; exact hlt
    have hi : q / 6 < len := by omega
    have hcell := hs' (q / 6) hi (q % 6)
    have hL : ((List.range len).map s)[q / 6]? = some (s (q / 6)) := by rw [List.getElem?_map, List.getElem?_range hi]; rfl
    have hj : q % 6 < (s (q / 6)).cells.length := by simp [Sy.cells]; omega
    have e2 := Lay.flat_get (L := laySy) (j := q % 6) hL (List.getElem?_eq_getElem hj)
    have e3 : q / 6 * laySy.k + q % 6 = q := by show q / 6 * 6 + q % 6 = q; omega
    rw [e3, hq] at e2
    have := hcell _ (e2 ▸ List.getElem?_eq_getElem hj)
    rw [show q / 6 * 6 + q % 6 = q by omega] at this
    rw [← Go.WideShapes.add_plain]
    exact this
end Go.Proofs.YtjkkclfndlfjhaaGreatDoor
