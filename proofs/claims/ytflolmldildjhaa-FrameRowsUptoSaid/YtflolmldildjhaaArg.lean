/- An argument that is a slice of slices of bytes. -/
import Derived.Test.YtflolmldildjhaaMany
import Derived.Deep.Slices
namespace Go.Proofs.Ytflolmldildjhaa
open Go.RowKit Crc Go.WideShapes Go.ChangeShapes

theorem cells29 : Try.prog.cellsOf 29 = 1 := by kernel_rfl

theorem bytes_read {H : Type} {enc : TypeId × Value → H} {W : World} {fuel : Nat} {v : Value} {d : DataW H} {p : List MemPlace}
    (hf : DataW.trod enc Try.prog W 0 (fun _ => true) true fuel 29 [v] = some (d, p)) : ∃ bs, IsBytes W v bs := by
  rcases open_ints Try.underlying29 Try.underlying5 cells5 hf with ⟨hcs, _⟩ | ⟨a, len', cap', zs, hcs, _, hl, hm, hz, hx, hcell, hwz⟩
  · simp only [List.cons.injEq, and_true] at hcs
    subst hcs
    exact ⟨[], ⟨none, 0, rfl, by simp, by decide, fun h => by simp at h⟩⟩
  · simp only [List.cons.injEq, and_true] at hcs
    subst hcs
    simp only [if_true] at hz
    have hlen : ((zs.take len').map fun n => UInt8.ofNat n.toNat).length = len' := by simp; omega
    refine ⟨(zs.take len').map fun n => UInt8.ofNat n.toNat, ⟨some a, cap', by rw [hlen], by omega, hm, fun hp => ?_⟩⟩
    obtain ⟨b, off, rfl, hc⟩ := ints_at hcell (by omega)
    refine ⟨b, off, rfl, fun i c hi => ?_⟩
    rw [List.getElem?_map] at hi
    have hil : i < len' := by
      rcases Nat.lt_or_ge i len' with h1 | h1
      · exact h1
      · rw [List.getElem?_eq_none (by simp; omega)] at hi; cases hi
    have hiz : i < zs.length := by omega
    rw [List.getElem?_take_of_lt hil, List.getElem?_eq_getElem hiz] at hi
    simp only [Option.map_some, Option.some.injEq] at hi
    rw [hc i hiz, ← hi, byte_of _ (hwz _ (List.getElem_mem hiz))]
    simp [List.getD, hiz]

/-- AN ARGUMENT THAT IS A SLICE OF SLICES OF BYTES. -/
theorem arg_rows {H : Type} {enc : TypeId × Value → H} {W : World} {base : Nat} {v : Value} {d : DataW H} {p : List MemPlace} (hv : Value.okWide Try.prog W .any base 47 v)
    (h : DataW.Trod enc Try.prog W 0 (fun _ => true) true 47 v d p) : ∃ rs, IsRows W v rs := by
  obtain ⟨a0, len, cap, rfl⟩ := okWide_slice Try.underlying47 hv
  obtain ⟨fuel, hf⟩ := h
  rcases Go.Deep.open_slice1 Try.underlying47 cells29 hf with ⟨hcs, _⟩ | ⟨a, len', cap', m, n, V, D, Pl, hcs, _, hl, hm, hmm, hx, hcell⟩
  · simp only [Value.cells, List.cons.injEq, Value.slice.injEq, and_true] at hcs
    obtain ⟨rfl, rfl, rfl⟩ := hcs
    exact ⟨[], ⟨none, 0, rfl, by simp, by decide, fun h => by simp at h⟩⟩
  · simp only [Value.cells, List.cons.injEq, Value.slice.injEq, and_true] at hcs
    obtain ⟨rfl, rfl, rfl⟩ := hcs
    simp only [if_true] at hmm
    subst hmm
    have each : ∀ i, ∃ r, i < len → IsBytes W (V i) r := fun i => by
      by_cases hi : i < len
      · obtain ⟨r, hr⟩ := bytes_read (hcell i (by omega)).2
        exact ⟨r, fun _ => hr⟩
      · exact ⟨[], fun h => absurd h hi⟩
    obtain ⟨r, hr⟩ := Classical.axiomOfChoice each
    have hlen : ((List.range len).map r).length = len := by simp
    refine ⟨(List.range len).map r, ⟨some a, m, by rw [hlen], by omega, hm, fun hp => ?_⟩⟩
    obtain ⟨b, off, spot⟩ := a
    have hspot : spot = none := by simpa [Addr.add] using World.cell?_spot (hcell 0 (by omega)).1
    subst hspot
    refine ⟨b, off, rfl, fun i x hi => ?_⟩
    have hil : i < len := by
      rcases Nat.lt_or_ge i len with h1 | h1
      · exact h1
      · rw [List.getElem?_eq_none (by simp; omega)] at hi; cases hi
    rw [List.getElem?_map, List.getElem?_range hil] at hi
    simp only [Option.map_some, Option.some.injEq] at hi
    subst hi
    refine ⟨V i, ?_, hr i hil⟩
    rw [← Go.WideShapes.add_plain]
    exact (hcell i (by omega)).1

end Go.Proofs.Ytflolmldildjhaa
