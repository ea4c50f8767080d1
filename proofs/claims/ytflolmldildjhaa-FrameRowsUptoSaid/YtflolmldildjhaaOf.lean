/- Contract of check.Of: it returns the table of the eight steps of each byte; nothing that was there has turned. -/
import Derived.Test.YtflolmldildjhaaHalve
import Derived.Deep.WholeRow
namespace Go.Proofs.Ytflolmldildjhaa
open Go.RowKit Crc

def tabTo (p k : Nat) : Array Value := ((List.range 256).map fun j => if j < k then Value.int .u32 ((steps p 8 j : Nat) : Int) else Value.int .u32 0).toArray
def tab (p : Nat) : Array Value := tabTo p 256
theorem info25 : (Try.prog.info? 25).map (fun i => (i.zero, i.size)) = some (some (.agg (tabTo 0 0)), 256) := by kernel_rfl
theorem tabTo_zero (p : Nat) : tabTo p 0 = tabTo 0 0 := by simp [tabTo]
theorem size_tabTo (p k : Nat) : (tabTo p k).size = 256 := by simp [tabTo]

theorem size25 : (Try.prog.info? 25).map (·.size) = some 256 := by kernel_rfl
theorem one_tabTo (p k : Nat) : (tabTo p k).all (·.oneCell') = true := by
  rw [Array.all_eq_true_iff_forall_mem]
  intro x hx
  simp only [tabTo, List.mem_toArray, List.mem_map] at hx
  obtain ⟨j, _, rfl⟩ := hx
  split <;> rfl
theorem set_tabTo (p k : Nat) (hk : k < 256) : (tabTo p k).setIfInBounds k (.int .u32 ((steps p 8 k : Nat) : Int)) = tabTo p (k + 1) := by
  apply Array.ext_getElem?
  intro j
  rw [Array.getElem?_setIfInBounds, size_tabTo]
  unfold tabTo
  simp only [List.getElem?_toArray, List.getElem?_map]
  by_cases h : k = j
  · subst h
    simp [hk]
  · rw [if_neg h]
    by_cases h2 : j < 256
    · rw [List.getElem?_range h2]
      simp only [Option.map_some]
      by_cases h3 : j < k
      · rw [if_pos h3, if_pos (by omega)]
      · rw [if_neg h3, if_neg (by omega)]
    · rw [List.getElem?_eq_none (by simp; omega)]
      rfl

theorem cell_new2 (w : World) (a b : Array Value) (t : TypeId) (j : Nat) : ((w.alloc (.cells a t)).alloc (.cells b t)).cell? ⟨w.heap.size + 1, j, none⟩ = b[j]? := by
  have := heap_alloc_last (w.alloc (.cells a t)) (.cells b t)
  rw [World.size_alloc] at this
  exact cell_of_row _ _ j b t (0, 0) this

theorem below_row {B g : Nat} {a w : World} (h : Below B a w) (hg : B ≤ g) (cs : Array Value) : Below B a (w.setRow g cs) :=
  h.trans ⟨rfl, rfl, rfl, by simp, fun k hk => setRow_other w g k cs (by omega)⟩

set_option maxRecDepth 100000 in
set_option maxHeartbeats 400000 in
theorem of_any (p : Nat) (hp : p < 4294967296) (w : World) :
    Calls Try.prog 19 #[.int .u32 (p : Int)] w fun e w' => e = .returned (.agg (tab p)) ∧ Below w.heap.size w w' := by
  have hz := (zero_of_info info25).1
  go_enter Try.func19, Try.ntmps19
  go_wp2
  clear hz
  go_loopw [7] (fun i wr => ∃ k : Nat, k ≤ 256 ∧ i = .int .i64 (k : Int) ∧ wr = (w.alloc (.cells (tabTo 0 0) 25)).alloc (.cells (tabTo p k) 25)) (fun i _ => 256 - (intOf i).toNat)
  case atStart => exact ⟨0, by omega, rfl, congrArg (fun c => (w.alloc (.cells (tabTo 0 0) 25)).alloc (.cells c 25)) (tabTo_zero p).symm⟩
  case round =>
    obtain ⟨k, hk, rfl, rfl⟩ := hrel
    by_cases hlt : k < 256
    · have hc : ((w.alloc (.cells (tabTo 0 0) 25)).alloc (.cells (tabTo p k) 25)).cell? ⟨w.heap.size + 1, k, none⟩ = some (.int .u32 0) := by
        rw [cell_new2]
        simp [tabTo, hlt]
      go_wp2_with fail
      go_loop [5, 12] (fun m i => ∃ j v : Nat, j ≤ 8 ∧ v < 4294967296 ∧ i = .int .i64 (j : Int) ∧ m = .int .u32 (v : Int) ∧ steps p (8 - j) v = steps p 8 k) (fun _ i => 8 - (intOf i).toNat)
      case atStart => exact ⟨0, k, by omega, by omega, rfl, rfl, rfl⟩
      case round =>
        obtain ⟨j, v, hj, hv, rfl, rfl, hs⟩ := hrel
        have HS := Lib.hid hs
        clear hs
        by_cases hj8 : j < 8
        · have hand : bits .and .u32 (v : Int) 1 = (v : Int) % 2 := by
            have h1 : bits .and .u32 (v : Int) ((1 : Nat) : Int) = ((v &&& 1 : Nat) : Int) := u32_and_nat v 1 hv (by omega)
            rw [Nat.and_one_is_mod] at h1
            exact h1
          go_wp2
          · have ho : ((v : Int) % 2 == 1) = true := by assumption
            go_round
            case rel => exact ⟨j + 1, v / 2 ^^^ p, by omega, Nat.xor_lt_two_pow (n := 32) (by omega) hp, by go_num, by rw [half_xor v p hv hp], steps_odd (by omega) HS.out (by simp at ho; omega)⟩
            case measure => simp [intOf]; omega
          · have ho : ((v : Int) % 2 == 1) = false := by assumption
            go_round
            case rel => exact ⟨j + 1, v / 2, by omega, by omega, by go_num, by go_num, steps_even (by omega) HS.out (by simp at ho; omega)⟩
            case measure => simp [intOf]; omega
        · have hv8 : v = steps p 8 k := by
            have := HS.out
            rw [show 8 - j = 0 by omega] at this
            exact this
          clear HS
          subst hv8
          go_wp2_with fail
          go_roundw
          case rel => exact ⟨k + 1, by omega, by go_num, by rw [set_tabTo p k hlt]⟩
          case measure => simp [intOf]; omega
    · have hg1 := heap_alloc_last (w.alloc (.cells (tabTo 0 0) 25)) (.cells (tabTo p k) 25)
      have hg0 := heap_alloc2_old w (.cells (tabTo 0 0) 25) (.cells (tabTo p k) 25)
      rw [World.size_alloc] at hg1
      go_wp2_with (first | (refine wpList_load_row rfl 25 _ rfl (w.heap.size + 1) rfl 25 _ (0, 0) _ hg1 Try.underlying25 rfl (by rw [size_tabTo]; exact size25) ?_) | (refine wpList_store_row rfl 25 _ _ rfl w.heap.size (tabTo p k) rfl rfl 25 _ hg0 (by rw [size_tabTo]; exact size25) (by rw [size_tabTo, size_tabTo]) (one_tabTo p k) ?_))
      obtain rfl : k = 256 := by omega
      refine bodyPost_ret (results_cell_row rfl _ _ w.heap.size 25 (tabTo p 256) (0, 0) _ rfl (setRow_heap _ _ _ _ 25 _ hg0) Try.underlying25 rfl (by rw [size_tabTo]; exact size25)) rfl ⟨rfl, ?_⟩
      exact below_row (((Below.refl w.heap.size w).alloc (Nat.le_refl _) _).alloc (by simp) _) (Nat.le_refl _) _
end Go.Proofs.Ytflolmldildjhaa
