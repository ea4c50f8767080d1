/- Small words on steps of the checksum. -/
import Derived.Test.YtjkkclfndlfjhaaGreatDoorProg
import Derived.Test.YtjkkclfndlfjhaaGreatDoorCrc
import Derived.WalkKit
import Derived.WalkSpells
import Derived.WalkLawsBesides
import Derived.Lib.Hide
import Derived.Deep.WholeRow
set_option linter.all false
namespace Go.Proofs.YtjkkclfndlfjhaaGreatDoor
open Go.RowKit Crc

theorem xor_u32 (a b : Nat) (ha : a < 4294967296) (hb : b < 4294967296) : bits .xor .u32 (a : Int) (b : Int) = ((a ^^^ b : Nat) : Int) := u32_xor_nat a b ha hb

theorem ret_int {k : IntKind} {a b : Int} (h : a = b) : Ending.returned (.int k a) = .returned (.int k b) := by rw [h]

theorem steps_odd {p k v n : Nat} (hk : k < 8) (h : steps p (8 - k) v = steps p 8 n) (ho : v % 2 = 1) : steps p (8 - (k + 1)) (v / 2 ^^^ p) = steps p 8 n := by
  rw [← h, show 8 - k = (8 - (k + 1)) + 1 by omega, steps]; unfold Crc.step; rw [if_pos ho]
theorem steps_even {p k v n : Nat} (hk : k < 8) (h : steps p (8 - k) v = steps p 8 n) (ho : ¬ v % 2 = 1) : steps p (8 - (k + 1)) (v / 2) = steps p 8 n := by
  rw [← h, show 8 - k = (8 - (k + 1)) + 1 by omega, steps]; unfold Crc.step; rw [if_neg ho]
theorem half_xor (v p : Nat) (hv : v < 4294967296) (hp : p < 4294967296) : bits .xor .u32 ((v : Int) / 2) (p : Int) = ((v / 2 ^^^ p : Nat) : Int) := by
  rw [← xor_u32 _ _ (by omega) hp]
  rfl

end Go.Proofs.YtjkkclfndlfjhaaGreatDoor
/- Contract of check.Of: it returns the table of the eight steps of each byte; nothing that was there has turned. -/
namespace Go.Proofs.YtjkkclfndlfjhaaGreatDoor
open Go.RowKit Crc

def tabTo (p k : Nat) : Array Value := ((List.range 256).map fun j => if j < k then Value.int .u32 ((steps p 8 j : Nat) : Int) else Value.int .u32 0).toArray
def tab (p : Nat) : Array Value := tabTo p 256
theorem info25 : (Tryz.prog.info? 228).map (fun i => (i.zero, i.size)) = some (some (.agg (tabTo 0 0)), 256) := by kernel_rfl
theorem tabTo_zero (p : Nat) : tabTo p 0 = tabTo 0 0 := by simp [tabTo]
theorem size_tabTo (p k : Nat) : (tabTo p k).size = 256 := by simp [tabTo]

theorem size25 : (Tryz.prog.info? 228).map (·.size) = some 256 := by kernel_rfl
theorem one_tabTo (p k : Nat) : (tabTo p k).all (·.oneCell') = true := by
  rw [Array.all_eq_true_iff_forall_mem]
  intro x hx
  simp only [tabTo, List.mem_toArray, List.mem_map] at hx
  obtain ⟨j, _, rfl⟩ := hx
  split <;> rfl
theorem set_tabTo (p k : Nat) (hk : k < 256) : (tabTo p k).setIfInBounds k (.int .u32 ((steps p 8 k : Nat) : Int)) = tabTo p (k + 1) := by
  apply Array.ext_getElem?
  intro j
  rw [Array.getElem?_setIfInBounds, size_tabTo]
  unfold tabTo
  simp only [List.getElem?_toArray, List.getElem?_map]
  by_cases h : k = j
  · subst h
    simp [hk]
  · rw [if_neg h]
    by_cases h2 : j < 256
    · rw [List.getElem?_range h2]
      simp only [Option.map_some]
      by_cases h3 : j < k
      · rw [if_pos h3, if_pos (by omega)]
      · rw [if_neg h3, if_neg (by omega)]
    · rw [List.getElem?_eq_none (by simp; omega)]
      rfl

theorem cell_new2 (w : World) (a b : Array Value) (t : TypeId) (j : Nat) : ((w.alloc (.cells a t)).alloc (.cells b t)).cell? ⟨w.heap.size + 1, j, none⟩ = b[j]? := by
  have := heap_alloc_last (w.alloc (.cells a t)) (.cells b t)
  rw [World.size_alloc] at this
  exact cell_of_row _ _ j b t (0, 0) this

theorem below_row {B g : Nat} {a w : World} (h : Below B a w) (hg : B ≤ g) (cs : Array Value) : Below B a (w.setRow g cs) :=
  h.trans ⟨rfl, rfl, rfl, by simp, fun k hk => setRow_other w g k cs (by omega)⟩

set_option maxRecDepth 100000 in
set_option maxHeartbeats 400000 in
theorem of_any (p : Nat) (hp : p < 4294967296) (w : World) :
    Calls Tryz.prog 102 #[.int .u32 (p : Int)] w fun e w' => e = .returned (.agg (tab p)) ∧ Below w.heap.size w w' := by
  have hz := (zero_of_info info25).1
  go_enter Tryz.func102, Tryz.ntmps102
  go_wp2
  clear hz
  go_loopw [7] (fun i wr => ∃ k : Nat, k ≤ 256 ∧ i = .int .i64 (k : Int) ∧ wr = (w.alloc (.cells (tabTo 0 0) 228)).alloc (.cells (tabTo p k) 228)) (fun i _ => 256 - (intOf i).toNat)
  case atStart => exact ⟨0, by omega, rfl, congrArg (fun c => (w.alloc (.cells (tabTo 0 0) 228)).alloc (.cells c 228)) (tabTo_zero p).symm⟩
  case round =>
    obtain ⟨k, hk, rfl, rfl⟩ := hrel
    by_cases hlt : k < 256
    · have hc : ((w.alloc (.cells (tabTo 0 0) 228)).alloc (.cells (tabTo p k) 228)).cell? ⟨w.heap.size + 1, k, none⟩ = some (.int .u32 0) := by
        rw [cell_new2]
        simp [tabTo, hlt]
      go_wp2_with fail
      go_loop [5, 12] (fun m i => ∃ j v : Nat, j ≤ 8 ∧ v < 4294967296 ∧ i = .int .i64 (j : Int) ∧ m = .int .u32 (v : Int) ∧ steps p (8 - j) v = steps p 8 k) (fun _ i => 8 - (intOf i).toNat)
      case atStart => exact ⟨0, k, by omega, by omega, rfl, rfl, rfl⟩
      case round =>
        obtain ⟨j, v, hj, hv, rfl, rfl, hs⟩ := hrel
        have HS := Lib.hid hs
        clear hs
        by_cases hj8 : j < 8
        · have hand : bits .and .u32 (v : Int) 1 = (v : Int) % 2 := by
            have h1 : bits .and .u32 (v : Int) ((1 : Nat) : Int) = ((v &&& 1 : Nat) : Int) := u32_and_nat v 1 hv (by omega)
            rw [Nat.and_one_is_mod] at h1
            exact h1
          go_wp2
          · have ho : ((v : Int) % 2 == 1) = true := by assumption
            go_round
            case rel => exact ⟨j + 1, v / 2 ^^^ p, by omega, Nat.xor_lt_two_pow (n := 32) (by omega) hp, by go_num, by rw [half_xor v p hv hp], steps_odd (by omega) HS.out (by simp at ho; omega)⟩
            case measure => simp [intOf]; omega
          · have ho : ((v : Int) % 2 == 1) = false := by assumption
            go_round
            case rel => exact ⟨j + 1, v / 2, by omega, by omega, by go_num, by go_num, steps_even (by omega) HS.out (by simp at ho; omega)⟩
            case measure => simp [intOf]; omega
        · have hv8 : v = steps p 8 k := by
            have := HS.out
            rw [show 8 - j = 0 by omega] at this
            exact this
          clear HS
          subst hv8
          go_wp2_with fail
          go_roundw
          case rel => exact ⟨k + 1, by omega, by go_num, by rw [set_tabTo p k hlt]⟩
          case measure => simp [intOf]; omega
    · have hg1 := heap_alloc_last (w.alloc (.cells (tabTo 0 0) 228)) (.cells (tabTo p k) 228)
      have hg0 := heap_alloc2_old w (.cells (tabTo 0 0) 228) (.cells (tabTo p k) 228)
      rw [World.size_alloc] at hg1
      go_wp2_with (first | (refine wpList_load_row rfl 228 _ rfl (w.heap.size + 1) rfl 228 _ (0, 0) _ hg1 Tryz.underlying228 rfl (by rw [size_tabTo]; exact size25) ?_) | (refine wpList_store_row rfl 228 _ _ rfl w.heap.size (tabTo p k) rfl rfl 228 _ hg0 (by rw [size_tabTo]; exact size25) (by rw [size_tabTo, size_tabTo]) (one_tabTo p k) ?_))
      obtain rfl : k = 256 := by omega
      refine bodyPost_ret (results_cell_row rfl _ _ w.heap.size 228 (tabTo p 256) (0, 0) _ rfl (setRow_heap _ _ _ _ 228 _ hg0) Tryz.underlying228 rfl (by rw [size_tabTo]; exact size25)) rfl ⟨rfl, ?_⟩
      exact below_row (((Below.refl w.heap.size w).alloc (Nat.le_refl _) _).alloc (by simp) _) (Nat.le_refl _) _
end Go.Proofs.YtjkkclfndlfjhaaGreatDoor
/- Contracts of the sums: of a table, of the package, of the law: each returns the sum of the bytes. -/
namespace Go.Proofs.YtjkkclfndlfjhaaGreatDoor
open Go.RowKit Crc

/-- A slice of bytes that reads as these bytes. -/
def IsBytes (w : World) (v : Value) (bs : List UInt8) : Prop :=
  ∃ (A : Option Addr) (cap : Nat), v = .slice A bs.length cap ∧ bs.length ≤ cap ∧ cap ≤ maxLen ∧
    (0 < bs.length → ∃ b off, A = some ⟨b, off, none⟩ ∧ ∀ i c, bs[i]? = some c → w.cell? ⟨b, off + i, none⟩ = some (.int .u8 (c.toNat : Int)))

theorem IsBytes.below {w w' : World} {v : Value} {bs : List UInt8} (h : IsBytes w v bs) (hb : Below w.heap.size w w') : IsBytes w' v bs := by
  obtain ⟨A, cap, hv, hl, hc, hr⟩ := h
  refine ⟨A, cap, hv, hl, hc, fun hp => ?_⟩
  obtain ⟨b, off, hA, hcell⟩ := hr hp
  exact ⟨b, off, hA, fun i c hi => cell_later hb (hcell i c hi)⟩

/-- The cells of bytes. -/
def cellsOf (bs : List UInt8) : List Value := bs.map fun c => Value.int .u8 (c.toNat : Int)

theorem cellsOf_get {bs : List UInt8} {i : Nat} {c : UInt8} (h : bs[i]? = some c) : (cellsOf bs)[i]? = some (.int .u8 (c.toNat : Int)) := by
  simp [cellsOf, h]

/-- A slice over a whole new row of bytes. -/
theorem isBytes_new (w : World) (bs : List UInt8) (t : TypeId) (fr : Nat × Nat) (hl : bs.length ≤ maxLen) :
    IsBytes (w.alloc (.cells (cellsOf bs).toArray t fr)) (.slice (some ⟨w.heap.size, 0, none⟩) bs.length bs.length) bs := by
  refine ⟨_, _, rfl, Nat.le_refl _, hl, fun _ => ⟨_, _, rfl, fun i c hi => ?_⟩⟩
  rw [cell_of_row _ _ (0 + i) _ t fr (heap_alloc_last w _), Nat.zero_add]
  simpa using cellsOf_get hi

/-- A block that holds a polynomial's table. -/
def IsTab (w : World) (p g : Nat) : Prop := ∀ j, j < 256 → w.cell? ⟨g, j, none⟩ = some (.int .u32 ((steps p 8 j : Nat) : Int))

theorem init_eq (n c : Nat) (hc : c < 256) : (n ^^^ c) % 256 = n % 256 ^^^ c := by
  rw [show 256 = 2 ^ 8 from rfl, Nat.xor_mod_two_pow, Nat.mod_eq_of_lt (a := c) (by omega)]

theorem split_at (bs pre rest : List UInt8) (c : UInt8) (h : bs = pre ++ c :: rest) : bs[pre.length]? = some c := by
  rw [h]; simp

theorem fold_snoc (p n : Nat) (pre : List UInt8) (c : UInt8) : fold p n (pre ++ [c]) = upd p (fold p n pre) c.toNat := by
  rw [fold_append]; rfl

theorem max_u32 : IntKind.u32.max = ((4294967295 : Nat) : Int) := by decide

set_option maxHeartbeats 400000 in
theorem tsum_some (p : Nat) (hp : p < 4294967296) (g b off cap : Nat) (bs : List UInt8) (hlen : bs.length ≤ 281474976710656) (w : World) (ht : IsTab w p g)
    (hcell : ∀ i c, bs[i]? = some c → w.cell? ⟨b, off + i, none⟩ = some (.int .u8 (c.toNat : Int))) :
    Calls Tryz.prog 103 #[.pointer (some ⟨g, 0, none⟩), .slice (some ⟨b, off, none⟩) bs.length cap] w fun e w' => e = .returned (.int .u32 ((sum p bs : Nat) : Int)) ∧ w = w' := by
  have HC := Lib.hid hcell
  have HT := Lib.hid ht
  clear hcell ht
  go_enter Tryz.func103, Tryz.ntmps103
  go_wp2
  go_loop [5, 10] (fun m i => ∃ pre rest : List UInt8, bs = pre ++ rest ∧ i = .int .i64 (pre.length : Int) ∧ m = .int .u32 ((fold p 4294967295 pre : Nat) : Int)) (fun _ i => bs.length - (intOf i).toNat)
  case atStart => exact ⟨[], bs, rfl, rfl, rfl⟩
  case round =>
    obtain ⟨pre, rest, hbs, rfl, rfl⟩ := hrel
    have hfl := fold_lt hp pre 4294967295 (by omega)
    obtain ⟨n, hn⟩ : ∃ n, n = fold p 4294967295 pre := ⟨_, rfl⟩
    rw [← hn] at hfl ⊢
    have HN := Lib.hid hn
    clear hn
    have hll : pre.length ≤ bs.length := by rw [hbs, List.length_append]; omega
    cases rest with
    | nil =>
      have he : pre = bs := by rw [hbs, List.append_nil]
      have hle : ¬ (pre.length : Int) < (bs.length : Int) := by rw [he]; omega
      clear hbs
      go_wp2
      go_ret
      exact ⟨ret_int (by rw [max_u32, xor_u32 _ n (by omega) hfl, HN.out, he]; rfl), rfl⟩
    | cons c rest =>
      have hlt : pre.length < bs.length := by rw [hbs, List.length_append, List.length_cons]; omega
      have hc1 := HC.out _ _ (split_at bs pre rest c hbs)
      have HB := Lib.hid hbs
      clear hbs
      have hc8 := c.toNat_lt
      have hx : bits .xor .u8 ((n : Int) % 256) (c.toNat : Int) = ((n % 256 ^^^ c.toNat : Nat) : Int) := u8_xor_nat (n % 256) c.toNat (by omega) (by omega)
      have hix : n % 256 ^^^ c.toNat < 256 := Nat.xor_lt_two_pow (n := 8) (by omega) (by omega)
      have hc2 := HT.out _ hix
      go_wp2
      go_round
      case rel => exact ⟨pre ++ [c], rest, by rw [HB.out]; simp, by simp, by rw [fold_snoc, ← HN.out, upd, init_eq n _ (u8_lt c)]; congr 1; exact xor_u32 _ (n / 256) (steps_lt hp 8 _ (by omega)) (by omega)⟩
      case measure => simp [intOf]; omega

set_option maxHeartbeats 400000 in
theorem tsum_none (p g : Nat) (A : Option Addr) (cap : Nat) (w : World) :
    Calls Tryz.prog 103 #[.pointer (some ⟨g, 0, none⟩), .slice A 0 cap] w fun e w' => e = .returned (.int .u32 ((sum p [] : Nat) : Int)) ∧ w = w' := by
  go_enter Tryz.func103, Tryz.ntmps103
  go_wp2
  refine wp_loop_rounds 1 ?_
  rw [rounds_succ]
  go_wp2
  go_ret
  exact ⟨ret_int (show _ = ((4294967295 ^^^ 4294967295 : Nat) : Int) by decide), rfl⟩

/-- THE SUM BY A TABLE. -/
theorem tsum_any (p : Nat) (hp : p < 4294967296) (g : Nat) (v : Value) (bs : List UInt8) (hlen : bs.length ≤ 281474976710656) (w : World) (ht : IsTab w p g) (hv : IsBytes w v bs) :
    Calls Tryz.prog 103 #[.pointer (some ⟨g, 0, none⟩), v] w fun e w' => e = .returned (.int .u32 ((sum p bs : Nat) : Int)) ∧ w = w' := by
  obtain ⟨A, cap, rfl, _, _, hr⟩ := hv
  cases bs with
  | nil => exact tsum_none p g A cap w
  | cons c cs =>
    obtain ⟨b, off, rfl, hcell⟩ := hr (by simp)
    exact tsum_some p hp g b off cap (c :: cs) hlen w ht hcell

theorem tab_get (p j : Nat) (hj : j < 256) : (tab p)[j]? = some (.int .u32 ((steps p 8 j : Nat) : Int)) := by
  simp [tab, tabTo, hj]
theorem size_tab (p : Nat) : (tab p).size = 256 := size_tabTo p 256

/-- The table laid in a block of its own. -/
theorem isTab_of_row {w : World} {p g : Nat} {t : TypeId} (h : w.heap[g]? = some (.cells (tab p) t (0, 0))) : IsTab w p g := fun j hj => by
  rw [cell_of_row w g j _ t _ h, tab_get p j hj]

set_option maxRecDepth 100000 in
set_option maxHeartbeats 400000 in
/-- THE PACKAGE's SUM. -/
theorem csum_any (v : Value) (bs : List UInt8) (hlen : bs.length ≤ 281474976710656) (w : World) (hv : IsBytes w v bs) :
    Calls Tryz.prog 49 #[v] w fun e w' => e = .returned (.int .u32 ((sum 3988292384 bs : Nat) : Int)) ∧ Below w.heap.size w w' := by
  have hz := (zero_of_info info25).1
  go_enter Tryz.func49, Tryz.ntmps49
  go_wp2_with fail
  refine (of_any 3988292384 (by decide) _).mono ?_
  rintro e w1 ⟨rfl, hb1⟩
  have hg := heap_alloc_last w1 (.cells (tabTo 0 0) 228)
  have hr := setRow_heap (w1.alloc (.cells (tabTo 0 0) 228)) w1.heap.size _ (tab 3988292384) 228 _ hg
  have HR := Lib.hid hr
  clear hr
  go_wp2_with (refine wpList_store_row rfl 228 _ _ rfl w1.heap.size (tab 3988292384) rfl rfl 228 _ hg (by rw [size_tab]; exact size25) (by rw [size_tab, size_tabTo]) (one_tabTo _ _) ?_)
  refine (tsum_any 3988292384 (by decide) w1.heap.size v bs hlen _ (isTab_of_row HR.out) ?_).mono ?_
  · exact hv.below (below_row ((hb1).alloc hb1.size _) hb1.size _)
  rintro e w2 ⟨rfl, rfl⟩
  go_wp2
  go_ret
  exact ⟨rfl, below_row ((hb1).alloc hb1.size _) hb1.size _⟩


end Go.Proofs.YtjkkclfndlfjhaaGreatDoor
