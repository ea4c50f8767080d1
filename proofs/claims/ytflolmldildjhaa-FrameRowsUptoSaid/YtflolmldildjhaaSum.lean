/- Contracts of the sums: of a table, of the package, of the law: each returns the sum of the bytes. -/
import Derived.Test.YtflolmldildjhaaOf
namespace Go.Proofs.Ytflolmldildjhaa
open Go.RowKit Crc

/-- A slice of bytes that reads as these bytes. -/
def IsBytes (w : World) (v : Value) (bs : List UInt8) : Prop :=
  ∃ (A : Option Addr) (cap : Nat), v = .slice A bs.length cap ∧ bs.length ≤ cap ∧ cap ≤ maxLen ∧
    (0 < bs.length → ∃ b off, A = some ⟨b, off, none⟩ ∧ ∀ i c, bs[i]? = some c → w.cell? ⟨b, off + i, none⟩ = some (.int .u8 (c.toNat : Int)))

theorem IsBytes.below {w w' : World} {v : Value} {bs : List UInt8} (h : IsBytes w v bs) (hb : Below w.heap.size w w') : IsBytes w' v bs := by
  obtain ⟨A, cap, hv, hl, hc, hr⟩ := h
  refine ⟨A, cap, hv, hl, hc, fun hp => ?_⟩
  obtain ⟨b, off, hA, hcell⟩ := hr hp
  exact ⟨b, off, hA, fun i c hi => cell_later hb (hcell i c hi)⟩

/-- The cells of bytes. -/
def cellsOf (bs : List UInt8) : List Value := bs.map fun c => Value.int .u8 (c.toNat : Int)

theorem cellsOf_get {bs : List UInt8} {i : Nat} {c : UInt8} (h : bs[i]? = some c) : (cellsOf bs)[i]? = some (.int .u8 (c.toNat : Int)) := by
  simp [cellsOf, h]

/-- A slice over a whole new row of bytes. -/
theorem isBytes_new (w : World) (bs : List UInt8) (t : TypeId) (fr : Nat × Nat) (hl : bs.length ≤ maxLen) :
    IsBytes (w.alloc (.cells (cellsOf bs).toArray t fr)) (.slice (some ⟨w.heap.size, 0, none⟩) bs.length bs.length) bs := by
  refine ⟨_, _, rfl, Nat.le_refl _, hl, fun _ => ⟨_, _, rfl, fun i c hi => ?_⟩⟩
  rw [cell_of_row _ _ (0 + i) _ t fr (heap_alloc_last w _), Nat.zero_add]
  simpa using cellsOf_get hi

/-- A block that holds a polynomial's table. -/
def IsTab (w : World) (p g : Nat) : Prop := ∀ j, j < 256 → w.cell? ⟨g, j, none⟩ = some (.int .u32 ((steps p 8 j : Nat) : Int))

theorem init_eq (n c : Nat) (hc : c < 256) : (n ^^^ c) % 256 = n % 256 ^^^ c := by
  rw [show 256 = 2 ^ 8 from rfl, Nat.xor_mod_two_pow, Nat.mod_eq_of_lt (a := c) (by omega)]

theorem split_at (bs pre rest : List UInt8) (c : UInt8) (h : bs = pre ++ c :: rest) : bs[pre.length]? = some c := by
  rw [h]; simp

theorem fold_snoc (p n : Nat) (pre : List UInt8) (c : UInt8) : fold p n (pre ++ [c]) = upd p (fold p n pre) c.toNat := by
  rw [fold_append]; rfl

theorem max_u32 : IntKind.u32.max = ((4294967295 : Nat) : Int) := by decide

set_option maxHeartbeats 400000 in
theorem tsum_some (p : Nat) (hp : p < 4294967296) (g b off cap : Nat) (bs : List UInt8) (hlen : bs.length ≤ 281474976710656) (w : World) (ht : IsTab w p g)
    (hcell : ∀ i c, bs[i]? = some c → w.cell? ⟨b, off + i, none⟩ = some (.int .u8 (c.toNat : Int))) :
    Calls Try.prog 21 #[.pointer (some ⟨g, 0, none⟩), .slice (some ⟨b, off, none⟩) bs.length cap] w fun e w' => e = .returned (.int .u32 ((sum p bs : Nat) : Int)) ∧ w = w' := by
  have HC := Lib.hid hcell
  have HT := Lib.hid ht
  clear hcell ht
  go_enter Try.func21, Try.ntmps21
  go_wp2
  go_loop [5, 10] (fun m i => ∃ pre rest : List UInt8, bs = pre ++ rest ∧ i = .int .i64 (pre.length : Int) ∧ m = .int .u32 ((fold p 4294967295 pre : Nat) : Int)) (fun _ i => bs.length - (intOf i).toNat)
  case atStart => exact ⟨[], bs, rfl, rfl, rfl⟩
  case round =>
    obtain ⟨pre, rest, hbs, rfl, rfl⟩ := hrel
    have hfl := fold_lt hp pre 4294967295 (by omega)
    obtain ⟨n, hn⟩ : ∃ n, n = fold p 4294967295 pre := ⟨_, rfl⟩
    rw [← hn] at hfl ⊢
    have HN := Lib.hid hn
    clear hn
    have hll : pre.length ≤ bs.length := by rw [hbs, List.length_append]; omega
    cases rest with
    | nil =>
      have he : pre = bs := by rw [hbs, List.append_nil]
      have hle : ¬ (pre.length : Int) < (bs.length : Int) := by rw [he]; omega
      clear hbs
      go_wp2
      go_ret
      exact ⟨ret_int (by rw [max_u32, xor_u32 _ n (by omega) hfl, HN.out, he]; rfl), rfl⟩
    | cons c rest =>
      have hlt : pre.length < bs.length := by rw [hbs, List.length_append, List.length_cons]; omega
      have hc1 := HC.out _ _ (split_at bs pre rest c hbs)
      have HB := Lib.hid hbs
      clear hbs
      have hc8 := c.toNat_lt
      have hx : bits .xor .u8 ((n : Int) % 256) (c.toNat : Int) = ((n % 256 ^^^ c.toNat : Nat) : Int) := u8_xor_nat (n % 256) c.toNat (by omega) (by omega)
      have hix : n % 256 ^^^ c.toNat < 256 := Nat.xor_lt_two_pow (n := 8) (by omega) (by omega)
      have hc2 := HT.out _ hix
      go_wp2
      go_round
      case rel => exact ⟨pre ++ [c], rest, by rw [HB.out]; simp, by simp, by rw [fold_snoc, ← HN.out, upd, init_eq n _ (u8_lt c)]; congr 1; exact xor_u32 _ (n / 256) (steps_lt hp 8 _ (by omega)) (by omega)⟩
      case measure => simp [intOf]; omega

set_option maxHeartbeats 400000 in
theorem tsum_none (p g : Nat) (A : Option Addr) (cap : Nat) (w : World) :
    Calls Try.prog 21 #[.pointer (some ⟨g, 0, none⟩), .slice A 0 cap] w fun e w' => e = .returned (.int .u32 ((sum p [] : Nat) : Int)) ∧ w = w' := by
  go_enter Try.func21, Try.ntmps21
  go_wp2
  refine wp_loop_rounds 1 ?_
  rw [rounds_succ]
  go_wp2
  go_ret
  exact ⟨ret_int (show _ = ((4294967295 ^^^ 4294967295 : Nat) : Int) by decide), rfl⟩

/-- THE SUM BY A TABLE. -/
theorem tsum_any (p : Nat) (hp : p < 4294967296) (g : Nat) (v : Value) (bs : List UInt8) (hlen : bs.length ≤ 281474976710656) (w : World) (ht : IsTab w p g) (hv : IsBytes w v bs) :
    Calls Try.prog 21 #[.pointer (some ⟨g, 0, none⟩), v] w fun e w' => e = .returned (.int .u32 ((sum p bs : Nat) : Int)) ∧ w = w' := by
  obtain ⟨A, cap, rfl, _, _, hr⟩ := hv
  cases bs with
  | nil => exact tsum_none p g A cap w
  | cons c cs =>
    obtain ⟨b, off, rfl, hcell⟩ := hr (by simp)
    exact tsum_some p hp g b off cap (c :: cs) hlen w ht hcell

theorem tab_get (p j : Nat) (hj : j < 256) : (tab p)[j]? = some (.int .u32 ((steps p 8 j : Nat) : Int)) := by
  simp [tab, tabTo, hj]
theorem size_tab (p : Nat) : (tab p).size = 256 := size_tabTo p 256

/-- The table laid in a block of its own. -/
theorem isTab_of_row {w : World} {p g : Nat} {t : TypeId} (h : w.heap[g]? = some (.cells (tab p) t (0, 0))) : IsTab w p g := fun j hj => by
  rw [cell_of_row w g j _ t _ h, tab_get p j hj]

set_option maxRecDepth 100000 in
set_option maxHeartbeats 400000 in
/-- THE PACKAGE's SUM. -/
theorem csum_any (v : Value) (bs : List UInt8) (hlen : bs.length ≤ 281474976710656) (w : World) (hv : IsBytes w v bs) :
    Calls Try.prog 23 #[v] w fun e w' => e = .returned (.int .u32 ((sum 3988292384 bs : Nat) : Int)) ∧ Below w.heap.size w w' := by
  have hz := (zero_of_info info25).1
  go_enter Try.func23, Try.ntmps23
  go_wp2_with fail
  refine (of_any 3988292384 (by decide) _).mono ?_
  rintro e w1 ⟨rfl, hb1⟩
  have hg := heap_alloc_last w1 (.cells (tabTo 0 0) 25)
  have hr := setRow_heap (w1.alloc (.cells (tabTo 0 0) 25)) w1.heap.size _ (tab 3988292384) 25 _ hg
  have HR := Lib.hid hr
  clear hr
  go_wp2_with (refine wpList_store_row rfl 25 _ _ rfl w1.heap.size (tab 3988292384) rfl rfl 25 _ hg (by rw [size_tab]; exact size25) (by rw [size_tab, size_tabTo]) (one_tabTo _ _) ?_)
  refine (tsum_any 3988292384 (by decide) w1.heap.size v bs hlen _ (isTab_of_row HR.out) ?_).mono ?_
  · exact hv.below (below_row ((hb1).alloc hb1.size _) hb1.size _)
  rintro e w2 ⟨rfl, rfl⟩
  go_wp2
  go_ret
  exact ⟨rfl, below_row ((hb1).alloc hb1.size _) hb1.size _⟩

set_option maxHeartbeats 400000 in
theorem lsum_some (p : Nat) (hp : p < 4294967296) (b off cap : Nat) (bs : List UInt8) (hlen : bs.length ≤ 281474976710656) (w : World)
    (hcell : ∀ i c, bs[i]? = some c → w.cell? ⟨b, off + i, none⟩ = some (.int .u8 (c.toNat : Int))) :
    Calls Try.prog 22 #[.slice (some ⟨b, off, none⟩) bs.length cap, .int .u32 (p : Int)] w fun e w' => e = .returned (.int .u32 ((sum p bs : Nat) : Int)) ∧ w = w' := by
  have HC := Lib.hid hcell
  clear hcell
  go_enter Try.func22, Try.ntmps22
  go_wp2
  go_loop [5, 10] (fun m i => ∃ pre rest : List UInt8, bs = pre ++ rest ∧ i = .int .i64 (pre.length : Int) ∧ m = .int .u32 ((fold p 4294967295 pre : Nat) : Int)) (fun _ i => bs.length - (intOf i).toNat)
  case atStart => exact ⟨[], bs, rfl, rfl, rfl⟩
  case round =>
    obtain ⟨pre, rest, hbs, rfl, rfl⟩ := hrel
    have hfl := fold_lt hp pre 4294967295 (by omega)
    obtain ⟨n, hn⟩ : ∃ n, n = fold p 4294967295 pre := ⟨_, rfl⟩
    rw [← hn] at hfl ⊢
    have HN := Lib.hid hn
    clear hn
    have hll : pre.length ≤ bs.length := by rw [hbs, List.length_append]; omega
    cases rest with
    | nil =>
      have he : pre = bs := by rw [hbs, List.append_nil]
      have hle : ¬ (pre.length : Int) < (bs.length : Int) := by rw [he]; omega
      clear hbs
      go_wp2
      go_ret
      refine ⟨ret_int ?_, rfl⟩
      rw [show (4294967295 : Int) = ((4294967295 : Nat) : Int) from rfl, xor_u32 n _ hfl (by omega), HN.out, he, Nat.xor_comm]; rfl
    | cons c rest =>
      have hlt : pre.length < bs.length := by rw [hbs, List.length_append, List.length_cons]; omega
      have hc1 := HC.out _ _ (split_at bs pre rest c hbs)
      have HB := Lib.hid hbs
      clear hbs
      have hc8 := c.toNat_lt
      have hx : bits .xor .u32 (n : Int) (c.toNat : Int) = ((n ^^^ c.toNat : Nat) : Int) := xor_u32 n c.toNat hfl (by omega)
      have hxl : n ^^^ c.toNat < 4294967296 := Nat.xor_lt_two_pow (n := 32) hfl (by omega)
      go_wp2_with fail
      refine (halve_any p ((n ^^^ c.toNat) % 256) hp (by omega) _).mono ?_
      rintro e w' ⟨rfl, rfl⟩
      go_wp2
      go_round
      case rel => exact ⟨pre ++ [c], rest, by rw [HB.out]; simp, by simp, by rw [fold_snoc, ← HN.out, upd]; congr 1; exact xor_u32 _ (n / 256) (steps_lt hp 8 _ (by omega)) (by omega)⟩
      case measure => simp [intOf]; omega

set_option maxHeartbeats 400000 in
theorem lsum_none (p : Nat) (A : Option Addr) (cap : Nat) (w : World) :
    Calls Try.prog 22 #[.slice A 0 cap, .int .u32 (p : Int)] w fun e w' => e = .returned (.int .u32 ((sum p [] : Nat) : Int)) ∧ w = w' := by
  go_enter Try.func22, Try.ntmps22
  go_wp2
  refine wp_loop_rounds 1 ?_
  rw [rounds_succ]
  go_wp2
  go_ret
  exact ⟨ret_int (show _ = ((4294967295 ^^^ 4294967295 : Nat) : Int) by decide), rfl⟩

/-- THE LAW's SUM. -/
theorem lsum_any (p : Nat) (hp : p < 4294967296) (v : Value) (bs : List UInt8) (hlen : bs.length ≤ 281474976710656) (w : World) (hv : IsBytes w v bs) :
    Calls Try.prog 22 #[v, .int .u32 (p : Int)] w fun e w' => e = .returned (.int .u32 ((sum p bs : Nat) : Int)) ∧ w = w' := by
  obtain ⟨A, cap, rfl, _, _, hr⟩ := hv
  cases bs with
  | nil => exact lsum_none p A cap w
  | cons c cs =>
    obtain ⟨b, off, rfl, hcell⟩ := hr (by simp)
    exact lsum_some p hp b off cap (c :: cs) hlen w hcell

end Go.Proofs.Ytflolmldildjhaa
