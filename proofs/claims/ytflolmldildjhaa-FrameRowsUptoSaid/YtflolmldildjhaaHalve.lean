/- Contract of the law's halve: it returns eight steps. -/
import Derived.Test.YtflolmldildjhaaRows
import Derived.Test.YtflolmldildjhaaCrc
import Derived.WalkKit
import Derived.WalkSpells
import Derived.WalkLawsBesides
import Derived.Lib.Hide
namespace Go.Proofs.Ytflolmldildjhaa
open Go.RowKit Crc

theorem xor_u32 (a b : Nat) (ha : a < 4294967296) (hb : b < 4294967296) : bits .xor .u32 (a : Int) (b : Int) = ((a ^^^ b : Nat) : Int) := u32_xor_nat a b ha hb

theorem ret_int {k : IntKind} {a b : Int} (h : a = b) : Ending.returned (.int k a) = .returned (.int k b) := by rw [h]

theorem steps_odd {p k v n : Nat} (hk : k < 8) (h : steps p (8 - k) v = steps p 8 n) (ho : v % 2 = 1) : steps p (8 - (k + 1)) (v / 2 ^^^ p) = steps p 8 n := by
  rw [← h, show 8 - k = (8 - (k + 1)) + 1 by omega, steps]; unfold Crc.step; rw [if_pos ho]
theorem steps_even {p k v n : Nat} (hk : k < 8) (h : steps p (8 - k) v = steps p 8 n) (ho : ¬ v % 2 = 1) : steps p (8 - (k + 1)) (v / 2) = steps p 8 n := by
  rw [← h, show 8 - k = (8 - (k + 1)) + 1 by omega, steps]; unfold Crc.step; rw [if_neg ho]
theorem half_xor (v p : Nat) (hv : v < 4294967296) (hp : p < 4294967296) : bits .xor .u32 ((v : Int) / 2) (p : Int) = ((v / 2 ^^^ p : Nat) : Int) := by
  rw [← xor_u32 _ _ (by omega) hp]
  rfl

set_option maxHeartbeats 400000 in
theorem halve_any (p n : Nat) (hp : p < 4294967296) (hn : n < 4294967296) (w : World) :
    Calls Try.prog 20 #[.int .u32 (n : Int), .int .u32 (p : Int)] w fun e w' => e = .returned (.int .u32 ((steps p 8 n : Nat) : Int)) ∧ w = w' := by
  go_enter Try.func20, Try.ntmps20
  go_wp2
  go_loop [0, 5] (fun m i => ∃ k v : Nat, k ≤ 8 ∧ v < 4294967296 ∧ i = .int .i64 (k : Int) ∧ m = .int .u32 (v : Int) ∧ steps p (8 - k) v = steps p 8 n) (fun _ i => 8 - (intOf i).toNat)
  case atStart => exact ⟨0, n, by omega, hn, rfl, rfl, rfl⟩
  case round =>
    obtain ⟨k, v, hk, hv, rfl, rfl, hs⟩ := hrel
    have HS := Lib.hid hs
    clear hs
    go_wp2
    · have hlt : (k : Int) < 8 := by assumption
      have ho : ((v : Int) % 2 == 1) = true := by assumption
      go_round
      case rel => exact ⟨k + 1, v / 2 ^^^ p, by omega, Nat.xor_lt_two_pow (n := 32) (by omega) hp, by go_num, by rw [half_xor v p hv hp], steps_odd (by omega) HS.out (by simp at ho; omega)⟩
      case measure => simp [intOf]; omega
    · have hlt : (k : Int) < 8 := by assumption
      have ho : ((v : Int) % 2 == 1) = false := by assumption
      go_round
      case rel => exact ⟨k + 1, v / 2, by omega, by omega, by go_num, by go_num, steps_even (by omega) HS.out (by simp at ho; omega)⟩
      case measure => simp [intOf]; omega
    · have hge : 8 ≤ (k : Int) := by assumption
      go_ret
      refine ⟨ret_int ?_, rfl⟩
      have := HS.out
      rw [show 8 - k = 0 by omega] at this
      rw [← this]
      rfl
end Go.Proofs.Ytflolmldildjhaa
