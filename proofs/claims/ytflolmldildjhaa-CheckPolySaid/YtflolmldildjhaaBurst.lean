/- The plain law of a burst: four bytes that stand together, changed, change the sum. No program in sight. -/
import Derived.Test.YtflolmldildjhaaCrc
namespace Go.Proofs.Ytflolmldildjhaa.Crc

theorem mul_xor (k a b : Nat) : 2 ^ k * (a ^^^ b) = 2 ^ k * a ^^^ 2 ^ k * b := by
  apply Nat.eq_of_testBit_eq
  intro i
  rw [Nat.testBit_two_pow_mul, Nat.testBit_xor, Nat.testBit_xor, Nat.testBit_two_pow_mul, Nat.testBit_two_pow_mul]
  by_cases h : k ≤ i <;> simp [h]

/-- Four bytes as one number. -/
def word (a0 a1 a2 a3 : Nat) : Nat := a0 ^^^ 256 * (a1 ^^^ 256 * (a2 ^^^ 256 * a3))

theorem word_xor (a0 a1 a2 a3 b0 b1 b2 b3 : Nat) : word (a0 ^^^ b0) (a1 ^^^ b1) (a2 ^^^ b2) (a3 ^^^ b3) = word a0 a1 a2 a3 ^^^ word b0 b1 b2 b3 := by
  have m : ∀ a b, 256 * (a ^^^ b) = 256 * a ^^^ 256 * b := fun a b => mul_xor 8 a b
  unfold word
  rw [m a3 b3, xor_swap a2 b2, m (a2 ^^^ 256 * a3), xor_swap a1 b1, m (a1 ^^^ 256 * (a2 ^^^ 256 * a3)), xor_swap a0 b0]

theorem word_of (n : Nat) (hn : n < 4294967296) : word (n % 256) (n / 256 % 256) (n / 65536 % 256) (n / 16777216 % 256) = n := by
  unfold word
  have h3 : n / 16777216 % 256 = n / 16777216 := by omega
  have h2 := low_high (n / 65536)
  have h1 := low_high (n / 256)
  have h0 := low_high n
  rw [show n / 65536 / 256 = n / 16777216 by omega] at h2
  rw [show n / 256 / 256 = n / 65536 by omega] at h1
  rw [h3, h2, h1, h0]

theorem word_lt {a0 a1 a2 a3 : Nat} (h0 : a0 < 256) (h1 : a1 < 256) (h2 : a2 < 256) (h3 : a3 < 256) : word a0 a1 a2 a3 < 4294967296 := by
  unfold word
  have e2 : a2 ^^^ 256 * a3 < 65536 := Nat.xor_lt_two_pow (n := 16) (by omega) (by omega)
  have e1 : a1 ^^^ 256 * (a2 ^^^ 256 * a3) < 16777216 := Nat.xor_lt_two_pow (n := 24) (by omega) (by omega)
  exact Nat.xor_lt_two_pow (n := 32) (by omega) (by omega)

theorem steps_in (p k m a : Nat) : steps p 8 (steps p k m ^^^ a) = steps p (k + 8) (m ^^^ 2 ^ k * a) := by
  rw [steps_add p k 8, steps_xor p k, steps_shift]

/-- The register behind four bytes. -/
theorem upd4 (p n a0 a1 a2 a3 : Nat) (h0 : a0 < 256) (h1 : a1 < 256) (h2 : a2 < 256) (h3 : a3 < 256) : upd p (upd p (upd p (upd p n a0) a1) a2) a3 = steps p 32 (n ^^^ word a0 a1 a2 a3) := by
  rw [upd_eq _ _ _ h3, upd_eq _ _ _ h2, upd_eq _ _ _ h1, upd_eq _ _ _ h0, steps_in p 8 (n ^^^ a0) a1, steps_in p (8 + 8) _ a2, steps_in p (8 + 8 + 8) _ a3]
  have m : ∀ a b, 256 * (a ^^^ b) = 256 * a ^^^ 256 * b := fun a b => mul_xor 8 a b
  have e : n ^^^ word a0 a1 a2 a3 = n ^^^ a0 ^^^ 2 ^ 8 * a1 ^^^ 2 ^ (8 + 8) * a2 ^^^ 2 ^ (8 + 8 + 8) * a3 := by
    unfold word
    rw [m a2, m a1, m (256 * a2)]
    rw [show (2 : Nat) ^ 8 = 256 from rfl, show (2 : Nat) ^ (8 + 8) = 65536 from rfl, show (2 : Nat) ^ (8 + 8 + 8) = 16777216 from rfl,
      show 256 * (256 * a2) = 65536 * a2 by omega, show 256 * (256 * (256 * a3)) = 16777216 * a3 by omega]
    simp only [Nat.xor_assoc]
  rw [e]

/-- FOUR BYTES OTHER: the sums are the same just if the bytes are. -/
theorem sum_four {p : Nat} (hp : p < 4294967296) (h31 : 2147483648 ≤ p) (xs ys : List UInt8) (a0 a1 a2 a3 b0 b1 b2 b3 : UInt8) :
    sum p (xs ++ a0 :: a1 :: a2 :: a3 :: ys) = sum p (xs ++ b0 :: b1 :: b2 :: b3 :: ys) ↔ word a0.toNat a1.toNat a2.toNat a3.toNat = word b0.toNat b1.toNat b2.toNat b3.toNat := by
  have hx := fold_lt hp xs 4294967295 (by omega)
  have wa := word_lt (u8_lt a0) (u8_lt a1) (u8_lt a2) (u8_lt a3)
  have wb := word_lt (u8_lt b0) (u8_lt b1) (u8_lt b2) (u8_lt b3)
  unfold sum
  rw [xor_cancel, fold_append, fold_append]
  simp only [fold]
  rw [upd4 p _ _ _ _ _ (u8_lt a0) (u8_lt a1) (u8_lt a2) (u8_lt a3), upd4 p _ _ _ _ _ (u8_lt b0) (u8_lt b1) (u8_lt b2) (u8_lt b3)]
  constructor
  · intro h
    have h1 := fold_inj hp h31 ys (steps_lt hp 32 _ (Nat.xor_lt_two_pow (n := 32) hx wa)) (steps_lt hp 32 _ (Nat.xor_lt_two_pow (n := 32) hx wb)) h
    have h2 := steps_inj hp h31 32 (Nat.xor_lt_two_pow (n := 32) hx wa) (Nat.xor_lt_two_pow (n := 32) hx wb) h1
    exact xor_cancel.1 h2
  · intro h
    rw [h]

/-- A byte changed in place. -/
def patch (bs : List UInt8) (j : Nat) (d : UInt8) : List UInt8 := bs.set j (bs[j]?.getD 0 ^^^ d)

theorem length_patch (bs : List UInt8) (j : Nat) (d : UInt8) : (patch bs j d).length = bs.length := by simp [patch]

/-- Byte i of a number. -/
def byteAt (n i : Nat) : UInt8 := UInt8.ofNat (n / 2 ^ (8 * i))

/-- The first i bytes of a number added to bytes from place k on. -/
def burst (bs : List UInt8) (k n : Nat) : Nat → List UInt8
  | 0 => bs
  | i + 1 => patch (burst bs k n i) (k + i) (byteAt n i)

theorem length_burst (bs : List UInt8) (k n i : Nat) : (burst bs k n i).length = bs.length := by
  induction i with
  | zero => rfl
  | succ i ih => rw [burst, length_patch, ih]

theorem four_of (bs : List UInt8) (k : Nat) (h : k + 4 ≤ bs.length) : ∃ xs a0 a1 a2 a3 ys, xs.length = k ∧ bs = xs ++ a0 :: a1 :: a2 :: a3 :: ys := by
  refine ⟨bs.take k, bs[k], bs[k + 1], bs[k + 2], bs[k + 3], bs.drop (k + 4), by rw [List.length_take]; omega, ?_⟩
  rw [← List.drop_eq_getElem_cons (by omega), ← List.drop_eq_getElem_cons (by omega), ← List.drop_eq_getElem_cons (by omega), ← List.drop_eq_getElem_cons (by omega), List.take_append_drop]

theorem burst_four (xs ys : List UInt8) (a0 a1 a2 a3 : UInt8) (n : Nat) :
    burst (xs ++ a0 :: a1 :: a2 :: a3 :: ys) xs.length n 4 = xs ++ (a0 ^^^ byteAt n 0) :: (a1 ^^^ byteAt n 1) :: (a2 ^^^ byteAt n 2) :: (a3 ^^^ byteAt n 3) :: ys := by
  simp [burst, patch]

/-- A BURST: the sums are the same just if nothing was added. -/
theorem sum_burst {p : Nat} (hp : p < 4294967296) (h31 : 2147483648 ≤ p) (bs : List UInt8) (k n : Nat) (hk : k + 4 ≤ bs.length) (hn : n < 4294967296) :
    sum p (burst bs k n 4) = sum p bs ↔ n = 0 := by
  obtain ⟨xs, a0, a1, a2, a3, ys, hl, rfl⟩ := four_of bs k hk
  subst hl
  rw [burst_four, sum_four hp h31]
  rw [UInt8.toNat_xor, UInt8.toNat_xor, UInt8.toNat_xor, UInt8.toNat_xor, word_xor]
  have e : word (byteAt n 0).toNat (byteAt n 1).toNat (byteAt n 2).toNat (byteAt n 3).toNat = n := by
    have := word_of n hn
    simp only [byteAt, UInt8.toNat_ofNat']
    simpa using this
  rw [e]
  constructor
  · intro h
    have h2 : word a0.toNat a1.toNat a2.toNat a3.toNat ^^^ n = word a0.toNat a1.toNat a2.toNat a3.toNat ^^^ 0 := by rw [h, Nat.xor_zero]
    exact xor_cancel.1 h2
  · rintro rfl
    rw [Nat.xor_zero]

end Go.Proofs.Ytflolmldildjhaa.Crc
