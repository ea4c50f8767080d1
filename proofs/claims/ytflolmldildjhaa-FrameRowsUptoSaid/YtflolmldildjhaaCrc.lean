/- The plain laws of the table sums: a step, eight steps, the fold over bytes; that they are linear, and one to one for a polynomial whose highest bit is set. No program in sight. -/
namespace Go.Proofs.Ytflolmldildjhaa.Crc

/-- One step of a number with a polynomial. -/
def step (p n : Nat) : Nat := if n % 2 = 1 then (n / 2) ^^^ p else n / 2

/-- Many steps. -/
def steps (p : Nat) : Nat → Nat → Nat
  | 0, n => n
  | k + 1, n => steps p k (step p n)

/-- The register behind one byte. -/
def upd (p n c : Nat) : Nat := steps p 8 ((n ^^^ c) % 256) ^^^ (n / 256)

/-- The register behind bytes. -/
def fold (p : Nat) : Nat → List UInt8 → Nat
  | n, [] => n
  | n, c :: cs => fold p (upd p n c.toNat) cs

/-- The sum of bytes. -/
def sum (p : Nat) (bs : List UInt8) : Nat := 4294967295 ^^^ fold p 4294967295 bs

theorem step_lt {p n : Nat} (hp : p < 4294967296) (hn : n < 4294967296) : step p n < 4294967296 := by
  unfold step
  split
  · exact Nat.xor_lt_two_pow (n := 32) (by omega) hp
  · omega

theorem steps_lt {p : Nat} (hp : p < 4294967296) (k : Nat) : ∀ n, n < 4294967296 → steps p k n < 4294967296 := by
  induction k with
  | zero => intro n h; exact h
  | succ k ih => intro n h; exact ih _ (step_lt hp h)

theorem xor_mod_two (a b : Nat) : (a ^^^ b) % 2 = (a % 2 + b % 2) % 2 := by
  have h1 := Nat.testBit_xor a b 0
  simp only [Nat.testBit_zero] at h1
  rcases Nat.mod_two_eq_zero_or_one (a ^^^ b) with hc | hc <;> rcases Nat.mod_two_eq_zero_or_one a with ha | ha <;> rcases Nat.mod_two_eq_zero_or_one b with hb | hb <;> rw [hc, ha, hb] at h1 <;> rw [hc, ha, hb] <;> first | rfl | exact absurd h1 (by decide)

theorem xor_swap (a b c d : Nat) : (a ^^^ b) ^^^ (c ^^^ d) = (a ^^^ c) ^^^ (b ^^^ d) := by
  rw [Nat.xor_assoc, Nat.xor_assoc, ← Nat.xor_assoc b c d, Nat.xor_comm b c, Nat.xor_assoc c b d]

theorem step_xor (p a b : Nat) : step p (a ^^^ b) = step p a ^^^ step p b := by
  unfold step
  rw [xor_mod_two, Nat.xor_div_two]
  rcases Nat.mod_two_eq_zero_or_one a with ha | ha <;> rcases Nat.mod_two_eq_zero_or_one b with hb | hb <;> simp only [ha, hb] <;> simp
  · rw [Nat.xor_assoc]
  · rw [Nat.xor_assoc, Nat.xor_assoc, Nat.xor_comm p]
  · rw [xor_swap, Nat.xor_self, Nat.xor_zero]

theorem steps_xor (p k : Nat) : ∀ a b, steps p k (a ^^^ b) = steps p k a ^^^ steps p k b := by
  induction k with
  | zero => intro a b; rfl
  | succ k ih => intro a b; rw [steps, steps, steps, step_xor, ih]

theorem steps_add (p j k : Nat) : ∀ n, steps p (j + k) n = steps p k (steps p j n) := by
  induction j with
  | zero => intro n; rw [Nat.zero_add]; rfl
  | succ j ih => intro n; rw [Nat.add_right_comm, steps, steps, ih]

/-- Steps of a number with as many zeros at its end take these away. -/
theorem steps_shift (p k : Nat) : ∀ n, steps p k (2 ^ k * n) = n := by
  induction k with
  | zero => intro n; simp [steps]
  | succ k ih =>
    intro n
    have : step p (2 ^ (k + 1) * n) = 2 ^ k * n := by
      unfold step
      rw [show 2 ^ (k + 1) * n = 2 * (2 ^ k * n) by rw [Nat.pow_succ, Nat.mul_comm (2 ^ k) 2, Nat.mul_assoc]]
      rw [if_neg (by omega)]
      omega
    rw [steps, this, ih]

theorem low_high (n : Nat) : (n % 256) ^^^ (256 * (n / 256)) = n := by
  apply Nat.eq_of_testBit_eq
  intro i
  rw [Nat.testBit_xor, show 256 = 2 ^ 8 from rfl, Nat.testBit_mod_two_pow, Nat.testBit_two_pow_mul, Nat.testBit_div_two_pow]
  by_cases h : i < 8
  · have h' : ¬ 8 ≤ i := by omega
    simp [h, h']
  · have h' : 8 ≤ i := by omega
    have e : i - 8 + 8 = i := by omega
    simp [h, h', e]

/-- A byte's turn of the register is eight steps of the register with the byte added. -/
theorem upd_eq (p n c : Nat) (hc : c < 256) : upd p n c = steps p 8 (n ^^^ c) := by
  have h : (n ^^^ c) / 256 = n / 256 := by
    apply Nat.eq_of_testBit_eq
    intro i
    rw [show 256 = 2 ^ 8 from rfl, Nat.testBit_div_two_pow, Nat.testBit_div_two_pow, Nat.testBit_xor, Nat.testBit_lt_two_pow (x := c) (i := i + 8) (Nat.lt_of_lt_of_le hc (by rw [show 256 = 2 ^ 8 from rfl]; exact Nat.pow_le_pow_right (by omega) (by omega)))]
    simp
  unfold upd
  conv => rhs; rw [← low_high (n ^^^ c), steps_xor, h]
  rw [show 256 * (n / 256) = 2 ^ 8 * (n / 256) from rfl, steps_shift]

theorem upd_lt {p n c : Nat} (hp : p < 4294967296) (hn : n < 4294967296) (hc : c < 256) : upd p n c < 4294967296 := by
  rw [upd_eq p n c hc]
  exact steps_lt hp 8 _ (Nat.xor_lt_two_pow (n := 32) hn (by omega))

theorem u8_lt (c : UInt8) : c.toNat < 256 := c.toNat_lt

theorem fold_lt {p : Nat} (hp : p < 4294967296) (bs : List UInt8) : ∀ n, n < 4294967296 → fold p n bs < 4294967296 := by
  induction bs with
  | nil => intro n h; exact h
  | cons c cs ih => intro n h; exact ih _ (upd_lt hp h (u8_lt c))

theorem fold_append (p : Nat) (xs ys : List UInt8) : ∀ n, fold p n (xs ++ ys) = fold p (fold p n xs) ys := by
  induction xs with
  | nil => intro n; rfl
  | cons c cs ih => intro n; exact ih _

theorem sum_lt {p : Nat} (hp : p < 4294967296) (bs : List UInt8) : sum p bs < 4294967296 :=
  Nat.xor_lt_two_pow (n := 32) (by omega) (fold_lt hp bs _ (by omega))

/-- Two rows of one length, from two registers: added. -/
theorem fold_xor (p : Nat) : ∀ (xs ys : List UInt8), xs.length = ys.length → ∀ a b, fold p (a ^^^ b) (List.zipWith (· ^^^ ·) xs ys) = fold p a xs ^^^ fold p b ys := by
  intro xs
  induction xs with
  | nil => intro ys h a b; cases ys with
    | nil => rfl
    | cons y ys => simp at h
  | cons x xs ih => intro ys h a b; cases ys with
    | nil => simp at h
    | cons y ys =>
      simp only [List.zipWith_cons_cons, fold]
      rw [upd_eq _ _ _ (u8_lt _), upd_eq _ _ _ (u8_lt _), upd_eq _ _ _ (u8_lt _), ← ih ys (by simpa using h), ← steps_xor]
      congr 2
      rw [UInt8.toNat_xor, xor_swap]

theorem step_zero (p : Nat) : step p 0 = 0 := by simp [step]
theorem steps_zero (p k : Nat) : steps p k 0 = 0 := by
  induction k with
  | zero => rfl
  | succ k ih => rw [steps, step_zero, ih]

/-- With the highest bit set in the polynomial nothing but zero becomes zero. -/
theorem step_eq_zero {p n : Nat} (h31 : 2147483648 ≤ p) (hn : n < 4294967296) (h : step p n = 0) : n = 0 := by
  unfold step at h
  split at h
  · have : n / 2 = p := by
      have := congrArg (· ^^^ p) h
      simpa [Nat.xor_assoc] using this
    omega
  · omega

theorem steps_eq_zero {p : Nat} (hp : p < 4294967296) (h31 : 2147483648 ≤ p) (k : Nat) : ∀ n, n < 4294967296 → steps p k n = 0 → n = 0 := by
  induction k with
  | zero => intro n _ h; exact h
  | succ k ih => intro n hn h; exact step_eq_zero h31 hn (ih _ (step_lt hp hn) h)

theorem xor_eq_zero {a b : Nat} : a ^^^ b = 0 ↔ a = b := by
  constructor
  · intro h
    have := congrArg (· ^^^ b) h
    simpa [Nat.xor_assoc] using this
  · rintro rfl; exact Nat.xor_self a

theorem steps_inj {p : Nat} (hp : p < 4294967296) (h31 : 2147483648 ≤ p) (k : Nat) {a b : Nat} (ha : a < 4294967296) (hb : b < 4294967296) (h : steps p k a = steps p k b) : a = b := by
  rw [← xor_eq_zero, ← steps_xor] at h
  exact xor_eq_zero.1 (steps_eq_zero hp h31 k _ (Nat.xor_lt_two_pow (n := 32) ha hb) h)

theorem xor_cancel {a b c : Nat} : a ^^^ b = a ^^^ c ↔ b = c := by
  constructor
  · intro h
    have := congrArg (a ^^^ ·) h
    simpa [← Nat.xor_assoc] using this
  · rintro rfl; rfl

theorem xor_cancel_right {a b c : Nat} : b ^^^ a = c ^^^ a ↔ b = c := by
  rw [Nat.xor_comm b, Nat.xor_comm c, xor_cancel]

theorem fold_inj {p : Nat} (hp : p < 4294967296) (h31 : 2147483648 ≤ p) (bs : List UInt8) : ∀ {a b : Nat}, a < 4294967296 → b < 4294967296 → fold p a bs = fold p b bs → a = b := by
  induction bs with
  | nil => intro a b _ _ h; exact h
  | cons c cs ih =>
    intro a b ha hb h
    have h1 := ih (upd_lt hp ha (u8_lt c)) (upd_lt hp hb (u8_lt c)) h
    rw [upd_eq _ _ _ (u8_lt c), upd_eq _ _ _ (u8_lt c)] at h1
    have h2 := steps_inj hp h31 8 (Nat.xor_lt_two_pow (n := 32) ha (by have := u8_lt c; omega)) (Nat.xor_lt_two_pow (n := 32) hb (by have := u8_lt c; omega)) h1
    exact xor_cancel_right.1 h2

/-- ONE BYTE OTHER: the sums are the same just if the bytes are. -/
theorem sum_one {p : Nat} (hp : p < 4294967296) (h31 : 2147483648 ≤ p) (xs ys : List UInt8) (c d : UInt8) : sum p (xs ++ c :: ys) = sum p (xs ++ d :: ys) ↔ c = d := by
  constructor
  · intro h
    have h := xor_cancel.1 h
    rw [fold_append, fold_append] at h
    have hx := fold_lt hp xs 4294967295 (by omega)
    have h1 := fold_inj hp h31 ys (upd_lt hp hx (u8_lt c)) (upd_lt hp hx (u8_lt d)) h
    rw [upd_eq _ _ _ (u8_lt c), upd_eq _ _ _ (u8_lt d)] at h1
    have h2 := steps_inj hp h31 8 (Nat.xor_lt_two_pow (n := 32) hx (by have := u8_lt c; omega)) (Nat.xor_lt_two_pow (n := 32) hx (by have := u8_lt d; omega)) h1
    exact UInt8.toNat_inj.1 (xor_cancel.1 h2)
  · rintro rfl; rfl

end Go.Proofs.Ytflolmldildjhaa.Crc
