/- The plain laws of the table sums: a step, eight steps, the fold over bytes; that they are linear, and one to one for a polynomial whose highest bit is set. No program in sight. -/
set_option linter.all false
namespace Go.Proofs.YtjkkclfndlfjhaaGreatDoor.Crc

/-- One step of a number with a polynomial. -/
def step (p n : Nat) : Nat := if n % 2 = 1 then (n / 2) ^^^ p else n / 2

/-- Many steps. -/
def steps (p : Nat) : Nat → Nat → Nat
  | 0, n => n
  | k + 1, n => steps p k (step p n)

/-- The register behind one byte. -/
def upd (p n c : Nat) : Nat := steps p 8 ((n ^^^ c) % 256) ^^^ (n / 256)

/-- The register behind bytes. -/
def fold (p : Nat) : Nat → List UInt8 → Nat
  | n, [] => n
  | n, c :: cs => fold p (upd p n c.toNat) cs

/-- The sum of bytes. -/
def sum (p : Nat) (bs : List UInt8) : Nat := 4294967295 ^^^ fold p 4294967295 bs

theorem step_lt {p n : Nat} (hp : p < 4294967296) (hn : n < 4294967296) : step p n < 4294967296 := by
  unfold step
  split
  · exact Nat.xor_lt_two_pow (n := 32) (by omega) hp
  · omega

theorem steps_lt {p : Nat} (hp : p < 4294967296) (k : Nat) : ∀ n, n < 4294967296 → steps p k n < 4294967296 := by
  induction k with
  | zero => intro n h; exact h
  | succ k ih => intro n h; exact ih _ (step_lt hp h)

theorem xor_mod_two (a b : Nat) : (a ^^^ b) % 2 = (a % 2 + b % 2) % 2 := by
  have h1 := Nat.testBit_xor a b 0
  simp only [Nat.testBit_zero] at h1
  rcases Nat.mod_two_eq_zero_or_one (a ^^^ b) with hc | hc <;> rcases Nat.mod_two_eq_zero_or_one a with ha | ha <;> rcases Nat.mod_two_eq_zero_or_one b with hb | hb <;> rw [hc, ha, hb] at h1 <;> rw [hc, ha, hb] <;> first | rfl | exact absurd h1 (by decide)

theorem xor_swap (a b c d : Nat) : (a ^^^ b) ^^^ (c ^^^ d) = (a ^^^ c) ^^^ (b ^^^ d) := by
  rw [Nat.xor_assoc, Nat.xor_assoc, ← Nat.xor_assoc b c d, Nat.xor_comm b c, Nat.xor_assoc c b d]

theorem step_xor (p a b : Nat) : step p (a ^^^ b) = step p a ^^^ step p b := by
  unfold step
  rw [xor_mod_two, Nat.xor_div_two]
  rcases Nat.mod_two_eq_zero_or_one a with ha | ha <;> rcases Nat.mod_two_eq_zero_or_one b with hb | hb <;> simp only [ha, hb] <;> simp
  · rw [Nat.xor_assoc]
  · rw [Nat.xor_assoc, Nat.xor_assoc, Nat.xor_comm p]
  · rw [xor_swap, Nat.xor_self, Nat.xor_zero]

theorem steps_xor (p k : Nat) : ∀ a b, steps p k (a ^^^ b) = steps p k a ^^^ steps p k b := by
  induction k with
  | zero => intro a b; rfl
  | succ k ih => intro a b; rw [steps, steps, steps, step_xor, ih]

theorem steps_add (p j k : Nat) : ∀ n, steps p (j + k) n = steps p k (steps p j n) := by
  induction j with
  | zero => intro n; rw [Nat.zero_add]; rfl
  | succ j ih => intro n; rw [Nat.add_right_comm, steps, steps, ih]

/-- Steps of a number with as many zeros at its end take these away. -/
theorem steps_shift (p k : Nat) : ∀ n, steps p k (2 ^ k * n) = n := by
  induction k with
  | zero => intro n; simp [steps]
  | succ k ih =>
    intro n
    have : step p (2 ^ (k + 1) * n) = 2 ^ k * n := by
      unfold step
      rw [show 2 ^ (k + 1) * n = 2 * (2 ^ k * n) by rw [Nat.pow_succ, Nat.mul_comm (2 ^ k) 2, Nat.mul_assoc]]
      rw [if_neg (by omega)]
      omega
    rw [steps, this, ih]

theorem low_high (n : Nat) : (n % 256) ^^^ (256 * (n / 256)) = n := by
  apply Nat.eq_of_testBit_eq
  intro i
  rw [Nat.testBit_xor, show 256 = 2 ^ 8 from rfl, Nat.testBit_mod_two_pow, Nat.testBit_two_pow_mul, Nat.testBit_div_two_pow]
  by_cases h : i < 8
  · have h' : ¬ 8 ≤ i := by omega
    simp [h, h']
  · have h' : 8 ≤ i := by omega
    have e : i - 8 + 8 = i := by omega
    simp [h, h', e]

/-- A byte's turn of the register is eight steps of the register with the byte added. -/
theorem upd_eq (p n c : Nat) (hc : c < 256) : upd p n c = steps p 8 (n ^^^ c) := by
  have h : (n ^^^ c) / 256 = n / 256 := by
    apply Nat.eq_of_testBit_eq
    intro i
    rw [show 256 = 2 ^ 8 from rfl, Nat.testBit_div_two_pow, Nat.testBit_div_two_pow, Nat.testBit_xor, Nat.testBit_lt_two_pow (x := c) (i := i + 8) (Nat.lt_of_lt_of_le hc (by rw [show 256 = 2 ^ 8 from rfl]; exact Nat.pow_le_pow_right (by omega) (by omega)))]
    simp
  unfold upd
  conv => rhs; rw [← low_high (n ^^^ c), steps_xor, h]
  rw [show 256 * (n / 256) = 2 ^ 8 * (n / 256) from rfl, steps_shift]

theorem upd_lt {p n c : Nat} (hp : p < 4294967296) (hn : n < 4294967296) (hc : c < 256) : upd p n c < 4294967296 := by
  rw [upd_eq p n c hc]
  exact steps_lt hp 8 _ (Nat.xor_lt_two_pow (n := 32) hn (by omega))

theorem u8_lt (c : UInt8) : c.toNat < 256 := c.toNat_lt

theorem fold_lt {p : Nat} (hp : p < 4294967296) (bs : List UInt8) : ∀ n, n < 4294967296 → fold p n bs < 4294967296 := by
  induction bs with
  | nil => intro n h; exact h
  | cons c cs ih => intro n h; exact ih _ (upd_lt hp h (u8_lt c))

theorem fold_append (p : Nat) (xs ys : List UInt8) : ∀ n, fold p n (xs ++ ys) = fold p (fold p n xs) ys := by
  induction xs with
  | nil => intro n; rfl
  | cons c cs ih => intro n; exact ih _

theorem sum_lt {p : Nat} (hp : p < 4294967296) (bs : List UInt8) : sum p bs < 4294967296 :=
  Nat.xor_lt_two_pow (n := 32) (by omega) (fold_lt hp bs _ (by omega))

/-- Two rows of one length, from two registers: added. -/
theorem fold_xor (p : Nat) : ∀ (xs ys : List UInt8), xs.length = ys.length → ∀ a b, fold p (a ^^^ b) (List.zipWith (· ^^^ ·) xs ys) = fold p a xs ^^^ fold p b ys := by
  intro xs
  induction xs with
  | nil => intro ys h a b; cases ys with
    | nil => rfl
    | cons y ys => simp at h
  | cons x xs ih => intro ys h a b; cases ys with
    | nil => simp at h
    | cons y ys =>
      simp only [List.zipWith_cons_cons, fold]
      rw [upd_eq _ _ _ (u8_lt _), upd_eq _ _ _ (u8_lt _), upd_eq _ _ _ (u8_lt _), ← ih ys (by simpa using h), ← steps_xor]
      congr 2
      rw [UInt8.toNat_xor, xor_swap]

theorem step_zero (p : Nat) : step p 0 = 0 := by simp [step]
theorem steps_zero (p k : Nat) : steps p k 0 = 0 := by
  induction k with
  | zero => rfl
  | succ k ih => rw [steps, step_zero, ih]

/-- With the highest bit set in the polynomial nothing but zero becomes zero. -/
theorem step_eq_zero {p n : Nat} (h31 : 2147483648 ≤ p) (hn : n < 4294967296) (h : step p n = 0) : n = 0 := by
  unfold step at h
  split at h
  · have : n / 2 = p := by
      have := congrArg (· ^^^ p) h
      simpa [Nat.xor_assoc] using this
    omega
  · omega

theorem steps_eq_zero {p : Nat} (hp : p < 4294967296) (h31 : 2147483648 ≤ p) (k : Nat) : ∀ n, n < 4294967296 → steps p k n = 0 → n = 0 := by
  induction k with
  | zero => intro n _ h; exact h
  | succ k ih => intro n hn h; exact step_eq_zero h31 hn (ih _ (step_lt hp hn) h)

theorem xor_eq_zero {a b : Nat} : a ^^^ b = 0 ↔ a = b := by
  constructor
  · intro h
    have := congrArg (· ^^^ b) h
    simpa [Nat.xor_assoc] using this
  · rintro rfl; exact Nat.xor_self a

theorem steps_inj {p : Nat} (hp : p < 4294967296) (h31 : 2147483648 ≤ p) (k : Nat) {a b : Nat} (ha : a < 4294967296) (hb : b < 4294967296) (h : steps p k a = steps p k b) : a = b := by
  rw [← xor_eq_zero, ← steps_xor] at h
  exact xor_eq_zero.1 (steps_eq_zero hp h31 k _ (Nat.xor_lt_two_pow (n := 32) ha hb) h)

theorem xor_cancel {a b c : Nat} : a ^^^ b = a ^^^ c ↔ b = c := by
  constructor
  · intro h
    have := congrArg (a ^^^ ·) h
    simpa [← Nat.xor_assoc] using this
  · rintro rfl; rfl

theorem xor_cancel_right {a b c : Nat} : b ^^^ a = c ^^^ a ↔ b = c := by
  rw [Nat.xor_comm b, Nat.xor_comm c, xor_cancel]

theorem fold_inj {p : Nat} (hp : p < 4294967296) (h31 : 2147483648 ≤ p) (bs : List UInt8) : ∀ {a b : Nat}, a < 4294967296 → b < 4294967296 → fold p a bs = fold p b bs → a = b := by
  induction bs with
  | nil => intro a b _ _ h; exact h
  | cons c cs ih =>
    intro a b ha hb h
    have h1 := ih (upd_lt hp ha (u8_lt c)) (upd_lt hp hb (u8_lt c)) h
    rw [upd_eq _ _ _ (u8_lt c), upd_eq _ _ _ (u8_lt c)] at h1
    have h2 := steps_inj hp h31 8 (Nat.xor_lt_two_pow (n := 32) ha (by have := u8_lt c; omega)) (Nat.xor_lt_two_pow (n := 32) hb (by have := u8_lt c; omega)) h1
    exact xor_cancel_right.1 h2

/-- ONE BYTE OTHER: the sums are the same just if the bytes are. -/
theorem sum_one {p : Nat} (hp : p < 4294967296) (h31 : 2147483648 ≤ p) (xs ys : List UInt8) (c d : UInt8) : sum p (xs ++ c :: ys) = sum p (xs ++ d :: ys) ↔ c = d := by
  constructor
  · intro h
    have h := xor_cancel.1 h
    rw [fold_append, fold_append] at h
    have hx := fold_lt hp xs 4294967295 (by omega)
    have h1 := fold_inj hp h31 ys (upd_lt hp hx (u8_lt c)) (upd_lt hp hx (u8_lt d)) h
    rw [upd_eq _ _ _ (u8_lt c), upd_eq _ _ _ (u8_lt d)] at h1
    have h2 := steps_inj hp h31 8 (Nat.xor_lt_two_pow (n := 32) hx (by have := u8_lt c; omega)) (Nat.xor_lt_two_pow (n := 32) hx (by have := u8_lt d; omega)) h1
    exact UInt8.toNat_inj.1 (xor_cancel.1 h2)
  · rintro rfl; rfl

end Go.Proofs.YtjkkclfndlfjhaaGreatDoor.Crc
/- The plain laws of frames: what a frame is, what bytes begin with, the frames that follow one another. No program in sight. -/
namespace Go.Proofs.YtjkkclfndlfjhaaGreatDoor.Frm
open Crc

def poly : Nat := 3988292384
/-- The sum by which frames are summed. -/
def crc (bs : List UInt8) : Nat := sum poly bs

theorem poly_lt : poly < 4294967296 := by decide
theorem poly_high : 2147483648 ≤ poly := by decide
theorem crc_lt (bs : List UInt8) : crc bs < 4294967296 := sum_lt poly_lt bs

/-- A number in four bytes. -/
def be4 (n : Nat) : List UInt8 := [UInt8.ofNat (n / 16777216), UInt8.ofNat (n / 65536), UInt8.ofNat (n / 256), UInt8.ofNat n]

/-- The frame of bytes. -/
def frame (bs : List UInt8) : List UInt8 := be4 bs.length ++ (be4 (crc bs) ++ (bs ++ [229]))

/-- The number in the first four bytes. -/
def num (b : List UInt8) : Nat := (b[0]?.getD 0).toNat * 16777216 + (b[1]?.getD 0).toNat * 65536 + (b[2]?.getD 0).toNat * 256 + (b[3]?.getD 0).toNat

/-- What bytes begin with, how long it is, what is wrong. -/
def one (b : List UInt8) : List UInt8 × Nat × Nat :=
  if b.length < 8 then ([], 0, 3)
  else if 16384 < num b then ([], 0, 1)
  else if b.length < num b + 9 then ([], 0, 3)
  else if b[num b + 8]?.getD 0 ≠ 229 then ([], 0, 1)
  else if crc ((b.drop 8).take (num b)) ≠ num (b.drop 4) then ([], 0, 2)
  else ((b.drop 8).take (num b), num b + 9, 0)

theorem length_be4 (n : Nat) : (be4 n).length = 4 := rfl
theorem length_frame (bs : List UInt8) : (frame bs).length = bs.length + 9 := by simp [frame, length_be4]; omega

theorem num_be4 (n : Nat) (hn : n < 4294967296) (r : List UInt8) : num (be4 n ++ r) = n := by
  simp only [num, be4, List.cons_append, List.nil_append, List.getElem?_cons_zero, List.getElem?_cons_succ, Option.getD_some, UInt8.toNat_ofNat']
  omega

theorem be4_num (b0 b1 b2 b3 : UInt8) (r : List UInt8) : be4 (num (b0 :: b1 :: b2 :: b3 :: r)) = [b0, b1, b2, b3] := by
  have h0 := b0.toNat_lt
  have h1 := b1.toNat_lt
  have h2 := b2.toNat_lt
  have h3 := b3.toNat_lt
  simp only [num, be4, List.getElem?_cons_zero, List.getElem?_cons_succ, Option.getD_some, List.cons.injEq, and_true]
  refine ⟨?_, ?_, ?_, ?_⟩ <;> apply UInt8.toNat_inj.1 <;> rw [UInt8.toNat_ofNat'] <;> omega

theorem be4_inj {m n : Nat} (hm : m < 4294967296) (hn : n < 4294967296) (h : be4 m = be4 n) : m = n := by
  have h1 := num_be4 m hm []
  have h2 := num_be4 n hn []
  rw [h] at h1
  omega

theorem num_lt (b : List UInt8) : num b < 4294967296 := by
  have h0 := (b[0]?.getD 0).toNat_lt
  have h1 := (b[1]?.getD 0).toNat_lt
  have h2 := (b[2]?.getD 0).toNat_lt
  have h3 := (b[3]?.getD 0).toNat_lt
  unfold num
  omega

/-- The first four bytes are their number's. -/
theorem take4 (b : List UInt8) (h : 4 ≤ b.length) : b = be4 (num b) ++ b.drop 4 := by
  match b, h with
  | b0 :: b1 :: b2 :: b3 :: r, _ => rw [be4_num]; rfl

/-- FRAMES ARE THE SAME JUST IF WHAT THEY HOLD IS. -/
theorem frame_inj {x y : List UInt8} (h : frame x = frame y) : x = y := by
  have hl : x.length = y.length := by
    have := congrArg List.length h
    rw [length_frame, length_frame] at this
    omega
  unfold frame at h
  have h1 := (List.append_inj h (by rfl)).2
  have h2 := (List.append_inj h1 (by rfl)).2
  exact (List.append_inj h2 hl).1

/-- What a frame begins with is what it holds. -/
theorem one_frame (x r : List UInt8) (hx : x.length ≤ 16384) : one (frame x ++ r) = (x, x.length + 9, 0) := by
  have hn : num (frame x ++ r) = x.length := by
    unfold frame
    rw [List.append_assoc, num_be4 _ (by omega)]
  have hl : (frame x ++ r).length = x.length + 9 + r.length := by rw [List.length_append, length_frame]
  have h8 : (frame x ++ r).drop 8 = x ++ ([229] ++ r) := by
    unfold frame
    rw [show (8 : Nat) = (be4 x.length ++ be4 (crc x)).length from rfl, ← List.append_assoc (be4 x.length), List.append_assoc _ _ r, List.drop_left, List.append_assoc]
  have h4 : (frame x ++ r).drop 4 = be4 (crc x) ++ (x ++ [229] ++ r) := by
    unfold frame
    rw [show (4 : Nat) = (be4 x.length).length from rfl, List.append_assoc, List.drop_left, List.append_assoc]
  have he : (frame x ++ r)[x.length + 8]? = some 229 := by
    have : (frame x ++ r)[x.length + 8]? = ((frame x ++ r).drop 8)[x.length]? := by rw [List.getElem?_drop, Nat.add_comm 8]
    rw [this, h8]
    simp
  unfold one
  rw [hn, hl, if_neg (by omega), if_neg (by omega), if_neg (by omega), he, if_neg (by simp), h4, num_be4 _ (crc_lt x), h8, List.take_left, if_neg (by simp)]

/-- What is decoded is a frame. -/
theorem one_ok {b : List UInt8} (h : (one b).2.2 = 0) : (one b).1.length ≤ 16384 ∧ (one b).2.1 = (one b).1.length + 9 ∧ b = frame (one b).1 ++ b.drop (one b).2.1 := by
  unfold one at h ⊢
  by_cases h1 : b.length < 8
  · rw [if_pos h1] at h; cases h
  rw [if_neg h1] at h ⊢
  by_cases h2 : 16384 < num b
  · rw [if_pos h2] at h; cases h
  rw [if_neg h2] at h ⊢
  by_cases h3 : b.length < num b + 9
  · rw [if_pos h3] at h; cases h
  rw [if_neg h3] at h ⊢
  by_cases h4 : b[num b + 8]?.getD 0 ≠ 229
  · rw [if_pos h4] at h; cases h
  rw [if_neg h4] at h ⊢
  by_cases h5 : crc ((b.drop 8).take (num b)) ≠ num (b.drop 4)
  · rw [if_pos h5] at h; cases h
  rw [if_neg h5]
  have hl : ((b.drop 8).take (num b)).length = num b := by rw [List.length_take, List.length_drop]; omega
  refine ⟨by rw [hl]; omega, by rw [hl], ?_⟩
  have h4' : b[num b + 8]? = some 229 := by
    rw [List.getElem?_eq_getElem (by omega)] at h4 ⊢
    simpa using h4
  have h5' : crc ((b.drop 8).take (num b)) = num (b.drop 4) := by simpa using h5
  show b = frame ((b.drop 8).take (num b)) ++ b.drop (num b + 9)
  unfold frame
  rw [hl, h5']
  have e1 := take4 b (by omega)
  have e2 := take4 (b.drop 4) (by rw [List.length_drop]; omega)
  have e3 : (b.drop 4).drop 4 = b.drop 8 := by rw [List.drop_drop]
  have e4 : b.drop 8 = (b.drop 8).take (num b) ++ (b.drop 8).drop (num b) := (List.take_append_drop _ _).symm
  have e5 : (b.drop 8).drop (num b) = 229 :: b.drop (num b + 9) := by
    rw [List.drop_drop, List.drop_eq_getElem_cons (by omega)]
    have : b[8 + num b]'(by omega) = 229 := by
      have := h4'
      rw [show num b + 8 = 8 + num b by omega, List.getElem?_eq_getElem (by omega)] at this
      simpa using this
    rw [this, show 8 + num b + 1 = num b + 9 by omega]
  calc b = be4 (num b) ++ b.drop 4 := e1
    _ = be4 (num b) ++ (be4 (num (b.drop 4)) ++ b.drop 8) := by rw [← e3, ← e2]
    _ = be4 (num b) ++ (be4 (num (b.drop 4)) ++ ((b.drop 8).take (num b) ++ (229 :: b.drop (num b + 9)))) := by rw [← e5, ← e4]
    _ = _ := by simp

theorem one_err {b : List UInt8} (h : (one b).2.2 ≠ 0) : (one b).1 = [] ∧ (one b).2.1 = 0 ∧ ((one b).2.2 = 1 ∨ (one b).2.2 = 2 ∨ (one b).2.2 = 3) := by
  unfold one at h ⊢
  split
  · simp
  split
  · simp
  split
  · simp
  split
  · simp
  split
  · simp
  · exfalso
    simp_all

/-- A BYTE OTHER BEHIND THE NUMBER: none is decoded. -/
theorem one_flip (x : List UInt8) (hx : x.length ≤ 16384) (k : Nat) (hk : k < x.length + 5) (by_ : UInt8) :
    (one ((frame x).set (4 + k) ((frame x)[4 + k]?.getD 0 ^^^ by_))).2.2 = 0 ↔ by_ = 0 := by
  have hlen := length_frame x
  have hget : (frame x)[4 + k]? = some ((frame x)[4 + k]'(by omega)) := List.getElem?_eq_getElem (by omega)
  constructor
  · intro h
    obtain ⟨hz, hn, hb⟩ := one_ok h
    generalize hy : (frame x).set (4 + k) ((frame x)[4 + k]?.getD 0 ^^^ by_) = y at h hz hn hb
    generalize hzz : (one y).1 = z at hz hn hb
    have hly : y.length = x.length + 9 := by rw [← hy, List.length_set, hlen]
    have hnum : num y = x.length := by
      have e : y = be4 x.length ++ (be4 (crc x) ++ (x ++ [229])).set k ((frame x)[4 + k]?.getD 0 ^^^ by_) := by
        rw [← hy]
        generalize (frame x)[4 + k]?.getD 0 ^^^ by_ = u
        unfold frame
        rw [List.set_append, if_neg (by rw [length_be4]; omega), length_be4, Nat.add_sub_cancel_left]
      rw [e, num_be4 _ (by omega)]
    have hzl : z.length = x.length := by
      have h1 := num_be4 z.length (by omega) (be4 (crc z) ++ (z ++ [229]) ++ y.drop (one y).2.1)
      have : be4 z.length ++ (be4 (crc z) ++ (z ++ [229]) ++ y.drop (one y).2.1) = y := by
        conv => rhs; rw [hb]
        unfold frame
        simp
      rw [this, hnum] at h1
      exact h1.symm
    have hyz : y = frame z := by
      rw [hn, hzl, ← hly, List.drop_length, List.append_nil] at hb
      exact hb
    -- y and the frame of x are the same at all places but one
    have hsame : ∀ j, j ≠ 4 + k → (frame z)[j]? = (frame x)[j]? := by
      intro j hj
      rw [← hyz, ← hy, List.getElem?_set]
      rw [if_neg (fun e => hj e.symm)]
    have hdiff : (frame z)[4 + k]? = some ((frame x)[4 + k]?.getD 0 ^^^ by_) := by
      rw [← hyz, ← hy, List.getElem?_set, if_pos rfl, if_pos (by omega)]
    have hfz : ∀ j, 4 ≤ j → j < 8 → (frame z)[j]? = (be4 (crc z))[j - 4]? := by
      intro j h1 h2
      unfold frame
      rw [List.getElem?_append_right (by rw [length_be4]; omega), List.getElem?_append_left (by rw [length_be4, length_be4]; omega), length_be4]
    have hfx : ∀ j, 4 ≤ j → j < 8 → (frame x)[j]? = (be4 (crc x))[j - 4]? := by
      intro j h1 h2
      unfold frame
      rw [List.getElem?_append_right (by rw [length_be4]; omega), List.getElem?_append_left (by rw [length_be4, length_be4]; omega), length_be4]
    have hcz : ∀ j, 8 ≤ j → (frame z)[j]? = (z ++ [229])[j - 8]? := by
      intro j h1
      unfold frame
      rw [List.getElem?_append_right (by rw [length_be4]; omega), List.getElem?_append_right (by rw [length_be4, length_be4]; omega), length_be4, length_be4]
      congr 1
    have hcx : ∀ j, 8 ≤ j → (frame x)[j]? = (x ++ [229])[j - 8]? := by
      intro j h1
      unfold frame
      rw [List.getElem?_append_right (by rw [length_be4]; omega), List.getElem?_append_right (by rw [length_be4, length_be4]; omega), length_be4, length_be4]
      congr 1
    -- what closes: the two frames are the same
    have close : frame z = frame x → by_ = 0 := by
      intro e
      rw [e, hget] at hdiff
      simp only [Option.getD_some, Option.some.injEq] at hdiff
      have := congrArg (fun t => (frame x)[4 + k]'(by omega) ^^^ t) hdiff
      simp only [UInt8.xor_self, ← UInt8.xor_assoc, UInt8.zero_xor] at this
      exact this.symm
    by_cases c1 : 4 + k < 8
    · -- in the sum: what they hold is the same
      apply close
      congr 1
      apply List.ext_getElem?
      intro j
      have h1 := hsame (j + 8) (by omega)
      rw [hcz _ (by omega), hcx _ (by omega), Nat.add_sub_cancel] at h1
      by_cases hj : j < x.length
      · rwa [List.getElem?_append_left (by omega), List.getElem?_append_left hj] at h1
      · rw [List.getElem?_eq_none (by omega), List.getElem?_eq_none (by omega)]
    · -- behind it: the sums are the same
      have hs : be4 (crc z) = be4 (crc x) := by
        apply List.ext_getElem?
        intro j
        by_cases hj : j < 4
        · have h1 := hsame (j + 4) (by omega)
          rw [hfz _ (by omega) (by omega), hfx _ (by omega) (by omega), Nat.add_sub_cancel] at h1
          exact h1
        · rw [List.getElem?_eq_none (by rw [length_be4]; omega), List.getElem?_eq_none (by rw [length_be4]; omega)]
      have hc : crc z = crc x := be4_inj (crc_lt z) (crc_lt x) hs
      by_cases c2 : 4 + k - 8 < x.length
      · -- in what is held
        have ez : z = x.take (4 + k - 8) ++ z[4 + k - 8]'(by omega) :: x.drop (4 + k - 8 + 1) := by
          apply List.ext_getElem?
          intro j
          rcases Nat.lt_trichotomy j (4 + k - 8) with hj | hj | hj
          · have h1 := hsame (j + 8) (by omega)
            rw [hcz _ (by omega), hcx _ (by omega), Nat.add_sub_cancel, List.getElem?_append_left (by omega), List.getElem?_append_left (by omega)] at h1
            rw [List.getElem?_append_left (by rw [List.length_take]; omega), List.getElem?_take_of_lt hj, h1]
          · subst hj
            rw [List.getElem?_append_right (by rw [List.length_take]; omega), List.length_take, List.getElem?_eq_getElem (by omega)]
            rw [show 4 + k - 8 - min (4 + k - 8) x.length = 0 by omega]
            rfl
          · rw [List.getElem?_append_right (by rw [List.length_take]; omega), List.length_take, show j - min (4 + k - 8) x.length = (j - (4 + k - 8) - 1) + 1 by omega, List.getElem?_cons_succ, List.getElem?_drop]
            rw [show 4 + k - 8 + 1 + (j - (4 + k - 8) - 1) = j by omega]
            have h1 := hsame (j + 8) (by omega)
            rw [hcz _ (by omega), hcx _ (by omega), Nat.add_sub_cancel] at h1
            by_cases hj' : j < x.length
            · rwa [List.getElem?_append_left (by omega), List.getElem?_append_left hj'] at h1
            · rw [List.getElem?_eq_none (by omega), List.getElem?_eq_none (by omega)]
        have ex : x = x.take (4 + k - 8) ++ x[4 + k - 8]'c2 :: x.drop (4 + k - 8 + 1) := by
          rw [← List.drop_eq_getElem_cons c2, List.take_append_drop]
        have h2 : crc (x.take (4 + k - 8) ++ z[4 + k - 8]'(by omega) :: x.drop (4 + k - 8 + 1)) = crc (x.take (4 + k - 8) ++ x[4 + k - 8]'c2 :: x.drop (4 + k - 8 + 1)) := by
          rw [← ez, ← ex]; exact hc
        have h3 := (sum_one poly_lt poly_high _ _ _ _).1 h2
        apply close
        rw [ez, h3, ← ex]
      · -- the last byte
        have ek : 4 + k = x.length + 8 := by omega
        rw [hcz _ (by omega), ek, Nat.add_sub_cancel, ← hzl, List.getElem?_concat_length, hzl, hcx _ (by omega), Nat.add_sub_cancel, List.getElem?_concat_length] at hdiff
        simp only [Option.getD_some, Option.some.injEq] at hdiff
        have := congrArg (fun t => (229 : UInt8) ^^^ t) hdiff
        simp only [UInt8.xor_self, ← UInt8.xor_assoc, UInt8.zero_xor] at this
        exact this.symm
  · rintro rfl
    have e : (frame x).set (4 + k) ((frame x)[4 + k]?.getD 0 ^^^ 0) = frame x := by
      rw [hget, Option.getD_some, UInt8.xor_zero, List.set_getElem_self]
    have := one_frame x [] hx
    rw [List.append_nil] at this
    rw [e, this]

/-- The frames that follow one another from the beginning on: what they hold. -/
def scan : Nat → List UInt8 → List (List UInt8)
  | 0, _ => []
  | k + 1, b => if (one b).2.2 = 0 then (one b).1 :: scan k (b.drop (one b).2.1) else []

/-- How many bytes the frames of rows take. -/
def size : List (List UInt8) → Nat
  | [] => 0
  | x :: xs => x.length + 9 + size xs

/-- Frames of rows, one behind the other. -/
def join : List (List UInt8) → List UInt8
  | [] => []
  | x :: xs => frame x ++ join xs

theorem length_join (xs : List (List UInt8)) : (join xs).length = size xs := by
  induction xs with
  | nil => rfl
  | cons x xs ih => simp [join, size, length_frame, ih]

theorem size_append (xs ys : List (List UInt8)) : size (xs ++ ys) = size xs + size ys := by
  induction xs with
  | nil => simp [size]
  | cons x xs ih => simp [size, ih]; omega

theorem join_append (xs ys : List (List UInt8)) : join (xs ++ ys) = join xs ++ join ys := by
  induction xs with
  | nil => simp [join]
  | cons x xs ih => simp [join, ih]

end Go.Proofs.YtjkkclfndlfjhaaGreatDoor.Frm
