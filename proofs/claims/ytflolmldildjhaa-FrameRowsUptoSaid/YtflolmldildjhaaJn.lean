/- The plain laws of frames that follow one another: which rows they begin with, of whole ones and of cut ones. -/
import Derived.Test.YtflolmldildjhaaAll
namespace Go.Proofs.Ytflolmldildjhaa
open Crc Frm

/-- Two frames at the beginning of the same bytes are the same. -/
theorem frame_front {x y : List UInt8} {r s : List UInt8} (hx : x.length ≤ 16384) (hy : y.length ≤ 16384) (h : frame x ++ r = frame y ++ s) : x = y ∧ r = s := by
  have h1 := one_frame x r hx
  have h2 := one_frame y s hy
  rw [h, h2] at h1
  have e : y = x := congrArg Prod.fst h1
  subst e
  exact ⟨rfl, List.append_cancel_left h⟩

/-- What frames of rows begin with are rows' frames: these are the first of the rows. -/
theorem join_front : ∀ (xs rs : List (List UInt8)) (rest : List UInt8), (∀ r ∈ rs, r.length ≤ 16384) → (∀ x ∈ xs, x.length ≤ 16384) → join rs = join xs ++ rest → ∃ ys, rs = xs ++ ys ∧ rest = join ys
  | [], rs, rest, _, _, h => ⟨rs, rfl, by simpa [join] using h.symm⟩
  | x :: xs, [], rest, _, _, h => by
    have := congrArg List.length h
    simp [join, length_frame] at this
    omega
  | x :: xs, r :: rs, rest, hr, hx, h => by
    simp only [join, List.append_assoc] at h
    obtain ⟨rfl, h2⟩ := frame_front (hr r (by simp)) (hx x (by simp)) h
    obtain ⟨ys, rfl, e⟩ := join_front xs rs rest (fun y hy => hr y (by simp [hy])) (fun y hy => hx y (by simp [hy])) h2
    exact ⟨ys, rfl, e⟩

/-- The rows of a beginning are the first of the rows. -/
theorem pre_join {rs xs : List (List UInt8)} (hr : ∀ r ∈ rs, r.length ≤ 16384) (h : Pre (join rs) xs) : ∃ ys, rs = xs ++ ys ∧ (join rs).drop (size xs) = join ys :=
  join_front xs rs _ hr h.2 h.drop

/-- What is gone over whole is all that was laid. -/
theorem full_front : ∀ (rs xs : List (List UInt8)) (raw rest : List UInt8), (∀ r ∈ rs, r.length ≤ 16384) → (∀ x ∈ xs, x.length ≤ 16384) → join rs ++ raw = join xs ++ rest → (one rest).2.2 ≠ 0 → ∃ ys, xs = rs ++ ys
  | [], xs, _, _, _, _, _, _ => ⟨xs, rfl⟩
  | r :: rs, [], raw, rest, hr, _, h, ho => by
    exfalso
    apply ho
    have : rest = frame r ++ (join rs ++ raw) := by simpa [join] using h.symm
    rw [this, one_frame r _ (hr r (by simp))]
  | r :: rs, x :: xs, raw, rest, hr, hx, h, ho => by
    simp only [join, List.append_assoc] at h
    obtain ⟨rfl, h2⟩ := frame_front (hr r (by simp)) (hx x (by simp)) h
    obtain ⟨ys, rfl⟩ := full_front rs xs raw rest (fun y hy => hr y (by simp [hy])) (fun y hy => hx y (by simp [hy])) h2 ho
    exact ⟨ys, rfl⟩

theorem full_more {rs xs : List (List UInt8)} {raw : List UInt8} (hr : ∀ r ∈ rs, r.length ≤ 16384) (h : Full (join rs ++ raw) xs) : ∃ ys, xs = rs ++ ys :=
  full_front rs xs raw _ hr h.1.2 h.1.drop h.2
theorem full_all {rs xs : List (List UInt8)} (hr : ∀ r ∈ rs, r.length ≤ 16384) (h : Full (join rs) xs) : xs = rs := by
  obtain ⟨ys, h1⟩ := full_more (raw := []) hr (by rw [List.append_nil]; exact h)
  obtain ⟨zs, h2, _⟩ := pre_join hr h.1
  have e : rs = rs ++ (ys ++ zs) := by rw [← List.append_assoc, ← h1]; exact h2
  have : (ys ++ zs).length = 0 := by have := congrArg List.length e; rw [List.length_append] at this; omega
  have hy : ys = [] := by
    have := List.eq_nil_of_length_eq_zero this
    simp at this
    exact this.1
  rw [h1, hy, List.append_nil]

theorem num_take (b : List UInt8) (m : Nat) (hm : 4 ≤ m) : num (b.take m) = num b := by
  unfold num
  rw [List.getElem?_take_of_lt (by omega), List.getElem?_take_of_lt (by omega), List.getElem?_take_of_lt (by omega), List.getElem?_take_of_lt (by omega)]

/-- A cut frame is torn. -/
theorem one_torn (x r : List UInt8) (hx : x.length ≤ 16384) (m : Nat) (hm : m < x.length + 9) : (one ((frame x ++ r).take m)).2.2 = 3 := by
  have hl : ((frame x ++ r).take m).length = m := by rw [List.length_take, List.length_append, length_frame]; omega
  unfold one
  rw [hl]
  by_cases h8 : m < 8
  · rw [if_pos h8]
  · have hn : num ((frame x ++ r).take m) = x.length := by
      rw [num_take _ _ (by omega)]
      unfold frame
      rw [List.append_assoc, num_be4 _ (by omega)]
    rw [if_neg h8, hn, if_neg (by omega), if_pos (by omega)]

theorem one_whole (x r : List UInt8) (hx : x.length ≤ 16384) (m : Nat) (hm : x.length + 9 ≤ m) : (one ((frame x ++ r).take m)).2.2 = 0 := by
  rw [List.take_append, List.take_of_length_le (by rw [length_frame]; exact hm), one_frame x _ hx]

/-- OF FRAMES THAT ARE CUT: those are there that are whole, and what is behind them is torn. -/
theorem torn {rs xs : List (List UInt8)} {n : Nat} (hr : ∀ r ∈ rs, r.length ≤ 16384) (hn : n ≤ (join rs).length) (h : Full ((join rs).take n) xs) :
    ∃ ys, rs = xs ++ ys ∧ size xs ≤ n ∧ (size xs ≠ n → (one (((join rs).take n).drop (size xs))).2.2 = 3) ∧ ∀ y, rs[xs.length]? = some y → n < size xs + y.length + 9 := by
  have hl : ((join rs).take n).length = n := by rw [List.length_take]; omega
  have hle := h.1.size_le
  rw [hl] at hle
  have hj : join rs = join xs ++ (((join rs).take n).drop (size xs) ++ (join rs).drop n) := by
    rw [← List.append_assoc, ← h.1.drop, List.take_append_drop]
  obtain ⟨ys, hys, hrest⟩ := join_front xs rs _ hr h.1.2 hj
  have hT : ((join rs).take n).drop (size xs) = (join ys).take (n - size xs) := by
    rw [← hrest, List.take_left' (by rw [List.length_drop, hl])]
  refine ⟨ys, hys, hle, ?_, ?_⟩
  · intro hne
    cases ys with
    | nil =>
      exfalso
      rw [List.append_nil] at hys
      have := length_join xs
      rw [hys] at hn
      omega
    | cons y ys =>
      have hy : y.length ≤ 16384 := hr y (by rw [hys]; simp)
      rw [hT]
      simp only [join]
      by_cases hm : n - size xs < y.length + 9
      · exact one_torn y _ hy _ hm
      · exfalso
        apply h.2
        rw [hT]
        simp only [join]
        exact one_whole y _ hy _ (by omega)
  · intro y hy
    rw [hys, List.getElem?_append_right (Nat.le_refl _), Nat.sub_self] at hy
    cases ys with
    | nil => simp at hy
    | cons z ys =>
      simp at hy
      subst hy
      have hz : z.length ≤ 16384 := hr z (by rw [hys]; simp)
      rcases Nat.lt_or_ge n (size xs + z.length + 9) with h' | h'
      · exact h'
      · exfalso
        apply h.2
        rw [hT]
        simp only [join]
        exact one_whole z _ hz _ (by omega)

end Go.Proofs.Ytflolmldildjhaa
