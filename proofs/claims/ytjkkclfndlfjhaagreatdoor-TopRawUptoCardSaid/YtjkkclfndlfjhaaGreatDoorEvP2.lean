/- The structs that may be held against one another. -/
import Derived.Test.YtjkkclfndlfjhaaGreatDoorEvP1
import Derived.Laws.StructEq
set_option linter.all false
set_option linter.unusedSimpArgs false
namespace Go.Proofs.YtjkkclfndlfjhaaGreatDoor.Ev
open Go Go.RowKit

theorem likes_nil {l : List CV} (h : likes [] l = true) : l = [] := by
  cases l with
  | nil => rfl
  | cons a l => cases h
theorem likes_i {k : IntKind} {n : Int} {z l : List CV} (h : likes (.i k n :: z) l = true) : ∃ n' l', l = .i k n' :: l' ∧ likes z l' = true := by
  cases l with
  | nil => cases h
  | cons a l =>
    cases a <;> try cases h
    rename_i k' n'
    unfold likes at h
    split at h
    · rename_i hk
      rw [decide_eq_true_iff] at hk
      subst hk
      exact ⟨n', l, rfl, h⟩
    · cases h
theorem likes_s {s : List Nat} {z l : List CV} (h : likes (.s s :: z) l = true) : ∃ s' l', l = .s s' :: l' ∧ likes z l' = true := by
  cases l with
  | nil => cases h
  | cons a l =>
    cases a <;> try cases h
    rename_i s'
    exact ⟨s', l, rfl, h⟩
theorem F2.inv {α β : Type} {r : α → β → Prop} {a : α} {l : List α} {M : List β} (h : F2 r (a :: l) M) : ∃ b m, M = b :: m ∧ r a b ∧ F2 r l m := by
  cases h with
  | cons h t => exact ⟨_, _, rfl, h, t⟩
theorem F2.inv_nil {α β : Type} {r : α → β → Prop} {M : List β} (h : F2 r [] M) : M = [] := by
  cases h; rfl
theorem eqCs_i {k : IntKind} {a b : Int} {l m : List CV} {r : Bool} (h : eqCs (.i k a :: l) (.i k b :: m) = some r) : ∃ r', eqCs l m = some r' ∧ r = ((a == b) && r') := by
  unfold eqCs at h
  have e : eqC (.i k a) (.i k b) = some (a == b) := by
    show sel (decide (k = k)) (some (intEq a b)) none = _
    rw [decide_eq_true rfl]
    show some (intEq a b) = _
    rw [intEq_eq]
  rw [e] at h
  cases hab : (a == b) with
  | true =>
    rw [hab] at h
    exact ⟨r, h, by simp⟩
  | false =>
    rw [hab] at h
    replace h := bnd_some h; obtain ⟨r', hr', h⟩ := h
    cases h
    exact ⟨r', hr', by simp⟩
theorem eqCs_s {a b : List Nat} (ha : ∀ x ∈ a, x < 256) (hb : ∀ x ∈ b, x < 256) {l m : List CV} {r : Bool} (h : eqCs (.s a :: l) (.s b :: m) = some r) : ∃ r', eqCs l m = some r' ∧ r = (((baOf a).toList == (baOf b).toList) && r') := by
  have he : ((baOf a).toList == (baOf b).toList) = eqL a b := by
    rw [Bool.eq_iff_iff, beq_iff_eq, eqL_eq]
    refine ⟨fun h => ?_, fun h => by rw [h]⟩
    rw [baOf_toList, baOf_toList] at h
    exact baOf_inj ha hb (by unfold baOf; rw [h])
  rw [he]
  unfold eqCs at h
  have e : eqC (.s a) (.s b) = some (eqL a b) := rfl
  rw [e] at h
  cases hab : eqL a b with
  | true =>
    rw [hab] at h
    exact ⟨r, h, by simp⟩
  | false =>
    rw [hab] at h
    replace h := bnd_some h; obtain ⟨r', hr', h⟩ := h
    cases h
    exact ⟨r', hr', by simp⟩

theorem run_equal_cells {P : Program} {t : Nat} {xs ys : Array Value} {w : World} (ht : P.underlying t = some (.struct (P.fieldsOf t))) (hp : P.stoodInHeld t = false) :
    (Op.equal t (.agg xs) (.agg ys)).run P w = (Op.eqFields 9999 xs ys (P.fieldsOf t).toList).run P w := run_equalIn_struct w 9999 t xs ys ht hp

theorem eqFields_cons {P : Program} {w : World} {d : Nat} {xs ys : Array Value} {f : Field} {fs : List Field} {A B : Value} {q r : Bool} (hn : f.name ≠ "_") (ha : (part f.type xs f.offset).run P w = .ok A w) (hb : (part f.type ys f.offset).run P w = .ok B w)
    (hq : (Op.equalIn d f.type A B).run P w = .ok q w) (hr : (Op.eqFields d xs ys fs).run P w = .ok r w) : (Op.eqFields d xs ys (f :: fs)).run P w = .ok (q && r) w := by
  simp only [Op.eqFields, if_pos hn, Sem.run_bind, ha, hb, hq, Result.andThen_ok]
  cases q with
  | true => simpa using hr
  | false => simp
theorem eqFields_nil {P : Program} {w : World} {d : Nat} {xs ys : Array Value} : (Op.eqFields d xs ys []).run P w = .ok true w := rfl
theorem fieldsOf59 : (Tryz.prog.fieldsOf 59).toList = [{ name := "Op", type := 57, offset := 0, embedded := false, tag := "", pkgPath := "", byteOffset := 0 },
        { name := "Client", type := 3, offset := 1, embedded := false, tag := "", pkgPath := "", byteOffset := 8 },
        { name := "Seq", type := 3, offset := 2, embedded := false, tag := "", pkgPath := "", byteOffset := 16 },
        { name := "Key", type := 9, offset := 3, embedded := false, tag := "", pkgPath := "", byteOffset := 24 },
        { name := "Value", type := 9, offset := 4, embedded := false, tag := "", pkgPath := "", byteOffset := 40 },
        { name := "Old", type := 9, offset := 5, embedded := false, tag := "", pkgPath := "", byteOffset := 56 }] := by
  unfold Program.fieldsOf
  rw [Tryz.underlying59]
theorem fieldsOf61 : (Tryz.prog.fieldsOf 61).toList = [{ name := "Index", type := 3, offset := 0, embedded := false, tag := "", pkgPath := "", byteOffset := 0 },
        { name := "Term", type := 3, offset := 1, embedded := false, tag := "", pkgPath := "", byteOffset := 8 },
        { name := "Cmd", type := 59, offset := 2, embedded := false, tag := "", pkgPath := "", byteOffset := 16 }] := by
  unfold Program.fieldsOf
  rw [Tryz.underlying61]
theorem part_one {t : Nat} {w : World} {xs : Array Value} {off : Nat} {v : Value} (ha : (isAgg t).run Tryz.prog w = .ok false w) (hx : xs[off]? = some v) : (part t xs off).run Tryz.prog w = .ok v w := by
  simp [part, ha, hx]
theorem eqCmd (d : Nat) (w : World) (a1 a2 a3 b1 b2 b3 : Int) (a4 a5 a6 b4 b5 b6 : ByteArray) : (Op.equalIn (d + 2) 59 (.agg #[.int .i64 a1, .int .i64 a2, .int .i64 a3, .string a4, .string a5, .string a6]) (.agg #[.int .i64 b1, .int .i64 b2, .int .i64 b3, .string b4, .string b5, .string b6])).run Tryz.prog w =
    .ok ((a1 == b1) && ((a2 == b2) && ((a3 == b3) && ((a4.toList == b4.toList) && ((a5.toList == b5.toList) && ((a6.toList == b6.toList) && true)))))) w := by
  rw [run_equalIn_struct w (d + 1) 59 _ _ (by rw [Tryz.underlying59]; unfold Program.fieldsOf; rw [Tryz.underlying59]) Tryz.stoodInHeld59, fieldsOf59]
  refine eqFields_cons (by decide) (part_one (Tryz.isAgg57 w) rfl) (part_one (Tryz.isAgg57 w) rfl) (run_equalIn_int w d 57 _ _ a1 b1 Tryz.underlying57) ?_
  refine eqFields_cons (by decide) (part_one (Tryz.isAgg3 w) rfl) (part_one (Tryz.isAgg3 w) rfl) (run_equalIn_int w d 3 _ _ a2 b2 Tryz.underlying3) ?_
  refine eqFields_cons (by decide) (part_one (Tryz.isAgg3 w) rfl) (part_one (Tryz.isAgg3 w) rfl) (run_equalIn_int w d 3 _ _ a3 b3 Tryz.underlying3) ?_
  refine eqFields_cons (by decide) (part_one (Tryz.isAgg9 w) rfl) (part_one (Tryz.isAgg9 w) rfl) (run_equalIn_string w d 9 a4 b4 Tryz.underlying9) ?_
  refine eqFields_cons (by decide) (part_one (Tryz.isAgg9 w) rfl) (part_one (Tryz.isAgg9 w) rfl) (run_equalIn_string w d 9 a5 b5 Tryz.underlying9) ?_
  exact eqFields_cons (by decide) (part_one (Tryz.isAgg9 w) rfl) (part_one (Tryz.isAgg9 w) rfl) (run_equalIn_string w d 9 a6 b6 Tryz.underlying9) eqFields_nil
theorem eqEntry (d : Nat) (w : World) (c1 c2 a1 a2 a3 d1 d2 b1 b2 b3 : Int) (a4 a5 a6 b4 b5 b6 : ByteArray) : (Op.equalIn (d + 3) 61 (.agg #[.int .i64 c1, .int .i64 c2, .int .i64 a1, .int .i64 a2, .int .i64 a3, .string a4, .string a5, .string a6]) (.agg #[.int .i64 d1, .int .i64 d2, .int .i64 b1, .int .i64 b2, .int .i64 b3, .string b4, .string b5, .string b6])).run Tryz.prog w =
    .ok ((c1 == d1) && ((c2 == d2) && (((a1 == b1) && ((a2 == b2) && ((a3 == b3) && ((a4.toList == b4.toList) && ((a5.toList == b5.toList) && ((a6.toList == b6.toList) && true)))))) && true))) w := by
  rw [run_equalIn_struct w (d + 2) 61 _ _ (by rw [Tryz.underlying61]; unfold Program.fieldsOf; rw [Tryz.underlying61]) Tryz.stoodInHeld61, fieldsOf61]
  refine eqFields_cons (by decide) (part_one (Tryz.isAgg3 w) rfl) (part_one (Tryz.isAgg3 w) rfl) (run_equalIn_int w (d + 1) 3 _ _ c1 d1 Tryz.underlying3) ?_
  refine eqFields_cons (by decide) (part_one (Tryz.isAgg3 w) rfl) (part_one (Tryz.isAgg3 w) rfl) (run_equalIn_int w (d + 1) 3 _ _ c2 d2 Tryz.underlying3) ?_
  refine eqFields_cons (by decide) ?_ ?_ (eqCmd d w a1 a2 a3 b1 b2 b3 a4 a5 a6 b4 b5 b6) eqFields_nil
  · simp [part, Tryz.isAgg59, Tryz.sizeOf59]
  · simp [part, Tryz.isAgg59, Tryz.sizeOf59]

theorem eqOk59 : EqOk Tryz.prog 59 [.i .i64 0, .i .i64 0, .i .i64 0, .s [], .s [], .s []] := by
  intro g l m r L M w op x y hL hM h hop hl hm
  refine ⟨run_eqGuard_agg w op 59 x y _ _ Tryz.eqGuardType59, ?_⟩
  obtain ⟨a1, l1, rfl, hl1⟩ := likes_i hl
  obtain ⟨a2, l2, rfl, hl2⟩ := likes_i hl1
  obtain ⟨a3, l3, rfl, hl3⟩ := likes_i hl2
  obtain ⟨a4, l4, rfl, hl4⟩ := likes_s hl3
  obtain ⟨a5, l5, rfl, hl5⟩ := likes_s hl4
  obtain ⟨a6, l6, rfl, hl6⟩ := likes_s hl5
  obtain rfl := likes_nil hl6
  obtain ⟨b1, m1, rfl, hm1⟩ := likes_i hm
  obtain ⟨b2, m2, rfl, hm2⟩ := likes_i hm1
  obtain ⟨b3, m3, rfl, hm3⟩ := likes_i hm2
  obtain ⟨b4, m4, rfl, hm4⟩ := likes_s hm3
  obtain ⟨b5, m5, rfl, hm5⟩ := likes_s hm4
  obtain ⟨b6, m6, rfl, hm6⟩ := likes_s hm5
  obtain rfl := likes_nil hm6
  obtain ⟨A1, L1, rfl, hA1, hL1⟩ := F2.inv hL; obtain rfl : A1 = _ := hA1
  obtain ⟨A2, L2, rfl, hA2, hL2⟩ := F2.inv hL1; obtain rfl : A2 = _ := hA2
  obtain ⟨A3, L3, rfl, hA3, hL3⟩ := F2.inv hL2; obtain rfl : A3 = _ := hA3
  obtain ⟨A4, L4, rfl, hA4, hL4⟩ := F2.inv hL3; obtain ⟨rfl, hA4⟩ := hA4
  obtain ⟨A5, L5, rfl, hA5, hL5⟩ := F2.inv hL4; obtain ⟨rfl, hA5⟩ := hA5
  obtain ⟨A6, L6, rfl, hA6, hL6⟩ := F2.inv hL5; obtain ⟨rfl, hA6⟩ := hA6
  obtain rfl := F2.inv_nil hL6
  obtain ⟨B1, M1, rfl, hB1, hM1⟩ := F2.inv hM; obtain rfl : B1 = _ := hB1
  obtain ⟨B2, M2, rfl, hB2, hM2⟩ := F2.inv hM1; obtain rfl : B2 = _ := hB2
  obtain ⟨B3, M3, rfl, hB3, hM3⟩ := F2.inv hM2; obtain rfl : B3 = _ := hB3
  obtain ⟨B4, M4, rfl, hB4, hM4⟩ := F2.inv hM3; obtain ⟨rfl, hB4⟩ := hB4
  obtain ⟨B5, M5, rfl, hB5, hM5⟩ := F2.inv hM4; obtain ⟨rfl, hB5⟩ := hB5
  obtain ⟨B6, M6, rfl, hB6, hM6⟩ := F2.inv hM5; obtain ⟨rfl, hB6⟩ := hB6
  obtain rfl := F2.inv_nil hM6
  obtain ⟨r1, h1, rfl⟩ := eqCs_i h
  obtain ⟨r2, h2, rfl⟩ := eqCs_i h1
  obtain ⟨r3, h3, rfl⟩ := eqCs_i h2
  obtain ⟨r4, h4, rfl⟩ := eqCs_s hA4 hB4 h3
  obtain ⟨r5, h5, rfl⟩ := eqCs_s hA5 hB5 h4
  obtain ⟨r6, h6, rfl⟩ := eqCs_s hA6 hB6 h5
  obtain rfl : r6 = true := (Option.some.inj h6).symm
  exact eqCmd 9998 w ..
theorem eqOk61 : EqOk Tryz.prog 61 [.i .i64 0, .i .i64 0, .i .i64 0, .i .i64 0, .i .i64 0, .s [], .s [], .s []] := by
  intro g l m r L M w op x y hL hM h hop hl hm
  refine ⟨run_eqGuard_agg w op 61 x y _ _ Tryz.eqGuardType61, ?_⟩
  obtain ⟨a1, l1, rfl, hl1⟩ := likes_i hl
  obtain ⟨a2, l2, rfl, hl2⟩ := likes_i hl1
  obtain ⟨a3, l3, rfl, hl3⟩ := likes_i hl2
  obtain ⟨a4, l4, rfl, hl4⟩ := likes_i hl3
  obtain ⟨a5, l5, rfl, hl5⟩ := likes_i hl4
  obtain ⟨a6, l6, rfl, hl6⟩ := likes_s hl5
  obtain ⟨a7, l7, rfl, hl7⟩ := likes_s hl6
  obtain ⟨a8, l8, rfl, hl8⟩ := likes_s hl7
  obtain rfl := likes_nil hl8
  obtain ⟨b1, m1, rfl, hm1⟩ := likes_i hm
  obtain ⟨b2, m2, rfl, hm2⟩ := likes_i hm1
  obtain ⟨b3, m3, rfl, hm3⟩ := likes_i hm2
  obtain ⟨b4, m4, rfl, hm4⟩ := likes_i hm3
  obtain ⟨b5, m5, rfl, hm5⟩ := likes_i hm4
  obtain ⟨b6, m6, rfl, hm6⟩ := likes_s hm5
  obtain ⟨b7, m7, rfl, hm7⟩ := likes_s hm6
  obtain ⟨b8, m8, rfl, hm8⟩ := likes_s hm7
  obtain rfl := likes_nil hm8
  obtain ⟨A1, L1, rfl, hA1, hL1⟩ := F2.inv hL; obtain rfl : A1 = _ := hA1
  obtain ⟨A2, L2, rfl, hA2, hL2⟩ := F2.inv hL1; obtain rfl : A2 = _ := hA2
  obtain ⟨A3, L3, rfl, hA3, hL3⟩ := F2.inv hL2; obtain rfl : A3 = _ := hA3
  obtain ⟨A4, L4, rfl, hA4, hL4⟩ := F2.inv hL3; obtain rfl : A4 = _ := hA4
  obtain ⟨A5, L5, rfl, hA5, hL5⟩ := F2.inv hL4; obtain rfl : A5 = _ := hA5
  obtain ⟨A6, L6, rfl, hA6, hL6⟩ := F2.inv hL5; obtain ⟨rfl, hA6⟩ := hA6
  obtain ⟨A7, L7, rfl, hA7, hL7⟩ := F2.inv hL6; obtain ⟨rfl, hA7⟩ := hA7
  obtain ⟨A8, L8, rfl, hA8, hL8⟩ := F2.inv hL7; obtain ⟨rfl, hA8⟩ := hA8
  obtain rfl := F2.inv_nil hL8
  obtain ⟨B1, M1, rfl, hB1, hM1⟩ := F2.inv hM; obtain rfl : B1 = _ := hB1
  obtain ⟨B2, M2, rfl, hB2, hM2⟩ := F2.inv hM1; obtain rfl : B2 = _ := hB2
  obtain ⟨B3, M3, rfl, hB3, hM3⟩ := F2.inv hM2; obtain rfl : B3 = _ := hB3
  obtain ⟨B4, M4, rfl, hB4, hM4⟩ := F2.inv hM3; obtain rfl : B4 = _ := hB4
  obtain ⟨B5, M5, rfl, hB5, hM5⟩ := F2.inv hM4; obtain rfl : B5 = _ := hB5
  obtain ⟨B6, M6, rfl, hB6, hM6⟩ := F2.inv hM5; obtain ⟨rfl, hB6⟩ := hB6
  obtain ⟨B7, M7, rfl, hB7, hM7⟩ := F2.inv hM6; obtain ⟨rfl, hB7⟩ := hB7
  obtain ⟨B8, M8, rfl, hB8, hM8⟩ := F2.inv hM7; obtain ⟨rfl, hB8⟩ := hB8
  obtain rfl := F2.inv_nil hM8
  obtain ⟨r1, h1, rfl⟩ := eqCs_i h
  obtain ⟨r2, h2, rfl⟩ := eqCs_i h1
  obtain ⟨r3, h3, rfl⟩ := eqCs_i h2
  obtain ⟨r4, h4, rfl⟩ := eqCs_i h3
  obtain ⟨r5, h5, rfl⟩ := eqCs_i h4
  obtain ⟨r6, h6, rfl⟩ := eqCs_s hA6 hB6 h5
  obtain ⟨r7, h7, rfl⟩ := eqCs_s hA7 hB7 h6
  obtain ⟨r8, h8, rfl⟩ := eqCs_s hA8 hB8 h7
  obtain rfl : r8 = true := (Option.some.inj h8).symm
  have := eqEntry 9997 w a1 a2 a3 a4 a5 b1 b2 b3 b4 b5 (baOf a6) (baOf a7) (baOf a8) (baOf b6) (baOf b7) (baOf b8)
  simp only [Bool.and_true] at this ⊢
  exact this

end Go.Proofs.YtjkkclfndlfjhaaGreatDoor.Ev
namespace Go.Proofs.YtjkkclfndlfjhaaGreatDoor
open Go Ev
theorem cmp_ents : (tyTab.ents 0 1).all (fun p => !p.2.cmp || p.1 == 59 || p.1 == 61) = true := by kernel_rfl
theorem get59 : tyTab.get 59 = some ti59 := by kernel_rfl
theorem get61 : tyTab.get 61 = some ti61 := by kernel_rfl
theorem cmpAll : CmpAll Tryz.prog tyTab.get := fun t i h hc => by
  have := List.all_eq_true.1 cmp_ents _ (Tr.mem_ents tyTab h)
  simp only [hc, Bool.not_true, Bool.false_or, Bool.or_eq_true, beq_iff_eq] at this
  rcases this with rfl | rfl
  · rw [get59] at h; cases h; exact eqOk59
  · rw [get61] at h; cases h; exact eqOk61
end Go.Proofs.YtjkkclfndlfjhaaGreatDoor
