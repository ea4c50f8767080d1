/- Contract of frame.All: an iterator that gives the frames' rows, one behind the other, and where each ends. -/
import Derived.Test.YtflolmldildjhaaSeq
import Derived.Test.YtflolmldildjhaaFew
import Derived.Shelf.Abstract
import Derived.Shelf.RegionOpen
import Derived.WalkKit
import Derived.OwnWalkIn
import Derived.TacticsInMore
import Derived.LoopNIn
import Derived.LoopIn
namespace Go.Proofs.Ytflolmldildjhaa
open Go.RowKit Go.Shelf Crc Frm
attribute [local go_sem] Oper.semAt_some

/-- What comes: where the frame ends, the slice, what it holds. -/
structure Elem where
  end_ : Nat
  val : Value
  row : List UInt8
def encs (x : Elem) : Array Value := #[.int .i64 (x.end_ : Int), x.val]
def rowsOf (xs : List Elem) : List (List UInt8) := xs.map Elem.row
theorem rowsOf_snoc (xs : List Elem) (x : Elem) : rowsOf (xs ++ [x]) = rowsOf xs ++ [x.row] := by simp [rowsOf]

/-- The bytes begin with the frames of these rows. -/
def Pre (b : List UInt8) (rs : List (List UInt8)) : Prop := (∃ rest, b = join rs ++ rest) ∧ ∀ r ∈ rs, r.length ≤ 16384
/-- .. and what is behind them is none. -/
def Full (b : List UInt8) (rs : List (List UInt8)) : Prop := Pre b rs ∧ (one (b.drop (size rs))).2.2 ≠ 0

theorem Pre.drop {b : List UInt8} {rs : List (List UInt8)} (h : Pre b rs) : b = join rs ++ b.drop (size rs) := by
  obtain ⟨⟨rest, rfl⟩, _⟩ := h
  rw [← length_join, List.drop_left]
theorem Pre.size_le {b : List UInt8} {rs : List (List UInt8)} (h : Pre b rs) : size rs ≤ b.length := by
  have := congrArg List.length h.drop
  rw [List.length_append, length_join] at this
  omega
theorem size_snoc (rs : List (List UInt8)) (r : List UInt8) : size (rs ++ [r]) = size rs + (r.length + 9) := by rw [size_append]; simp [size]
/-- One frame more. -/
theorem Pre.more {b : List UInt8} {rs : List (List UInt8)} (h : Pre b rs) (h0 : (one (b.drop (size rs))).2.2 = 0) : Pre b (rs ++ [(one (b.drop (size rs))).1]) ∧ (one (b.drop (size rs))).2.1 = (one (b.drop (size rs))).1.length + 9 := by
  obtain ⟨h1, h2, h3⟩ := one_ok h0
  refine ⟨⟨⟨(b.drop (size rs)).drop (one (b.drop (size rs))).2.1, ?_⟩, ?_⟩, h2⟩
  · conv => lhs; rw [h.drop, h3]
    rw [join_append]
    simp [join]
  · intro r hr
    rw [List.mem_append] at hr
    rcases hr with hr | hr
    · exact h.2 r hr
    · simp at hr; subst hr; exact h1
theorem Pre.nil (b : List UInt8) : Pre b [] := ⟨⟨b, rfl⟩, fun r h => by cases h⟩

/-- What is known of what comes. -/
def Known (b : List UInt8) (pre : List Elem) (x : Elem) (W : World) : Prop := Owns W 0 x.val x.row ∧ Pre b (rowsOf pre ++ [x.row]) ∧ x.end_ = size (rowsOf pre ++ [x.row])

/-- What a round keeps that goes on: what lay below n₀, and the box that the iterator reads. -/
def Keeps (n₀ box : Nat) (W W' : World) : Prop := Below n₀ W W' ∧ W'.heap[box]? = W.heap[box]?
theorem Keeps.trans {n₀ box : Nat} {A B C : World} (h : Keeps n₀ box A B) (k : Keeps n₀ box B C) : Keeps n₀ box A C := ⟨h.1.trans k.1, k.2.trans h.2⟩

theorem Owns.base {w : World} {B : Nat} {v : Value} {bs : List UInt8} (h : Owns w B v bs) (B' : Nat) (hB : B' ≤ B) : Owns w B' v bs := by
  refine ⟨h.1, ?_⟩
  rcases h.2 with h' | ⟨g, cap, cur, e1, e2, e3⟩
  · exact .inl h'
  · exact .inr ⟨g, cap, cur, e1, by omega, e3⟩

theorem Boxed.below {W W' : World} {B : Nat} {t : TypeId} {v : Value} (h : Boxed W B t v) (hb : Below W.heap.size W W') : Boxed W' B t v := (hb.block B h.lt).trans h

/-- What is behind a place of a slice of bytes. -/
theorem rest_run (v : Value) (b : List UInt8) (w : World) (hv : IsBytes w v b) (k : Nat) (hk : k ≤ b.length) :
    ∃ u, (∀ wx, (Instr.slice 29 v (some (.int .i64 (k : Int))) none none).run Try.prog wx = .ok u wx) ∧ IsBytes w u (b.drop k) := by
  obtain ⟨A, cap, rfl, hl, hc, hr⟩ := hv
  obtain ⟨i0, hi0, hz0, hz1, hz2⟩ := info_parts info5
  have hlen : (b.drop k).length = b.length - k := List.length_drop
  refine ⟨.slice (if cap = k then A else A.map (·.add k)) (b.length - k) (cap - k), fun wx => ?_, ?_⟩
  · have h1 := run_underlying (P := Try.prog) Try.underlying29 wx
    simp [Instr.slice, Instr.sliceBounds, Instr.sliceBound, asIntOf, h1, hk, sizeOf, typeInfo, hi0, hz1]
  · by_cases hkb : k < b.length
    · obtain ⟨g, off, rfl, hcell⟩ := hr (by omega)
      rw [if_neg (by omega)]
      have := sub_bytes hcell k (b.length - k) (cap - k) (by omega) (by omega) (by simp only [maxLen] at hc ⊢; omega)
      rw [List.take_of_length_le (by omega)] at this
      simpa [Go.WideShapes.add_plain] using this
    · refine ⟨_, cap - k, by rw [hlen], by omega, by simp only [maxLen] at hc ⊢; omega, fun h => by omega⟩

theorem calls_in {n : Nat} {f : FuncId} {args : Array Value} {w : World} {R : Ending → World → Prop} (h : Calls Try.prog f args w R) : CallsIn Fence.wide n Try.prog f args w R := callsIn_wide.2 h

set_option maxRecDepth 100000 in
set_option maxHeartbeats 1600000 in
/-- THE ITERATOR: every loop body that keeps what lay, and its box. -/
theorem all1_any (v : Value) (b : List UInt8) (hl : b.length ≤ 281474976710656) (w0 : World) (hv : IsBytes w0 v b) (box n l : Nat) (J Jx : List Elem → World → Prop) (hJ : Lasts J)
    (hY : ∀ pre x W1, J pre W1 → Known b pre x W1 → YieldAt Fence.wide n Try.prog l (encs x) W1 fun e W' =>
      (e = .returned (.bool true) ∧ J (pre ++ [x]) W' ∧ Keeps w0.heap.size box W1 W') ∨ (e = .returned (.bool false) ∧ Jx (pre ++ [x]) W'))
    (W : World) (hb0 : Below w0.heap.size w0 W) (hbox : Boxed W box 29 v) (h0 : J [] W) :
    CallsIn Fence.wide (n + 1) Try.prog 34 #[.func (.yield l) #[] #[], .pointer (some ⟨box, 0, none⟩)] W fun e W' => (∃ v, e = .returned v) ∧
      ((∃ xs, Full b (rowsOf xs) ∧ J xs W') ∨ (∃ pre, Jx pre W')) := by
  have HV := Lib.hid hv
  clear hv
  refine callsIn_of_wp Try.func34 rfl trivial ?_
  simp only [Try.ntmps34, List.size_toArray, List.length_cons, List.length_nil, Nat.reduceAdd, Nat.reduceSub, Array.replicate_succ, Array.replicate_zero, List.push_toArray, List.append_toArray, List.nil_append, List.cons_append]
  gi_wp2
  gi_loopw [3] (fun i wr => ∃ (pre : List Elem), i = .int .i64 ((size (rowsOf pre) : Nat) : Int) ∧ J pre wr ∧ Pre b (rowsOf pre) ∧ Below w0.heap.size w0 wr ∧ Boxed wr box 29 v)
    (fun i _ => b.length - (intOf i).toNat)
  case atStart => exact ⟨[], rfl, h0, Pre.nil b, hb0, hbox⟩
  case round =>
    obtain ⟨pre, rfl, hj, hpre, hbr, hbx⟩ := hrel
    have hsl := hpre.size_le
    obtain ⟨k, hk⟩ : ∃ k, k = size (rowsOf pre) := ⟨_, rfl⟩
    rw [← hk] at hsl ⊢
    obtain ⟨u, hu, hub⟩ := rest_run v b wr (HV.out.below hbr) k hsl
    have hc := hbx.cell
    have HUB := Lib.hid hub
    have HJ := Lib.hid hj
    have HP := Lib.hid hpre
    have HB := Lib.hid hbr
    have HBX := Lib.hid hbx
    have HK := Lib.hid hk
    have hdl : (b.drop k).length ≤ 281474976710656 := by rw [List.length_drop]; omega
    clear hub hj hpre hbr hbx hk
    obtain ⟨x, m, r, hone⟩ : ∃ x m r, one (b.drop k) = (x, m, r) := ⟨_, _, _, rfl⟩
    have HONE := Lib.hid hone
    by_cases h0 : r = 0
    · subst h0
      obtain ⟨hp1, hm⟩ := HP.out.more (by rw [← HK.out, HONE.out])
      rw [← HK.out, HONE.out] at hp1 hm
      simp only [] at hp1 hm
      have hs1 := size_snoc (rowsOf pre) x
      have hle := hp1.size_le
      have hkm : k + m = size (rowsOf pre ++ [x]) := by rw [hs1, ← HK.out, hm]
      have hle2 : k + m ≤ b.length := by omega
      have HP1 := Lib.hid hp1
      have HKM := Lib.hid hkm
      have hm9 : 9 ≤ m := by omega
      clear hone hp1 hs1 hle hkm hm
      gi_wp2_with (refine ⟨trivial, ?_⟩; gi_at_call 27; refine (calls_in (one_any u (b.drop k) hdl _ HUB.out)).mono ?_; rintro e w1 ⟨v1, rfl, ho1, hb1⟩; simp only [HONE.out] at ho1 ⊢; have HB1 := Lib.hid (HB.out.trans (hb1.mono HB.out.size)); have HBX1 := Lib.hid (Boxed.below HBX.out hb1); obtain ⟨fn, tmps, assign, body, hy, hR⟩ := hY pre ⟨k + m, v1, x⟩ w1 (hJ _ _ _ HJ.out hb1) ⟨ho1.base 0 (Nat.zero_le _), HP1.out, HKM.out⟩; simp only [encs, Int.natCast_add] at hy; clear ho1 hb1)
      refine hR.mono ?_
      rintro e W3 (⟨rfl, hJ3, hk3⟩ | ⟨rfl, hJx3⟩)
      · gi_wp2
        go_roundw
        case rel => exact ⟨pre ++ [⟨k + m, v1, x⟩], by rw [rowsOf_snoc, ← HKM.out]; go_num, hJ3, by rw [rowsOf_snoc]; exact HP1.out, HB1.out.trans hk3.1, by
          have := HBX1.out
          unfold Boxed at this ⊢
          rw [hk3.2]
          exact this⟩
        case measure => simp [intOf]; omega
      · gi_wp2
        refine bodyPost_ret (results_none rfl _ _ _) rfl ?_
        exact ⟨⟨_, rfl⟩, .inr ⟨_, hJx3⟩⟩
    · have hr1 : ((r : Int) != 0) = true := by simp; omega
      have hr2 : ((r : Int) == 0) = false := by simp; omega
      have hfull : Full b (rowsOf pre) := ⟨HP.out, by rw [← HK.out, HONE.out]; exact h0⟩
      have hm0 : m = 0 := by
        have := (one_err (b := b.drop k) (by rw [HONE.out]; exact h0)).2.1
        rw [HONE.out] at this
        exact this
      subst hm0
      have HF := Lib.hid hfull
      clear hone hfull
      gi_wp2_with (refine ⟨trivial, ?_⟩; gi_at_call 27; refine (calls_in (one_any u (b.drop k) hdl _ HUB.out)).mono ?_; rintro e w1 ⟨v1, rfl, ho1, hb1⟩; simp only [HONE.out] at ho1 ⊢; have HJ1 := Lib.hid (hJ _ _ _ HJ.out hb1); clear ho1 hb1)
      refine ⟨fun _ h => (by cases h), ?_⟩
      gi_wp2
      refine bodyPost_ret (results_none rfl _ _ _) rfl ?_
      exact ⟨⟨_, rfl⟩, .inl ⟨pre, HF.out, HJ1.out⟩⟩

/-- b's All: its argument is boxed; the function value captures the box. -/
theorem all_any (v : Value) (b : List UInt8) (w : World) (hv : IsBytes w v b) :
    Calls Try.prog 31 #[v] w fun e w' => e = .returned (.func (.func 34) #[] #[.pointer (some ⟨w.heap.size, 0, none⟩)]) ∧ w' = w.alloc (.cells #[v] 29) := by
  obtain ⟨A, cap, rfl, -, -, -⟩ := hv
  go_enter Try.func31, Try.ntmps31
  go_wp2
  go_ret
  exact ⟨rfl, rfl⟩

/-- What All hands back tells of the frames. -/
theorem all_tells (v : Value) (b : List UInt8) (hl : b.length ≤ 281474976710656) (w0 : World) (hv : IsBytes w0 v b) (box : Nat) (w : World) (hb : Below w0.heap.size w0 w) (hbox : Boxed w box 29 v) :
    Tells 34 #[.pointer (some ⟨box, 0, none⟩)] encs (Keeps w0.heap.size box) (Known b) (fun xs => Full b (rowsOf xs)) w :=
  fun n l J Jx W hW hJ _ hY h0 => all1_any v b hl w0 hv box n l J Jx hJ hY W (hb.trans (hW.mono hb.size)) (Boxed.below hbox hW) h0

end Go.Proofs.Ytflolmldildjhaa
