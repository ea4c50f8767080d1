/- Contract of frame.All: an iterator that gives the frames' rows, one behind the other, and where each ends. -/
import Derived.Test.YtjkkclfndlfjhaaGreatDoorSeq
import Derived.Test.YtjkkclfndlfjhaaGreatDoorOne
import Derived.Shelf.Abstract
import Derived.Shelf.RegionOpen
import Derived.WalkKit
import Derived.OwnWalkIn
import Derived.TacticsInMore
import Derived.LoopNIn
import Derived.LoopIn
set_option linter.all false
namespace Go.Proofs.YtjkkclfndlfjhaaGreatDoor
open Go.RowKit Go.Shelf Crc Frm
attribute [local go_sem] Oper.semAt_some

/-- What comes: where the frame ends, the slice, what it holds. -/
structure Elem where
  end_ : Nat
  val : Value
  row : List UInt8
def encs (x : Elem) : Array Value := #[.int .i64 (x.end_ : Int), x.val]
def rowsOf (xs : List Elem) : List (List UInt8) := xs.map Elem.row
theorem rowsOf_snoc (xs : List Elem) (x : Elem) : rowsOf (xs ++ [x]) = rowsOf xs ++ [x.row] := by simp [rowsOf]

/-- The bytes begin with the frames of these rows. -/
def Pre (b : List UInt8) (rs : List (List UInt8)) : Prop := (∃ rest, b = join rs ++ rest) ∧ ∀ r ∈ rs, r.length ≤ 16384
/-- .. and what is behind them is none. -/
def Full (b : List UInt8) (rs : List (List UInt8)) : Prop := Pre b rs ∧ (one (b.drop (size rs))).2.2 ≠ 0

theorem Pre.drop {b : List UInt8} {rs : List (List UInt8)} (h : Pre b rs) : b = join rs ++ b.drop (size rs) := by
  obtain ⟨⟨rest, rfl⟩, _⟩ := h
  rw [← length_join, List.drop_left]
theorem Pre.size_le {b : List UInt8} {rs : List (List UInt8)} (h : Pre b rs) : size rs ≤ b.length := by
  have := congrArg List.length h.drop
  rw [List.length_append, length_join] at this
  omega
theorem size_snoc (rs : List (List UInt8)) (r : List UInt8) : size (rs ++ [r]) = size rs + (r.length + 9) := by rw [size_append]; simp [size]
/-- One frame more. -/
theorem Pre.more {b : List UInt8} {rs : List (List UInt8)} (h : Pre b rs) (h0 : (one (b.drop (size rs))).2.2 = 0) : Pre b (rs ++ [(one (b.drop (size rs))).1]) ∧ (one (b.drop (size rs))).2.1 = (one (b.drop (size rs))).1.length + 9 := by
  obtain ⟨h1, h2, h3⟩ := one_ok h0
  refine ⟨⟨⟨(b.drop (size rs)).drop (one (b.drop (size rs))).2.1, ?_⟩, ?_⟩, h2⟩
  · conv => lhs; rw [h.drop, h3]
    rw [join_append]
    simp [join]
  · intro r hr
    rw [List.mem_append] at hr
    rcases hr with hr | hr
    · exact h.2 r hr
    · simp at hr; subst hr; exact h1
theorem Pre.nil (b : List UInt8) : Pre b [] := ⟨⟨b, rfl⟩, fun r h => by cases h⟩

/-- What is known of what comes. -/
def Known (b : List UInt8) (pre : List Elem) (x : Elem) (W : World) : Prop := Owns W 0 x.val x.row ∧ Pre b (rowsOf pre ++ [x.row]) ∧ x.end_ = size (rowsOf pre ++ [x.row])

/-- What a round keeps that goes on: what lay below n₀, and the box that the iterator reads. -/
def Keeps (n₀ box : Nat) (W W' : World) : Prop := Below n₀ W W' ∧ W'.heap[box]? = W.heap[box]?
theorem Keeps.trans {n₀ box : Nat} {A B C : World} (h : Keeps n₀ box A B) (k : Keeps n₀ box B C) : Keeps n₀ box A C := ⟨h.1.trans k.1, k.2.trans h.2⟩

theorem Owns.base {w : World} {B : Nat} {v : Value} {bs : List UInt8} (h : Owns w B v bs) (B' : Nat) (hB : B' ≤ B) : Owns w B' v bs := by
  refine ⟨h.1, ?_⟩
  rcases h.2 with h' | ⟨g, cap, cur, e1, e2, e3⟩
  · exact .inl h'
  · exact .inr ⟨g, cap, cur, e1, by omega, e3⟩

theorem Boxed.below {W W' : World} {B : Nat} {t : TypeId} {v : Value} (h : Boxed W B t v) (hb : Below W.heap.size W W') : Boxed W' B t v := (hb.block B h.lt).trans h

/-- What is behind a place of a slice of bytes. -/
theorem rest_run (v : Value) (b : List UInt8) (w : World) (hv : IsBytes w v b) (k : Nat) (hk : k ≤ b.length) :
    ∃ u, (∀ wx, (Instr.slice 72 v (some (.int .i64 (k : Int))) none none).run Tryz.prog wx = .ok u wx) ∧ IsBytes w u (b.drop k) := by
  obtain ⟨A, cap, rfl, hl, hc, hr⟩ := hv
  obtain ⟨i0, hi0, hz0, hz1, hz2⟩ := info_parts info5
  have hlen : (b.drop k).length = b.length - k := List.length_drop
  refine ⟨.slice (if cap = k then A else A.map (·.add k)) (b.length - k) (cap - k), fun wx => ?_, ?_⟩
  · have h1 := run_underlying (P := Tryz.prog) Tryz.underlying72 wx
    simp [Instr.slice, Instr.sliceBounds, Instr.sliceBound, asIntOf, h1, hk, sizeOf, typeInfo, hi0, hz1]
  · by_cases hkb : k < b.length
    · obtain ⟨g, off, rfl, hcell⟩ := hr (by omega)
      rw [if_neg (by omega)]
      have := sub_bytes hcell k (b.length - k) (cap - k) (by omega) (by omega) (by simp only [maxLen] at hc ⊢; omega)
      rw [List.take_of_length_le (by omega)] at this
      simpa [Go.WideShapes.add_plain] using this
    · refine ⟨_, cap - k, by rw [hlen], by omega, by simp only [maxLen] at hc ⊢; omega, fun h => by omega⟩

theorem calls_in {n : Nat} {f : FuncId} {args : Array Value} {w : World} {R : Ending → World → Prop} (h : Calls Tryz.prog f args w R) : CallsIn Fence.wide n Tryz.prog f args w R := callsIn_wide.2 h

set_option maxRecDepth 100000 in
set_option maxHeartbeats 1600000 in
/-- THE ITERATOR: every loop body that keeps what lay, and its box. -/
theorem all1_any (v : Value) (b : List UInt8) (hl : b.length ≤ 281474976710656) (w0 : World) (hv : IsBytes w0 v b) (box n l : Nat) (J Jx : List Elem → World → Prop) (hJ : Lasts J)
    (hY : ∀ pre x W1, J pre W1 → Known b pre x W1 → YieldAt Fence.wide n Tryz.prog l (encs x) W1 fun e W' =>
      (e = .returned (.bool true) ∧ J (pre ++ [x]) W' ∧ Keeps w0.heap.size box W1 W') ∨ (e = .returned (.bool false) ∧ Jx (pre ++ [x]) W'))
    (W : World) (hb0 : Below w0.heap.size w0 W) (hbox : Boxed W box 72 v) (h0 : J [] W) :
    CallsIn Fence.wide (n + 1) Tryz.prog 100 #[.func (.yield l) #[] #[], .pointer (some ⟨box, 0, none⟩)] W fun e W' => (∃ v, e = .returned v) ∧
      ((∃ xs, Full b (rowsOf xs) ∧ J xs W') ∨ (∃ pre, Jx pre W')) := by
  have HV := Lib.hid hv
  clear hv
  refine callsIn_of_wp Tryz.func100 rfl trivial ?_
  simp only [Tryz.ntmps100, List.size_toArray, List.length_cons, List.length_nil, Nat.reduceAdd, Nat.reduceSub, Array.replicate_succ, Array.replicate_zero, List.push_toArray, List.append_toArray, List.nil_append, List.cons_append]
  gi_wp2
  gi_loopw [3] (fun i wr => ∃ (pre : List Elem), i = .int .i64 ((size (rowsOf pre) : Nat) : Int) ∧ J pre wr ∧ Pre b (rowsOf pre) ∧ Below w0.heap.size w0 wr ∧ Boxed wr box 72 v)
    (fun i _ => b.length - (intOf i).toNat)
  case atStart => exact ⟨[], rfl, h0, Pre.nil b, hb0, hbox⟩
  case round =>
    obtain ⟨pre, rfl, hj, hpre, hbr, hbx⟩ := hrel
    have hsl := hpre.size_le
    obtain ⟨k, hk⟩ : ∃ k, k = size (rowsOf pre) := ⟨_, rfl⟩
    rw [← hk] at hsl ⊢
    obtain ⟨u, hu, hub⟩ := rest_run v b wr (HV.out.below hbr) k hsl
    have hc := hbx.cell
    have HUB := Lib.hid hub
    have HJ := Lib.hid hj
    have HP := Lib.hid hpre
    have HB := Lib.hid hbr
    have HBX := Lib.hid hbx
    have HK := Lib.hid hk
    have hdl : (b.drop k).length ≤ 281474976710656 := by rw [List.length_drop]; omega
    clear hub hj hpre hbr hbx hk
    obtain ⟨x, m, r, hone⟩ : ∃ x m r, one (b.drop k) = (x, m, r) := ⟨_, _, _, rfl⟩
    have HONE := Lib.hid hone
    by_cases h0 : r = 0
    · subst h0
      obtain ⟨hp1, hm⟩ := HP.out.more (by rw [← HK.out, HONE.out])
      rw [← HK.out, HONE.out] at hp1 hm
      simp only [] at hp1 hm
      have hs1 := size_snoc (rowsOf pre) x
      have hle := hp1.size_le
      have hkm : k + m = size (rowsOf pre ++ [x]) := by rw [hs1, ← HK.out, hm]
      have hle2 : k + m ≤ b.length := by omega
      have HP1 := Lib.hid hp1
      have HKM := Lib.hid hkm
      have hm9 : 9 ≤ m := by omega
      clear hone hp1 hs1 hle hkm hm
      gi_wp2_with (refine ⟨trivial, ?_⟩; gi_at_call 48; refine (calls_in (one_any u (b.drop k) hdl _ HUB.out)).mono ?_; rintro e w1 ⟨v1, rfl, ho1, hb1⟩; simp only [HONE.out] at ho1 ⊢; have HB1 := Lib.hid (HB.out.trans (hb1.mono HB.out.size)); have HBX1 := Lib.hid (Boxed.below HBX.out hb1); obtain ⟨fn, tmps, assign, body, hy, hR⟩ := hY pre ⟨k + m, v1, x⟩ w1 (hJ _ _ _ HJ.out hb1) ⟨ho1.base 0 (Nat.zero_le _), HP1.out, HKM.out⟩; simp only [encs, Int.natCast_add] at hy; clear ho1 hb1)
      refine hR.mono ?_
      rintro e W3 (⟨rfl, hJ3, hk3⟩ | ⟨rfl, hJx3⟩)
      · gi_wp2
        go_roundw
        case rel => exact ⟨pre ++ [⟨k + m, v1, x⟩], by rw [rowsOf_snoc, ← HKM.out]; go_num, hJ3, by rw [rowsOf_snoc]; exact HP1.out, HB1.out.trans hk3.1, by
          have := HBX1.out
          unfold Boxed at this ⊢
          rw [hk3.2]
          exact this⟩
        case measure => simp [intOf]; omega
      · gi_wp2
        refine bodyPost_ret (results_none rfl _ _ _) rfl ?_
        exact ⟨⟨_, rfl⟩, .inr ⟨_, hJx3⟩⟩
    · have hr1 : ((r : Int) != 0) = true := by simp; omega
      have hr2 : ((r : Int) == 0) = false := by simp; omega
      have hfull : Full b (rowsOf pre) := ⟨HP.out, by rw [← HK.out, HONE.out]; exact h0⟩
      have hm0 : m = 0 := by
        have := (one_err (b := b.drop k) (by rw [HONE.out]; exact h0)).2.1
        rw [HONE.out] at this
        exact this
      subst hm0
      have HF := Lib.hid hfull
      clear hone hfull
      gi_wp2_with (refine ⟨trivial, ?_⟩; gi_at_call 48; refine (calls_in (one_any u (b.drop k) hdl _ HUB.out)).mono ?_; rintro e w1 ⟨v1, rfl, ho1, hb1⟩; simp only [HONE.out] at ho1 ⊢; have HJ1 := Lib.hid (hJ _ _ _ HJ.out hb1); clear ho1 hb1)
      refine ⟨fun _ h => (by cases h), ?_⟩
      gi_wp2
      refine bodyPost_ret (results_none rfl _ _ _) rfl ?_
      exact ⟨⟨_, rfl⟩, .inl ⟨pre, HF.out, HJ1.out⟩⟩

/-- b's All: its argument is boxed; the function value captures the box. -/
theorem all_any (v : Value) (b : List UInt8) (w : World) (hv : IsBytes w v b) :
    Calls Tryz.prog 47 #[v] w fun e w' => e = .returned (.func (.func 100) #[] #[.pointer (some ⟨w.heap.size, 0, none⟩)]) ∧ w' = w.alloc (.cells #[v] 72) := by
  obtain ⟨A, cap, rfl, -, -, -⟩ := hv
  go_enter Tryz.func47, Tryz.ntmps47
  go_wp2
  go_ret
  exact ⟨rfl, rfl⟩

/-- What All hands back tells of the frames. -/
theorem all_tells (v : Value) (b : List UInt8) (hl : b.length ≤ 281474976710656) (w0 : World) (hv : IsBytes w0 v b) (box : Nat) (w : World) (hb : Below w0.heap.size w0 w) (hbox : Boxed w box 72 v) :
    Tells 100 #[.pointer (some ⟨box, 0, none⟩)] encs (Keeps w0.heap.size box) (Known b) (fun xs => Full b (rowsOf xs)) w :=
  fun n l J Jx W hW hJ _ hY h0 => all1_any v b hl w0 hv box n l J Jx hJ hY W (hb.trans (hW.mono hb.size)) (Boxed.below hbox hW) h0

end Go.Proofs.YtjkkclfndlfjhaaGreatDoor
/- Contract of frame.Rows: all rows, where the last one ends, what is wrong behind it. -/
namespace Go.Proofs.YtjkkclfndlfjhaaGreatDoor
open Go.RowKit Go.Shelf Crc Frm
attribute [local go_sem] Oper.semAt_some

theorem IsBytes.cells {w : World} {u : Value} {r : List UInt8} (h : IsBytes w u r) (hp : 0 < r.length) : ∃ b c t z, u.ownBlock = some b ∧ w.heap[b]? = some (.cells c t z) := by
  obtain ⟨A, cap, rfl, _, _, hr⟩ := h
  obtain ⟨b, off, rfl, hcell⟩ := hr hp
  have := hcell 0 _ (List.getElem?_eq_getElem hp)
  simp only [World.cell?] at this
  split at this
  · rename_i c t z hb
    exact ⟨b, c, t, z, rfl, hb⟩
  · cases this

theorem IsBytes.putObj {w : World} {u : Value} {r : List UInt8} (h : IsBytes w u r) {l : Nat} {o : Obj} (o' : Obj) (hl : w.heap[l]? = some o) (ho : o.isCells = false) : IsBytes (w.putObj l o') u r := by
  refine h.kept (grownBy_putObj' w l o') fun hp e => ?_
  obtain ⟨b, c, t, z, hb, hc⟩ := h.cells hp
  rw [hb] at e
  cases e
  rw [hl] at hc
  cases hc
  cases ho

theorem OwnRows.putObj {w : World} {base : Nat} {v : Value} {rs : List (List UInt8)} (h : OwnRows w base v rs) {l : Nat} {o : Obj} (o' : Obj) (hl : w.heap[l]? = some o) (ho : o.isCells = false) : OwnRows (w.putObj l o') base v rs := by
  obtain ⟨us, h1, h2⟩ := h
  exact ⟨us, ownsRow_putObj h1 o' hl ho, fun i u r hu hr => ⟨(h2 i u r hu hr).1.putObj o' hl ho, (h2 i u r hu hr).2⟩⟩

theorem Boxed.putObj {W : World} {B : Nat} {t : TypeId} {v : Value} (h : Boxed W B t v) {l : Nat} {o : Obj} (o' : Obj) (hl : W.heap[l]? = some o) (ho : o.isCells = false) : Boxed (W.putObj l o') B t v := by
  refine h.kept (grownBy_putObj' W l o') fun e => ?_
  cases e
  have := (show W.heap[B]? = _ from h).symm.trans hl
  cases this
  cases ho

theorem below_putObj {n₀ : Nat} {w W : World} (h : Below n₀ w W) {l : Nat} {o : Obj} (o' : Obj) (hl : W.heap[l]? = some o) (hn : n₀ ≤ l) : Below n₀ w (W.putObj l o') :=
  h.grown (grownBy_putObj' W l o') (by have := (Array.getElem?_eq_some_iff.1 hl).1; omega) (fun k e => by cases e; omega)

theorem heap_putObj {W : World} {box l : Nat} {o : Obj} (o' : Obj) (hne : box ≠ l) (_hl : W.heap[l]? = some o) : (W.putObj l o').heap[box]? = W.heap[box]? := World.putObj_heap_other hne

/-- A slice of bytes does not lie in a variable's box of another kind. -/
theorem Boxed.no_bytes {W : World} {B : Nat} {t : TypeId} {v : Value} (h : Boxed W B t v) (hv : ∀ c : UInt8, v ≠ .int .u8 (c.toNat : Int)) {u : Value} {r : List UInt8} (hu : IsBytes W u r) (hp : 0 < r.length) : u.ownBlock ≠ some B := by
  intro e
  obtain ⟨A, cap, rfl, _, _, hr⟩ := hu
  obtain ⟨b, off, rfl, hcell⟩ := hr hp
  simp only [Value.ownBlock, Option.some.injEq] at e
  subst e
  have := hcell 0 _ (List.getElem?_eq_getElem hp)
  simp only [World.cell?, show W.heap[b]? = _ from h, Nat.add_zero] at this
  cases off with
  | zero => simp at this; exact hv _ this
  | succ k => simp at this

/-- Bytes of the call's own do not lie in a row of slices. -/
theorem off_typed {W : World} {B base : Nat} {u v : Value} {r : List UInt8} {rs : List (List UInt8)} (hu : Owns W B u r) (hv : OwnRows W base v rs) : 0 < r.length → u.ownBlock ≠ v.ownBlock := by
  intro hp e
  obtain ⟨us, ho, _⟩ := hv
  rcases hu.2 with ⟨_, h0⟩ | ⟨g, cap, cur, rfl, _, hg, _⟩
  · omega
  · rcases ho.2 with ⟨rfl, _⟩ | ⟨g', cap', cur', rfl, _, hg', _⟩
    · simp [Value.ownBlock] at e
    · simp only [Value.ownBlock, Option.some.injEq] at e
      subst e
      rw [hg] at hg'
      simp at hg'

theorem OwnRows.base {w : World} {B : Nat} {v : Value} {rs : List (List UInt8)} (h : OwnRows w B v rs) (B' : Nat) (hB : B' ≤ B) : OwnRows w B' v rs := by
  obtain ⟨us, ho, h2⟩ := h
  refine ⟨us, ⟨ho.1, ?_⟩, h2⟩
  rcases ho.2 with h' | ⟨g, cap, cur, e1, e2, e3⟩
  · exact .inl h'
  · exact .inr ⟨g, cap, cur, e1, by omega, e3⟩

/-- What Rows' loop carries. -/
def Gathered (w : World) (base : Nat) (pre : List Elem) (W : World) : Prop :=
  (∃ out, Boxed W w.heap.size 79 out ∧ OwnRows W base out (rowsOf pre)) ∧ Boxed W (w.heap.size + 1) 3 (.int .i64 ((size (rowsOf pre) : Nat) : Int)) ∧ Below w.heap.size w W ∧ base ≤ W.heap.size

theorem gathered_lasts (w : World) (base : Nat) : Lasts (Gathered w base) := fun s W W' h hb => by
  obtain ⟨⟨out, h1, h2⟩, h3, h4, h5⟩ := h
  exact ⟨⟨out, Boxed.below h1 hb, h2.below hb (Nat.le_refl _)⟩, Boxed.below h3 hb, h4.trans (hb.mono h4.size), Nat.le_trans h5 hb.size⟩
theorem gathered_bears (w : World) (base B : Nat) (hB : w.heap.size ≤ B) : Bears B (Gathered w base) := fun s W l o o' h hl hk ho => by
  obtain ⟨⟨out, h1, h2⟩, h3, h4, h5⟩ := h
  have hb := below_putObj h4 o' hk (by omega)
  exact ⟨⟨out, Boxed.putObj h1 o' hk ho, h2.putObj o' hk ho⟩, Boxed.putObj h3 o' hk ho, hb, Nat.le_trans h5 (below_putObj (Below.refl 0 W) o' hk (Nat.zero_le _)).size⟩

theorem size_ge (rs : List (List UInt8)) : 9 * rs.length ≤ size rs := by
  induction rs with
  | nil => simp [size]
  | cons x xs ih => simp only [size, List.length_cons]; omega

/-- A block that is no row of slices, below the base, does not turn at an append. -/
theorem own_ne {W : World} {base B : Nat} {out : Value} {rs : List (List UInt8)} (h : OwnRows W base out rs) (hB : B < base) : some B ≠ out.ownBlock := fun e => by have := (h.lt B e.symm).1; omega

/-- ONE ROW MORE IS GATHERED: what holds behind the append, and behind the two stores. -/
theorem gather_step {w W w1 : World} {out v' : Value} {rs rs' : List (List UInt8)} {k k' : Int} {tmp : Obj} (h1 : Boxed W w.heap.size 79 out) (h2 : OwnRows W (w.heap.size + 3) out rs) (h3 : Boxed W (w.heap.size + 1) 3 (.int .i64 k))
    (h4 : Below w.heap.size w W) (h5 : w.heap.size + 3 ≤ W.heap.size) (ho : OwnRows w1 (w.heap.size + 3) v' rs') (_hp : 0 < rs'.length) (hg : (W.alloc tmp).grownBy w1 out.ownBlock) :
    Boxed w1 w.heap.size 79 out ∧ Boxed (w1.setCell ⟨w.heap.size, 0, none⟩ v') (w.heap.size + 1) 3 (.int .i64 k) ∧
    KeepsOthers W ((w1.setCell ⟨w.heap.size, 0, none⟩ v').setCell ⟨w.heap.size + 1, 0, none⟩ (.int .i64 k')) ∧
    Keeps w.heap.size (w.heap.size + 1 + 1) W ((w1.setCell ⟨w.heap.size, 0, none⟩ v').setCell ⟨w.heap.size + 1, 0, none⟩ (.int .i64 k')) ∧
    Boxed ((w1.setCell ⟨w.heap.size, 0, none⟩ v').setCell ⟨w.heap.size + 1, 0, none⟩ (.int .i64 k')) w.heap.size 79 v' ∧
    OwnRows ((w1.setCell ⟨w.heap.size, 0, none⟩ v').setCell ⟨w.heap.size + 1, 0, none⟩ (.int .i64 k')) (w.heap.size + 3) v' rs' ∧
    Boxed ((w1.setCell ⟨w.heap.size, 0, none⟩ v').setCell ⟨w.heap.size + 1, 0, none⟩ (.int .i64 k')) (w.heap.size + 1) 3 (.int .i64 k') ∧
    Below w.heap.size w ((w1.setCell ⟨w.heap.size, 0, none⟩ v').setCell ⟨w.heap.size + 1, 0, none⟩ (.int .i64 k')) ∧
    w.heap.size + 3 ≤ ((w1.setCell ⟨w.heap.size, 0, none⟩ v').setCell ⟨w.heap.size + 1, 0, none⟩ (.int .i64 k')).heap.size := by
  have b1 : Boxed w1 w.heap.size 79 out := Boxed.kept (Boxed.alloc h1 tmp) hg (own_ne h2 (by omega))
  have e1 : Boxed w1 (w.heap.size + 1) 3 (.int .i64 k) := Boxed.kept (Boxed.alloc h3 tmp) hg (own_ne h2 (by omega))
  obtain ⟨W2, hW2⟩ : ∃ W2, W2 = w1.setCell ⟨w.heap.size, 0, none⟩ v' := ⟨_, rfl⟩
  have g2 := grownBy_setCell' w1 w.heap.size v'
  rw [← hW2] at g2 ⊢
  have b2 : Boxed W2 w.heap.size 79 v' := by rw [hW2]; exact Boxed.set v' b1
  have e2 : Boxed W2 (w.heap.size + 1) 3 (.int .i64 k) := Boxed.kept e1 g2 (by simp)
  have nz : ∀ {X : World} {B : Nat} {y : Value}, Boxed X B 79 y → (∃ g c n, y = .slice g n c) → ∀ u r, IsBytes X u r → 0 < r.length → u.ownBlock ≠ some B := fun hb hy u r hu hpr => by
    obtain ⟨g, c, n, rfl⟩ := hy
    exact Boxed.no_bytes hb (fun c e => by cases e) hu hpr
  have hout : ∃ g c n, out = .slice g n c := by
    obtain ⟨us, h, _⟩ := h2
    rcases h.2 with ⟨rfl, _⟩ | ⟨g, cap, cur, rfl, _⟩
    · exact ⟨_, _, _, rfl⟩
    · exact ⟨_, _, _, rfl⟩
  have o2 : OwnRows W2 (w.heap.size + 3) v' rs' := ho.kept g2 (fun e => own_ne ho (by omega) e.symm) (nz b1 hout)
  obtain ⟨W4, hW4⟩ : ∃ W4, W4 = W2.setCell ⟨w.heap.size + 1, 0, none⟩ (.int .i64 k') := ⟨_, rfl⟩
  have g4 := grownBy_setCell' W2 (w.heap.size + 1) (.int .i64 k')
  rw [← hW4] at g4 ⊢
  have o4 : OwnRows W4 (w.heap.size + 3) v' rs' := o2.kept g4 (fun e => own_ne o2 (by omega) e.symm) (fun u r hu hpr => Boxed.no_bytes e2 (fun c e => by cases e) hu hpr)
  have b4 : Boxed W4 w.heap.size 79 v' := Boxed.kept b2 g4 (by simp)
  have e4 : Boxed W4 (w.heap.size + 1) 3 (.int .i64 k') := by rw [hW4]; exact Boxed.set _ e2
  have s1 := hg.size
  have s2 := g2.size
  have s4 := g4.size
  rw [World.size_alloc] at s1
  have row_cells : ∀ j o, out.ownBlock = some j → (W.alloc tmp).heap[j]? = some o → o.isCells = true := by
    intro j o ej hj
    obtain ⟨us, h, _⟩ := h2
    rcases (World.ownsRow.alloc h tmp).2 with ⟨rfl, _⟩ | ⟨g, cap, cur, rfl, _, hgb, _⟩
    · simp [Value.ownBlock] at ej
    · simp only [Value.ownBlock, Option.some.injEq] at ej
      subst ej
      rw [hgb] at hj
      cases hj
      rfl
  have k1 : KeepsOthers W W4 := by
    refine ((KeepsOthers.alloc W tmp).trans (KeepsOthers.of_grownBy hg fun j o ej hj => row_cells j o ej hj)).trans ?_
    rw [hW4, hW2]
    exact (KeepsOthers.setCell _ _ _).trans (KeepsOthers.setCell _ _ _)
  have bel : ∀ {n₀ : Nat} {X : World}, n₀ ≤ w.heap.size → Below n₀ X W → Below n₀ X W4 := fun hn hb => by
    refine (((hb.alloc (by omega) tmp).grown hg (by rw [World.size_alloc]; omega) fun j ej => ?_).grown g2 (by omega) fun j ej => ?_).grown g4 (by omega) fun j ej => ?_
    · have := (h2.lt j ej).1; omega
    · cases ej; omega
    · cases ej; omega
  refine ⟨b1, e2, k1, ⟨bel (Nat.le_refl _) (Below.refl _ _), ?_⟩, b4, o4, e4, bel (Nat.le_refl _) h4, by omega⟩
  have q1 := g4.block (w.heap.size + 1 + 1) (by omega) (by simp)
  have q2 := g2.block (w.heap.size + 1 + 1) (by omega) (by simp; omega)
  have q3 := hg.block (w.heap.size + 1 + 1) (by rw [World.size_alloc]; omega) (own_ne h2 (by omega))
  have q4 := Below.heap_alloc W tmp (w.heap.size + 1 + 1) (by omega)
  exact ((q1.trans q2).trans q3).trans q4

set_option maxRecDepth 100000 in
set_option maxHeartbeats 1600000 in
/-- ROWS. -/
theorem rows_any (v : Value) (b : List UInt8) (hl : b.length ≤ 50000000000000) (w : World) (hv : IsBytes w v b) :
    Calls Tryz.prog 13 #[v] w fun e w' => ∃ v' rs, e = .returned (.tuple #[v', .int .i64 ((size rs : Nat) : Int), .int .i64 ((if size rs = b.length then 0 else (one (b.drop (size rs))).2.2 : Nat) : Int)]) ∧
      Full b rs ∧ IsRows w' v' rs ∧ Below w.heap.size w w' := by
  refine (callsIn_wide (n := 3)).1 ?_
  have HV := Lib.hid hv
  obtain ⟨A, cap, rfl, hlc, hcm, -⟩ := hv
  refine callsIn_of_wp_marks Tryz.func13 rfl trivial ?_
  simp only [Tryz.ntmps13, List.size_toArray, List.length_cons, List.length_nil, Nat.reduceAdd, Nat.reduceSub, Array.replicate_succ, Array.replicate_zero, List.push_toArray, List.append_toArray, List.nil_append, List.cons_append]
  gi_wp2_with (refine ⟨trivial, ?_⟩; gi_at_call 47; refine (calls_in (all_any _ b _ (HV.out.below (((Below.refl _ w).alloc (Nat.le_refl _) _).alloc (by simp) _)))).mono ?_; rintro e w' ⟨rfl, rfl⟩)
  have bO : Boxed ((w.alloc (.cells #[.slice none 0 0] 79)).alloc (.cells #[.int .i64 0] 3)) w.heap.size 79 (.slice none 0 0) := Boxed.alloc (Boxed.new w 79 _) _
  have bE := Boxed.new (w.alloc (.cells #[.slice none 0 0] 79)) 3 (.int .i64 0)
  have bB := Boxed.new ((w.alloc (.cells #[.slice none 0 0] 79)).alloc (.cells #[.int .i64 0] 3)) 72 (.slice A b.length cap)
  rw [World.size_alloc] at bE
  rw [World.size_alloc, World.size_alloc] at bB
  have bO2 := Boxed.alloc bO (.cells #[.slice A b.length cap] 72)
  have bE2 := Boxed.alloc bE (.cells #[.slice A b.length cap] 72)
  have hB0 : Below w.heap.size w (((w.alloc (.cells #[.slice none 0 0] 79)).alloc (.cells #[.int .i64 0] 3)).alloc (.cells #[.slice A b.length cap] 72)) := (((Below.refl _ w).alloc (Nat.le_refl _) _).alloc (by simp) _).alloc (by simp; omega) _
  have hsz : (((w.alloc (.cells #[.slice none 0 0] 79)).alloc (.cells #[.int .i64 0] 3)).alloc (.cells #[.slice A b.length cap] 72)).heap.size = w.heap.size + 3 := by simp
  obtain ⟨W0, hW0⟩ : ∃ W0, W0 = ((w.alloc (.cells #[.slice none 0 0] 79)).alloc (.cells #[.int .i64 0] 3)).alloc (.cells #[.slice A b.length cap] 72) := ⟨_, rfl⟩
  rw [← hW0] at bO2 bE2 bB hB0 hsz ⊢
  have HB0 := Lib.hid hB0
  have BO := Lib.hid bO2
  have BE := Lib.hid bE2
  have BB := Lib.hid bB
  clear hW0 bO bE bO2 bE2 bB hB0
  refine wp_range (n := 1) (gf := 100) (lb := #[.pointer (some ⟨w.heap.size + 1 + 1, 0, none⟩)]) rfl (enters_of Tryz.func100 (by kernel_rfl) rfl)
    (all_tells _ b (by omega) w HV.out (w.heap.size + 1 + 1) W0 HB0.out BB.out) (Below.refl _ _) Keeps.trans
    (fun W l o o' hl hk ho => ⟨below_putObj (Below.refl _ _) o' hk (by omega), heap_putObj o' (by omega) hk⟩) (fun _ => rfl)
    (fun pre x W l o o' h hl hk ho => ⟨ownsRow_putObj h.1 o' hk ho, h.2⟩)
    (Gathered w (w.heap.size + 3)) (fun _ _ _ => False) (gathered_lasts _ _) (gathered_bears _ _ _ (by omega)) (fun _ _ _ _ h _ => h) (fun _ _ _ _ _ _ h _ _ _ => h)
    ⟨⟨_, BO.out, OwnRows.nil _ _⟩, BE.out, HB0.out, by omega⟩
    (fun x => { tmps := #[.slice A b.length cap, undef, .slice none 0 0, .int .i64 0, .int .i64 0, .pointer (some ⟨w.heap.size, 0, none⟩), .pointer (some ⟨w.heap.size + 1, 0, none⟩), .int .i64 (x.end_ : Int), x.val, undef, undef, undef, .slice A b.length cap,
      .func (.func 100) #[] #[.pointer (some ⟨w.heap.size + 1 + 1, 0, none⟩)], .int .i64 (x.end_ : Int), x.val, undef, undef, undef, undef, undef, undef, undef, undef, undef, undef, undef, undef, undef, undef, undef, undef, undef, undef, undef, undef, undef, undef], defers := [] }) ?assign ?body ?done ?stop
  case assign =>
    intro l x W K hK
    simp only [encs]
    gi_wp2
    exact hK
  case body =>
    rintro l pre ⟨xe, xv, xr⟩ W ⟨⟨out, h1, h2⟩, h3, h4, h5⟩ ⟨k1, k2, k3⟩
    simp only [] at k1 k2 k3
    obtain ⟨Ax, capx, rfl, -, -, -⟩ := k1.bytes
    have hc := h1.cell
    have hle := k2.size_le
    have hge := size_ge (rowsOf pre ++ [xr])
    rw [List.length_append, List.length_singleton] at hge
    have HX := Lib.hid (k1.bytes.below ((Below.refl W.heap.size W).alloc (Nat.le_refl _) (.cells #[.slice Ax xr.length capx] 72)))
    have HOFF := Lib.hid (off_typed k1 h2)
    have H2 := Lib.hid (h2.below ((Below.refl W.heap.size W).alloc (Nat.le_refl _) (.cells #[.slice Ax xr.length capx] 72)) (Nat.le_refl _))
    have hn : ((rowsOf pre).length + 1) * 24 ≤ 140737488355328 := by omega
    have H2' := Lib.hid h2
    have H1 := Lib.hid h1
    have H3 := Lib.hid h3
    have H4 := Lib.hid h4
    have K3 := Lib.hid k3
    clear k1 k2 h1 h2 h3 h4 k3 hle hge
    gi_wp2_with (gi_at_builtin; refine wplIn_append_row _ rfl (.tmp 16) (.tmp 18) rfl (w.heap.size + 3) out _ rfl H2.out (.slice Ax xr.length capx) xr ⟨W.heap.size, 0, none⟩ 1 rfl (cell_one_new _ _ _ 0 _ rfl) HX.out HOFF.out hn (by simp; omega) ?_; intro v' w1 ho hg _; obtain ⟨g', cap', hv', _, _⟩ := ho.form (by simp); rw [List.length_append, List.length_singleton] at hv'; subst hv'; obtain ⟨q1, q2, q3, q4, q5, q6, q7, q8, q9⟩ := gather_step (k' := (xe : Int)) H1.out H2'.out H3.out H4.out h5 ho (by simp) hg; have hc1 := q1.cell; have hf1 := q1.frozen; have hc2 := q2.cell; have hf2 := q2.frozen; have Q3 := Lib.hid q3; have Q4 := Lib.hid q4; have Q5 := Lib.hid q5; have Q6 := Lib.hid q6; have Q7 := Lib.hid q7; have Q8 := Lib.hid q8; clear ho hg q1 q2 q3 q4 q5 q6 q7 q8)
    refine ⟨Q3.out, Q4.out, ⟨⟨_, Q5.out, ?_⟩, ?_, Q8.out, q9⟩⟩
    · rw [rowsOf_snoc]; exact Q6.out
    · rw [rowsOf_snoc, ← K3.out]; exact Q7.out
  case done =>
    rintro D ys W hD hfull ⟨⟨out, h1, h2⟩, h3, h4, h5⟩ hK
    have hc1 := h1.cell
    have hc2 := h3.cell
    have HF := Lib.hid hfull
    have H1 := Lib.hid h1
    have H2 := Lib.hid h2
    have H3 := Lib.hid h3
    have H4 := Lib.hid h4
    have HK := Lib.hid hK
    have hle := hfull.1.size_le
    obtain ⟨k, hk⟩ : ∃ k, k = size (rowsOf ys) := ⟨_, rfl⟩
    rw [← hk] at hc2 hle
    have K := Lib.hid hk
    clear hfull h1 h2 h3 h4 hK hk
    by_cases he : k = b.length
    · have e1 : ((k : Int) == (b.length : Int)) = true := by simp [he]
      gi_wp2
      gi_region
      all_goals
        gi_wp2
        refine ⟨by simp, .inl ⟨_, _, rfl, run_takeDeferred HK.out, ?_⟩⟩
        refine ⟨_, results_tmp3 rfl _ _ _, out, rowsOf ys, ?_, HF.out, (OwnRows.putObj (w := W.drew) (H2.out.below (Below.refl _ W).drew (Nat.le_refl _)) _ HK.out rfl).rows, below_putObj (W := W.drew) H4.out.drew _ HK.out (by omega)⟩
        rw [← K.out, if_pos he, he]
        rfl
    · have e1 : ((k : Int) == (b.length : Int)) = false := by simp; omega
      have hkl : k ≤ b.length := by omega
      obtain ⟨u, hu, hub⟩ := rest_run (.slice A b.length cap) b W (HV.out.below H4.out) k hkl
      have HUB := Lib.hid hub
      have hdl : (b.drop k).length ≤ 281474976710656 := by rw [List.length_drop]; omega
      clear hub
      obtain ⟨x, m, r, hone⟩ : ∃ x m r, one (b.drop k) = (x, m, r) := ⟨_, _, _, rfl⟩
      have HONE := Lib.hid hone
      clear hone
      gi_wp2_with (refine ⟨trivial, ?_⟩; gi_at_call 48; refine (calls_in (one_any _ (b.drop k) hdl _ HUB.out)).mono ?_; rintro e w1 ⟨v1, rfl, ho1, hb1⟩; simp only [HONE.out] at ho1 ⊢; have hc3 := (Boxed.below H1.out hb1).cell; have hc4 := (Boxed.below H3.out hb1).cell; rw [← K.out] at hc4; have H2' := Lib.hid (H2.out.below hb1 (Nat.le_refl _)); have H4' := Lib.hid (H4.out.trans (hb1.mono H4.out.size)); have HK' := Lib.hid ((hb1.block D (Array.getElem?_eq_some_iff.1 HK.out).1).trans HK.out); clear hb1 ho1)
      gi_region
      all_goals
        gi_wp2
        refine ⟨by simp, .inl ⟨_, _, rfl, run_takeDeferred HK'.out, ?_⟩⟩
        refine ⟨_, results_tmp3 rfl _ _ _, out, rowsOf ys, ?_, HF.out, (OwnRows.putObj (w := w1.drew) (H2'.out.below (Below.refl _ w1).drew (Nat.le_refl _)) _ HK'.out rfl).rows, below_putObj (W := w1.drew) H4'.out.drew _ HK'.out (by omega)⟩
        rw [← K.out, if_neg he, HONE.out]
        rfl
  case stop =>
    rintro D c pre W _ h _
    exact h.elim

end Go.Proofs.YtjkkclfndlfjhaaGreatDoor
