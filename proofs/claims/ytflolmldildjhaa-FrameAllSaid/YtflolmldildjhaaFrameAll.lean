/- FrameAll: frames are gone over one by one, as far as one likes. -/
import Derived.Test.YtflolmldildjhaaJn
import Derived.Test.YtflolmldildjhaaRws
import Derived.Test.YtflolmldildjhaaRnd
import Derived.Test.YtflolmldildjhaaArg
import Derived.Test.YtflolmldildjhaaAwake3
import Derived.Test.YtflolmldildjhaaForm
namespace Go.Proofs.Ytflolmldildjhaa.lawFrameAll
open Go.ChangeShapes Go.WideShapes Go.ChangeAt Go.RowKit Go.Shelf Crc Frm
attribute [local go_sem] Oper.semAt_some

theorem boxes3 {w w0 : World} {t1 t2 t3 : TypeId} {a b c : Value} (hb : Below (((w.alloc (.cells #[a] t1)).alloc (.cells #[b] t2)).alloc (.cells #[c] t3)).heap.size (((w.alloc (.cells #[a] t1)).alloc (.cells #[b] t2)).alloc (.cells #[c] t3)) w0) :
    Boxed w0 w.heap.size t1 a ∧ Boxed w0 (w.heap.size + 1) t2 b ∧ Boxed w0 (w.heap.size + 1 + 1) t3 c ∧ Below w.heap.size w w0 ∧ w.heap.size + 3 ≤ w0.heap.size := by
  have b2 := Boxed.new (w.alloc (.cells #[a] t1)) t2 b
  have b3 := Boxed.new ((w.alloc (.cells #[a] t1)).alloc (.cells #[b] t2)) t3 c
  rw [World.size_alloc] at b2
  rw [World.size_alloc, World.size_alloc] at b3
  have hs := hb.size
  simp only [World.size_alloc] at hs
  refine ⟨Boxed.below (Boxed.alloc (Boxed.alloc (Boxed.new w t1 a) _) _) hb, Boxed.below (Boxed.alloc b2 _) hb, Boxed.below b3 hb, ?_, hs⟩
  exact ((((Below.refl _ w).alloc (Nat.le_refl _) _).alloc (by simp) _).alloc (by simp; omega) _).trans (hb.mono (by simp; omega))

theorem cell_putObj {W : World} {b off l : Nat} {o : Obj} {u : Value} (o' : Obj) (h : W.cell? ⟨b, off, none⟩ = some u) (hl : W.heap[l]? = some o) (ho : o.isCells = false) : (W.putObj l o').cell? ⟨b, off, none⟩ = some u := by
  have hne : b ≠ l := by
    intro e
    subst e
    simp only [World.cell?, hl] at h
    cases o <;> first | (cases ho; done) | (simp at h)
  simp only [World.cell?, World.putObj_heap_other hne] at h ⊢
  exact h

theorem rows_putObj {W : World} {v : Value} {rs : List (List UInt8)} (h : IsRows W v rs) {l : Nat} {o : Obj} (o' : Obj) (hl : W.heap[l]? = some o) (ho : o.isCells = false) : IsRows (W.putObj l o') v rs := by
  obtain ⟨A, cap, rfl, h1, h2, h3⟩ := h
  refine ⟨A, cap, rfl, h1, h2, fun hp => ?_⟩
  obtain ⟨b, off, rfl, hc⟩ := h3 hp
  refine ⟨b, off, rfl, fun i r hi => ?_⟩
  obtain ⟨u, hu, hb⟩ := hc i r hi
  exact ⟨u, cell_putObj o' hu hl ho, hb.putObj o' hl ho⟩

/-- What the loop carries. -/
structure Gone (w : World) (N : Nat) (v1 : Value) (rs : List (List UInt8)) (x : Nat) (pre : List Elem) (W : World) : Prop where
  b1 : Boxed W w.heap.size 47 v1
  rows : IsRows W v1 rs
  b2 : Boxed W (w.heap.size + 1) 5 (.int .u8 (x : Int))
  b3 : Boxed W (w.heap.size + 1 + 1) 4 (.bool false)
  b4 : Boxed W N 3 (.int .i64 (pre.length : Int))
  b5 : Boxed W (N + 1) 3 (.int .i64 ((size (rowsOf pre) : Nat) : Int))
  bel : Below w.heap.size w W
  sz : N + 3 ≤ W.heap.size
  pre_ : Pre (join rs) (rowsOf pre)

theorem gone_lasts {w : World} {N x : Nat} {v1 : Value} {rs : List (List UInt8)} (K : List Elem → Prop) : Lasts (fun pre W => Gone w N v1 rs x pre W ∧ K pre) := fun _ _ _ h hb =>
  ⟨⟨Boxed.below h.1.b1 hb, h.1.rows.below hb, Boxed.below h.1.b2 hb, Boxed.below h.1.b3 hb, Boxed.below h.1.b4 hb, Boxed.below h.1.b5 hb, h.1.bel.trans (hb.mono h.1.bel.size), Nat.le_trans h.1.sz hb.size, h.1.pre_⟩, h.2⟩
theorem gone_bears {w : World} {N x B : Nat} {v1 : Value} {rs : List (List UInt8)} (hB : w.heap.size ≤ B) (K : List Elem → Prop) : Bears B (fun pre W => Gone w N v1 rs x pre W ∧ K pre) := fun _ W _ _ o' h hl hk ho =>
  ⟨⟨Boxed.putObj h.1.b1 o' hk ho, rows_putObj h.1.rows o' hk ho, Boxed.putObj h.1.b2 o' hk ho, Boxed.putObj h.1.b3 o' hk ho, Boxed.putObj h.1.b4 o' hk ho, Boxed.putObj h.1.b5 o' hk ho, below_putObj h.1.bel o' hk (by omega),
    Nat.le_trans h.1.sz (below_putObj (Below.refl 0 W) o' hk (Nat.zero_le _)).size, h.1.pre_⟩, h.2⟩

/-- A result in a cell. -/
theorem results_cell1 {fn : Func} {t : Tmp} (h : fn.results = #[.cell t 4]) (tmps : Array Value) (w : World) (g : Nat) (u : Value) (hp : tmps.getD t undef = .pointer (some ⟨g, 0, none⟩)) (hc : w.cell? ⟨g, 0, none⟩ = some u) :
    (results fn tmps).run Try.prog w = .ok u w := by
  have hp' : tmps[t]?.getD undef = .pointer (some ⟨g, 0, none⟩) := by simpa using hp
  have h4 := run_underlying (P := Try.prog) Try.underlying4 w
  simp [results, h, hp', asAddr, loadVar, isAgg, h4, hc, go_sem]

theorem rows_box {W : World} {B : Nat} {k : Int} {v : Value} {rs : List (List UInt8)} (h : IsRows W v rs) (hb : Boxed W B 3 (.int .i64 k)) (u : Value) : IsRows (W.setCell ⟨B, 0, none⟩ u) v rs := by
  obtain ⟨A, cap, rfl, h1, h2, h3⟩ := h
  refine ⟨A, cap, rfl, h1, h2, fun hp => ?_⟩
  obtain ⟨b, off, rfl, hc⟩ := h3 hp
  refine ⟨b, off, rfl, fun i r hi => ?_⟩
  obtain ⟨y, hy, hr⟩ := hc i r hi
  have hne : (⟨B, 0, none⟩ : Addr) ≠ ⟨b, off + i, none⟩ := by
    intro e
    rw [← e, Boxed.cell hb] at hy
    obtain ⟨A', cap', rfl, _⟩ := hr
    cases hy
  exact ⟨y, by rw [World.cell?_setCell_other _ _ _ _ hne]; exact hy, hr.kept (grownBy_setCell' W B u) (fun hp => Boxed.no_bytes hb (fun c e => by cases e) hr hp)⟩

theorem gone_step {w W : World} {N x q : Nat} {v1 : Value} {rs : List (List UInt8)} {pre : List Elem} {y : Elem} {e : Int} (hw : w.heap.size + 3 ≤ N) (h : Gone w N v1 rs x pre W) (he : e = ((size (rowsOf pre ++ [y.row]) : Nat) : Int)) (hp : Pre (join rs) (rowsOf pre ++ [y.row])) :
    Boxed (W.drewN q) N 3 (.int .i64 (pre.length : Int)) ∧
    Boxed ((W.drewN q).setCell ⟨N, 0, none⟩ (.int .i64 ((pre.length : Int) + 1))) (N + 1) 3 (.int .i64 ((size (rowsOf pre) : Nat) : Int)) ∧
    Gone w N v1 rs x (pre ++ [y]) (((W.drewN q).setCell ⟨N, 0, none⟩ (.int .i64 ((pre.length : Int) + 1))).setCell ⟨N + 1, 0, none⟩ (.int .i64 e)) ∧
    KeepsOthers W (((W.drewN q).setCell ⟨N, 0, none⟩ (.int .i64 ((pre.length : Int) + 1))).setCell ⟨N + 1, 0, none⟩ (.int .i64 e)) ∧
    Keeps N (N + 1 + 1) W (((W.drewN q).setCell ⟨N, 0, none⟩ (.int .i64 ((pre.length : Int) + 1))).setCell ⟨N + 1, 0, none⟩ (.int .i64 e)) := by
  have b5 : Below W.heap.size W (W.drewN q) := below_drewN (Below.refl _ _) q
  have hsz := b5.size
  obtain ⟨W5, hW5⟩ : ∃ W5, W5 = W.drewN q := ⟨_, rfl⟩
  have k5 : KeepsOthers W W5 := by rw [hW5]; exact ⟨hW5 ▸ hsz, fun _ _ h _ => h⟩
  have hp5 : W5.heap[N + 1 + 1]? = W.heap[N + 1 + 1]? := by rw [hW5]; rfl
  rw [← hW5] at b5 hsz ⊢
  obtain ⟨⟨h1, h2, h3, h4, h6, h7, h8, h9, h10⟩, -⟩ := gone_lasts (fun _ => True) _ _ _ ⟨h, trivial⟩ b5
  have g6 := grownBy_setCell' W5 N (.int .i64 ((pre.length : Int) + 1))
  have r6 := rows_box h2 h6 (.int .i64 ((pre.length : Int) + 1))
  have s6 := Boxed.set (.int .i64 ((pre.length : Int) + 1)) h6
  have k6 := KeepsOthers.setCell W5 ⟨N, 0, none⟩ (.int .i64 ((pre.length : Int) + 1))
  obtain ⟨W6, hW6⟩ : ∃ W6, W6 = W5.setCell ⟨N, 0, none⟩ (.int .i64 ((pre.length : Int) + 1)) := ⟨_, rfl⟩
  rw [← hW6] at g6 r6 s6 k6 ⊢
  have z6 := g6.size
  have a1 := Boxed.kept h1 g6 (by simp; omega)
  have a3 := Boxed.kept h3 g6 (by simp; omega)
  have a4 := Boxed.kept h4 g6 (by simp; omega)
  have a7 := Boxed.kept h7 g6 (by simp)
  have a8 : Below w.heap.size w W6 := h8.grown g6 h8.size (fun k e => by cases e; omega)
  have g7 := grownBy_setCell' W6 (N + 1) (.int .i64 e)
  have r7 := rows_box r6 a7 (.int .i64 e)
  have s7 := Boxed.set (.int .i64 e) a7
  have k7 := KeepsOthers.setCell W6 ⟨N + 1, 0, none⟩ (.int .i64 e)
  obtain ⟨W7, hW7⟩ : ∃ W7, W7 = W6.setCell ⟨N + 1, 0, none⟩ (.int .i64 e) := ⟨_, rfl⟩
  rw [← hW7] at g7 r7 s7 k7 ⊢
  have z7 := g7.size
  refine ⟨h6, a7, ⟨Boxed.kept a1 g7 (by simp; omega), r7, Boxed.kept a3 g7 (by simp; omega), Boxed.kept a4 g7 (by simp; omega), ?_, ?_, a8.grown g7 a8.size (fun k e => by cases e; omega), by omega, ?_⟩, (k5.trans k6).trans k7, ⟨?_, ?_⟩⟩
  · have := Boxed.kept s6 g7 (by simp)
    rw [List.length_append]
    exact this
  · rw [rowsOf_snoc, ← he]; exact s7
  · rw [rowsOf_snoc]; exact hp
  · have n1 : N ≤ W.heap.size := by have := h.sz; omega
    have b1 : Below N W W5 := b5.mono n1
    exact (b1.grown g6 (by omega) (fun k e => by cases e; omega)).grown g7 (by omega) (fun k e => by cases e; omega)
  · have q1 := g7.block (N + 1 + 1) (by omega) (by simp)
    have q2 := g6.block (N + 1 + 1) (by omega) (by simp; omega)
    exact (q1.trans q2).trans hp5

set_option maxRecDepth 100000 in
set_option maxHeartbeats 1600000 in
theorem walk (v : Value) (a0 : List (List UInt8)) (x : Nat) (hx : x ≤ 255) (w : World) (hv : IsRows w v a0) :
    Calls Try.prog 14 #[v, .int .u8 (x : Int)] w fun e w' => e = .returned (.bool true) ∧ Below w.heap.size w w' := by
  refine (callsIn_wide (n := 3)).1 ?_
  have HV := Lib.hid hv
  obtain ⟨A, cap, rfl, -, -, -⟩ := hv
  refine callsIn_of_wp_marks Try.func14 rfl trivial ?_
  simp only [Try.ntmps14, List.size_toArray, List.length_cons, List.length_nil, Nat.reduceAdd, Nat.reduceSub, Array.replicate_succ, Array.replicate_zero, List.push_toArray, List.append_toArray, List.nil_append, List.cons_append]
  gi_wp2_with (refine ⟨trivial, ?_⟩; first
    | (gi_at_call 24; refine (calls_in (awake3_any _)).mono ?_; rintro e w0 ⟨rfl, hb0'⟩; obtain ⟨r0, s0, t0, hb0, hz0⟩ := boxes3 hb0'; have hc0 := r0.cell; have R0 := Lib.hid r0; have S0 := Lib.hid s0; have T0 := Lib.hid t0; clear hb0' r0 s0 t0)
    | (gi_at_call 29; refine (calls_in (few_any _ a0 _ (HV.out.below hb0))).mono ?_; rintro e w1 ⟨v1, rfl, ho1, hb1'⟩; have hb1 := hb0.trans (hb1'.mono hb0.size); have hz1 := Nat.le_trans hz0 hb1'.size; obtain ⟨rs, hrs⟩ : ∃ rs, rs = few a0 := ⟨_, rfl⟩; rw [← hrs] at ho1; have hrl : rs.length ≤ 30 := (by rw [hrs]; exact few_len a0); have HRR : Hid (∀ r ∈ rs, r.length ≤ 300) := Lib.hid (by rw [hrs]; exact few_short a0); have r1 := Boxed.below R0.out hb1'; have S1 := Lib.hid (Boxed.below S0.out hb1'); have T1 := Lib.hid (Boxed.below T0.out hb1'); have ho1' := ho1.base (w.heap.size + 3) hz0; obtain ⟨A1, cap1, rfl, -, -, -⟩ := ho1.rows; have hc1 := r1.cell; have hf1 := r1.frozen; have R1 := Lib.hid r1; have HO1 := Lib.hid ho1'; clear hrs ho1 ho1' hb1' hb0 r1 R0 S0 T0))
  have r2 := Boxed.set (.slice A1 rs.length cap1) R1.out
  have g2 := grownBy_setCell' w1 w.heap.size (.slice A1 rs.length cap1)
  obtain ⟨w2, hw2⟩ : ∃ w2, w2 = w1.setCell ⟨w.heap.size, 0, none⟩ (.slice A1 rs.length cap1) := ⟨_, rfl⟩
  rw [← hw2] at r2 g2 ⊢
  have s2 := Boxed.kept S1.out g2 (by simp)
  have t2 := Boxed.kept T1.out g2 (by simp; omega)
  have ho2 : OwnRows w2 (w.heap.size + 3) (.slice A1 rs.length cap1) rs := HO1.out.kept g2 (fun e => own_ne HO1.out (by omega) e.symm) (fun u r hu hp => Boxed.no_bytes R1.out (fun c e => by cases e) hu hp)
  have hb2 : Below w.heap.size w w2 := hb1.grown g2 hb1.size (fun k e => by cases e; omega)
  have hz2 := g2.size
  clear hw2 g2 R1 S1 T1 HO1 hc1 hf1 hb1
  refine ⟨trivial, (calls_in (join_any _ rs hrl HRR.out _ ho2.rows)).mono ?_⟩
  rintro e w3 ⟨v3, rfl, ho3, hb3'⟩
  have r3 := Boxed.below r2 hb3'
  have s3 := Boxed.below s2 hb3'
  have t3 := Boxed.below t2 hb3'
  have hrows3 := ho2.rows.below hb3'
  have hb3 := hb2.trans (hb3'.mono hb2.size)
  have hz3 := hb3'.size
  have hjl := join_short rs HRR.out
  obtain ⟨L, hL⟩ : ∃ L, L = join rs := ⟨_, rfl⟩
  rw [← hL] at ho3 hjl
  have HL := Lib.hid hL
  have HJ3 : Hid (IsBytes w3 v3 L) := Lib.hid ho3.bytes
  obtain ⟨B, cap2, rfl, -, -, -⟩ := ho3.bytes
  have R3 := Lib.hid r3
  have S3 := Lib.hid s3
  have T3 := Lib.hid t3
  have HR3 := Lib.hid hrows3
  have HB3 := Lib.hid hb3
  have hN : w.heap.size + 3 ≤ w3.heap.size := by omega
  clear r2 s2 t2 ho2 hb2 ho3 hb3' r3 s3 t3 hrows3 hb3 hL hz0 hz1 hz2 hz3
  gi_wp2_with (refine ⟨trivial, ?_⟩; gi_at_call 31; refine (calls_in (all_any _ L _ (HJ3.out.below (((Below.refl _ w3).alloc (Nat.le_refl _) _).alloc (by simp) _)))).mono ?_; rintro e w' ⟨rfl, rfl⟩)
  have b4 := Boxed.alloc (Boxed.alloc (Boxed.new w3 3 (.int .i64 0)) (.cells #[.int .i64 0] 3)) (.cells #[.slice B L.length cap2] 29)
  have b5 := Boxed.alloc (Boxed.new (w3.alloc (.cells #[.int .i64 0] 3)) 3 (.int .i64 0)) (.cells #[.slice B L.length cap2] 29)
  have b6 := Boxed.new ((w3.alloc (.cells #[.int .i64 0] 3)).alloc (.cells #[.int .i64 0] 3)) 29 (.slice B L.length cap2)
  rw [World.size_alloc] at b5
  rw [World.size_alloc, World.size_alloc] at b6
  have hBW : Below w3.heap.size w3 (((w3.alloc (.cells #[.int .i64 0] 3)).alloc (.cells #[.int .i64 0] 3)).alloc (.cells #[.slice B L.length cap2] 29)) := (((Below.refl _ w3).alloc (Nat.le_refl _) _).alloc (by simp) _).alloc (by simp; omega) _
  have hsz : (((w3.alloc (.cells #[.int .i64 0] 3)).alloc (.cells #[.int .i64 0] 3)).alloc (.cells #[.slice B L.length cap2] 29)).heap.size = w3.heap.size + 3 := by simp
  obtain ⟨W0, hW0⟩ : ∃ W0, W0 = ((w3.alloc (.cells #[.int .i64 0] 3)).alloc (.cells #[.int .i64 0] 3)).alloc (.cells #[.slice B L.length cap2] 29) := ⟨_, rfl⟩
  rw [← hW0] at b4 b5 b6 hBW hsz ⊢
  have hg0 : Gone w w3.heap.size (.slice A1 rs.length cap1) rs x [] W0 := ⟨Boxed.below R3.out hBW, HR3.out.below hBW, Boxed.below S3.out hBW, Boxed.below T3.out hBW, b4, b5, HB3.out.trans (hBW.mono HB3.out.size), by omega, Pre.nil _⟩
  have HG0 := Lib.hid hg0
  have B6 := Lib.hid b6
  have HBW := Lib.hid hBW
  have hwN : w.heap.size ≤ w3.heap.size := by omega
  have hrr : ∀ r ∈ rs, r.length ≤ 16384 := fun r h => by have := HRR.out r h; omega
  have HRK := Lib.hid hrr
  clear hW0 b4 b5 b6 hBW hg0 R3 S3 T3 HR3 HB3 hrr
  obtain ⟨s, hs⟩ : ∃ s, s = x % 40 := ⟨_, rfl⟩
  have hs40 : s < 40 := by omega
  have q3 : (x : Int) % 40 = (s : Int) := by rw [hs]; rfl
  have q2 : (x : Int).tmod 40 = (s : Int) := by rw [hs, Int.tmod_eq_emod_of_nonneg (by omega)]; rfl
  clear hs
  refine wp_range (n := 1) (gf := 34) (lb := #[.pointer (some ⟨w3.heap.size + 1 + 1, 0, none⟩)]) rfl (enters_of Try.func34 (by kernel_rfl) rfl)
    (all_tells _ L (by omega) w3 HJ3.out (w3.heap.size + 1 + 1) W0 HBW.out B6.out) (Below.refl _ _) Keeps.trans
    (fun W l o o' hl hk ho => ⟨below_putObj (Below.refl _ _) o' hk (by omega), heap_putObj o' (by omega) hk⟩) (fun _ => rfl)
    (fun pre x W l o o' h hl hk ho => ⟨ownsRow_putObj h.1 o' hk ho, h.2⟩)
    (fun pre W => Gone w w3.heap.size (.slice A1 rs.length cap1) rs x pre W ∧ pre.length ≤ s)
    (fun c pre W => Gone w w3.heap.size (.slice A1 rs.length cap1) rs x pre W ∧ (c = .exit 0 ∧ pre.length = s + 1))
    (gone_lasts _) (gone_bears (by omega) _) (fun c => gone_lasts _) (fun c => gone_bears (by omega) _)
    ⟨HG0.out, by simp⟩
    (fun y => { tmps := #[.slice A a0.length cap, .int .u8 (x : Int), .pointer (some ⟨w.heap.size, 0, none⟩), .pointer (some ⟨w.heap.size + 1, 0, none⟩), .pointer (some ⟨w.heap.size + 1 + 1, 0, none⟩), .slice B L.length cap2, .pointer (some ⟨w3.heap.size, 0, none⟩), .pointer (some ⟨w3.heap.size + 1, 0, none⟩), .int .i64 (y.end_ : Int), y.val, .bool true, .bool false, .slice A a0.length cap, .slice A1 rs.length cap1, .slice A1 rs.length cap1, .slice B L.length cap2, .slice B L.length cap2, .func (.func 34) #[] #[.pointer (some ⟨w3.heap.size + 1 + 1, 0, none⟩)], .int .i64 (y.end_ : Int), y.val, undef, undef, undef, undef, undef, undef, undef, undef, undef, undef, undef, undef, undef, undef, undef, undef, undef, undef, undef, undef, undef, undef, undef, undef, undef, undef, undef, undef, undef, undef, undef, undef, undef, undef, undef, undef, undef, undef, undef, undef], defers := [] }) ?assign ?body ?done ?stop
  case assign =>
    intro l y W K hK
    simp only [encs]
    gi_wp2
    exact hK
  case body =>
    rintro l pre ⟨xe, xv, xr⟩ W ⟨hG, hps⟩ ⟨k1, k2, k3⟩
    simp only [] at k1 k2 k3
    rw [HL.out] at k2
    obtain ⟨ys, hys, -⟩ := pre_join HRK.out k2
    have hk : rs[pre.length]? = some xr := by
      have e : (rowsOf pre).length = pre.length := by simp [rowsOf]
      rw [hys, List.append_assoc, ← e, List.getElem?_append_right (Nat.le_refl _), Nat.sub_self]
      rfl
    have hlt : pre.length < rs.length := (List.getElem?_eq_some_iff.1 hk).1
    rw [size_snoc] at k3
    obtain ⟨b, off, u, rfl, hcu, hu⟩ := hG.rows.at_ hk
    obtain ⟨Ax, capx, rfl, -, -, -⟩ := k1.bytes
    have c1 : ∀ q, (convert 29 9 (.slice Ax xr.length capx)).run Try.prog (W.drewN q) = .ok (.string (strOf xr)) (W.drewN q) := fun q => run_conv _ _ _ (k1.bytes.below (below_drewN (Below.refl _ _) q))
    have c2 : ∀ q, (convert 29 9 u).run Try.prog (W.drewN q) = .ok (.string (strOf xr)) (W.drewN q) := fun q => run_conv _ _ _ (IsBytes.below hu (below_drewN (Below.refl _ _) q))
    obtain ⟨Au, capu, rfl, -, -, -⟩ := hu
    obtain ⟨z, hz⟩ : ∃ z, z = size (rowsOf pre) := ⟨_, rfl⟩
    have hb5 := hG.b5
    rw [← hz] at hb5 k3
    have hcb1 := hG.b1.cell
    have hcb2 := hG.b2.cell
    have hcb4 := hG.b4.cell
    have hcb5 := hb5.cell
    have hsizeb := k2.size_le
    have hjl3 : (join rs).length ≤ 9270 := by rw [← HL.out]; omega
    rw [size_snoc, ← hz] at hsizeb
    obtain ⟨len, hlen⟩ : ∃ len, len = pre.length := ⟨_, rfl⟩
    rw [← hlen] at hcb4 hcu hlt hps
    have d1 : decide (rs.length ≤ len) = false := by simp; omega
    have d3 : (((z : Int) + (xr.length : Int) + 9) != ((z : Int) + (xr.length : Int) + 9)) = false := by simp
    have hxe : (xe : Int) = (z : Int) + (xr.length : Int) + 9 := by omega
    have HG := Lib.hid hG
    have K2 := Lib.hid k2
    have K3 := Lib.hid k3
    have HZ := Lib.hid hz
    have HLEN := Lib.hid hlen
    have HXE := Lib.hid hxe
    clear hG k1 k2 k3 hz hlen hys hk hb5
    gi_wp2
    refine quiet_in_round (by kernel_rfl) (by kernel_rfl) (by kernel_rfl) ?_
    repeat (gi_big_quiet_step (fail))
    refine wpQuietIn_nil ?_
    intro _ hw'
    obtain ⟨nq, hw''⟩ := hw'
    subst hw''
    obtain ⟨e1, e2, e3, e4, e5⟩ := gone_step (q := nq) (y := ⟨xe, .slice Ax xr.length capx, xr⟩) hN HG.out (e := (z : Int) + (xr.length : Int) + 9) (by rw [size_snoc, ← HZ.out]; show _ = ((z + (xr.length + 9) : Nat) : Int); omega) K2.out
    rw [← HLEN.out] at e1 e2 e3 e4 e5
    have f1 := e1.frozen
    have f2 := e2.cell
    have f3 := e2.frozen
    rw [← HZ.out] at f2
    have f4 := e3.b4.cell
    have f5 := e3.b2.cell
    rw [List.length_append, ← HLEN.out, List.length_singleton] at f4
    have E3 := Lib.hid e3
    have E4 := Lib.hid e4
    have E5 := Lib.hid e5
    clear e1 e2 e3 e4 e5
    by_cases hgo : len + 1 ≤ s
    · have d2 : decide ((s : Int) < (len : Int) + 1) = false := by simp; omega
      gi_wp2
      exact ⟨E4.out, E5.out, E3.out, by rw [List.length_append, ← HLEN.out]; exact hgo⟩
    · have d2 : decide ((s : Int) < (len : Int) + 1) = true := by simp; omega
      gi_wp2
      exact ⟨E4.out, E3.out, rfl, by rw [List.length_append, ← HLEN.out, List.length_singleton]; omega⟩
  case done =>
    rintro D ys W hD hfull ⟨hG, hps⟩ hK
    rw [HL.out] at hfull
    have hall := full_all HRK.out hfull
    have hyl : ys.length = rs.length := by rw [← hall]; simp [rowsOf]
    have c1 := hG.b1.cell
    have c2 := hG.b2.cell
    have c3 := hG.b3.cell
    have c4 := hG.b4.cell
    have f3 := hG.b3.frozen
    rw [hyl] at c4 hps
    have HG := Lib.hid hG
    have HK := Lib.hid hK
    have HB := Lib.hid (hG.bel.grown (grownBy_setCell' W (w.heap.size + 1 + 1) (.bool true)) hG.bel.size (fun k e => by cases e; omega))
    have T := Lib.hid (Boxed.set (.bool true) hG.b3)
    have hK2 := Lib.hid ((KeepsOthers.setCell W ⟨w.heap.size + 1 + 1, 0, none⟩ (.bool true)).same D _ hK rfl)
    have d1 : ((rs.length : Int) == (rs.length : Int)) = true := by simp
    clear hG hK hfull hall hyl
    gi_wp2
    refine ⟨by simp, .inl ⟨_, _, rfl, run_takeDeferred hK2.out, ?_⟩⟩
    exact ⟨_, results_cell1 rfl _ _ _ _ rfl (Boxed.putObj T.out _ hK2.out rfl).cell, rfl, below_putObj HB.out _ hK2.out (by omega)⟩
  case stop =>
    rintro D c pre W hD ⟨hG, rfl, hps⟩ hK
    obtain ⟨ys, hys, -⟩ := pre_join HRK.out hG.pre_
    have hle : s + 1 ≤ rs.length := by
      have := congrArg List.length hys
      rw [List.length_append] at this
      have e : (rowsOf pre).length = pre.length := by simp [rowsOf]
      omega
    have c1 := hG.b1.cell
    have c2 := hG.b2.cell
    have c3 := hG.b3.cell
    have c4 := hG.b4.cell
    have f3 := hG.b3.frozen
    rw [hps] at c4
    have HG := Lib.hid hG
    have HK := Lib.hid hK
    have HB := Lib.hid (hG.bel.grown (grownBy_setCell' W (w.heap.size + 1 + 1) (.bool true)) hG.bel.size (fun k e => by cases e; omega))
    have T := Lib.hid (Boxed.set (.bool true) hG.b3)
    have hK2 := Lib.hid ((KeepsOthers.setCell W ⟨w.heap.size + 1 + 1, 0, none⟩ (.bool true)).same D _ hK rfl)
    clear hG hK hys hps
    by_cases heq : rs.length = s + 1
    · have d2 : ((s : Int) + 1 == (rs.length : Int)) = true := by simp; omega
      gi_wp2
      all_goals
        refine ⟨by simp, .inl ⟨_, _, rfl, run_takeDeferred hK2.out, ?_⟩⟩
        exact ⟨_, results_cell1 rfl _ _ _ _ rfl (Boxed.putObj T.out _ hK2.out rfl).cell, rfl, below_putObj HB.out _ hK2.out (by omega)⟩
    · have hlt2 : s + 1 < rs.length := by omega
      gi_wp2
      refine ⟨by simp, .inl ⟨_, _, rfl, run_takeDeferred hK2.out, ?_⟩⟩
      exact ⟨_, results_cell1 rfl _ _ _ _ rfl (Boxed.putObj T.out _ hK2.out rfl).cell, rfl, below_putObj HB.out _ hK2.out (by omega)⟩

set_option maxRecDepth 100000 in
theorem lifted (os : Os) (started : os.Started) (H : Type) (enc : TypeId × Value → H) :
    ReturnsInHanded {} Try.checked os 14 .any (Rows.frameAllSpec.pre6 enc Try.prog Try.f14 Rows.frameAllRow.domain false) (Rows.frameAllSpec.post enc Try.prog Try.f14 false true false false) := by
  refine returnsInHanded_of_change_sized (C := Try.checked) own started (by kernel_rfl) Try.func14
    (ChangeSpec.witness6 (enc := enc) (C := Try.checked) false ⟨#[], #[.slice none 0 0, .int .u8 0], []⟩ 8 (by kernel_rfl) (by kernel_rfl) (by kernel_rfl) (by kernel_rfl)) ?_
  intro W base args ds gs before hval0 hW _ hsz0 _
  have hval : ∀ (j : Nat) t v, Try.f14.params[j]? = some t → args[j]? = some v → Value.okWide Try.prog W .any base t v := hval0
  have hsz : (DataW.weightsEach Try.prog (Try.f14.params.toList ++ Rows.frameAllSpec.plain.varTypes Try.prog) (ds ++ gs)).all (· ≤ reachBytes) = true := hsz0
  have hW' := hW
  obtain ⟨p, q, hA0, hV, rfl, hfz, hnd⟩ := hW
  have hA : DataW.TrodAll enc Try.prog W 0 (fun _ => true) true Try.f14.params.toList args.toList ds p := hA0
  have hA1 := hA
  rw [Try.params14] at hA hA1 hval hsz
  obtain ⟨v0, v1, d0, d1, p0, p1, rfl, rfl, rfl, h0, h1⟩ := trodAll_two hA
  obtain ⟨rfl, rfl⟩ := trodVars_none hV
  simp only [List.append_nil] at hW'
  obtain ⟨rs0, hb0⟩ := arg_rows (hval 0 47 v0 rfl rfl) h0
  obtain ⟨z1, rfl, rfl, rfl, wz1⟩ := open_int Try.underlying5 (hval 1 5 v1 rfl rfl) h1
  have bz1 := bounds_u8 wz1
  obtain ⟨x1, rfl⟩ := Int.eq_ofNat_of_zero_le bz1.1
  refine (walk v0 rs0 x1 (by omega) W hb0).mono fun e W' ⟨he, hb⟩ => ?_
  subst he
  exact ⟨_, rfl, post_of_below (pv := []) hW' (fun _ _ _ => trodAll_mk1 (shut_bool Try.underlying4 _)) (fun sp hs => args_stay laidOut hb _ _ _ _ (by simp [ok5, ok47]) hA1 (fun x hx => hW'.lt x (by simpa using hx)) (fun x hx => hs x (by simpa using hx))) (fun _ _ => rfl) (by simp)
    hb (ok_one (by kernel_rfl) rfl (okWide_bool_mk Try.underlying4 _))⟩

theorem holds : Rows.FrameAllSaid :=
  OpenClaim.holds_of_wide 14 Try.f14 rfl rfl rfl rfl rfl rfl rfl ⟨rfl, rfl, rfl, rfl, rfl⟩ rfl rfl rfl rfl rfl (by kernel_rfl) Try.func14 (by kernel_rfl)
    (of_decide_eq_true (by kernel_rfl)) (by unfold Func.isWrapper; first | (rw [if_pos (by decide +kernel)]; kernel_rfl) | (rw [if_neg (by decide +kernel)]; exact ⟨rfl, rfl⟩))
    (fun os started H enc _ => lifted os started H enc)
#print axioms holds
end Go.Proofs.Ytflolmldildjhaa.lawFrameAll
