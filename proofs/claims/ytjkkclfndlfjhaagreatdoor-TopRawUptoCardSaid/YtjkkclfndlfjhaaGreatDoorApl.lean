/- Contract of state.Apply: a state has one pair and one session more at most; what was there stays as it was. -/
import Derived.Test.YtjkkclfndlfjhaaGreatDoorMp
import Derived.Deep.RegionHeld3
import Derived.Test.YtjkkclfndlfjhaaGreatDoorByt
set_option linter.all false
namespace Go.Proofs.YtjkkclfndlfjhaaGreatDoor
open Go.RowKit Crc Frm Go.ChangeShapes Go.WideShapes Go.ChangeAt
attribute [local go_sem] Oper.semAt_some

theorem iterI_tells (g base box : Nat) (xs : List (Int × Ss)) (hl : xs.length ≤ 10000000) (ts : List TypeId) (w : World) (hbox : Has w box 133 #[.pointer (some ⟨g, 0, none⟩)]) (hm : MapAt 209 213 layIs w base g xs) (h1 : 213 ∉ ts) :
    Tells 99 #[.pointer (some ⟨box, 0, none⟩)] encIs (KpT ts) (Nth xs) (fun ys => ys = xs) w :=
  fun n l J Jx W hW hJ _ hY h0 => iterI_any g base box xs hl ts h1 n l J Jx hJ hY W (hbox.kpT (ts := []) (KpT.below (hW.mono (Nat.le_refl _))) (by simp)) (hm.below hW) h0

theorem allI_any (p : Value) (hp : p.oneCell' = true) (w : World) : Calls Tryz.prog 43 #[p] w fun e w' => e = .returned (.func (.func 99) #[] #[.pointer (some ⟨w.heap.size, 0, none⟩)]) ∧ w' = w.alloc (.cells #[p] 133) := by
  go_enter Tryz.func43, Tryz.ntmps43
  go_wp2
  go_ret
  exact ⟨rfl, rfl⟩

def PKs (k : ByteArray) : Prop := k.size ≤ 8
def PVs (v : ByteArray) : Prop := v.size ≤ 16
theorem pvs_empty : PVs ⟨#[]⟩ := by unfold PVs; decide
/-- What is known of a state. -/
def StIn (W : World) (n : Nat) (psv xsv : Value) : Prop :=
  ∃ (ps : List Pr) (xs : List Ss), OwnL W 0 201 layPr psv ps ∧ OwnL W 0 68 laySs xsv xs ∧ (∀ p ∈ ps, PKs p.key ∧ PVs p.val) ∧ (∀ x ∈ xs, PVs x.val) ∧ ps.length ≤ n ∧ xs.length ≤ n
theorem StIn.kpT {W W' : World} {n : Nat} {psv xsv : Value} {ts : List TypeId} (h : StIn W n psv xsv) (k : KpT ts W W') (h1 : 201 ∉ ts) (h2 : 68 ∉ ts) : StIn W' n psv xsv := by
  obtain ⟨ps, xs, a, b, c⟩ := h
  exact ⟨ps, xs, a.kpT k h1, b.kpT k h2, c⟩
theorem StIn.below {W W' : World} {n : Nat} {psv xsv : Value} (h : StIn W n psv xsv) (hb : Below W.heap.size W W') : StIn W' n psv xsv := h.kpT (ts := []) (KpT.below hb) (by simp) (by simp)
theorem StIn.more {W : World} {n m : Nat} {psv xsv : Value} (h : StIn W n psv xsv) (hm : n ≤ m) : StIn W m psv xsv := by
  obtain ⟨ps, xs, a, b, c, d, e, f⟩ := h
  exact ⟨ps, xs, a, b, c, d, by omega, by omega⟩

/-- What may be is small. -/
theorem right_small {x : En} (h : rightB x = true) (h0 : x.cmd.op ≠ 0) : PKs x.cmd.key ∧ PVs x.cmd.val := by
  unfold rightB mayB at h
  rw [if_neg h0] at h
  split at h
  · simp at h
  · rename_i h2
    simp only [Bool.and_eq_true, decide_eq_true_eq] at h
    unfold PKs PVs
    omega
/-- What Apply leaves. -/
def AplLeft (n : Nat) (W : World) (e : Ending) (W' : World) : Prop :=
  ∃ (index term err : Int) (psv xsv : Value) (u : ByteArray), e = .returned (.tuple #[.agg #[.int .i64 index, .int .i64 term, psv, xsv], .agg #[.int .i64 err, .string u]]) ∧ StIn W' (n + 1) psv xsv ∧ Below W.heap.size W W'
/-- What is known of a state's pairs. -/
def PsIn (w : World) (n : Nat) (pv : Value) : Prop := ∃ ps : List Pr, OwnL w 0 201 layPr pv ps ∧ (∀ p ∈ ps, PKs p.key ∧ PVs p.val) ∧ ps.length ≤ n + 1
theorem PsIn.kpT {w w' : World} {n : Nat} {pv : Value} {ts : List TypeId} (h : PsIn w n pv) (k : KpT ts w w') (h1 : 201 ∉ ts) : PsIn w' n pv := by
  obtain ⟨ps, a, b⟩ := h
  exact ⟨ps, a.kpT k h1, b⟩
theorem psIn_of {w w' : World} {n m base : Nat} {pv : Value} {zs : List (ByteArray × ByteArray)} {ts : List TypeId} (h : OwnL w base 201 layPr pv (zs.map prOf)) (hp : ∀ p ∈ zs, PKs p.1 ∧ PVs p.2) (hl : zs.length ≤ m + 1) (k : KpT ts w w') (h1 : 201 ∉ ts) (hm : m ≤ n) : PsIn w' n pv := by
  refine ⟨_, (h.base (Nat.zero_le _)).kpT k h1, fun p hq => ?_, by rw [List.length_map]; omega⟩
  obtain ⟨q, hq1, rfl⟩ := List.mem_map.1 hq
  exact hp q hq1
/-- What is laid when Apply ends. -/
def AplDone (n : Nat) (W w : World) (index term err : Int) (psv xsv : Value) (u : ByteArray) : Prop :=
  Has w (W.heap.size + 2) 30 #[.int .i64 index, .int .i64 term, psv, xsv] ∧ Has w (W.heap.size + 3) 64 #[.int .i64 err, .string u] ∧ StIn w (n + 1) psv xsv ∧ Below W.heap.size W w
theorem AplDone.res {n : Nat} {W w : World} {index term err : Int} {psv xsv : Value} {u : ByteArray} (h : AplDone n W w index term err psv xsv u) {tmps : Array Value} (h4 : tmps.getD 4 undef = .pointer (some ⟨W.heap.size + 2, 0, none⟩)) (h5 : tmps.getD 5 undef = .pointer (some ⟨W.heap.size + 3, 0, none⟩)) :
    ∃ v, (results Tryz.f8 tmps).run Tryz.prog w = .ok v w ∧ AplLeft n W (.returned v) w :=
  ⟨_, results_cells_rows rfl tmps w (W.heap.size + 2) (W.heap.size + 3) 30 64 _ _ (0, 0) (0, 0) _ _ h4 h.1 Tryz.underlying30 rfl (by kernel_rfl) h5 h.2.1 Tryz.underlying64 rfl (by kernel_rfl), index, term, err, psv, xsv, u, rfl, h.2.2.1, h.2.2.2⟩
theorem AplDone.drew {n : Nat} {W w : World} {index term err : Int} {psv xsv : Value} {u : ByteArray} (h : AplDone n W w index term err psv xsv u) : AplDone n W w.drew index term err psv xsv u := ⟨h.1.drew, h.2.1.drew, h.2.2.1.kpT (ts := []) (KpT.refl _ _).drew (by simp) (by simp), h.2.2.2.drew⟩
theorem AplDone.putObj {n : Nat} {W w : World} {index term err : Int} {psv xsv : Value} {u : ByteArray} (h : AplDone n W w index term err psv xsv u) {D : Nat} {o : Obj} (o' : Obj) (hD : w.heap[D]? = some o) (ho : o.isCells = false) (hn : W.heap.size ≤ D) : AplDone n W (w.putObj D o') index term err psv xsv u :=
  ⟨h.1.putObj o' hD ho, h.2.1.putObj o' hD ho, h.2.2.1.kpT (ts := []) (KpT.putObj o' hD ho) (by simp) (by simp), below_putObj h.2.2.2 o' hD hn⟩

/-- The variables of Apply: the state, the entry, the two results. -/
structure ApIn (W w : World) (index term : Int) (psv xsv : Value) (x : En) : Prop where
  below : Below W.heap.size W w
  s : Has w W.heap.size 30 #[.int .i64 index, .int .i64 term, psv, xsv]
  e : Has w (W.heap.size + 1) 61 #[.int .i64 x.index, .int .i64 x.term, .int .i64 x.cmd.op, .int .i64 x.cmd.client, .int .i64 x.cmd.seq, .string x.cmd.key, .string x.cmd.val, .string x.cmd.old]
  r : Has w (W.heap.size + 2) 30 #[.int .i64 0, .int .i64 0, .slice none 0 0, .slice none 0 0]
  q : Has w (W.heap.size + 3) 64 #[.int .i64 0, .string ⟨#[]⟩]
theorem ApIn.kpT {W w w' : World} {index term : Int} {psv xsv : Value} {x : En} {ts : List TypeId} (h : ApIn W w index term psv xsv x) (hb : Below W.heap.size W w') (k : KpT ts w w') (h1 : 30 ∉ ts) (h2 : 61 ∉ ts) (h3 : 64 ∉ ts) : ApIn W w' index term psv xsv x :=
  ⟨hb, h.s.kpT k h1, h.e.kpT k h2, h.r.kpT k h1, h.q.kpT k h3⟩
theorem ApIn.under {W w w' : World} {index term : Int} {psv xsv : Value} {x : En} (h : ApIn W w index term psv xsv x) (hb : Below w.heap.size w w') : ApIn W w' index term psv xsv x :=
  h.kpT (ts := []) (h.below.trans (hb.mono h.below.size)) (KpT.below hb) (by simp) (by simp) (by simp)
theorem ApIn.drew {W w : World} {index term : Int} {psv xsv : Value} {x : En} (h : ApIn W w index term psv xsv x) : ApIn W w.drew index term psv xsv x := h.under ((Below.refl _ w).drew)
theorem ApIn.alloc {W w : World} {index term : Int} {psv xsv : Value} {x : En} (h : ApIn W w index term psv xsv x) (o : Obj) : ApIn W (w.alloc o) index term psv xsv x := h.under ((Below.refl _ w).alloc (Nat.le_refl _) o)
/-- A cell of the state is written. -/
theorem ApIn.set {W w : World} {index term : Int} {psv xsv : Value} {x : En} (h : ApIn W w index term psv xsv x) (j : Nat) (u : Value) {index' term' : Int} {psv' xsv' : Value} (hc : (#[.int .i64 index, .int .i64 term, psv, xsv] : Array Value).setIfInBounds j u = #[.int .i64 index', .int .i64 term', psv', xsv']) :
    ApIn W (w.setCell ⟨W.heap.size, j, none⟩ u) index' term' psv' xsv' x := by
  have f := Fr.set w W.heap.size j u
  have hs := h.s.set j u
  rw [hc] at hs
  exact ⟨h.below.trans (f.toBelow (fun k e => by omega) h.below.size), hs, h.e.fr f (by omega), h.r.fr f (by omega), h.q.fr f (by omega)⟩
theorem ApIn.set0 {W w : World} {index term : Int} {psv xsv : Value} {x : En} (h : ApIn W w index term psv xsv x) (i : Int) : ApIn W (w.setCell ⟨W.heap.size, 0, none⟩ (.int .i64 i)) i term psv xsv x := h.set 0 _ rfl
theorem ApIn.set1 {W w : World} {index term : Int} {psv xsv : Value} {x : En} (h : ApIn W w index term psv xsv x) (i : Int) : ApIn W (w.setCell ⟨W.heap.size, 1, none⟩ (.int .i64 i)) index i psv xsv x := h.set 1 _ rfl
theorem ApIn.set2 {W w : World} {index term : Int} {psv xsv : Value} {x : En} (h : ApIn W w index term psv xsv x) (v : Value) : ApIn W (w.setCell ⟨W.heap.size, 2, none⟩ v) index term v xsv x := h.set 2 _ rfl
theorem ApIn.set3 {W w : World} {index term : Int} {psv xsv : Value} {x : En} (h : ApIn W w index term psv xsv x) (v : Value) : ApIn W (w.setCell ⟨W.heap.size, 3, none⟩ v) index term psv v x := h.set 3 _ rfl
theorem kpT_set {w : World} {g j : Nat} {t : TypeId} {cs : Array Value} {u : Value} (h : Has w g t cs) : KpT [t] w (w.setCell ⟨g, j, none⟩ u) := KpT.frT (FrT.set h (by simp) j u)
/-- Another variable, and the state, while the results are written. -/
theorem ApIn.see {W w w' : World} {index term : Int} {psv xsv : Value} {x : En} (h : ApIn W w index term psv xsv x) {g : Nat} {t : TypeId} {cs : Array Value} (hk : Has w g t cs) (hg : W.heap.size + 3 < g) (f : Fr (fun k => k = W.heap.size + 2 ∨ k = W.heap.size + 3) w w') :
    Has w' W.heap.size 30 #[.int .i64 index, .int .i64 term, psv, xsv] ∧ Has w' g t cs := ⟨h.s.fr f (by omega), hk.fr f (by omega)⟩
theorem fr_one {w : World} {B : Nat} (a b c d : Value) : Fr (fun k => k = B + 2 ∨ k = B + 3) w ((((w.setCell ⟨B + 2, 0, none⟩ a).setCell ⟨B + 2, 1, none⟩ b).setCell ⟨B + 2, 2, none⟩ c).setCell ⟨B + 2, 3, none⟩ d).drew := ((Fr.set4 w (B + 2) a b c d).mono fun _ _ e => .inl e).drew
theorem fr_two {w : World} {B : Nat} (a b c d e f : Value) : Fr (fun k => k = B + 2 ∨ k = B + 3) w ((((((w.setCell ⟨B + 2, 0, none⟩ a).setCell ⟨B + 2, 1, none⟩ b).setCell ⟨B + 2, 2, none⟩ c).setCell ⟨B + 2, 3, none⟩ d).setCell ⟨B + 3, 0, none⟩ e).setCell ⟨B + 3, 1, none⟩ f).drew :=
  (((Fr.set4 w (B + 2) a b c d).mono fun _ _ e => .inl e).trans (Fr.set2 _ (B + 3) e f) fun _ _ e => .inr e).drew
/-- The results are written. -/
theorem ApIn.done {W w : World} {index term : Int} {psv xsv : Value} {x : En} (h : ApIn W w index term psv xsv x) {n : Nat} {p y : Value} (hs : StIn w (n + 1) p y) (i t err : Int) (u : ByteArray) :
    AplDone n W ((((((w.setCell ⟨W.heap.size + 2, 0, none⟩ (.int .i64 i)).setCell ⟨W.heap.size + 2, 1, none⟩ (.int .i64 t)).setCell ⟨W.heap.size + 2, 2, none⟩ p).setCell ⟨W.heap.size + 2, 3, none⟩ y).setCell ⟨W.heap.size + 3, 0, none⟩ (.int .i64 err)).setCell ⟨W.heap.size + 3, 1, none⟩ (.string u)) i t err p y u := by
  have f1 := Fr.set4 w (W.heap.size + 2) (.int .i64 i) (.int .i64 t) p y
  have h1 := h.r.set4 (.int .i64 i) (.int .i64 t) p y
  have q1 := h.q.fr f1 (by omega)
  have k1 : KpT [30] w ((((w.setCell ⟨W.heap.size + 2, 0, none⟩ (.int .i64 i)).setCell ⟨W.heap.size + 2, 1, none⟩ (.int .i64 t)).setCell ⟨W.heap.size + 2, 2, none⟩ p).setCell ⟨W.heap.size + 2, 3, none⟩ y) := KpT.frT (f1.mono fun k _ e => by subst e; exact ⟨_, 30, (0, 0), h.r, by simp⟩)
  have b1 := h.below.trans (f1.toBelow (n := W.heap.size) (fun k e => by omega) h.below.size)
  generalize ((((w.setCell ⟨W.heap.size + 2, 0, none⟩ (.int .i64 i)).setCell ⟨W.heap.size + 2, 1, none⟩ (.int .i64 t)).setCell ⟨W.heap.size + 2, 2, none⟩ p).setCell ⟨W.heap.size + 2, 3, none⟩ y) = w1 at *
  have f2 := Fr.set2 w1 (W.heap.size + 3) (.int .i64 err) (.string u)
  have k2 : KpT [64] w1 ((w1.setCell ⟨W.heap.size + 3, 0, none⟩ (.int .i64 err)).setCell ⟨W.heap.size + 3, 1, none⟩ (.string u)) := KpT.frT (f2.mono fun k _ e => by subst e; exact ⟨_, 64, (0, 0), q1, by simp⟩)
  exact ⟨h1.fr f2 (by omega), q1.set2 (.int .i64 err) (.string u), (hs.kpT k1 (by decide) (by decide)).kpT k2 (by decide) (by decide), b1.trans (f2.toBelow (fun k e => by omega) b1.size)⟩

/-- What the loop over the sessions carries. -/
def AplI (W : World) (x : En) (err : Int) (u : ByteArray) (bo n : Nat) (pv : Value) (pre : List (Int × Ss)) (w : World) : Prop :=
  ∃ A k c, ApIn W w x.index x.term pv (.slice A k c) x ∧ OwnL w W.heap.size 68 laySs (.slice A k c) (pre.map Prod.snd) ∧ Has w bo 64 #[.int .i64 err, .string u] ∧ PsIn w n pv
theorem aplI_lasts (W : World) (x : En) (err : Int) (u : ByteArray) (bo n : Nat) (pv : Value) : Lasts (AplI W x err u bo n pv) := fun _ _ _ ⟨A, k, c, h1, h2, h3, h4⟩ hb => ⟨A, k, c, h1.under hb, h2.below hb (Nat.le_refl _), h3.below hb h3.lt, h4.kpT (ts := []) (KpT.below hb) (by simp)⟩
theorem aplI_bears (W : World) (x : En) (err : Int) (u : ByteArray) (bo n : Nat) (pv : Value) (B : Nat) (hB : W.heap.size ≤ B) : Bears B (AplI W x err u bo n pv) := fun _ _ _ _ o' ⟨A, k, c, h1, h2, h3, h4⟩ hl hk ho =>
  ⟨A, k, c, h1.kpT (ts := []) (below_putObj h1.below o' hk (by omega)) (KpT.putObj o' hk ho) (by simp) (by simp) (by simp), h2.putObj o' hk ho, h3.putObj o' hk ho, h4.kpT (ts := []) (KpT.putObj o' hk ho) (by simp)⟩

set_option maxRecDepth 100000 in
set_option maxHeartbeats 6400000 in
theorem apply_any (n : Nat) (hn : n ≤ 1000) (index term : Int) (psv xsv : Value) (x : En) (W : World) (hst : StIn W n psv xsv) :
    Calls Tryz.prog 8 #[.agg #[.int .i64 index, .int .i64 term, psv, xsv], x.v] W (AplLeft n W) := by
  have HS := Lib.hid hst
  obtain ⟨ps, xs, hps, hxs, -⟩ := id hst
  obtain ⟨Ap, np, cp, rfl⟩ : ∃ A n c, psv = .slice A n c := by obtain ⟨A, c, h, -⟩ := hps.list; exact ⟨_, _, _, h⟩
  obtain ⟨Ax, nx, cx, rfl⟩ : ∃ A n c, xsv = .slice A n c := by obtain ⟨A, c, h, -⟩ := hxs.list; exact ⟨_, _, _, h⟩
  clear hps hxs hst
  have H0 : Hid (ApIn W ((((W.alloc (.cells #[.int .i64 index, .int .i64 term, .slice Ap np cp, .slice Ax nx cx] 30)).alloc (.cells #[.int .i64 x.index, .int .i64 x.term, .int .i64 x.cmd.op, .int .i64 x.cmd.client, .int .i64 x.cmd.seq, .string x.cmd.key, .string x.cmd.val, .string x.cmd.old] 61)).alloc (.cells #[.int .i64 0, .int .i64 0, .slice none 0 0, .slice none 0 0] 30)).alloc (.cells #[.int .i64 0, .string ⟨#[]⟩] 64)) index term (.slice Ap np cp) (.slice Ax nx cx) x) := by
    have a1 := Has.new W 30 #[.int .i64 index, .int .i64 term, .slice Ap np cp, .slice Ax nx cx]
    have a2 := Has.new (W.alloc (.cells #[.int .i64 index, .int .i64 term, .slice Ap np cp, .slice Ax nx cx] 30)) 61 #[.int .i64 x.index, .int .i64 x.term, .int .i64 x.cmd.op, .int .i64 x.cmd.client, .int .i64 x.cmd.seq, .string x.cmd.key, .string x.cmd.val, .string x.cmd.old]
    have a3 := Has.new ((W.alloc (.cells #[.int .i64 index, .int .i64 term, .slice Ap np cp, .slice Ax nx cx] 30)).alloc (.cells #[.int .i64 x.index, .int .i64 x.term, .int .i64 x.cmd.op, .int .i64 x.cmd.client, .int .i64 x.cmd.seq, .string x.cmd.key, .string x.cmd.val, .string x.cmd.old] 61)) 30 #[.int .i64 0, .int .i64 0, .slice none 0 0, .slice none 0 0]
    have a4 := Has.new (((W.alloc (.cells #[.int .i64 index, .int .i64 term, .slice Ap np cp, .slice Ax nx cx] 30)).alloc (.cells #[.int .i64 x.index, .int .i64 x.term, .int .i64 x.cmd.op, .int .i64 x.cmd.client, .int .i64 x.cmd.seq, .string x.cmd.key, .string x.cmd.val, .string x.cmd.old] 61)).alloc (.cells #[.int .i64 0, .int .i64 0, .slice none 0 0, .slice none 0 0] 30)) 64 #[.int .i64 0, .string ⟨#[]⟩]
    simp only [World.size_alloc] at a2 a3 a4
    exact ⟨((((Below.refl _ W).alloc (Nat.le_refl _) _).alloc (by simp) _).alloc (by simp; omega) _).alloc (by simp; omega) _, ((a1.alloc _).alloc _).alloc _, (a2.alloc _).alloc _, a3.alloc _, a4⟩
  have S0 := Lib.hid (HS.out.below H0.out.below)
  unfold En.v
  refine calls_of_postM Tryz.func8 rfl ?_
  simp only [Tryz.ntmps8, List.size_toArray, List.length_cons, List.length_nil, Nat.reduceAdd, Nat.reduceSub, Array.replicate_succ, Array.replicate_zero, List.push_toArray, List.append_toArray, List.nil_append, List.cons_append]
  go_wp2_with fail
  refine (cright_any x _).mono ?_
  rintro e w1 ⟨rfl, hb⟩
  have H1 := Lib.hid (H0.out.under hb)
  have S1 := Lib.hid (S0.out.below hb)
  clear hb H0 S0
  obtain ⟨s0, s1, s2, s3⟩ := Has.four H1.out.s
  have v0 := H1.out.s.frozen 0
  have v1 := H1.out.s.frozen 1
  have v2 := H1.out.s.frozen 2
  have v3 := H1.out.s.frozen 3
  obtain ⟨⟨e0, e1, e2, e3, e4, e5, e6, e7⟩, -⟩ := Has.all8 H1.out.e
  obtain ⟨r0, r1, r2, r3⟩ := Has.four H1.out.r
  have q0 := H1.out.r.frozen 0
  have q1 := H1.out.r.frozen 1
  have q2 := H1.out.r.frozen 2
  have q3 := H1.out.r.frozen 3
  obtain ⟨y0, y1, z0, z1⟩ := Has.two H1.out.q
  cases hrt : rightB x with
  | false =>
    go_wp2
    exact .inl ⟨rfl, (H1.out.done (S1.out.more (by omega)) index term 14 ⟨#[]⟩).res rfl rfl⟩
  | true =>
    have hright := Lib.hid hrt
    clear hrt
    go_upto_region 3 with fail
    go_cut [19] from 19 to 32 (fun s19 wx => (∃ b, s19 = .bool b) ∧ wx = w1)
    case first =>
      cases h1 : (x.index != wrap64 (index + 1)) with
      | true =>
        have h1' : (x.index == wrap64 (index + 1)) = false := by simpa using h1
        go_wp2_with fail
        go_meet
        exact ⟨⟨_, rfl⟩, rfl⟩
      | false =>
        have h1' : (x.index == wrap64 (index + 1)) = true := by simpa using h1
        go_wp2_with fail
        all_goals (go_meet; exact ⟨⟨_, rfl⟩, rfl⟩)
    case rest =>
      obtain ⟨⟨b, rfl⟩, rfl⟩ := hcut
      cases b with
      | true =>
        go_wp2
        exact .inl ⟨rfl, (H1.out.done (S1.out.more (by omega)) index term 8 ⟨#[]⟩).res rfl rfl⟩
      | false =>
        have H2 := Lib.hid ((H1.out.set0 x.index).set1 x.term).drew
        have S2 := Lib.hid ((S1.out.kpT (kpT_set (j := 0) (u := .int .i64 x.index) H1.out.s) (by decide) (by decide)).kpT (kpT_set (j := 1) (u := .int .i64 x.term) (H1.out.set0 x.index).s) (by decide) (by decide))
        go_wp2_with fail
        have c0 : wc.drew.cell? ⟨W.heap.size + 1, 0, none⟩ = some (.int .i64 x.index) := e0
        have c1 : wc.drew.cell? ⟨W.heap.size + 1, 1, none⟩ = some (.int .i64 x.term) := e1
        go_region_held3 (fun w' => w'.cell? ⟨W.heap.size + 1, 0, none⟩ = some (.int .i64 x.index) ∧ w'.cell? ⟨W.heap.size + 1, 1, none⟩ = some (.int .i64 x.term))
          (first | exact ⟨c0, c1⟩ | go_keep) (fail)
        obtain ⟨w2, hw2⟩ : ∃ w2, w2 = ((wc.setCell ⟨W.heap.size, 0, none⟩ (.int .i64 x.index)).setCell ⟨W.heap.size, 1, none⟩ (.int .i64 x.term)).drew := ⟨_, rfl⟩
        replace S2 : Hid (StIn w2 n (.slice Ap np cp) (.slice Ax nx cx)) := Lib.hid (by rw [hw2]; exact S2.out)
        rw [← hw2] at H2 ⊢
        clear hw2 c0 c1
        clear s0 s1 s2 s3 v0 v1 v2 v3
        clear e0 e1 e2 e3 e4 e5 e6 e7
        clear r0 r1 r2 r3 q0 q1 q2 q3 y0 y1 z0 z1
        clear H1 S1
        obtain ⟨s0, s1, s2, s3⟩ := Has.four H2.out.s
        have v0 := H2.out.s.frozen 0
        have v1 := H2.out.s.frozen 1
        have v2 := H2.out.s.frozen 2
        have v3 := H2.out.s.frozen 3
        obtain ⟨⟨e0, e1, e2, e3, e4, e5, e6, e7⟩, -⟩ := Has.all8 H2.out.e
        obtain ⟨r0, r1, r2, r3⟩ := Has.four H2.out.r
        have q0 := H2.out.r.frozen 0
        have q1 := H2.out.r.frozen 1
        have q2 := H2.out.r.frozen 2
        have q3 := H2.out.r.frozen 3
        obtain ⟨y0, y1, z0, z1⟩ := Has.two H2.out.q
        by_cases o0 : x.cmd.op = 0
        · have b0 : (x.cmd.op == 0) = true := by simp [o0]
          go_wp2
          exact .inl ⟨rfl, (H2.out.done (S2.out.more (by omega)) x.index x.term 0 ⟨#[]⟩).res rfl rfl⟩
        · have b0 : (x.cmd.op == 0) = false := by simpa using o0
          have ho0 : Hid (x.cmd.op ≠ 0) := Lib.hid o0
          obtain ⟨ps, xs, hps, hxs, hpp, hxp, hpl, hxl⟩ := S2.out
          have HPS := Lib.hid hps
          have HXS := Lib.hid hxs
          have HPP := Lib.hid hpp
          have HXP := Lib.hid hxp
          clear hps hxs hpp hxp
          go_wp2_with fail
          refine (sessions_any (fun s => PVs s.val) x.index x.term (.slice Ap np cp) (.slice Ax nx cx) xs HXP.out (by omega) _ HXS.out.list).mono ?_
          rintro e w3 ⟨g, ys, rfl, hg, hm, hyl, hyp, hb⟩
          have H3 := Lib.hid (H2.out.under hb)
          have S3 := Lib.hid (S2.out.below hb)
          have HP3 := Lib.hid (HPS.out.below hb (Nat.le_refl _))
          have M3 := Lib.hid hm
          have YP := Lib.hid hyp
          have hz3 := hb.size
          have hB3 := H3.out.q.lt
          have hz2 := H2.out.below.size
          clear hm hyp hb o0 b0
          clear s0 s1 s2 s3 v0 v1 v2 v3
          clear e0 e1 e2 e3 e4 e5 e6 e7
          clear r0 r1 r2 r3 q0 q1 q2 q3 y0 y1 z0 z1
          clear H2 S2 HPS HXS HXP
          obtain ⟨s0, s1, s2, s3⟩ := Has.four H3.out.s
          have v0 := H3.out.s.frozen 0
          have v1 := H3.out.s.frozen 1
          have v2 := H3.out.s.frozen 2
          have v3 := H3.out.s.frozen 3
          obtain ⟨⟨e0, e1, e2, e3, e4, e5, e6, e7⟩, -⟩ := Has.all8 H3.out.e
          obtain ⟨r0, r1, r2, r3⟩ := Has.four H3.out.r
          have q0 := H3.out.r.frozen 0
          have q1 := H3.out.r.frozen 1
          have q2 := H3.out.r.frozen 2
          have q3 := H3.out.r.frozen 3
          obtain ⟨y0, y1, z0, z1⟩ := Has.two H3.out.q
          go_wp2_with fail
          refine (getI_any g _ ys x.cmd.client (by omega) _ M3.out).mono ?_
          rintro e w4 ⟨⟨q, bo, rfl⟩, hb⟩
          have H4 := Lib.hid ((H3.out.under hb).alloc (.cells #[.int .i64 q.client, .int .i64 q.seq, .int .i64 q.err, .string q.val] 68))
          have S4 := Lib.hid ((S3.out.below hb).below ((Below.refl _ w4).alloc (Nat.le_refl _) (.cells #[.int .i64 q.client, .int .i64 q.seq, .int .i64 q.err, .string q.val] 68)))
          have HP4 := Lib.hid ((HP3.out.below hb (Nat.le_refl _)).alloc (.cells #[.int .i64 q.client, .int .i64 q.seq, .int .i64 q.err, .string q.val] 68))
          have M4 := Lib.hid ((M3.out.below hb).alloc (.cells #[.int .i64 q.client, .int .i64 q.seq, .int .i64 q.err, .string q.val] 68))
          have K4 := Lib.hid (Has.new w4 68 #[.int .i64 q.client, .int .i64 q.seq, .int .i64 q.err, .string q.val])
          have hz4 := hb.size
          clear hb
          clear s0 s1 s2 s3 v0 v1 v2 v3
          clear e0 e1 e2 e3 e4 e5 e6 e7
          clear r0 r1 r2 r3 q0 q1 q2 q3 y0 y1 z0 z1
          clear H3 S3 HP3 M3
          obtain ⟨s0, s1, s2, s3⟩ := Has.four H4.out.s
          have v0 := H4.out.s.frozen 0
          have v1 := H4.out.s.frozen 1
          have v2 := H4.out.s.frozen 2
          have v3 := H4.out.s.frozen 3
          obtain ⟨⟨e0, e1, e2, e3, e4, e5, e6, e7⟩, -⟩ := Has.all8 H4.out.e
          obtain ⟨r0, r1, r2, r3⟩ := Has.four H4.out.r
          have q0 := H4.out.r.frozen 0
          have q1 := H4.out.r.frozen 1
          have q2 := H4.out.r.frozen 2
          have q3 := H4.out.r.frozen 3
          obtain ⟨y0, y1, z0, z1⟩ := Has.two H4.out.q
          obtain ⟨k0, k1, k2, k3⟩ := Has.four K4.out
          unfold Ss.v
          go_upto_region 10 with fail
          go_cut [65] from 57 to 65 (fun s wx => (∃ b, s = .bool b) ∧ wx = w4.alloc (.cells #[.int .i64 q.client, .int .i64 q.seq, .int .i64 q.err, .string q.val] 68))
          case first =>
            cases bo with
            | false =>
              go_wp2_with fail
              go_meet
              exact ⟨⟨_, rfl⟩, rfl⟩
            | true =>
              cases hsq : decide (x.cmd.seq ≤ q.seq) with
              | false =>
                go_wp2_with fail
                go_meet
                exact ⟨⟨_, rfl⟩, rfl⟩
              | true =>
                go_wp2_with fail
                go_meet
                exact ⟨⟨_, rfl⟩, rfl⟩
          case rest =>
            obtain ⟨⟨c, rfl⟩, rfl⟩ := hcut
            cases c with
            | true =>
              cases hq : (q.seq == x.cmd.seq) with
              | true =>
                go_wp2_with fail
                go_region
                go_wp2
                exact .inl ⟨rfl, (H4.out.done (S4.out.more (by omega)) x.index x.term q.err q.val).drew.res rfl rfl⟩
              | false =>
                go_wp2
                exact .inl ⟨rfl, (H4.out.done (S4.out.more (by omega)) x.index x.term 12 ⟨#[]⟩).res rfl rfl⟩
            | false =>
              obtain ⟨w5, hw5⟩ : ∃ w5, w5 = w4.alloc (.cells #[.int .i64 q.client, .int .i64 q.seq, .int .i64 q.err, .string q.val] 68) := ⟨_, rfl⟩
              have hz5 : w4.heap.size + 1 = w5.heap.size := by rw [hw5, World.size_alloc]
              clear s0 s1 s2 s3 v0 v1 v2 v3
              clear e0 e1 e2 e3 e4 e5 e6 e7
              clear r0 r1 r2 r3 q0 q1 q2 q3 y0 y1 z0 z1
              clear k0 k1 k2 k3 K4
              rw [← hw5] at H4 S4 HP4 M4 ⊢
              clear hw5
              obtain ⟨s0, s1, s2, s3⟩ := Has.four H4.out.s
              have v0 := H4.out.s.frozen 0
              have v1 := H4.out.s.frozen 1
              have v2 := H4.out.s.frozen 2
              have v3 := H4.out.s.frozen 3
              obtain ⟨⟨e0, e1, e2, e3, e4, e5, e6, e7⟩, -⟩ := Has.all8 H4.out.e
              obtain ⟨r0, r1, r2, r3⟩ := Has.four H4.out.r
              have q0 := H4.out.r.frozen 0
              have q1 := H4.out.r.frozen 1
              have q2 := H4.out.r.frozen 2
              have q3 := H4.out.r.frozen 3
              obtain ⟨y0, y1, z0, z1⟩ := Has.two H4.out.q
              go_wp2_with fail
              refine (pairs_any PKs PVs x.index x.term (.slice Ap np cp) (.slice Ax nx cx) ps HPP.out (by omega) _ HP4.out.list).mono ?_
              rintro e w6 ⟨g2, zs, rfl, hg2, hm, hzl, hzp, hb⟩
              have H6 := Lib.hid (H4.out.under hb)
              have M6 := Lib.hid (M4.out.below hb)
              have Z6 := Lib.hid hm
              have ZP := Lib.hid hzp
              have hz6 := hb.size
              clear hb hm hzp
              clear s0 s1 s2 s3 v0 v1 v2 v3
              clear e0 e1 e2 e3 e4 e5 e6 e7
              clear r0 r1 r2 r3 q0 q1 q2 q3 y0 y1 z0 z1
              clear H4 S4 HP4 M4
              obtain ⟨s0, s1, s2, s3⟩ := Has.four H6.out.s
              have v0 := H6.out.s.frozen 0
              have v1 := H6.out.s.frozen 1
              have v2 := H6.out.s.frozen 2
              have v3 := H6.out.s.frozen 3
              obtain ⟨⟨e0, e1, e2, e3, e4, e5, e6, e7⟩, -⟩ := Has.all8 H6.out.e
              obtain ⟨r0, r1, r2, r3⟩ := Has.four H6.out.r
              have q0 := H6.out.r.frozen 0
              have q1 := H6.out.r.frozen 1
              have q2 := H6.out.r.frozen 2
              have q3 := H6.out.r.frozen 3
              obtain ⟨y0, y1, z0, z1⟩ := Has.two H6.out.q
              go_wp2_with fail
              refine (sdo_any PKs PVs g2 w5.heap.size zs x.cmd (right_small hright.out ho0.out).1 (right_small hright.out ho0.out).2 ZP.out (by omega) _ hz6 hg2 Z6.out).mono ?_
              rintro e w7 ⟨err, u, zs2, rfl, hu, hm, hzl2, hzp2, hf, hb⟩
              have hpu : PVs u := by
                rcases hu with h | h
                · exact h
                · rw [h]; exact pvs_empty
              have H7 := Lib.hid ((H6.out.kpT (H6.out.below.trans (hb.mono (by omega))) (KpT.frT hf) (by decide) (by decide) (by decide)).alloc (.cells #[.int .i64 err, .string u] 64))
              have M7 := Lib.hid ((M6.out.kpT (KpT.frT hf) (by decide) (by decide)).alloc (.cells #[.int .i64 err, .string u] 64))
              have Z7 := Lib.hid (hm.alloc (.cells #[.int .i64 err, .string u] 64))
              have K7 := Lib.hid (Has.new w7 64 #[.int .i64 err, .string u])
              have hz7 := hb.size
              have HZP2 := Lib.hid hzp2
              clear hb hm hf hu hzp2
              clear s0 s1 s2 s3 v0 v1 v2 v3
              clear e0 e1 e2 e3 e4 e5 e6 e7
              clear r0 r1 r2 r3 q0 q1 q2 q3 y0 y1 z0 z1
              clear H6 M6 Z6 ZP
              obtain ⟨s0, s1, s2, s3⟩ := Has.four H7.out.s
              have v0 := H7.out.s.frozen 0
              have v1 := H7.out.s.frozen 1
              have v2 := H7.out.s.frozen 2
              have v3 := H7.out.s.frozen 3
              obtain ⟨⟨e0, e1, e2, e3, e4, e5, e6, e7⟩, -⟩ := Has.all8 H7.out.e
              obtain ⟨r0, r1, r2, r3⟩ := Has.four H7.out.r
              have q0 := H7.out.r.frozen 0
              have q1 := H7.out.r.frozen 1
              have q2 := H7.out.r.frozen 2
              have q3 := H7.out.r.frozen 3
              obtain ⟨y0, y1, z0, z1⟩ := Has.two H7.out.q
              go_wp2_with fail
              refine (srows_any g2 w5.heap.size zs2 (by omega) _ Z7.out).mono ?_
              rintro e w9 ⟨v, rfl, ho, hb⟩
              obtain ⟨Av, nv, cv, rfl⟩ : ∃ A n c, v = .slice A n c := by obtain ⟨A, c, h, -⟩ := ho.list; exact ⟨_, _, _, h⟩
              have H9 := Lib.hid (H7.out.under hb)
              have M9 := Lib.hid (M7.out.below hb)
              have K9 := Lib.hid (K7.out.below hb K7.out.lt)
              have O9 := Lib.hid ho
              have hz9 := hb.size
              rw [World.size_alloc] at hz9
              clear hb ho
              clear s0 s1 s2 s3 v0 v1 v2 v3
              clear e0 e1 e2 e3 e4 e5 e6 e7
              clear r0 r1 r2 r3 q0 q1 q2 q3 y0 y1 z0 z1
              clear H7 M7 Z7 K7
              obtain ⟨s0, s1, s2, s3⟩ := Has.four H9.out.s
              have v0 := H9.out.s.frozen 0
              have v1 := H9.out.s.frozen 1
              have v2 := H9.out.s.frozen 2
              have v3 := H9.out.s.frozen 3
              obtain ⟨⟨e0, e1, e2, e3, e4, e5, e6, e7⟩, -⟩ := Has.all8 H9.out.e
              obtain ⟨r0, r1, r2, r3⟩ := Has.four H9.out.r
              have q0 := H9.out.r.frozen 0
              have q1 := H9.out.r.frozen 1
              have q2 := H9.out.r.frozen 2
              have q3 := H9.out.r.frozen 3
              obtain ⟨y0, y1, z0, z1⟩ := Has.two H9.out.q
              go_upto_region 17 with fail
              obtain ⟨w10, hw10⟩ : ∃ w10, w10 = w9.setCell ⟨W.heap.size, 2, none⟩ (.slice Av nv cv) := ⟨_, rfl⟩
              have H10 := Lib.hid (H9.out.set2 (.slice Av nv cv))
              have M10 := Lib.hid (M9.out.kpT (kpT_set (j := 2) (u := .slice Av nv cv) H9.out.s) (by decide) (by decide))
              have K10 := Lib.hid (K9.out.kpT (kpT_set (j := 2) (u := .slice Av nv cv) H9.out.s) (by decide))
              have P10 := Lib.hid (psIn_of (n := n) O9.out HZP2.out hzl2 (kpT_set (j := 2) (u := .slice Av nv cv) H9.out.s) (by decide) (by omega))
              have hz10 : w9.heap.size ≤ w10.heap.size := by rw [hw10, World.size_setCell]; omega
              rw [← hw10] at H10 M10 K10 P10 ⊢
              clear hw10
              clear s0 s1 s2 s3 v0 v1 v2 v3
              clear e0 e1 e2 e3 e4 e5 e6 e7
              clear r0 r1 r2 r3 q0 q1 q2 q3 y0 y1 z0 z1
              clear H9 M9 K9 O9
              obtain ⟨s0, s1, s2, s3⟩ := Has.four H10.out.s
              have v0 := H10.out.s.frozen 0
              have v1 := H10.out.s.frozen 1
              have v2 := H10.out.s.frozen 2
              have v3 := H10.out.s.frozen 3
              obtain ⟨⟨e0, e1, e2, e3, e4, e5, e6, e7⟩, -⟩ := Has.all8 H10.out.e
              obtain ⟨r0, r1, r2, r3⟩ := Has.four H10.out.r
              have q0 := H10.out.r.frozen 0
              have q1 := H10.out.r.frozen 1
              have q2 := H10.out.r.frozen 2
              have q3 := H10.out.r.frozen 3
              obtain ⟨y0, y1, z0, z1⟩ := Has.two H10.out.q
              obtain ⟨k0, k1, -, -⟩ := Has.two K10.out
              go_wp2_with fail
              refine (putI_any (fun s => PVs s.val) g w2.heap.size ys x.cmd.client ⟨x.cmd.client, x.cmd.seq, err, u⟩ hpu (fun p hp => (YP.out p hp).2) (by omega) _ (by omega) hg M10.out).mono ?_
              rintro e w11 ⟨bo2, ys2, rfl, hm, hyl2, hyp2, hf, hb⟩
              have H11 := Lib.hid (H10.out.kpT (H10.out.below.trans (hb.mono (by omega))) (KpT.frT hf) (by decide) (by decide) (by decide))
              have K11 := Lib.hid (K10.out.kpT (KpT.frT hf) (by decide))
              have P11 := Lib.hid (P10.out.kpT (KpT.frT hf) (by decide))
              have M11 := Lib.hid hm
              have YP2 := Lib.hid hyp2
              have hz11 := hb.size
              clear hb hm hf hyp2
              clear s0 s1 s2 s3 v0 v1 v2 v3
              clear e0 e1 e2 e3 e4 e5 e6 e7
              clear r0 r1 r2 r3 q0 q1 q2 q3 y0 y1 z0 z1
              clear H10 M10 K10 P10 k0 k1
              obtain ⟨s0, s1, s2, s3⟩ := Has.four H11.out.s
              have v0 := H11.out.s.frozen 0
              have v1 := H11.out.s.frozen 1
              have v2 := H11.out.s.frozen 2
              have v3 := H11.out.s.frozen 3
              obtain ⟨⟨e0, e1, e2, e3, e4, e5, e6, e7⟩, -⟩ := Has.all8 H11.out.e
              obtain ⟨r0, r1, r2, r3⟩ := Has.four H11.out.r
              have q0 := H11.out.r.frozen 0
              have q1 := H11.out.r.frozen 1
              have q2 := H11.out.r.frozen 2
              have q3 := H11.out.r.frozen 3
              obtain ⟨y0, y1, z0, z1⟩ := Has.two H11.out.q
              go_wp2_with fail
              refine (allI_any _ rfl _).mono ?_
              rintro e w12 ⟨rfl, rfl⟩
              have H12 := Lib.hid ((H11.out.set3 (.slice none 0 0)).alloc (.cells #[.pointer (some ⟨g, 0, none⟩)] 133))
              have M12 := Lib.hid ((M11.out.kpT (kpT_set (j := 3) (u := .slice none 0 0) H11.out.s) (by decide) (by decide)).alloc (.cells #[.pointer (some ⟨g, 0, none⟩)] 133))
              have K12 := Lib.hid ((K11.out.kpT (kpT_set (j := 3) (u := .slice none 0 0) H11.out.s) (by decide)).alloc (.cells #[.pointer (some ⟨g, 0, none⟩)] 133))
              have P12 := Lib.hid (P11.out.kpT ((kpT_set (j := 3) (u := .slice none 0 0) H11.out.s).alloc (.cells #[.pointer (some ⟨g, 0, none⟩)] 133)) (by decide))
              have X12 := Lib.hid (Has.new (w11.setCell ⟨W.heap.size, 3, none⟩ (.slice none 0 0)) 133 #[.pointer (some ⟨g, 0, none⟩)])
              simp only [World.size_setCell] at X12 ⊢
              obtain ⟨w12, hw12⟩ : ∃ w12, w12 = (w11.setCell ⟨W.heap.size, 3, none⟩ (.slice none 0 0)).alloc (.cells #[.pointer (some ⟨g, 0, none⟩)] 133) := ⟨_, rfl⟩
              have hz12 : w11.heap.size < w12.heap.size := by rw [hw12, World.size_alloc, World.size_setCell]; omega
              rw [← hw12] at H12 M12 K12 P12 X12 ⊢
              clear hw12
              clear s0 s1 s2 s3 v0 v1 v2 v3
              clear e0 e1 e2 e3 e4 e5 e6 e7
              clear r0 r1 r2 r3 q0 q1 q2 q3 y0 y1 z0 z1
              clear H11 M11 K11 P11
              go_wp2_with fail
              refine' wpIn_wide.1 (wp_range2 (n := 1) (gf := 99) (lb := #[.pointer (some ⟨w11.heap.size, 0, none⟩)]) rfl (enters_of Tryz.func99 (by kernel_rfl) rfl)
                (iterI_tells g w2.heap.size w11.heap.size ys2 (by omega) [30, 68] w12 X12.out M12.out (by decide)) (Below.refl _ _) KpT.trans
                (fun W l o o' _ hk ho => KpT.putObj o' hk ho) (fun _ => rfl) (fun _ _ _ _ _ _ h _ _ _ => h)
                (AplI W x err u w7.heap.size n (.slice Av nv cv)) (fun _ _ _ => False) (aplI_lasts _ _ _ _ _ _ _) (aplI_bears _ _ _ _ _ _ _ _ (by omega)) (fun _ _ _ _ h _ => h) (fun _ _ _ _ _ _ h _ _ _ => h)
                ⟨none, 0, 0, H12.out, OwnL.nil _ _ _ _, K12.out, P12.out⟩ (fun p => .cells #[.int .i64 p.2.client, .int .i64 p.2.seq, .int .i64 p.2.err, .string p.2.val] 68) (fun _ o => (KpT.refl _ _).alloc o) (fun _ _ _ _ h => h) _ ?assign ?body ?done ?stop)
              case assign =>
                intro l p W K hK
                simp only [encIs, Ss.v]
                gi_wp2
                exact hK
              case stop =>
                rintro D c pre W _ h _
                exact h.elim
              case body =>
                obtain ⟨i0, hi0, hz0, hz1, hz2'⟩ := info_parts info68
                rintro l pre p Wb w ⟨Ao, no, co, h1, h2, h3, h4⟩ ⟨-, k2⟩ hnew hWb
                have hpl : pre.length < ys2.length := (List.getElem?_eq_some_iff.1 k2).1
                have HN : Has w Wb.heap.size 68 #[.int .i64 p.2.client, .int .i64 p.2.seq, .int .i64 p.2.err, .string p.2.val] := hnew
                obtain ⟨m0, m1, m2, m3⟩ := Has.four HN
                have s3 := h1.s.cell 3
                have v3 := h1.s.frozen 3
                have HA := Lib.hid h1
                have HO := Lib.hid h2
                have HK := Lib.hid h3
                have HP := Lib.hid h4
                have hzb := h1.below.size
                clear h1 h2 h3 h4 k2 hnew HN
                gi_wp2_with (gi_at_builtin; refine wplIn_append_el _ rfl 28 68 (.tmp 105) (.tmp 107) rfl W.heap.size (.slice Ao no co) (pre.map Prod.snd) p.2 i0 _ 40 Tryz.underlying28 hi0 hz0 hz1 hz2' rfl (by decide) rfl (HO.out.alloc _) ⟨w.heap.size, 0, none⟩ 1 rfl (fun j y hj => cells_new w 68 #[.int .i64 p.2.client, .int .i64 p.2.seq, .int .i64 p.2.err, .string p.2.val] j y hj) (by rw [List.length_map]; omega) (by rw [World.size_alloc]; omega) ?_; intro v' w1 ho hgr _; obtain ⟨A1, n1, c1, rfl⟩ : ∃ A n c, v' = .slice A n c := by { obtain ⟨A, c, h, -⟩ := ho.list; exact ⟨_, _, _, h⟩ }; have q := append_keeps HO.out hgr; have HB1 : Hid (Below W.heap.size W w1) := Lib.hid ((HA.out.below.alloc hzb _).grown hgr (by rw [World.size_alloc]; omega) fun k hk => (HO.out.lt k hk).1); have HA1 := Lib.hid (HA.out.kpT HB1.out q.2 (by decide) (by decide) (by decide)); have HK1 := Lib.hid (HK.out.kpT q.2 (by decide)); have HP1 := Lib.hid (HP.out.kpT q.2 (by decide)); have HO1 := Lib.hid ho; have HQ := Lib.hid q; clear s3 v3 ho hgr q; have s3 := HA1.out.s.cell 3; have v3 := HA1.out.s.frozen 3)
                refine ⟨HQ.out.1.trans (KeepsOthers.setCell _ _ _), (HQ.out.2.mono (by simp)).trans ((kpT_set HA1.out.s).mono (by simp)), A1, n1, c1, HA1.out.set3 _, ?_, HK1.out.kpT (kpT_set HA1.out.s) (by decide), HP1.out.kpT (kpT_set HA1.out.s) (by decide)⟩
                rw [List.map_append]
                exact HO1.out.kpT (kpT_set HA1.out.s) (by decide)
              case done =>
                rintro D ys3 w hD hys ⟨Ao, no, co, h1, h2, h3, h4⟩ hK
                have hlt : D < w.heap.size := (Array.getElem?_eq_some_iff.1 hK).1
                have hst : StIn w (n + 1) (.slice Av nv cv) (.slice Ao no co) := by
                  obtain ⟨ps, a, b, c⟩ := h4
                  refine ⟨ps, ys3.map Prod.snd, a, h2.base (Nat.zero_le _), b, fun s hs => ?_, c, by rw [List.length_map, hys]; omega⟩
                  obtain ⟨p, hp, rfl⟩ := List.mem_map.1 hs
                  rw [hys] at hp
                  exact (YP2.out p hp).2
                have HA := Lib.hid h1
                have HST := Lib.hid hst
                have hD2 := ((fr_two (w := w) (B := W.heap.size) (.int .i64 x.index) (.int .i64 x.term) (.slice Av nv cv) (.slice Ao no co) (.int .i64 err) (.string u)).block D hlt (by omega)).trans hK
                have HD := Lib.hid hD2
                obtain ⟨k0, k1, -, -⟩ := Has.two h3
                clear h1 h2 h3 h4 hK hst hD2 hys
                obtain ⟨s0, s1, s2, s3⟩ := Has.four HA.out.s
                have v0 := HA.out.s.frozen 0
                have v1 := HA.out.s.frozen 1
                have v2 := HA.out.s.frozen 2
                have v3 := HA.out.s.frozen 3
                obtain ⟨⟨e0, e1, e2, e3, e4, e5, e6, e7⟩, -⟩ := Has.all8 HA.out.e
                obtain ⟨r0, r1, r2, r3⟩ := Has.four HA.out.r
                have q0 := HA.out.r.frozen 0
                have q1 := HA.out.r.frozen 1
                have q2 := HA.out.r.frozen 2
                have q3 := HA.out.r.frozen 3
                obtain ⟨y0, y1, z0, z1⟩ := Has.two HA.out.q
                go_wp2_with fail
                go_region
                go_wp2
                exact .inr ⟨D, rfl, HD.out, fun o => ((HA.out.done HST.out x.index x.term err u).drew.putObj o HD.out rfl (by omega)).res rfl rfl⟩
end Go.Proofs.YtjkkclfndlfjhaaGreatDoor
/- Contract of state.Fold: a state has one pair and one session more at most for each entry. -/
namespace Go.Proofs.YtjkkclfndlfjhaaGreatDoor
open Go.RowKit Crc Frm Go.ChangeShapes Go.WideShapes Go.ChangeAt

/-- What Fold leaves. -/
def FoldLeft (n : Nat) (W : World) (e : Ending) (W' : World) : Prop :=
  ∃ (index term : Int) (psv xsv : Value), e = .returned (.agg #[.int .i64 index, .int .i64 term, psv, xsv]) ∧ StIn W' n psv xsv ∧ Below W.heap.size W W'
theorem StIn.forms {W : World} {n : Nat} {psv xsv : Value} (h : StIn W n psv xsv) : (∃ A k c, psv = .slice A k c) ∧ (∃ A k c, xsv = .slice A k c) := by
  obtain ⟨ps, xs, hps, hxs, -⟩ := h
  obtain ⟨A, c, h1, -⟩ := hps.list
  obtain ⟨A2, c2, h2, -⟩ := hxs.list
  exact ⟨⟨A, _, c, h1⟩, ⟨A2, _, c2, h2⟩⟩

set_option maxRecDepth 100000 in
set_option maxHeartbeats 3200000 in
theorem fold_any (n : Nat) (index term : Int) (psv xsv esv : Value) (es : List En) (hn : n + es.length ≤ 1000) (W : World) (hst : StIn W n psv xsv) (hes : IsL W layEn esv es) :
    Calls Tryz.prog 11 #[.agg #[.int .i64 index, .int .i64 term, psv, xsv], esv] W (FoldLeft (n + es.length) W) := by
  have HES := Lib.hid hes
  have HS := Lib.hid hst
  obtain ⟨⟨Ap, np, cp, rfl⟩, ⟨Ax, nx, cx, rfl⟩⟩ := id hst.forms
  obtain ⟨A, cap, rfl, -⟩ := hes
  have hB := ((Below.refl _ W).alloc (Nat.le_refl _) (.cells #[.int .i64 index, .int .i64 term, .slice Ap np cp, .slice Ax nx cx] 30)).alloc (by simp) (.cells #[.int .i64 0, .int .i64 0, .slice none 0 0, .slice none 0 0] 30)
  have hR : Has ((W.alloc (.cells #[.int .i64 index, .int .i64 term, .slice Ap np cp, .slice Ax nx cx] 30)).alloc (.cells #[.int .i64 0, .int .i64 0, .slice none 0 0, .slice none 0 0] 30)) (W.heap.size + 1) 30 #[.int .i64 0, .int .i64 0, .slice none 0 0, .slice none 0 0] := by
    have h := Has.new (W.alloc (.cells #[.int .i64 index, .int .i64 term, .slice Ap np cp, .slice Ax nx cx] 30)) 30 #[.int .i64 0, .int .i64 0, .slice none 0 0, .slice none 0 0]
    rw [World.size_alloc] at h
    exact h
  have HB0 := Lib.hid hB
  have HR0 := Lib.hid hR
  have HS0 := Lib.hid ((Has.new W 30 #[.int .i64 index, .int .i64 term, .slice Ap np cp, .slice Ax nx cx]).alloc (.cells #[.int .i64 0, .int .i64 0, .slice none 0 0, .slice none 0 0] 30))
  clear hB hR hst
  go_enter Tryz.func11, Tryz.ntmps11
  go_wp2
  go_loopw [9] (fun i wr => ∃ (j : Nat) (index term : Int) (psv xsv : Value), j ≤ es.length ∧ i = .int .i64 (j : Int) ∧ Below W.heap.size W wr ∧ Has wr W.heap.size 30 #[.int .i64 index, .int .i64 term, psv, xsv] ∧ Has wr (W.heap.size + 1) 30 #[.int .i64 0, .int .i64 0, .slice none 0 0, .slice none 0 0] ∧ StIn wr (n + j) psv xsv) (fun i _ => es.length - (intOf i).toNat)
  case atStart => exact ⟨0, index, term, _, _, by omega, rfl, HB0.out, HS0.out, HR0.out, HS.out.below HB0.out⟩
  case round =>
    obtain ⟨j, index, term, psv, xsv, hj, rfl, hb, hs, hr, hst⟩ := hrel
    have HB := Lib.hid hb
    have HSS := Lib.hid hs
    have HR := Lib.hid hr
    have HST := Lib.hid hst
    obtain ⟨⟨Ap, np, cp, rfl⟩, ⟨Ax, nx, cx, rfl⟩⟩ := id hst.forms
    obtain ⟨s0, s1, s2, s3⟩ := Has.four hs
    have hlt := hr.lt
    clear hb hs hr hst
    by_cases hjl : j < es.length
    · obtain ⟨x, hx⟩ : ∃ x, es[j]? = some x := ⟨_, List.getElem?_eq_getElem hjl⟩
      obtain ⟨b, off, hA, hcell⟩ := (HES.out.below HB.out (Nat.le_refl _)).at_ hx
      obtain rfl := hA
      have c0 : wr.cell? ⟨b, off + j * 8, none⟩ = some (.int .i64 x.index) := hcell 0 _ rfl
      have c1 : wr.cell? ⟨b, off + j * 8 + 1, none⟩ = some (.int .i64 x.term) := hcell 1 _ rfl
      have c2 : wr.cell? ⟨b, off + j * 8 + 2, none⟩ = some (.int .i64 x.cmd.op) := hcell 2 _ rfl
      have c3 : wr.cell? ⟨b, off + j * 8 + 3, none⟩ = some (.int .i64 x.cmd.client) := hcell 3 _ rfl
      have c4 : wr.cell? ⟨b, off + j * 8 + 4, none⟩ = some (.int .i64 x.cmd.seq) := hcell 4 _ rfl
      have c5 : wr.cell? ⟨b, off + j * 8 + 5, none⟩ = some (.string x.cmd.key) := hcell 5 _ rfl
      have c6 : wr.cell? ⟨b, off + j * 8 + 6, none⟩ = some (.string x.cmd.val) := hcell 6 _ rfl
      have c7 : wr.cell? ⟨b, off + j * 8 + 7, none⟩ = some (.string x.cmd.old) := hcell 7 _ rfl
      have ha : Below wr.heap.size wr (wr.alloc (.cells #[.int .i64 x.index, .int .i64 x.term, .int .i64 x.cmd.op, .int .i64 x.cmd.client, .int .i64 x.cmd.seq, .string x.cmd.key, .string x.cmd.val, .string x.cmd.old] 61)) := (Below.refl _ wr).alloc (Nat.le_refl _) _
      have HA := Lib.hid ha
      have HSA := Lib.hid (HSS.out.below ha HSS.out.lt)
      clear hcell hx ha s0 s1 s2 s3
      obtain ⟨s0, s1, s2, s3⟩ := Has.four HSA.out
      go_wp2_with fail
      refine (apply_any (n + j) (by omega) index term _ _ x _ (HST.out.below HA.out)).mono ?_
      rintro e w4 ⟨index2, term2, err, psv2, xsv2, u, rfl, hst4, hb4⟩
      obtain ⟨⟨Ap2, np2, cp2, rfl⟩, ⟨Ax2, nx2, cx2, rfl⟩⟩ := id hst4.forms
      rw [World.size_alloc] at hb4
      have hb5 := HA.out.trans (hb4.mono (Nat.le_succ _))
      have HS4 := Lib.hid (HSS.out.below hb5 HSS.out.lt)
      have HR4 := Lib.hid (HR.out.below hb5 HR.out.lt)
      have HB4 := Lib.hid (HB.out.trans (hb5.mono HB.out.size))
      have HST4 := Lib.hid hst4
      clear hst4 hb4 hb5 c0 c1 c2 c3 c4 c5 c6 c7 s0 s1 s2 s3
      obtain ⟨s0, s1, s2, s3⟩ := Has.four HS4.out
      have v0 := HS4.out.frozen 0
      have v1 := HS4.out.frozen 1
      have v2 := HS4.out.frozen 2
      have v3 := HS4.out.frozen 3
      go_wp2
      go_roundw
      case rel =>
        have f := Fr.set4 w4 W.heap.size (.int .i64 index2) (.int .i64 term2) (.slice Ap2 np2 cp2) (.slice Ax2 nx2 cx2)
        exact ⟨j + 1, index2, term2, _, _, by omega, by go_num, HB4.out.trans (f.toBelow (fun k e => by omega) HB4.out.size), HS4.out.set4 _ _ _ _, HR4.out.fr f (by omega), HST4.out.kpT (KpT.frT (f.mono fun k _ e => by subst e; exact ⟨_, 30, (0, 0), HS4.out, by simp⟩)) (ts := [30]) (by decide) (by decide)⟩
      case measure => simp [intOf]; omega
    · obtain rfl : j = es.length := by omega
      obtain ⟨r0, r1, r2, r3⟩ := Has.four HR.out
      have v0 := HR.out.frozen 0
      have v1 := HR.out.frozen 1
      have v2 := HR.out.frozen 2
      have v3 := HR.out.frozen 3
      go_wp2
      have f := Fr.set4 wr (W.heap.size + 1) (.int .i64 index) (.int .i64 term) (.slice Ap np cp) (.slice Ax nx cx)
      refine bodyPost_ret (results_cell_row rfl _ _ (W.heap.size + 1) 30 _ (0, 0) _ rfl (HR.out.set4 (.int .i64 index) (.int .i64 term) (.slice Ap np cp) (.slice Ax nx cx)) Tryz.underlying30 rfl (by kernel_rfl)) rfl
        ⟨index, term, _, _, rfl, HST.out.kpT (KpT.frT (f.mono fun k _ e => by subst e; exact ⟨_, 30, (0, 0), HR.out, by simp⟩)) (ts := [30]) (by decide) (by decide), HB.out.trans (f.toBelow (fun k e => by omega) HB.out.size)⟩
end Go.Proofs.YtjkkclfndlfjhaaGreatDoor
/- Contract of image.Full: bytes, some, of a state that is small. -/
namespace Go.Proofs.YtjkkclfndlfjhaaGreatDoor
open Go.RowKit Crc Frm Go.ChangeShapes Go.WideShapes Go.ChangeAt

/-- What Full leaves of a small state. -/
def FullLeft (W : World) (e : Ending) (W' : World) : Prop :=
  ∃ (v : Value) (bs : List UInt8), e = .returned (.tuple #[v, .int .i64 0]) ∧ Owns W' W.heap.size v bs ∧ 0 < bs.length ∧ bs.length ≤ 40000 ∧ Below W.heap.size W W'
/-- Two rows behind one another. -/
theorem rows_two {w : World} {u1 u2 : Value} {r1 r2 : List UInt8} (h1 : IsBytes w u1 r1) (h2 : IsBytes w u2 r2) : IsRows (w.alloc (.cells #[u1, u2] 72)) (.slice (some ⟨w.heap.size, 0, none⟩) 2 2) [r1, r2] := by
  have hb : Below w.heap.size w (w.alloc (.cells #[u1, u2] 72)) := (Below.refl _ w).alloc (Nat.le_refl _) _
  have hn := Has.new w 72 #[u1, u2]
  refine ⟨_, 2, rfl, by simp, by decide, fun _ => ⟨w.heap.size, 0, rfl, fun i r hi => ?_⟩⟩
  match i, hi with
  | 0, hi => cases hi; exact ⟨u1, hn.cell 0, h1.below hb⟩
  | 1, hi => cases hi; exact ⟨u2, hn.cell 1, h2.below hb⟩
  | i + 2, hi => simp at hi
theorem st_small {n : Nat} {index term : Int} {ps : List Pr} {xs : List Ss} (hp : ∀ p ∈ ps, PKs p.key ∧ PVs p.val) (hx : ∀ x ∈ xs, PVs x.val) (hpl : ps.length ≤ n) (hxl : xs.length ≤ n) (hn : n ≤ 100) : (stBytes index term ps xs).length ≤ 16384 ∧ (putRows ps xs).length ≤ 16384 := by
  have h1 := flat_bound putPair 41 ps fun p hq => by
    have := hp p hq
    unfold PKs PVs at this
    rw [putPair_len]; omega
  have h2 := flat_bound putSess 48 xs fun p hq => by
    have := hx p hq
    unfold PVs at this
    rw [putSess_len]; omega
  simp only [stBytes, putRows, List.length_append, beTo_len]
  omega

set_option maxRecDepth 100000 in
set_option maxHeartbeats 3200000 in
theorem full_any (n : Nat) (hn : n ≤ 100) (index term : Int) (psv xsv : Value) (W : World) (hst : StIn W n psv xsv) :
    Calls Tryz.prog 10 #[.agg #[.int .i64 index, .int .i64 term, psv, xsv]] W (FullLeft W) := by
  obtain ⟨⟨Ap, np, cp, rfl⟩, ⟨Ax, nx, cx, rfl⟩⟩ := id hst.forms
  obtain ⟨ps, xs, hps, hxs, hpp, hxp, hpl, hxl⟩ := hst
  obtain ⟨hsm, hsm2⟩ := st_small (index := index) (term := term) hpp hxp hpl hxl hn
  have hhl : (headBytes 0 index index).length = 17 := by simp [headBytes, beTo_len]
  obtain ⟨hd, hhd⟩ : ∃ hd, hd = headBytes 0 index index := ⟨_, rfl⟩
  obtain ⟨sb, hsb⟩ : ∃ sb, sb = stBytes index term ps xs := ⟨_, rfl⟩
  rw [← hhd] at hhl
  rw [← hsb] at hsm
  have hB := ((Below.refl _ W).alloc (Nat.le_refl _) (.cells #[.int .i64 index, .int .i64 term, .slice Ap np cp, .slice Ax nx cx] 30)).drew
  have X0 := Lib.hid hB
  have K0 := Lib.hid (Has.new W 30 #[.int .i64 index, .int .i64 term, .slice Ap np cp, .slice Ax nx cx]).drew
  have HPS := Lib.hid hps.list
  have HXS := Lib.hid hxs.list
  have CH : Hid (∀ w, Calls Tryz.prog 45 #[.int .i64 0, .int .i64 index, .int .i64 index] w (Made w hd)) := Lib.hid fun w => by rw [hhd]; exact head_any 0 index index w
  have CS : Hid (∀ w, Below W.heap.size W w → Calls Tryz.prog 16 #[.agg #[.int .i64 index, .int .i64 term, .slice Ap np cp, .slice Ax nx cx]] w (Made w sb)) := Lib.hid fun w hw => by rw [hsb]; exact stbytes_any index term _ _ ps xs (by omega) w (HPS.out.below hw (Nat.le_refl _)) (HXS.out.below hw (Nat.le_refl _))
  have hsum : ∀ r ∈ [hd, sb], r.length ≤ 16384 := by
    intro r hr
    simp only [List.mem_cons, List.not_mem_nil, or_false] at hr
    rcases hr with rfl | rfl <;> omega
  have HSUM := Lib.hid hsum
  have hjl := join_bound [hd, sb] hsum
  have hjp : 0 < (join [hd, sb]).length := by simp only [join, List.length_append, length_frame]; omega
  simp only [List.length_cons, List.length_nil] at hjl
  clear hB hps hxs hpp hxp hsum hhd hsb hhl hsm
  go_enter Tryz.func10, Tryz.ntmps10
  go_wp2_with fail
  go_region_held3 (fun w' => w'.cell? ⟨W.heap.size, 0, none⟩ = some (.int .i64 index) ∧ w'.cell? ⟨W.heap.size, 1, none⟩ = some (.int .i64 term) ∧ w'.cell? ⟨W.heap.size, 2, none⟩ = some (.slice Ap np cp) ∧ w'.cell? ⟨W.heap.size, 3, none⟩ = some (.slice Ax nx cx))
    (first | exact K4.out.four | exact K3.out.four | exact K2.out.four | exact K1.out.four | exact L1.out.four | exact K0.out.four)
    (first
      | (go_at_call 44; refine (frames_any _ [hd, sb] (by simp) HSUM.out _ R3.out).mono ?_; rintro e w4 ⟨v4, rfl, ho4, hb4⟩; have K4 := Lib.hid (K3.out.below hb4 K3.out.lt); have X4 := Lib.hid (X3.out.trans (hb4.mono X3.out.size)); have O4 := Lib.hid (ho4.base _ X3.out.size); clear ho4 hb4)
      | (go_at_call 16; refine (CS.out _ X1.out).mono ?_; rintro e w2 ⟨v2, rfl, ho2, hb2⟩; obtain ⟨A2, c2, rfl, -⟩ := id ho2.bytes; have K2 := Lib.hid (K1.out.below hb2 K1.out.lt); have X2 := Lib.hid (X1.out.trans (hb2.mono X1.out.size)); have R3 := Lib.hid (rows_two (B1.out.below hb2) ho2.bytes); have K3 := Lib.hid (K2.out.alloc (.cells #[.slice A1 hd.length c1, .slice A2 sb.length c2] 72)); have X3 := Lib.hid (X2.out.alloc X2.out.size (.cells #[.slice A1 hd.length c1, .slice A2 sb.length c2] 72)); clear ho2 hb2)
      | (go_at_call 45; refine (CH.out _).mono ?_; rintro e w1 ⟨v1, rfl, ho1, hb1⟩; obtain ⟨A1, c1, rfl, -⟩ := id ho1.bytes; have K1 := Lib.hid (K0.out.below hb1 K0.out.lt); have X1 := Lib.hid (X0.out.trans (hb1.mono X0.out.size)); have B1 := Lib.hid ho1.bytes; clear ho1 hb1))
  all_goals
    go_wp2
    go_ret2
    exact ⟨_, _, rfl, O4.out, hjp, by omega, X4.out⟩
end Go.Proofs.YtjkkclfndlfjhaaGreatDoor
