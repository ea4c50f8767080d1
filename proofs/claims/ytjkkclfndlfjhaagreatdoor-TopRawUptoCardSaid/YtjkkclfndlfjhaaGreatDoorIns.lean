/- Contracts of slices.Insert of one element at the items of both maps. -/
import Derived.Test.YtjkkclfndlfjhaaGreatDoorBsf
import Derived.Shelf.Spec.SlicesInsertGrow
set_option linter.all false
namespace Go.Proofs.YtjkkclfndlfjhaaGreatDoor
open Go.RowKit Crc Frm Go.ChangeShapes Go.WideShapes Go.ChangeAt

theorem info213 : (Tryz.prog.info? 213).map (fun i => (i.zero, i.size, i.bytes)) = some (some (.agg #[.int .i64 0, .int .i64 0, .int .i64 0, .int .i64 0, .string ⟨#[]⟩]), 5, 48) := by kernel_rfl
theorem info284 : (Tryz.prog.info? 284).map (fun i => (i.zero, i.size, i.bytes)) = some (some (.agg #[.string ⟨#[]⟩, .string ⟨#[]⟩]), 2, 32) := by kernel_rfl

/-- copy between elements of several cells: all is read before anything is written. -/
theorem run_copy_k {P : Program} (w : World) (dT sT ty elem : TypeId) (K m b o dLen dCap : Nat) (a : Addr) (sLen sCap : Nat) (cs : List Value)
    (hu : P.underlying dT = some (.slice elem)) (hs : (P.info? elem).map (·.size) = some K) (hm : Nat.min sLen dLen = m) (hn : cs.length = m * K)
    (hsrc : ∀ j v, cs[j]? = some v → w.cell? (a.add j) = some v) (hc : ∀ j, j < cs.length → (w.cell? ⟨b, o + j, none⟩).isSome = true) (hf : ∀ j, j < cs.length → w.frozen? ⟨b, o + j, none⟩ = false) (h1 : ∀ v ∈ cs, v.oneCell' = true) :
    (Builtin.copy_ #[dT, sT] ty #[.slice (some ⟨b, o, none⟩) dLen dCap, .slice (some a) sLen sCap]).run P w = .ok (goInt m) (w.setCells b o cs) := by
  have hl := run_loadCells_list (P := P) w a cs hsrc
  have hst := run_storeCells_cells (P := P) b o cs 0 w (by simpa using hc) (by simpa using hf) h1
  cases hq : P.info? elem with
  | none => simp [hq] at hs
  | some i =>
    have hi : i.size = K := by simpa [hq] using hs
    simp [Builtin.copy_, run_underlying hu, Builtin.lenOf, Builtin.firstCells, sizeOf, typeInfo, hq, hi, hm, ← hn, hl, hst]

theorem put_up {l a b : List Value} {o : Nat} (h : o + a.length + b.length ≤ l.length) :
    (l.take o ++ a ++ l.drop (o + a.length)).take (o + a.length) ++ b ++ (l.take o ++ a ++ l.drop (o + a.length)).drop (o + a.length + b.length) = l.take o ++ (a ++ b) ++ l.drop (o + a.length + b.length) := by
  have hl : (l.take o ++ a).length = o + a.length := by rw [List.length_append, List.length_take]; omega
  rw [List.take_left' hl, List.drop_append, hl, List.drop_eq_nil_of_le (by omega), List.nil_append, List.drop_drop, show o + a.length + (o + a.length + b.length - (o + a.length)) = o + a.length + b.length by omega]
  simp only [List.append_assoc]
theorem put_down {l a b : List Value} {o : Nat} (h : o + a.length + b.length ≤ l.length) :
    (l.take (o + a.length) ++ b ++ l.drop (o + a.length + b.length)).take o ++ a ++ (l.take (o + a.length) ++ b ++ l.drop (o + a.length + b.length)).drop (o + a.length) = l.take o ++ (a ++ b) ++ l.drop (o + a.length + b.length) := by
  have hl : (l.take (o + a.length)).length = o + a.length := by rw [List.length_take]; omega
  rw [List.append_assoc (l.take (o + a.length)), List.drop_left' hl, List.take_append_of_le_length (by omega), List.take_take, Nat.min_eq_left (by omega)]
  simp only [List.append_assoc]
/-- A row in which an element stands anew. -/
theorem OwnL.ins {α : Type} {L : Lay α} {W : World} {base g E cap i : Nat} {F rest : List Value} {xs : List α} {x : α} (hi : i ≤ xs.length) (hb : base ≤ g) (hH : Has W g E (F ++ (L.cells x ++ L.flat (xs.drop i)) ++ rest).toArray) (hF : F = L.flat (xs.take i))
    (hlen : (F ++ (L.cells x ++ L.flat (xs.drop i)) ++ rest).length = cap * L.k) (hc : xs.length + 1 ≤ cap) (hm : cap ≤ maxLen) : OwnL W base E L (.slice (some ⟨g, 0, none⟩) (xs.length + 1) cap) (xs.take i ++ x :: xs.drop i) := by
  have hn : (xs.take i ++ x :: xs.drop i).length = xs.length + 1 := by rw [List.length_append, List.length_take, List.length_cons, List.length_drop]; omega
  have e : F ++ (L.cells x ++ L.flat (xs.drop i)) = L.flat (xs.take i ++ x :: xs.drop i) := by rw [hF, Lay.flat_append, Lay.flat_cons]
  rw [e] at hH hlen
  refine ⟨by rw [Lay.flat_len], .inr ⟨g, cap, _, by rw [hn], hb, hH, by omega, hm, ?_, ?_⟩⟩
  · rw [List.size_toArray]; exact hlen
  · rw [List.toList_toArray, List.take_left' (by rw [Lay.flat_len])]

/-- What Insert of one element leaves. -/
def InsLeft {α : Type} (L : Lay α) (E : TypeId) (W : World) (base : Nat) (v : Value) (xs : List α) (i : Nat) (x : α) (e : Ending) (W' : World) : Prop :=
  ∃ v', e = .returned v' ∧ OwnL W' base E L v' (xs.take i ++ x :: xs.drop i) ∧ W.grownBy W' v.ownBlock

set_option maxRecDepth 100000 in
set_option maxHeartbeats 3200000 in
theorem insI_end (v : Value) (xs : List (Int × Ss)) (x : Int × Ss) (base vb : Nat) (hl : xs.length ≤ 100000000) (W : World) (hbase : base ≤ W.heap.size) (hown : OwnL W base 213 layIs v xs) (hx : Has W vb 213 (layIs.cells x).toArray) :
    Calls Tryz.prog 98 #[v, .int .i64 (xs.length : Int), .slice (some ⟨vb, 0, none⟩) 1 1] W (InsLeft layIs 213 W base v xs xs.length x) := by
  obtain ⟨i0, hi0, hz0, hz1, hz2⟩ := info_parts info213
  have hcell : ∀ j u, (layIs.flat [x])[j]? = some u → W.cell? ((⟨vb, 0, none⟩ : Addr).add j) = some u := fun j u hj => by
    rw [add_none, Nat.zero_add, hx.cell, List.getElem?_toArray, ← Lay.flat_one]
    exact hj
  have HO := Lib.hid hown
  have HC := Lib.hid hcell
  have hend : Hid (∀ v' w', OwnL w' base 213 layIs v' (xs ++ [x]) → W.grownBy w' v.ownBlock → InsLeft layIs 213 W base v xs xs.length x (.returned v') w') := fun v' w' h1 h2 =>
    ⟨v', rfl, by rw [List.take_length, List.drop_length]; exact h1, h2⟩
  rcases id hown.2 with ⟨rfl, h0⟩ | ⟨g, cap, cur, rfl, hbg, hg, hnc, hcm, hcs, htake⟩
  · obtain rfl : xs = [] := List.length_eq_zero_iff.1 h0
    clear hown hcell hx
    simp only [List.length_nil] at hend HO ⊢
    go_enter Tryz.func98, Tryz.ntmps98
    go_wp2_with (at_builtin; refine wpl_append_list _ rfl 207 213 (.tmp 23) (.tmp 24) rfl base _ [] [x] i0 _ 48 Tryz.underlying207 hi0 hz0 hz1 hz2 rfl (by decide) rfl HO.out ⟨vb, 0, none⟩ 1 rfl HC.out (by simp) hbase ?_)
    intro v1 w1 ho1 hg1 _
    have HO1 := Lib.hid ho1
    have HG1 := Lib.hid hg1
    clear ho1 hg1
    go_wp2
    go_ret
    exact hend.out _ _ HO1.out HG1.out
  · have hin : ¬ (cap < xs.length) := by omega
    clear hown hcell hx hcs htake hg
    go_enter Tryz.func98, Tryz.ntmps98
    go_wp2_with (at_builtin; refine wpl_append_list _ rfl 207 213 (.tmp 23) (.tmp 24) rfl base _ xs [x] i0 _ 48 Tryz.underlying207 hi0 hz0 hz1 hz2 rfl (by decide) rfl HO.out ⟨vb, 0, none⟩ 1 rfl HC.out (by simp; omega) hbase ?_)
    all_goals
      intro v1 w1 ho1 hg1 _
      have HO1 := Lib.hid ho1
      have HG1 := Lib.hid hg1
      clear ho1 hg1
      go_wp2
      go_ret
      exact hend.out _ _ HO1.out HG1.out

set_option maxRecDepth 100000 in
set_option maxHeartbeats 3200000 in
theorem insS_end (v : Value) (xs : List (ByteArray × ByteArray)) (x : ByteArray × ByteArray) (base vb : Nat) (hl : xs.length ≤ 100000000) (W : World) (hbase : base ≤ W.heap.size) (hown : OwnL W base 284 layTt v xs) (hx : Has W vb 284 (layTt.cells x).toArray) :
    Calls Tryz.prog 152 #[v, .int .i64 (xs.length : Int), .slice (some ⟨vb, 0, none⟩) 1 1] W (InsLeft layTt 284 W base v xs xs.length x) := by
  obtain ⟨i0, hi0, hz0, hz1, hz2⟩ := info_parts info284
  have hcell : ∀ j u, (layTt.flat [x])[j]? = some u → W.cell? ((⟨vb, 0, none⟩ : Addr).add j) = some u := fun j u hj => by
    rw [add_none, Nat.zero_add, hx.cell, List.getElem?_toArray, ← Lay.flat_one]
    exact hj
  have HO := Lib.hid hown
  have HC := Lib.hid hcell
  have hend : Hid (∀ v' w', OwnL w' base 284 layTt v' (xs ++ [x]) → W.grownBy w' v.ownBlock → InsLeft layTt 284 W base v xs xs.length x (.returned v') w') := fun v' w' h1 h2 =>
    ⟨v', rfl, by rw [List.take_length, List.drop_length]; exact h1, h2⟩
  rcases id hown.2 with ⟨rfl, h0⟩ | ⟨g, cap, cur, rfl, hbg, hg, hnc, hcm, hcs, htake⟩
  · obtain rfl : xs = [] := List.length_eq_zero_iff.1 h0
    clear hown hcell hx
    simp only [List.length_nil] at hend HO ⊢
    go_enter Tryz.func152, Tryz.ntmps152
    go_wp2_with (at_builtin; refine wpl_append_list _ rfl 214 284 (.tmp 23) (.tmp 24) rfl base _ [] [x] i0 _ 32 Tryz.underlying214 hi0 hz0 hz1 hz2 rfl (by decide) rfl HO.out ⟨vb, 0, none⟩ 1 rfl HC.out (by simp) hbase ?_)
    intro v1 w1 ho1 hg1 _
    have HO1 := Lib.hid ho1
    have HG1 := Lib.hid hg1
    clear ho1 hg1
    go_wp2
    go_ret
    exact hend.out _ _ HO1.out HG1.out
  · have hin : ¬ (cap < xs.length) := by omega
    clear hown hcell hx hcs htake hg
    go_enter Tryz.func152, Tryz.ntmps152
    go_wp2_with (at_builtin; refine wpl_append_list _ rfl 214 284 (.tmp 23) (.tmp 24) rfl base _ xs [x] i0 _ 32 Tryz.underlying214 hi0 hz0 hz1 hz2 rfl (by decide) rfl HO.out ⟨vb, 0, none⟩ 1 rfl HC.out (by simp; omega) hbase ?_)
    all_goals
      intro v1 w1 ho1 hg1 _
      have HO1 := Lib.hid ho1
      have HG1 := Lib.hid hg1
      clear ho1 hg1
      go_wp2
      go_ret
      exact hend.out _ _ HO1.out HG1.out

set_option maxRecDepth 100000 in
set_option maxHeartbeats 6400000 in
theorem insI_grow (g cap : Nat) (xs : List (Int × Ss)) (x : Int × Ss) (i base vb : Nat) (hi : i < xs.length) (hl : xs.length ≤ 100000000) (W : World) (hbase : base ≤ W.heap.size) (hown : OwnL W base 213 layIs (.slice (some ⟨g, 0, none⟩) xs.length cap) xs) (hcap : xs.length = cap) (hx : Has W vb 213 (layIs.cells x).toArray) :
    Calls Tryz.prog 98 #[.slice (some ⟨g, 0, none⟩) xs.length cap, .int .i64 (i : Int), .slice (some ⟨vb, 0, none⟩) 1 1] W (InsLeft layIs 213 W base (.slice (some ⟨g, 0, none⟩) xs.length cap) xs i x) := by
  obtain ⟨i0, hi0, hz0, hz1, hz2⟩ := info_parts info213
  subst hcap
  have hrow := hown.list
  have hgl : g < W.heap.size := (hown.lt g rfl).2
  have hold : (Builtin.firstCells i0.size i (.slice (some ⟨g, 0, none⟩) i xs.length)).run Tryz.prog W.drew = .ok (layIs.flat (xs.take i)).toArray W.drew := by
    rw [hz1]
    refine run_firstCells_some W.drew 5 i ⟨g, 0, none⟩ i xs.length _ (by rw [Lay.flat_len, List.length_take, Nat.min_eq_left (by omega)]; rfl) (fun j u hj => ?_)
    have h1 : (layIs.flat xs)[j]? = some u := by
      rw [← List.take_append_drop i xs, Lay.flat_append, List.getElem?_append_left (List.getElem?_eq_some_iff.1 hj).1]
      exact hj
    exact World.ownsRow.cells hown (g := g) rfl _ _ h1
  obtain ⟨G, hG⟩ : ∃ G, G = grownCap W (xs.length + 1) xs.length 213 := ⟨_, rfl⟩
  have hG1 : xs.length + 1 ≤ G := by rw [hG]; exact grownCap_ge W _ _ _
  have hG2 : G ≤ maxLen := by rw [hG]; exact grownCap_le_maxLen W _ _ _ (by simp only [maxLen]; omega)
  have hik : i + (xs.length + 1 - i) = xs.length + 1 := by omega
  have hkk : (xs.length : Int) + 1 - (i : Int) = ((xs.length + 1 - i : Nat) : Int) := by omega
  obtain ⟨ROW, hROW⟩ : ∃ ROW : Array Value, ROW = (layIs.flat (xs.take i)).toArray ++ Builtin.zeroCells (Value.agg #[.int .i64 0, .int .i64 0, .int .i64 0, .int .i64 0, .string ⟨#[]⟩]).cells (xs.length + 1 - i) ++ Builtin.zeroCells (Value.agg #[.int .i64 0, .int .i64 0, .int .i64 0, .int .i64 0, .string ⟨#[]⟩]).cells (G - (xs.length + 1)) := ⟨_, rfl⟩
  have hRs : ROW.size = G * 5 := by
    rw [hROW, Array.size_append, Array.size_append, size_zeroCells, size_zeroCells, List.size_toArray, Lay.flat_len, List.length_take, Nat.min_eq_left (by omega)]
    show i * 5 + (xs.length + 1 - i) * 5 + (G - (xs.length + 1)) * 5 = G * 5
    omega
  have hRt : ROW.toList.take (i * 5) = layIs.flat (xs.take i) := by
    rw [hROW]
    simp only [Array.toList_append, List.append_assoc]
    exact List.take_left' (by rw [Lay.flat_len, List.length_take, Nat.min_eq_left (by omega)]; rfl)
  obtain ⟨W1, hW1⟩ : ∃ W1, W1 = W.drew.alloc (.cells ROW 213) := ⟨_, rfl⟩
  have hrz : ∀ ty, (Builtin.append_ #[207, 3] ty #[.slice (some ⟨g, 0, none⟩) i xs.length, .int .i64 ((xs.length : Int) + 1 - (i : Int))]).run Tryz.prog W = .ok (.slice (some ⟨W.heap.size, 0, none⟩) (xs.length + 1) G) W1 := fun ty => by
    have h := Lib.run_append_grow_zeros W 207 3 ty 213 i0 _ .i64 .i64 Tryz.underlying207 Tryz.underlying3 hi0 hz0 (some ⟨g, 0, none⟩) i xs.length _ hold (xs.length + 1 - i) (by omega) (by omega) (by omega) (by omega) (by rw [hz2]; omega) (by rw [hz2, hik]; exact growslice_fits (by omega) (by omega))
    rw [hik, ← hG, ← hROW, ← hW1] at h
    rw [hkk]
    exact h
  have hN1 : Has W1 W.heap.size 213 ROW := by rw [hW1]; exact Has.new W.drew 213 ROW
  have hg1 : W.grownBy W1 none := by rw [hW1]; exact grown_alloc (grown_drew (World.grownBy.refl W none)) _
  have hx1 : Has W1 vb 213 (layIs.cells x).toArray := hx.kept hg1 (by simp)
  have hl1 : IsL W1 layIs _ xs := hrow.kept hg1 (fun _ => by simp [Value.ownBlock])
  have hxl : (layIs.cells x).length = 5 := layIs.len x
  have hdl : (layIs.flat (xs.drop i)).length = (xs.length - i) * 5 := by rw [Lay.flat_len, List.length_drop]; rfl
  have hvN : vb < W.heap.size := hx.lt
  obtain ⟨W2, hW2⟩ : ∃ W2, W2 = W1.setCells W.heap.size (i * 5) (layIs.cells x) := ⟨_, rfl⟩
  have hsz : (Tryz.prog.info? 213).map (·.size) = some 5 := by rw [hi0]; simp [hz1]
  have hcpA : ∀ ty dl dc sc, 1 ≤ dl → (Builtin.copy_ #[207, 207] ty #[.slice (some ⟨W.heap.size, i * 5, none⟩) dl dc, .slice (some ⟨vb, 0, none⟩) 1 sc]).run Tryz.prog W1 = .ok (goInt 1) W2 := fun ty dl dc sc hdl1 => by
    rw [hW2]
    exact run_copy_k W1 207 207 ty 213 5 1 W.heap.size (i * 5) dl dc ⟨vb, 0, none⟩ 1 sc _ Tryz.underlying207 hsz (Nat.min_eq_left hdl1) (by rw [hxl])
      (fun j v hj => by rw [add_none, Nat.zero_add, hx1.cell, List.getElem?_toArray]; exact hj)
      (fun j hj => by rw [hN1.cell, Array.getElem?_eq_getElem (by omega)]; rfl) (fun j hj => hN1.frozen _) (layIs.one x)
  have hN2 := hN1.setCells (layIs.cells x) (i * 5) (by omega)
  rw [← hW2] at hN2
  have hg2 : W1.grownBy W2 (some W.heap.size) := by rw [hW2]; exact grown_setCells _ _ _
  have hl2 : IsL W2 layIs _ xs := hl1.kept hg2 (fun _ => by simp [Value.ownBlock]; omega)
  obtain ⟨W3, hW3⟩ : ∃ W3, W3 = W2.drew.setCells W.heap.size ((i + 1) * 5) (layIs.flat (xs.drop i)) := ⟨_, rfl⟩
  have hR2 : (ROW.toList.take (i * 5) ++ layIs.cells x ++ ROW.toList.drop (i * 5 + (layIs.cells x).length)).length = G * 5 := by
    rw [List.length_append, List.length_append, List.length_take, List.length_drop, Array.length_toList (xs := ROW)]
    omega
  have hcpB : ∀ ty dl dc sl sc, Nat.min sl dl = xs.length - i → (Builtin.copy_ #[207, 207] ty #[.slice (some ⟨W.heap.size, (i + 1) * 5, none⟩) dl dc, .slice (some ⟨g, i * 5, none⟩) sl sc]).run Tryz.prog W2.drew = .ok (goInt (xs.length - i : Nat)) W3 := fun ty dl dc sl sc hmin => by
    rw [hW3]
    refine run_copy_k W2.drew 207 207 ty 213 5 (xs.length - i) W.heap.size ((i + 1) * 5) dl dc ⟨g, i * 5, none⟩ sl sc _ Tryz.underlying207 hsz hmin hdl ?_ (fun j hj => ?_) (fun j hj => hN2.drew.frozen _) (Lay.flat_all _)
    · intro j u hj
      obtain ⟨A', cap', hv, _, _, hr⟩ := hl2
      obtain ⟨b, off, hA, hc⟩ := hr (by omega)
      simp only [Value.slice.injEq] at hv
      obtain ⟨rfl, _, rfl⟩ := hv
      cases hA
      have h1 : (layIs.flat xs)[i * 5 + j]? = some u := by
        rw [← List.take_append_drop i xs, Lay.flat_append, List.getElem?_append_right (by rw [Lay.flat_len, List.length_take, Nat.min_eq_left (by omega)]; exact Nat.le_add_right _ _), Lay.flat_len, List.length_take, Nat.min_eq_left (by omega)]
        show (_)[i * 5 + j - i * 5]? = _
        rw [Nat.add_sub_cancel_left]
        exact hj
      have h2 := hc _ _ h1
      rw [Nat.zero_add] at h2
      rw [add_none]
      exact h2
    · rw [hN2.drew.cell, List.getElem?_toArray, List.getElem?_eq_getElem (by rw [hR2]; omega)]
      rfl
  have hN3 := hN2.drew.setCells (layIs.flat (xs.drop i)) ((i + 1) * 5) (by rw [List.size_toArray, hR2]; omega)
  rw [← hW3] at hN3
  have hres : Hid (InsLeft layIs 213 W base (.slice (some ⟨g, 0, none⟩) xs.length xs.length) xs i x (.returned (.slice (some ⟨W.heap.size, 0, none⟩) (xs.length + 1) G)) W3) := by
    refine ⟨_, rfl, ?_, ?_⟩
    · rw [List.toList_toArray, show (i + 1) * 5 = i * 5 + (layIs.cells x).length by rw [hxl]; omega, put_up (by rw [Array.length_toList (xs := ROW)]; omega)] at hN3
      refine OwnL.ins (by omega) hbase hN3 hRt ?_ hG1 hG2
      simp only [List.length_append, List.length_take, List.length_drop, Array.length_toList (xs := ROW), hxl, hdl]
      show _ = G * 5
      omega
    · have h3 : W2.grownBy W3 (some W.heap.size) := by rw [hW3]; exact (grown_drew (World.grownBy.refl W2 _)).trans (grown_setCells _ _ _)
      exact grown_trans (grown_trans (grown_trans (World.grownBy.refl W _) hg1 (fun k e => by cases e)) hg2 (fun k e hk => by cases e; omega)) h3 (fun k e hk => by cases e; omega)
  have HA := Lib.hid hcpA
  have HB := Lib.hid hcpB
  have HH := Lib.hid (show ¬ G = i ∧ ¬ G = i + 1 ∧ i ≤ G ∧ i + 1 ≤ G ∧ xs.length + 1 ≤ G ∧ G ≤ 9223372036854775807 from ⟨by omega, by omega, by omega, by omega, hG1, by simp only [maxLen] at hG2; omega⟩)
  have hci : ¬ xs.length = i := by omega
  have hin : i ≤ xs.length := by omega
  have hne : ¬ ((i : Int) = (xs.length : Int)) := by omega
  have HZ := Lib.hid hrz
  clear hG1 hG2 hW1 hW2 hW3 hcpA hcpB hrz hN1 hN2 hN3 hg1 hg2 hx1 hx hl1 hl2 hrow hown hold hROW hRs hRt hR2 hxl hdl hG hsz hik hkk
  go_enter Tryz.func98, Tryz.ntmps98
  go_wp2_with (first
    | (at_builtin; refine Lib.wpList_append_run _ rfl _ _ _ _ rfl _ _ rfl rfl _ _ (HZ.out _) ?_; obtain ⟨hgc, hgc2, hgi, hgi2, hgn, hgm⟩ := HH.out)
    | (with_reducible show wpList _ _ _ (Oper.mk _ (Op.call ⟨Callee.builtin Builtin.copy, _, _⟩) _ _ _ _ :: _) _ _; refine wpList_copy_runI _ rfl _ _ 207 207 rfl _ _ rfl rfl (HA.out _ _ _ _ (by omega)) ?_))
  have hm1 : Nat.min (xs.length - i) (xs.length + 1 - (i + 1)) = xs.length - i := by rw [show xs.length + 1 - (i + 1) = xs.length - i by omega]; exact Nat.min_self _
  have HM := Lib.hid hm1
  clear hm1
  have hw1 : IntKind.i64.wrap ((i : Int) + 1) = (i : Int) + 1 := by rw [IntKind.wrap_i64]; omega
  have hb1 : (0 : Int) ≤ (i : Int) + 1 := by omega
  have htn : ((i : Int) + 1).toNat = i + 1 := by omega
  have hb3 : i ≤ xs.length + 1 := by omega
  have hb5 : i < G := by omega
  go_region_law (refine step_copy_runI rfl _ _ 207 207 rfl (.slice (some ⟨W.heap.size, (i + 1) * 5, none⟩) (xs.length + 1 - (i + 1)) (G - (i + 1))) (.slice (some ⟨g, i * 5, none⟩) (xs.length - i) (xs.length - i)) (by simp [Act.eval, Act.put]) (by simp [Act.eval, Act.put]) (HB.out 3 _ _ _ _ HM.out) ?_)
  go_wp2
  go_ret
  exact hres.out

set_option maxRecDepth 100000 in
set_option maxHeartbeats 6400000 in
theorem insS_grow (g cap : Nat) (xs : List (ByteArray × ByteArray)) (x : ByteArray × ByteArray) (i base vb : Nat) (hi : i < xs.length) (hl : xs.length ≤ 100000000) (W : World) (hbase : base ≤ W.heap.size) (hown : OwnL W base 284 layTt (.slice (some ⟨g, 0, none⟩) xs.length cap) xs) (hcap : xs.length = cap) (hx : Has W vb 284 (layTt.cells x).toArray) :
    Calls Tryz.prog 152 #[.slice (some ⟨g, 0, none⟩) xs.length cap, .int .i64 (i : Int), .slice (some ⟨vb, 0, none⟩) 1 1] W (InsLeft layTt 284 W base (.slice (some ⟨g, 0, none⟩) xs.length cap) xs i x) := by
  obtain ⟨i0, hi0, hz0, hz1, hz2⟩ := info_parts info284
  subst hcap
  have hrow := hown.list
  have hgl : g < W.heap.size := (hown.lt g rfl).2
  have hold : (Builtin.firstCells i0.size i (.slice (some ⟨g, 0, none⟩) i xs.length)).run Tryz.prog W.drew = .ok (layTt.flat (xs.take i)).toArray W.drew := by
    rw [hz1]
    refine run_firstCells_some W.drew 2 i ⟨g, 0, none⟩ i xs.length _ (by rw [Lay.flat_len, List.length_take, Nat.min_eq_left (by omega)]; rfl) (fun j u hj => ?_)
    have h1 : (layTt.flat xs)[j]? = some u := by
      rw [← List.take_append_drop i xs, Lay.flat_append, List.getElem?_append_left (List.getElem?_eq_some_iff.1 hj).1]
      exact hj
    exact World.ownsRow.cells hown (g := g) rfl _ _ h1
  obtain ⟨G, hG⟩ : ∃ G, G = grownCap W (xs.length + 1) xs.length 284 := ⟨_, rfl⟩
  have hG1 : xs.length + 1 ≤ G := by rw [hG]; exact grownCap_ge W _ _ _
  have hG2 : G ≤ maxLen := by rw [hG]; exact grownCap_le_maxLen W _ _ _ (by simp only [maxLen]; omega)
  have hik : i + (xs.length + 1 - i) = xs.length + 1 := by omega
  have hkk : (xs.length : Int) + 1 - (i : Int) = ((xs.length + 1 - i : Nat) : Int) := by omega
  obtain ⟨ROW, hROW⟩ : ∃ ROW : Array Value, ROW = (layTt.flat (xs.take i)).toArray ++ Builtin.zeroCells (Value.agg #[.string ⟨#[]⟩, .string ⟨#[]⟩]).cells (xs.length + 1 - i) ++ Builtin.zeroCells (Value.agg #[.string ⟨#[]⟩, .string ⟨#[]⟩]).cells (G - (xs.length + 1)) := ⟨_, rfl⟩
  have hRs : ROW.size = G * 2 := by
    rw [hROW, Array.size_append, Array.size_append, size_zeroCells, size_zeroCells, List.size_toArray, Lay.flat_len, List.length_take, Nat.min_eq_left (by omega)]
    show i * 2 + (xs.length + 1 - i) * 2 + (G - (xs.length + 1)) * 2 = G * 2
    omega
  have hRt : ROW.toList.take (i * 2) = layTt.flat (xs.take i) := by
    rw [hROW]
    simp only [Array.toList_append, List.append_assoc]
    exact List.take_left' (by rw [Lay.flat_len, List.length_take, Nat.min_eq_left (by omega)]; rfl)
  obtain ⟨W1, hW1⟩ : ∃ W1, W1 = W.drew.alloc (.cells ROW 284) := ⟨_, rfl⟩
  have hrz : ∀ ty, (Builtin.append_ #[214, 3] ty #[.slice (some ⟨g, 0, none⟩) i xs.length, .int .i64 ((xs.length : Int) + 1 - (i : Int))]).run Tryz.prog W = .ok (.slice (some ⟨W.heap.size, 0, none⟩) (xs.length + 1) G) W1 := fun ty => by
    have h := Lib.run_append_grow_zeros W 214 3 ty 284 i0 _ .i64 .i64 Tryz.underlying214 Tryz.underlying3 hi0 hz0 (some ⟨g, 0, none⟩) i xs.length _ hold (xs.length + 1 - i) (by omega) (by omega) (by omega) (by omega) (by rw [hz2]; omega) (by rw [hz2, hik]; exact growslice_fits (by omega) (by omega))
    rw [hik, ← hG, ← hROW, ← hW1] at h
    rw [hkk]
    exact h
  have hN1 : Has W1 W.heap.size 284 ROW := by rw [hW1]; exact Has.new W.drew 284 ROW
  have hg1 : W.grownBy W1 none := by rw [hW1]; exact grown_alloc (grown_drew (World.grownBy.refl W none)) _
  have hx1 : Has W1 vb 284 (layTt.cells x).toArray := hx.kept hg1 (by simp)
  have hl1 : IsL W1 layTt _ xs := hrow.kept hg1 (fun _ => by simp [Value.ownBlock])
  have hxl : (layTt.cells x).length = 2 := layTt.len x
  have hdl : (layTt.flat (xs.drop i)).length = (xs.length - i) * 2 := by rw [Lay.flat_len, List.length_drop]; rfl
  have hvN : vb < W.heap.size := hx.lt
  obtain ⟨W2, hW2⟩ : ∃ W2, W2 = W1.setCells W.heap.size (i * 2) (layTt.cells x) := ⟨_, rfl⟩
  have hsz : (Tryz.prog.info? 284).map (·.size) = some 2 := by rw [hi0]; simp [hz1]
  have hcpA : ∀ ty dl dc sc, 1 ≤ dl → (Builtin.copy_ #[214, 214] ty #[.slice (some ⟨W.heap.size, i * 2, none⟩) dl dc, .slice (some ⟨vb, 0, none⟩) 1 sc]).run Tryz.prog W1 = .ok (goInt 1) W2 := fun ty dl dc sc hdl1 => by
    rw [hW2]
    exact run_copy_k W1 214 214 ty 284 2 1 W.heap.size (i * 2) dl dc ⟨vb, 0, none⟩ 1 sc _ Tryz.underlying214 hsz (Nat.min_eq_left hdl1) (by rw [hxl])
      (fun j v hj => by rw [add_none, Nat.zero_add, hx1.cell, List.getElem?_toArray]; exact hj)
      (fun j hj => by rw [hN1.cell, Array.getElem?_eq_getElem (by omega)]; rfl) (fun j hj => hN1.frozen _) (layTt.one x)
  have hN2 := hN1.setCells (layTt.cells x) (i * 2) (by omega)
  rw [← hW2] at hN2
  have hg2 : W1.grownBy W2 (some W.heap.size) := by rw [hW2]; exact grown_setCells _ _ _
  have hl2 : IsL W2 layTt _ xs := hl1.kept hg2 (fun _ => by simp [Value.ownBlock]; omega)
  obtain ⟨W3, hW3⟩ : ∃ W3, W3 = W2.drew.setCells W.heap.size ((i + 1) * 2) (layTt.flat (xs.drop i)) := ⟨_, rfl⟩
  have hR2 : (ROW.toList.take (i * 2) ++ layTt.cells x ++ ROW.toList.drop (i * 2 + (layTt.cells x).length)).length = G * 2 := by
    rw [List.length_append, List.length_append, List.length_take, List.length_drop, Array.length_toList (xs := ROW)]
    omega
  have hcpB : ∀ ty dl dc sl sc, Nat.min sl dl = xs.length - i → (Builtin.copy_ #[214, 214] ty #[.slice (some ⟨W.heap.size, (i + 1) * 2, none⟩) dl dc, .slice (some ⟨g, i * 2, none⟩) sl sc]).run Tryz.prog W2.drew = .ok (goInt (xs.length - i : Nat)) W3 := fun ty dl dc sl sc hmin => by
    rw [hW3]
    refine run_copy_k W2.drew 214 214 ty 284 2 (xs.length - i) W.heap.size ((i + 1) * 2) dl dc ⟨g, i * 2, none⟩ sl sc _ Tryz.underlying214 hsz hmin hdl ?_ (fun j hj => ?_) (fun j hj => hN2.drew.frozen _) (Lay.flat_all _)
    · intro j u hj
      obtain ⟨A', cap', hv, _, _, hr⟩ := hl2
      obtain ⟨b, off, hA, hc⟩ := hr (by omega)
      simp only [Value.slice.injEq] at hv
      obtain ⟨rfl, _, rfl⟩ := hv
      cases hA
      have h1 : (layTt.flat xs)[i * 2 + j]? = some u := by
        rw [← List.take_append_drop i xs, Lay.flat_append, List.getElem?_append_right (by rw [Lay.flat_len, List.length_take, Nat.min_eq_left (by omega)]; exact Nat.le_add_right _ _), Lay.flat_len, List.length_take, Nat.min_eq_left (by omega)]
        show (_)[i * 2 + j - i * 2]? = _
        rw [Nat.add_sub_cancel_left]
        exact hj
      have h2 := hc _ _ h1
      rw [Nat.zero_add] at h2
      rw [add_none]
      exact h2
    · rw [hN2.drew.cell, List.getElem?_toArray, List.getElem?_eq_getElem (by rw [hR2]; omega)]
      rfl
  have hN3 := hN2.drew.setCells (layTt.flat (xs.drop i)) ((i + 1) * 2) (by rw [List.size_toArray, hR2]; omega)
  rw [← hW3] at hN3
  have hres : Hid (InsLeft layTt 284 W base (.slice (some ⟨g, 0, none⟩) xs.length xs.length) xs i x (.returned (.slice (some ⟨W.heap.size, 0, none⟩) (xs.length + 1) G)) W3) := by
    refine ⟨_, rfl, ?_, ?_⟩
    · rw [List.toList_toArray, show (i + 1) * 2 = i * 2 + (layTt.cells x).length by rw [hxl]; omega, put_up (by rw [Array.length_toList (xs := ROW)]; omega)] at hN3
      refine OwnL.ins (by omega) hbase hN3 hRt ?_ hG1 hG2
      simp only [List.length_append, List.length_take, List.length_drop, Array.length_toList (xs := ROW), hxl, hdl]
      show _ = G * 2
      omega
    · have h3 : W2.grownBy W3 (some W.heap.size) := by rw [hW3]; exact (grown_drew (World.grownBy.refl W2 _)).trans (grown_setCells _ _ _)
      exact grown_trans (grown_trans (grown_trans (World.grownBy.refl W _) hg1 (fun k e => by cases e)) hg2 (fun k e hk => by cases e; omega)) h3 (fun k e hk => by cases e; omega)
  have HA := Lib.hid hcpA
  have HB := Lib.hid hcpB
  have HH := Lib.hid (show ¬ G = i ∧ ¬ G = i + 1 ∧ i ≤ G ∧ i + 1 ≤ G ∧ xs.length + 1 ≤ G ∧ G ≤ 9223372036854775807 from ⟨by omega, by omega, by omega, by omega, hG1, by simp only [maxLen] at hG2; omega⟩)
  have hci : ¬ xs.length = i := by omega
  have hin : i ≤ xs.length := by omega
  have hne : ¬ ((i : Int) = (xs.length : Int)) := by omega
  have HZ := Lib.hid hrz
  clear hG1 hG2 hW1 hW2 hW3 hcpA hcpB hrz hN1 hN2 hN3 hg1 hg2 hx1 hx hl1 hl2 hrow hown hold hROW hRs hRt hR2 hxl hdl hG hsz hik hkk
  go_enter Tryz.func152, Tryz.ntmps152
  go_wp2_with (first
    | (at_builtin; refine Lib.wpList_append_run _ rfl _ _ _ _ rfl _ _ rfl rfl _ _ (HZ.out _) ?_; obtain ⟨hgc, hgc2, hgi, hgi2, hgn, hgm⟩ := HH.out)
    | (with_reducible show wpList _ _ _ (Oper.mk _ (Op.call ⟨Callee.builtin Builtin.copy, _, _⟩) _ _ _ _ :: _) _ _; refine wpList_copy_runI _ rfl _ _ 214 214 rfl _ _ rfl rfl (HA.out _ _ _ _ (by omega)) ?_))
  have hm1 : Nat.min (xs.length - i) (xs.length + 1 - (i + 1)) = xs.length - i := by rw [show xs.length + 1 - (i + 1) = xs.length - i by omega]; exact Nat.min_self _
  have HM := Lib.hid hm1
  clear hm1
  have hw1 : IntKind.i64.wrap ((i : Int) + 1) = (i : Int) + 1 := by rw [IntKind.wrap_i64]; omega
  have hb1 : (0 : Int) ≤ (i : Int) + 1 := by omega
  have htn : ((i : Int) + 1).toNat = i + 1 := by omega
  have hb3 : i ≤ xs.length + 1 := by omega
  have hb5 : i < G := by omega
  go_region_law (refine step_copy_runI rfl _ _ 214 214 rfl (.slice (some ⟨W.heap.size, (i + 1) * 2, none⟩) (xs.length + 1 - (i + 1)) (G - (i + 1))) (.slice (some ⟨g, i * 2, none⟩) (xs.length - i) (xs.length - i)) (by simp [Act.eval, Act.put]) (by simp [Act.eval, Act.put]) (HB.out 3 _ _ _ _ HM.out) ?_)
  go_wp2
  go_ret
  exact hres.out

set_option maxRecDepth 100000 in
set_option maxHeartbeats 6400000 in
theorem insI_room (g cap : Nat) (xs : List (Int × Ss)) (x : Int × Ss) (i base vb : Nat) (hi : i < xs.length) (hl : xs.length ≤ 100000000) (W : World) (hown : OwnL W base 213 layIs (.slice (some ⟨g, 0, none⟩) xs.length cap) xs) (hcap : xs.length < cap) (hx : Has W vb 213 (layIs.cells x).toArray) (hvg : vb ≠ g) :
    Calls Tryz.prog 98 #[.slice (some ⟨g, 0, none⟩) xs.length cap, .int .i64 (i : Int), .slice (some ⟨vb, 0, none⟩) 1 1] W (InsLeft layIs 213 W base (.slice (some ⟨g, 0, none⟩) xs.length cap) xs i x) := by
  obtain ⟨i0, hi0, hz0, hz1, hz2⟩ := info_parts info213
  rcases id hown.2 with ⟨h, -⟩ | ⟨g', cap', cur, hv, hbg, hg, hnc, hcm, hcs, htake⟩
  · cases h
  simp only [Value.slice.injEq, Option.some.injEq, Addr.mk.injEq, and_true, true_and] at hv
  obtain ⟨rfl, rfl⟩ := hv
  have hH : Has W g 213 cur := hg
  have hkk : (layIs).k = 5 := rfl
  rw [hkk] at hcs htake
  have hsz : (Tryz.prog.info? 213).map (·.size) = some 5 := by rw [hi0]; simp [hz1]
  have hxl : (layIs.cells x).length = 5 := layIs.len x
  have hdl : (layIs.flat (xs.drop i)).length = (xs.length - i) * 5 := by rw [Lay.flat_len, List.length_drop]; rfl
  have hov : ∀ lb cb, (callFunc 155 #[.slice (some ⟨vb, 0, none⟩) 1 1, .slice (some ⟨g, (i + 1) * 5, none⟩) lb cb]).run Tryz.prog W = .ok (.value (.bool false)) W := fun lb cb => by
    rw [run_callFunc_extern Tryz.func155 (by kernel_rfl) (by kernel_rfl) (by kernel_rfl) (e := Extern.SlicesOverlaps.overlaps #[207, 207] #[4]) (by kernel_rfl),
      Lib.run_overlaps_apart W 207 4 213 Tryz.underlying207 5 (fun w => by simp [sizeOf, typeInfo, hi0, hz1]) ⟨vb, 0, none⟩ ⟨g, (i + 1) * 5, none⟩ 1 1 lb cb hvg 213 213 5 cur.size
        (by simp only [World.shape?]; rw [show W.heap[vb]? = _ from hx]; simp [hxl]) (by simp only [World.shape?]; rw [hg]) (by omega) (hx.frozen _) (hx.frozen _)]
    rfl
  obtain ⟨W1, hW1⟩ : ∃ W1, W1 = W.drew.setCells g ((i + 1) * 5) (layIs.flat (xs.drop i)) := ⟨_, rfl⟩
  have hcpB : ∀ ty dl dc sl sc, Nat.min sl dl = xs.length - i → (Builtin.copy_ #[207, 207] ty #[.slice (some ⟨g, (i + 1) * 5, none⟩) dl dc, .slice (some ⟨g, i * 5, none⟩) sl sc]).run Tryz.prog W.drew = .ok (goInt (xs.length - i : Nat)) W1 := fun ty dl dc sl sc hmin => by
    rw [hW1]
    refine run_copy_k W.drew 207 207 ty 213 5 (xs.length - i) g ((i + 1) * 5) dl dc ⟨g, i * 5, none⟩ sl sc _ Tryz.underlying207 hsz hmin hdl ?_ (fun j hj => ?_) (fun j hj => hH.drew.frozen _) (Lay.flat_all _)
    · intro j u hj
      have h1 : (layIs.flat xs)[i * 5 + j]? = some u := by
        rw [← List.take_append_drop i xs, Lay.flat_append, List.getElem?_append_right (by rw [Lay.flat_len, List.length_take, Nat.min_eq_left (by omega)]; exact Nat.le_add_right _ _), Lay.flat_len, List.length_take, Nat.min_eq_left (by omega)]
        show (_)[i * 5 + j - i * 5]? = _
        rw [Nat.add_sub_cancel_left]
        exact hj
      have h2 := World.ownsRow.cells hown (g := g) rfl _ _ h1
      rw [add_none, Nat.zero_add] at h2
      rw [add_none]
      exact h2
    · rw [hH.drew.cell, Array.getElem?_eq_getElem (by omega)]
      rfl
  have hN1 := hH.drew.setCells (layIs.flat (xs.drop i)) ((i + 1) * 5) (by omega)
  rw [← hW1] at hN1
  have hg1 : W.grownBy W1 (some g) := by rw [hW1]; exact (grown_drew (World.grownBy.refl W _)).trans (grown_setCells _ _ _)
  have hx1 : Has W1 vb 213 (layIs.cells x).toArray := hx.kept hg1 (by simpa using hvg)
  have hR1 : (cur.toList.take ((i + 1) * 5) ++ layIs.flat (xs.drop i) ++ cur.toList.drop ((i + 1) * 5 + (layIs.flat (xs.drop i)).length)).length = cap * 5 := by
    rw [List.length_append, List.length_append, List.length_take, List.length_drop, Array.length_toList (xs := cur)]
    omega
  obtain ⟨W2, hW2⟩ : ∃ W2, W2 = W1.setCells g (i * 5) (layIs.cells x) := ⟨_, rfl⟩
  have hcpA : ∀ ty dl dc sc, 1 ≤ dl → (Builtin.copy_ #[207, 207] ty #[.slice (some ⟨g, i * 5, none⟩) dl dc, .slice (some ⟨vb, 0, none⟩) 1 sc]).run Tryz.prog W1 = .ok (goInt 1) W2 := fun ty dl dc sc hdl1 => by
    rw [hW2]
    exact run_copy_k W1 207 207 ty 213 5 1 g (i * 5) dl dc ⟨vb, 0, none⟩ 1 sc _ Tryz.underlying207 hsz (Nat.min_eq_left hdl1) (by rw [hxl])
      (fun j v hj => by rw [add_none, Nat.zero_add, hx1.cell, List.getElem?_toArray]; exact hj)
      (fun j hj => by rw [hN1.cell, List.getElem?_toArray, List.getElem?_eq_getElem (by rw [hR1]; omega)]; rfl) (fun j hj => hN1.frozen _) (layIs.one x)
  have hN2 := hN1.setCells (layIs.cells x) (i * 5) (by rw [List.size_toArray, hR1]; omega)
  rw [← hW2] at hN2
  have hFF : cur.toList.take (i * 5) = layIs.flat (xs.take i) := by
    have e2 : cur.toList.take (i * 5) = (layIs.flat xs).take (i * 5) := by rw [← htake, List.take_take, Nat.min_eq_left (by omega)]
    have e3 : layIs.flat xs = layIs.flat (xs.take i) ++ layIs.flat (xs.drop i) := by rw [← Lay.flat_append, List.take_append_drop]
    rw [e2, e3, List.take_left' (by rw [Lay.flat_len, List.length_take, Nat.min_eq_left (by omega)]; rfl)]
  have hres : Hid (InsLeft layIs 213 W base (.slice (some ⟨g, 0, none⟩) xs.length cap) xs i x (.returned (.slice (some ⟨g, 0, none⟩) (xs.length + 1) cap)) W2) := by
    refine ⟨_, rfl, ?_, ?_⟩
    · rw [List.toList_toArray, show (i + 1) * 5 = i * 5 + (layIs.cells x).length by rw [hxl]; omega, put_down (by rw [Array.length_toList (xs := cur)]; omega)] at hN2
      refine OwnL.ins (by omega) hbg hN2 hFF ?_ (by omega) hcm
      simp only [List.length_append, List.length_take, List.length_drop, Array.length_toList (xs := cur), hxl, hdl]
      show _ = cap * 5
      omega
    · have h3 : W1.grownBy W2 (some g) := by rw [hW2]; exact grown_setCells _ _ _
      exact hg1.trans h3
  have HA := Lib.hid hcpA
  have HB := Lib.hid hcpB
  have HV := Lib.hid hov
  have hm1 : Nat.min (xs.length + 1 - i) (xs.length + 1 - (i + 1)) = xs.length - i := by
    rw [show xs.length + 1 - (i + 1) = xs.length - i by omega]; exact Nat.min_eq_right (by omega)
  have HM := Lib.hid hm1
  have hne : ¬ ((i : Int) = (xs.length : Int)) := by omega
  have hci : ¬ cap = i := by omega
  have hci2 : ¬ cap = i + 1 := by omega
  have hin : i ≤ xs.length := by omega
  have hcc : ¬ ((cap : Int) < (xs.length : Int) + 1) := by omega
  simp only [maxLen] at hcm
  have hcm2 : cap ≤ 9223372036854775807 := hcm
  have hw1 : IntKind.i64.wrap ((i : Int) + 1) = (i : Int) + 1 := by rw [IntKind.wrap_i64]; omega
  have hb1 : (0 : Int) ≤ (i : Int) + 1 := by omega
  have htn : ((i : Int) + 1).toNat = i + 1 := by omega
  have hb3 : i ≤ xs.length + 1 := by omega
  have hb6 : (i : Int) ≤ (xs.length : Int) + 1 := by omega
  clear hm1 hW1 hW2 hcpA hcpB hov hN1 hN2 hg1 hx1 hx hown htake hFF hR1 hxl hdl hsz hcs hg hH hkk
  go_enter Tryz.func98, Tryz.ntmps98
  go_wp2_with (simp only [HV.out])
  go_region_law (refine step_copy_runI rfl _ _ 207 207 rfl (.slice (some ⟨g, (i + 1) * 5, none⟩) (xs.length + 1 - (i + 1)) (cap - (i + 1))) (.slice (some ⟨g, i * 5, none⟩) (xs.length + 1 - i) (cap - i)) (by simp [Act.eval, Act.put]) (by simp [Act.eval, Act.put]) (HB.out 3 _ _ _ _ HM.out) ?_)
  go_wp2_with (with_reducible show wpList _ _ _ (Oper.mk _ (Op.call ⟨Callee.builtin Builtin.copy, _, _⟩) _ _ _ _ :: _) _ _; refine wpList_copy_runI _ rfl _ _ 207 207 rfl _ _ rfl rfl (HA.out _ _ _ _ (by omega)) ?_)
  go_ret
  exact hres.out

set_option maxRecDepth 100000 in
set_option maxHeartbeats 6400000 in
theorem insS_room (g cap : Nat) (xs : List (ByteArray × ByteArray)) (x : ByteArray × ByteArray) (i base vb : Nat) (hi : i < xs.length) (hl : xs.length ≤ 100000000) (W : World) (hown : OwnL W base 284 layTt (.slice (some ⟨g, 0, none⟩) xs.length cap) xs) (hcap : xs.length < cap) (hx : Has W vb 284 (layTt.cells x).toArray) (hvg : vb ≠ g) :
    Calls Tryz.prog 152 #[.slice (some ⟨g, 0, none⟩) xs.length cap, .int .i64 (i : Int), .slice (some ⟨vb, 0, none⟩) 1 1] W (InsLeft layTt 284 W base (.slice (some ⟨g, 0, none⟩) xs.length cap) xs i x) := by
  obtain ⟨i0, hi0, hz0, hz1, hz2⟩ := info_parts info284
  rcases id hown.2 with ⟨h, -⟩ | ⟨g', cap', cur, hv, hbg, hg, hnc, hcm, hcs, htake⟩
  · cases h
  simp only [Value.slice.injEq, Option.some.injEq, Addr.mk.injEq, and_true, true_and] at hv
  obtain ⟨rfl, rfl⟩ := hv
  have hH : Has W g 284 cur := hg
  have hkk : (layTt).k = 2 := rfl
  rw [hkk] at hcs htake
  have hsz : (Tryz.prog.info? 284).map (·.size) = some 2 := by rw [hi0]; simp [hz1]
  have hxl : (layTt.cells x).length = 2 := layTt.len x
  have hdl : (layTt.flat (xs.drop i)).length = (xs.length - i) * 2 := by rw [Lay.flat_len, List.length_drop]; rfl
  have hov : ∀ lb cb, (callFunc 214 #[.slice (some ⟨vb, 0, none⟩) 1 1, .slice (some ⟨g, (i + 1) * 2, none⟩) lb cb]).run Tryz.prog W = .ok (.value (.bool false)) W := fun lb cb => by
    rw [run_callFunc_extern Tryz.func214 (by kernel_rfl) (by kernel_rfl) (by kernel_rfl) (e := Extern.SlicesOverlaps.overlaps #[214, 214] #[4]) (by kernel_rfl),
      Lib.run_overlaps_apart W 214 4 284 Tryz.underlying214 2 (fun w => by simp [sizeOf, typeInfo, hi0, hz1]) ⟨vb, 0, none⟩ ⟨g, (i + 1) * 2, none⟩ 1 1 lb cb hvg 284 284 2 cur.size
        (by simp only [World.shape?]; rw [show W.heap[vb]? = _ from hx]; simp [hxl]) (by simp only [World.shape?]; rw [hg]) (by omega) (hx.frozen _) (hx.frozen _)]
    rfl
  obtain ⟨W1, hW1⟩ : ∃ W1, W1 = W.drew.setCells g ((i + 1) * 2) (layTt.flat (xs.drop i)) := ⟨_, rfl⟩
  have hcpB : ∀ ty dl dc sl sc, Nat.min sl dl = xs.length - i → (Builtin.copy_ #[214, 214] ty #[.slice (some ⟨g, (i + 1) * 2, none⟩) dl dc, .slice (some ⟨g, i * 2, none⟩) sl sc]).run Tryz.prog W.drew = .ok (goInt (xs.length - i : Nat)) W1 := fun ty dl dc sl sc hmin => by
    rw [hW1]
    refine run_copy_k W.drew 214 214 ty 284 2 (xs.length - i) g ((i + 1) * 2) dl dc ⟨g, i * 2, none⟩ sl sc _ Tryz.underlying214 hsz hmin hdl ?_ (fun j hj => ?_) (fun j hj => hH.drew.frozen _) (Lay.flat_all _)
    · intro j u hj
      have h1 : (layTt.flat xs)[i * 2 + j]? = some u := by
        rw [← List.take_append_drop i xs, Lay.flat_append, List.getElem?_append_right (by rw [Lay.flat_len, List.length_take, Nat.min_eq_left (by omega)]; exact Nat.le_add_right _ _), Lay.flat_len, List.length_take, Nat.min_eq_left (by omega)]
        show (_)[i * 2 + j - i * 2]? = _
        rw [Nat.add_sub_cancel_left]
        exact hj
      have h2 := World.ownsRow.cells hown (g := g) rfl _ _ h1
      rw [add_none, Nat.zero_add] at h2
      rw [add_none]
      exact h2
    · rw [hH.drew.cell, Array.getElem?_eq_getElem (by omega)]
      rfl
  have hN1 := hH.drew.setCells (layTt.flat (xs.drop i)) ((i + 1) * 2) (by omega)
  rw [← hW1] at hN1
  have hg1 : W.grownBy W1 (some g) := by rw [hW1]; exact (grown_drew (World.grownBy.refl W _)).trans (grown_setCells _ _ _)
  have hx1 : Has W1 vb 284 (layTt.cells x).toArray := hx.kept hg1 (by simpa using hvg)
  have hR1 : (cur.toList.take ((i + 1) * 2) ++ layTt.flat (xs.drop i) ++ cur.toList.drop ((i + 1) * 2 + (layTt.flat (xs.drop i)).length)).length = cap * 2 := by
    rw [List.length_append, List.length_append, List.length_take, List.length_drop, Array.length_toList (xs := cur)]
    omega
  obtain ⟨W2, hW2⟩ : ∃ W2, W2 = W1.setCells g (i * 2) (layTt.cells x) := ⟨_, rfl⟩
  have hcpA : ∀ ty dl dc sc, 1 ≤ dl → (Builtin.copy_ #[214, 214] ty #[.slice (some ⟨g, i * 2, none⟩) dl dc, .slice (some ⟨vb, 0, none⟩) 1 sc]).run Tryz.prog W1 = .ok (goInt 1) W2 := fun ty dl dc sc hdl1 => by
    rw [hW2]
    exact run_copy_k W1 214 214 ty 284 2 1 g (i * 2) dl dc ⟨vb, 0, none⟩ 1 sc _ Tryz.underlying214 hsz (Nat.min_eq_left hdl1) (by rw [hxl])
      (fun j v hj => by rw [add_none, Nat.zero_add, hx1.cell, List.getElem?_toArray]; exact hj)
      (fun j hj => by rw [hN1.cell, List.getElem?_toArray, List.getElem?_eq_getElem (by rw [hR1]; omega)]; rfl) (fun j hj => hN1.frozen _) (layTt.one x)
  have hN2 := hN1.setCells (layTt.cells x) (i * 2) (by rw [List.size_toArray, hR1]; omega)
  rw [← hW2] at hN2
  have hFF : cur.toList.take (i * 2) = layTt.flat (xs.take i) := by
    have e2 : cur.toList.take (i * 2) = (layTt.flat xs).take (i * 2) := by rw [← htake, List.take_take, Nat.min_eq_left (by omega)]
    have e3 : layTt.flat xs = layTt.flat (xs.take i) ++ layTt.flat (xs.drop i) := by rw [← Lay.flat_append, List.take_append_drop]
    rw [e2, e3, List.take_left' (by rw [Lay.flat_len, List.length_take, Nat.min_eq_left (by omega)]; rfl)]
  have hres : Hid (InsLeft layTt 284 W base (.slice (some ⟨g, 0, none⟩) xs.length cap) xs i x (.returned (.slice (some ⟨g, 0, none⟩) (xs.length + 1) cap)) W2) := by
    refine ⟨_, rfl, ?_, ?_⟩
    · rw [List.toList_toArray, show (i + 1) * 2 = i * 2 + (layTt.cells x).length by rw [hxl]; omega, put_down (by rw [Array.length_toList (xs := cur)]; omega)] at hN2
      refine OwnL.ins (by omega) hbg hN2 hFF ?_ (by omega) hcm
      simp only [List.length_append, List.length_take, List.length_drop, Array.length_toList (xs := cur), hxl, hdl]
      show _ = cap * 2
      omega
    · have h3 : W1.grownBy W2 (some g) := by rw [hW2]; exact grown_setCells _ _ _
      exact hg1.trans h3
  have HA := Lib.hid hcpA
  have HB := Lib.hid hcpB
  have HV := Lib.hid hov
  have hm1 : Nat.min (xs.length + 1 - i) (xs.length + 1 - (i + 1)) = xs.length - i := by
    rw [show xs.length + 1 - (i + 1) = xs.length - i by omega]; exact Nat.min_eq_right (by omega)
  have HM := Lib.hid hm1
  have hne : ¬ ((i : Int) = (xs.length : Int)) := by omega
  have hci : ¬ cap = i := by omega
  have hci2 : ¬ cap = i + 1 := by omega
  have hin : i ≤ xs.length := by omega
  have hcc : ¬ ((cap : Int) < (xs.length : Int) + 1) := by omega
  simp only [maxLen] at hcm
  have hcm2 : cap ≤ 9223372036854775807 := hcm
  have hw1 : IntKind.i64.wrap ((i : Int) + 1) = (i : Int) + 1 := by rw [IntKind.wrap_i64]; omega
  have hb1 : (0 : Int) ≤ (i : Int) + 1 := by omega
  have htn : ((i : Int) + 1).toNat = i + 1 := by omega
  have hb3 : i ≤ xs.length + 1 := by omega
  have hb6 : (i : Int) ≤ (xs.length : Int) + 1 := by omega
  clear hm1 hW1 hW2 hcpA hcpB hov hN1 hN2 hg1 hx1 hx hown htake hFF hR1 hxl hdl hsz hcs hg hH hkk
  go_enter Tryz.func152, Tryz.ntmps152
  go_wp2_with (simp only [HV.out])
  go_region_law (refine step_copy_runI rfl _ _ 214 214 rfl (.slice (some ⟨g, (i + 1) * 2, none⟩) (xs.length + 1 - (i + 1)) (cap - (i + 1))) (.slice (some ⟨g, i * 2, none⟩) (xs.length + 1 - i) (cap - i)) (by simp [Act.eval, Act.put]) (by simp [Act.eval, Act.put]) (HB.out 3 _ _ _ _ HM.out) ?_)
  go_wp2_with (with_reducible show wpList _ _ _ (Oper.mk _ (Op.call ⟨Callee.builtin Builtin.copy, _, _⟩) _ _ _ _ :: _) _ _; refine wpList_copy_runI _ rfl _ _ 214 214 rfl _ _ rfl rfl (HA.out _ _ _ _ (by omega)) ?_)
  go_ret
  exact hres.out

theorem insI_any (v : Value) (xs : List (Int × Ss)) (x : Int × Ss) (i base vb : Nat) (hi : i ≤ xs.length) (hl : xs.length ≤ 100000000) (W : World) (hbase : base ≤ W.heap.size) (hown : OwnL W base 213 layIs v xs) (hx : Has W vb 213 (layIs.cells x).toArray) (hvb : v.ownBlock ≠ some vb) :
    Calls Tryz.prog 98 #[v, .int .i64 (i : Int), .slice (some ⟨vb, 0, none⟩) 1 1] W (InsLeft layIs 213 W base v xs i x) := by
  rcases Nat.lt_or_eq_of_le hi with h | rfl
  · rcases id hown.2 with ⟨-, h0⟩ | ⟨g, cap, cur, rfl, -, -, hnc, -⟩
    · omega
    · rcases Nat.lt_or_eq_of_le hnc with hc | hc
      · exact insI_room g cap xs x i base vb h hl W hown hc hx (fun e => hvb (by rw [e]; rfl))
      · exact insI_grow g cap xs x i base vb h hl W hbase hown hc hx
  · exact insI_end v xs x base vb hl W hbase hown hx

theorem insS_any (v : Value) (xs : List (ByteArray × ByteArray)) (x : ByteArray × ByteArray) (i base vb : Nat) (hi : i ≤ xs.length) (hl : xs.length ≤ 100000000) (W : World) (hbase : base ≤ W.heap.size) (hown : OwnL W base 284 layTt v xs) (hx : Has W vb 284 (layTt.cells x).toArray) (hvb : v.ownBlock ≠ some vb) :
    Calls Tryz.prog 152 #[v, .int .i64 (i : Int), .slice (some ⟨vb, 0, none⟩) 1 1] W (InsLeft layTt 284 W base v xs i x) := by
  rcases Nat.lt_or_eq_of_le hi with h | rfl
  · rcases id hown.2 with ⟨-, h0⟩ | ⟨g, cap, cur, rfl, -, -, hnc, -⟩
    · omega
    · rcases Nat.lt_or_eq_of_le hnc with hc | hc
      · exact insS_room g cap xs x i base vb h hl W hown hc hx (fun e => hvb (by rw [e]; rfl))
      · exact insS_grow g cap xs x i base vb h hl W hbase hown hc hx
  · exact insS_end v xs x base vb hl W hbase hown hx
end Go.Proofs.YtjkkclfndlfjhaaGreatDoor
