/- Contracts of slices.Clone and slices.Delete at references. -/
import Derived.Test.YtjkkclfndlfjhaaGreatDoorRow
import Derived.Lib.SliceRun
import Derived.Laws.IdiomCopy
import Derived.Lib.Walk
import Derived.Deep.RegionLaw
set_option linter.all false
namespace Go.Proofs.YtjkkclfndlfjhaaGreatDoor
open Go.RowKit Crc Frm Go.ChangeShapes Go.WideShapes Go.ChangeAt

section
variable {α : Type} {L : Lay α} {P : Program}
/-- APPEND OF A WHOLE LIST. -/
theorem wpl_append_list {ops : Array Oper} {rest : List Oper} {o : Oper} {a : Act} {Q : Exit → Act → World → Prop} (w : World) (hgd : o.guard = none) (t e : TypeId) (s y : Operand)
    (ho : o.op = .call { callee := .builtin .append, args := #[s, y], argTypes := #[t, t] })
    (base : Nat) (v : Value) (xs ys : List α) (i0 : TypeInfo) (z : Value) (bytes : Nat) (ht : P.underlying t = some (.slice e)) (hi0 : P.info? e = some i0) (hz0 : i0.zero = some z) (hz1 : i0.size = L.k) (hz2 : i0.bytes = bytes) (hzs : z.cells.size = L.k) (hby : 0 < bytes)
    (hs : a.eval s = v) (hown : OwnL w base e L v xs) (ad : Addr) (c : Nat) (hx : a.eval y = .slice (some ad) ys.length c) (hcell : ∀ j u, (L.flat ys)[j]? = some u → w.cell? (ad.add j) = some u)
    (hlen : (xs.length + ys.length) * bytes ≤ 140737488355328) (hbase : base ≤ w.heap.size)
    (h : ∀ v' w', OwnL w' base e L v' (xs ++ ys) → w.grownBy w' v.ownBlock → (v'.ownBlock = v.ownBlock ∨ v'.ownBlock = some w.heap.size) → wpList P ops Q rest (a.put o.dst v') w') : wpList P ops Q (o :: rest) a w :=
  wpList_plain hgd fun K hK => by
    have h63 : xs.length + ys.length ≤ maxLen := by
      have : xs.length + ys.length ≤ (xs.length + ys.length) * bytes := Nat.le_mul_of_pos_right _ hby
      simp only [maxLen]; omega
    obtain ⟨v', w', hrun, h2, h3, _, h4⟩ := run_append_own_at (P := P) w base t o.type e i0 z L.k bytes ht hi0 hz0 hz1 hz2 hzs L.pos v xs.length (L.flat xs) hown ad ys.length c (L.flat ys) (by rw [Lay.flat_len]) hcell (Lay.flat_all ys) h63 hlen hbase
    unfold Oper.wp execOp
    simp only [ho, resolve, invoke, builtin, Sem.run_bind, Sem.run_pure, Result.andThen_ok, List.map_toArray, List.map_cons, List.map_nil, hs, hx, hrun]
    refine hK _ _ (h v' w' ?_ h3 h4)
    unfold OwnL
    rw [List.length_append, Lay.flat_append]
    exact h2
end

theorem add_none (b off j : Nat) : (⟨b, off, none⟩ : Addr).add j = ⟨b, off + j, none⟩ := by unfold Addr.add; split <;> simp_all

set_option maxRecDepth 100000 in
set_option maxHeartbeats 3200000 in
theorem clone_refs_any (v : Value) (xs : List Rf) (hl : xs.length ≤ 1000000000) (W : World) (hxs : IsL W layRf v xs) :
    Calls Tryz.prog 106 #[v] W fun e W' => ∃ v', e = .returned v' ∧ OwnL W' W.heap.size 173 layRf v' xs ∧ Below W.heap.size W W' := by
  obtain ⟨i0, hi0, hz0, hz1, hz2⟩ := info_parts info173
  obtain ⟨A, cap, rfl, hlc, hcm, hr⟩ := hxs
  cases A with
  | none =>
    have : xs = [] := by
      cases xs with
      | nil => rfl
      | cons c cs => obtain ⟨b, off, h, _⟩ := hr (by simp); cases h
    subst this
    have hq : ∀ w, (binOp .eql 94 (.slice none ([] : List Rf).length cap) (.slice none 0 0)).run Tryz.prog w = .ok (.bool true) w := fun w => Lib.run_eql_slice_nil w 94 173 none _ cap 0 0 Tryz.underlying94
    simp only [List.length_nil] at hq ⊢
    go_enter Tryz.func106, Tryz.ntmps106
    go_wp2
    go_ret
    exact ⟨_, rfl, OwnL.nil _ _ _ _, Below.refl _ _⟩
  | some ad =>
    have hcell : ∀ j u, (layRf.flat xs)[j]? = some u → W.cell? (ad.add j) = some u := fun j u hj => by
      have hp : 0 < xs.length := by
        have := (List.getElem?_eq_some_iff.1 hj).1
        rw [Lay.flat_len] at this
        exact Nat.pos_of_ne_zero (fun h => by rw [h] at this; omega)
      obtain ⟨b, off, h, hc⟩ := hr hp
      cases h
      rw [add_none]
      exact hc j u hj
    have HC := Lib.hid hcell
    have hown : OwnL (W.alloc (.cells #[] 173)) W.heap.size 173 layRf (.slice (some ⟨W.heap.size, 0, none⟩) 0 0) [] := World.ownsRow_lit (e := 173) (size := 4) (base := W.heap.size) W #[] 0 (Nat.le_refl _) (by decide) rfl
    have HO := Lib.hid hown
    have hq : ∀ w, (binOp .eql 94 (.slice (some ad) xs.length cap) (.slice none 0 0)).run Tryz.prog w = .ok (.bool false) w := fun w => Lib.run_eql_slice_nil w 94 173 (some ad) _ cap 0 0 Tryz.underlying94
    clear hr hcell hown
    go_enter Tryz.func106, Tryz.ntmps106
    go_wp2_with (at_builtin; refine wpl_append_list _ rfl 94 173 (.tmp 5) (.tmp 6) rfl W.heap.size _ [] xs i0 _ 40 Tryz.underlying94 hi0 hz0 hz1 hz2 rfl (by decide) rfl HO.out ad cap rfl (fun j u hj => Lib.cell?_alloc_some _ (HC.out j u hj)) (by simp; omega) (by simp) ?_)
    intro v1 w1 ho1 hg1 _
    have hb1 := ((Below.refl W.heap.size W).alloc (Nat.le_refl _) (.cells #[] 173)).grown hg1 (by simp) (fun k hk => (HO.out.lt k hk).1)
    have HO1 := Lib.hid ho1
    have HB1 := Lib.hid hb1
    clear ho1 hg1 hb1
    go_wp2
    go_ret
    exact ⟨v1, rfl, HO1.out, HB1.out⟩

/-- Cells one behind the other are written into a block. -/
theorem Has.setCells {t : TypeId} {g : Nat} : ∀ (vs : List Value) (o : Nat) {W : World} {cur : Array Value}, Has W g t cur → o + vs.length ≤ cur.size → Has (W.setCells g o vs) g t (cur.toList.take o ++ vs ++ cur.toList.drop (o + vs.length)).toArray
  | [], o, W, cur, h, _ => by
    simp only [List.append_nil, List.length_nil, Nat.add_zero, List.take_append_drop]
    exact h
  | v :: r, o, W, cur, h, hl => by
    rw [List.length_cons] at hl
    have h1 := Has.setCells r (o + 1) (h.set o v) (by rw [Array.size_setIfInBounds]; omega)
    rw [World.setCells]
    have e : (cur.setIfInBounds o v).toList = cur.toList.set o v := by simp
    rw [e] at h1
    have e2 : (cur.toList.set o v).take (o + 1) ++ r ++ (cur.toList.set o v).drop (o + 1 + r.length) = cur.toList.take o ++ (v :: r) ++ cur.toList.drop (o + (v :: r).length) := by
      rw [List.drop_set_of_lt (by omega), List.length_cons, show o + (r.length + 1) = o + 1 + r.length by omega]
      have : (cur.toList.set o v).take (o + 1) = cur.toList.take o ++ [v] := by
        rw [List.take_add_one, List.take_set_of_le (Nat.le_refl _), List.getElem?_set_self (by rw [Array.length_toList (xs := cur)]; omega)]
        rfl
      rw [this]
      simp
    rw [e2] at h1
    exact h1
theorem grown_setCells {g : Nat} : ∀ (vs : List Value) (o : Nat) (W : World), W.grownBy (W.setCells g o vs) (some g)
  | [], _, W => World.grownBy.refl W _
  | v :: r, o, W => by
    rw [World.setCells]
    exact (grown_set W g o v).trans (grown_setCells r (o + 1) _)

/-- clear of a slice of one element. -/
theorem run_clear_one {P : Program} (w : World) (t e ty : TypeId) (z : Value) (zs : List Value) (ht : P.underlying t = some (.slice e)) (hv : ∀ w, (zeroValue e).run P w = .ok z w) (hz : z.cells = zs.toArray) (h1 : ∀ v ∈ zs, v.oneCell' = true) (hp : 0 < zs.length) (b o c : Nat)
    (hc : ∀ j, j < zs.length → (w.cell? ⟨b, o + j, none⟩).isSome = true) (hf : ∀ j, j < zs.length → w.frozen? ⟨b, o + j, none⟩ = false) :
    (Builtin.clear_ #[t] ty #[.slice (some ⟨b, o, none⟩) 1 c]).run P w = .ok (.tuple #[]) (w.setCells b o zs) := by
  have hzc : (Builtin.zeroCells z.cells 1).toList = zs := by
    rw [hz]
    simp only [Builtin.zeroCells]
    apply List.ext_getElem
    · simp
    · intro i hi1 hi2
      have : i % zs.length = i := Nat.mod_eq_of_lt hi2
      simp [this, getElem!_pos, hi2]
  have hst := run_storeCells_cells (P := P) b o zs 0 w (by simpa using hc) (by simpa using hf) h1
  simp only [Nat.add_zero] at hst
  simp [Builtin.clear_, run_underlying ht, hv, hzc, hst]

/-- What Delete of one element leaves. -/
def delrefLeft (W : World) (base : Nat) (v : Value) (xs : List Rf) (i j : Nat) (e : Ending) (W' : World) : Prop :=
  ∃ v', e = .returned v' ∧ OwnL W' base 173 layRf v' (xs.take i ++ xs.drop j) ∧ W.grownBy W' v.ownBlock ∧ v'.ownBlock = v.ownBlock

set_option maxRecDepth 100000 in
set_option maxHeartbeats 3200000 in
theorem delref_at (v : Value) (xs : List Rf) (i j base : Nat) (hij : j = i + 1) (hi : i < xs.length) (hl : xs.length ≤ 100000000) (W : World) (hown : OwnL W base 173 layRf v xs) :
    Calls Tryz.prog 108 #[v, .int .i64 (i : Int), .int .i64 (j : Int)] W (delrefLeft W base v xs i j) := by
  obtain ⟨i0, hi0, hz0, hz1, hz2⟩ := info_parts info173
  rcases id hown.2 with ⟨rfl, h0⟩ | ⟨g, cap, cur, rfl, hbg, hg, hnc, hcm, hcs, htake⟩
  · exact absurd h0 (by omega)
  have hk : (layRf).k = 4 := rfl
  rw [hk] at hcs htake
  obtain ⟨news, hnews⟩ : ∃ news, news = (layRf).flat (xs.drop j) := ⟨_, rfl⟩
  have hnl : news.length = (xs.length - j) * 4 := by rw [hnews, Lay.flat_len, List.length_drop]; rfl
  have hflat : (layRf).flat xs = (layRf).flat (xs.take j) ++ news := by rw [hnews, ← Lay.flat_append, List.take_append_drop]
  have hfl : ((layRf).flat (xs.take j)).length = j * 4 := by rw [Lay.flat_len, List.length_take, Nat.min_eq_left (by omega)]; rfl
  obtain ⟨A, hA, hsrc⟩ : ∃ A : Addr, (if cap = j then some (⟨g, 0, none⟩ : Addr) else some ⟨g, j * 4, none⟩) = some A ∧ Hid (∀ t u, news[t]? = some u → W.drew.cell? (A.add t) = some u) := by
    by_cases h : cap = j
    · refine ⟨⟨g, 0, none⟩, by simp [h], fun t u hu => ?_⟩
      have : news.length = 0 := by omega
      rw [List.length_eq_zero_iff.1 this] at hu
      simp at hu
    · refine ⟨⟨g, j * 4, none⟩, by simp [h], fun t u hu => ?_⟩
      rw [add_none]
      have h1 : ((layRf).flat xs)[j * 4 + t]? = some u := by rw [hflat, List.getElem?_append_right (by omega), hfl, Nat.add_sub_cancel_left]; exact hu
      have := World.ownsRow.cells hown (g := g) rfl _ _ h1
      rw [add_none, Nat.zero_add] at this
      exact this
  have s1 : Hid (news.length = (xs.length - j) * 4) := hnl
  have s2 : Hid (∀ u ∈ news, u.oneCell' = true) := by rw [hnews]; exact Lay.flat_all _
  have hcur : Has W g 173 cur := hg
  have s3 : Hid (∀ t, t < news.length → (W.drew.cell? ⟨g, 0 + i * 4 + t, none⟩).isSome = true ∧ W.drew.frozen? ⟨g, 0 + i * 4 + t, none⟩ = false) := by
    intro t ht
    rw [hnl] at ht
    refine ⟨?_, hcur.frozen _⟩
    show (W.cell? _).isSome = true
    rw [hcur.cell, Array.getElem?_eq_getElem (by omega)]
    rfl
  obtain ⟨W1, hW1⟩ : ∃ W1, W1 = W.drew.setCells g (0 + i * 4) news := ⟨_, rfl⟩
  have h1 : Has W1 g 173 (cur.toList.take (i * 4) ++ news ++ cur.toList.drop (i * 4 + news.length)).toArray := by
    rw [hW1, Nat.zero_add]
    exact hcur.drew.setCells news (i * 4) (by omega)
  have hsz1 : (cur.toList.take (i * 4) ++ news ++ cur.toList.drop (i * 4 + news.length)).length = cap * 4 := by
    simp only [List.length_append, List.length_take, List.length_drop, Array.length_toList (xs := cur)]
    omega
  have hcl : ∀ ty c, (Builtin.clear_ #[94] ty #[.slice (some ⟨g, (i + (xs.length - j)) * 4, none⟩) 1 c]).run Tryz.prog W1 = .ok (.tuple #[]) (W1.setCells g ((i + (xs.length - j)) * 4) [.string ⟨#[]⟩, .int .i64 0, .int .i64 0, .int .i64 0]) :=
    fun ty c => run_clear_one W1 94 173 ty _ [.string ⟨#[]⟩, .int .i64 0, .int .i64 0, .int .i64 0] Tryz.underlying94 (fun w => Tryz.zeroValue173 w) rfl (by intro v hv; simp at hv; rcases hv with rfl | rfl | rfl | rfl <;> rfl) (by simp) g _ c
      (fun j hj => by rw [h1.cell, List.getElem?_toArray, List.getElem?_eq_getElem (by rw [hsz1]; simp at hj; omega)]; rfl) (fun j hj => h1.frozen _)
  have h2 := h1.setCells [.string ⟨#[]⟩, .int .i64 0, .int .i64 0, .int .i64 0] ((i + (xs.length - j)) * 4) (by rw [List.size_toArray, hsz1]; simp; omega)
  have hres : Hid (delrefLeft W base (.slice (some ⟨g, 0, none⟩) xs.length cap) xs i j (.returned (.slice (some ⟨g, 0, none⟩) (i + (xs.length - j)) cap)) (W1.setCells g ((i + (xs.length - j)) * 4) [.string ⟨#[]⟩, .int .i64 0, .int .i64 0, .int .i64 0])) := by
    have hlen : (xs.take i ++ xs.drop j).length = i + (xs.length - j) := by rw [List.length_append, List.length_take, List.length_drop]; omega
    refine ⟨_, rfl, ⟨by rw [Lay.flat_len], .inr ⟨g, cap, _, by rw [hlen], hbg, h2, by omega, hcm, ?_, ?_⟩⟩, ?_, rfl⟩
    · rw [List.size_toArray]
      simp only [List.length_append, List.length_take, List.length_drop, List.toList_toArray, hsz1, hk, List.length_cons, List.length_nil]
      omega
    · rw [hlen, hk]
      simp only [List.toList_toArray]
      have e1 : (cur.toList.take (i * 4) ++ news).length = (i + (xs.length - j)) * 4 := by
        rw [List.length_append, List.length_take, Array.length_toList (xs := cur), hnl, Nat.min_eq_left (by omega)]
        omega
      rw [List.append_assoc, List.take_append_of_le_length (by rw [List.length_take, hsz1]; omega), List.take_take, Nat.min_self, List.take_append_of_le_length (by omega), List.take_of_length_le (by omega), Lay.flat_append, ← hnews]
      congr 1
      have e2 : cur.toList.take (i * 4) = ((layRf).flat xs).take (i * 4) := by rw [← htake, List.take_take, Nat.min_eq_left (by omega)]
      have e3 : (layRf).flat xs = (layRf).flat (xs.take i) ++ (layRf).flat (xs.drop i) := by rw [← Lay.flat_append, List.take_append_drop]
      rw [e2, e3, List.take_left' (by rw [Lay.flat_len, List.length_take, Nat.min_eq_left (by omega)]; rfl)]
    · rw [hW1]
      exact ((grown_drew (World.grownBy.refl W _)).trans (grown_setCells news _ _)).trans (grown_setCells [.string ⟨#[]⟩, .int .i64 0, .int .i64 0, .int .i64 0] _ _)
  have hW : Hid (W1 = W.drew.setCells g (0 + i * 4) news) := hW1
  have hic : i ≤ cap := by omega
  have hjj : i ≤ j := by omega
  have hjl : j ≤ xs.length := by omega
  have hjc : j ≤ cap := by omega
  have hc1 : ¬ cap = i + (xs.length - j) := by omega
  have hn1 : xs.length - (i + (xs.length - j)) = 1 := by omega
  clear hij hW1 h1 h2 hg hcur htake hcs hflat hfl hnl hnews hsz1 hown
  go_enter Tryz.func108, Tryz.ntmps108
  go_wp2_with fail
  go_region_law (refine step_append_room rfl (.tmp 22) (.tmp 25) 94 rfl 173 i0 4 Tryz.underlying94 hi0 hz1 g 0 i cap (by simp [Act.eval, Act.put]) A (xs.length - j) (cap - j) news (by simp [Act.eval, Act.put]) s1.out hsrc.out s2.out (by omega) s3.out ?_; rw [← hW.out])
  go_wp2
  go_ret
  exact hres.out
theorem delref_any (v : Value) (xs : List Rf) (i base : Nat) (hi : i < xs.length) (hl : xs.length ≤ 100000000) (W : World) (hown : OwnL W base 173 layRf v xs) :
    Calls Tryz.prog 108 #[v, .int .i64 (i : Int), .int .i64 ((i : Int) + 1)] W (delrefLeft W base v xs i (i + 1)) :=
  delref_at v xs i (i + 1) base rfl hi hl W hown
end Go.Proofs.YtjkkclfndlfjhaaGreatDoor
