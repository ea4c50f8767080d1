/- Contract of slices.Delete of one item of a map of texts. -/
import Derived.Test.YtjkkclfndlfjhaaGreatDoorIns
set_option linter.all false
namespace Go.Proofs.YtjkkclfndlfjhaaGreatDoor
open Go.RowKit Crc Frm Go.ChangeShapes Go.WideShapes Go.ChangeAt

/-- What Delete of one element leaves. -/
def delitLeft (W : World) (base : Nat) (v : Value) (xs : List (ByteArray × ByteArray)) (i j : Nat) (e : Ending) (W' : World) : Prop :=
  ∃ v', e = .returned v' ∧ OwnL W' base 284 layTt v' (xs.take i ++ xs.drop j) ∧ W.grownBy W' v.ownBlock ∧ v'.ownBlock = v.ownBlock

set_option maxRecDepth 100000 in
set_option maxHeartbeats 3200000 in
theorem delit_at (v : Value) (xs : List (ByteArray × ByteArray)) (i j base : Nat) (hij : j = i + 1) (hi : i < xs.length) (hl : xs.length ≤ 100000000) (W : World) (hown : OwnL W base 284 layTt v xs) :
    Calls Tryz.prog 153 #[v, .int .i64 (i : Int), .int .i64 (j : Int)] W (delitLeft W base v xs i j) := by
  obtain ⟨i0, hi0, hz0, hz1, hz2⟩ := info_parts info284
  rcases id hown.2 with ⟨rfl, h0⟩ | ⟨g, cap, cur, rfl, hbg, hg, hnc, hcm, hcs, htake⟩
  · exact absurd h0 (by omega)
  have hk : (layTt).k = 2 := rfl
  rw [hk] at hcs htake
  obtain ⟨news, hnews⟩ : ∃ news, news = (layTt).flat (xs.drop j) := ⟨_, rfl⟩
  have hnl : news.length = (xs.length - j) * 2 := by rw [hnews, Lay.flat_len, List.length_drop]; rfl
  have hflat : (layTt).flat xs = (layTt).flat (xs.take j) ++ news := by rw [hnews, ← Lay.flat_append, List.take_append_drop]
  have hfl : ((layTt).flat (xs.take j)).length = j * 2 := by rw [Lay.flat_len, List.length_take, Nat.min_eq_left (by omega)]; rfl
  obtain ⟨A, hA, hsrc⟩ : ∃ A : Addr, (if cap = j then some (⟨g, 0, none⟩ : Addr) else some ⟨g, j * 2, none⟩) = some A ∧ Hid (∀ t u, news[t]? = some u → W.drew.cell? (A.add t) = some u) := by
    by_cases h : cap = j
    · refine ⟨⟨g, 0, none⟩, by simp [h], fun t u hu => ?_⟩
      have : news.length = 0 := by omega
      rw [List.length_eq_zero_iff.1 this] at hu
      simp at hu
    · refine ⟨⟨g, j * 2, none⟩, by simp [h], fun t u hu => ?_⟩
      rw [add_none]
      have h1 : ((layTt).flat xs)[j * 2 + t]? = some u := by rw [hflat, List.getElem?_append_right (by omega), hfl, Nat.add_sub_cancel_left]; exact hu
      have := World.ownsRow.cells hown (g := g) rfl _ _ h1
      rw [add_none, Nat.zero_add] at this
      exact this
  have s1 : Hid (news.length = (xs.length - j) * 2) := hnl
  have s2 : Hid (∀ u ∈ news, u.oneCell' = true) := by rw [hnews]; exact Lay.flat_all _
  have hcur : Has W g 284 cur := hg
  have s3 : Hid (∀ t, t < news.length → (W.drew.cell? ⟨g, 0 + i * 2 + t, none⟩).isSome = true ∧ W.drew.frozen? ⟨g, 0 + i * 2 + t, none⟩ = false) := by
    intro t ht
    rw [hnl] at ht
    refine ⟨?_, hcur.frozen _⟩
    show (W.cell? _).isSome = true
    rw [hcur.cell, Array.getElem?_eq_getElem (by omega)]
    rfl
  obtain ⟨W1, hW1⟩ : ∃ W1, W1 = W.drew.setCells g (0 + i * 2) news := ⟨_, rfl⟩
  have h1 : Has W1 g 284 (cur.toList.take (i * 2) ++ news ++ cur.toList.drop (i * 2 + news.length)).toArray := by
    rw [hW1, Nat.zero_add]
    exact hcur.drew.setCells news (i * 2) (by omega)
  have hsz1 : (cur.toList.take (i * 2) ++ news ++ cur.toList.drop (i * 2 + news.length)).length = cap * 2 := by
    simp only [List.length_append, List.length_take, List.length_drop, Array.length_toList (xs := cur)]
    omega
  have hcl : ∀ ty c, (Builtin.clear_ #[214] ty #[.slice (some ⟨g, (i + (xs.length - j)) * 2, none⟩) 1 c]).run Tryz.prog W1 = .ok (.tuple #[]) (W1.setCells g ((i + (xs.length - j)) * 2) [.string ⟨#[]⟩, .string ⟨#[]⟩]) :=
    fun ty c => run_clear_one W1 214 284 ty _ [.string ⟨#[]⟩, .string ⟨#[]⟩] Tryz.underlying214 (fun w => Tryz.zeroValue284 w) rfl (by intro v hv; simp at hv; rcases hv with rfl | rfl <;> rfl) (by simp) g _ c
      (fun j hj => by rw [h1.cell, List.getElem?_toArray, List.getElem?_eq_getElem (by rw [hsz1]; simp at hj; omega)]; rfl) (fun j hj => h1.frozen _)
  have h2 := h1.setCells [.string ⟨#[]⟩, .string ⟨#[]⟩] ((i + (xs.length - j)) * 2) (by rw [List.size_toArray, hsz1]; simp; omega)
  have hres : Hid (delitLeft W base (.slice (some ⟨g, 0, none⟩) xs.length cap) xs i j (.returned (.slice (some ⟨g, 0, none⟩) (i + (xs.length - j)) cap)) (W1.setCells g ((i + (xs.length - j)) * 2) [.string ⟨#[]⟩, .string ⟨#[]⟩])) := by
    have hlen : (xs.take i ++ xs.drop j).length = i + (xs.length - j) := by rw [List.length_append, List.length_take, List.length_drop]; omega
    refine ⟨_, rfl, ⟨by rw [Lay.flat_len], .inr ⟨g, cap, _, by rw [hlen], hbg, h2, by omega, hcm, ?_, ?_⟩⟩, ?_, rfl⟩
    · rw [List.size_toArray]
      simp only [List.length_append, List.length_take, List.length_drop, hsz1, hk, List.length_cons, List.length_nil]
      omega
    · rw [hlen, hk]
      have e1 : (cur.toList.take (i * 2) ++ news).length = (i + (xs.length - j)) * 2 := by
        rw [List.length_append, List.length_take, Array.length_toList (xs := cur), hnl, Nat.min_eq_left (by omega)]
        omega
      rw [List.append_assoc, List.take_append_of_le_length (by rw [List.length_take, hsz1]; omega), List.take_take, Nat.min_self, List.take_append_of_le_length (by omega), List.take_of_length_le (by omega), Lay.flat_append, ← hnews]
      congr 1
      have e2 : cur.toList.take (i * 2) = ((layTt).flat xs).take (i * 2) := by rw [← htake, List.take_take, Nat.min_eq_left (by omega)]
      have e3 : (layTt).flat xs = (layTt).flat (xs.take i) ++ (layTt).flat (xs.drop i) := by rw [← Lay.flat_append, List.take_append_drop]
      rw [e2, e3, List.take_left' (by rw [Lay.flat_len, List.length_take, Nat.min_eq_left (by omega)]; rfl)]
    · rw [hW1]
      exact ((grown_drew (World.grownBy.refl W _)).trans (grown_setCells news _ _)).trans (grown_setCells [.string ⟨#[]⟩, .string ⟨#[]⟩] _ _)
  have hW : Hid (W1 = W.drew.setCells g (0 + i * 2) news) := hW1
  have hic : i ≤ cap := by omega
  have hjj : i ≤ j := by omega
  have hjl : j ≤ xs.length := by omega
  have hjc : j ≤ cap := by omega
  have hc1 : ¬ cap = i + (xs.length - j) := by omega
  have hn1 : xs.length - (i + (xs.length - j)) = 1 := by omega
  clear hij hW1 h1 h2 hg hcur htake hcs hflat hfl hnl hnews hsz1 hown
  go_enter Tryz.func153, Tryz.ntmps153
  go_wp2_with fail
  go_region_law (refine step_append_room rfl (.tmp 22) (.tmp 25) 214 rfl 284 i0 2 Tryz.underlying214 hi0 hz1 g 0 i cap (by simp [Act.eval, Act.put]) A (xs.length - j) (cap - j) news (by simp [Act.eval, Act.put]) s1.out hsrc.out s2.out (by omega) s3.out ?_; rw [← hW.out])
  go_wp2
  go_ret
  exact hres.out
theorem delit_any (v : Value) (xs : List (ByteArray × ByteArray)) (i base : Nat) (hi : i < xs.length) (hl : xs.length ≤ 100000000) (W : World) (hown : OwnL W base 284 layTt v xs) :
    Calls Tryz.prog 153 #[v, .int .i64 (i : Int), .int .i64 ((i : Int) + 1)] W (delitLeft W base v xs i (i + 1)) :=
  delit_at v xs i (i + 1) base rfl hi hl W hown
end Go.Proofs.YtjkkclfndlfjhaaGreatDoor
/- A row of elements of which a part of one is written anew; a map's item list. -/
namespace Go.Proofs.YtjkkclfndlfjhaaGreatDoor
open Go.RowKit Crc Frm Go.ChangeShapes Go.WideShapes Go.ChangeAt

section
variable {α : Type} {L : Lay α}
theorem Lay.flat_set {xs : List α} {i j : Nat} {x y : α} {vs : List Value} (hx : xs[i]? = some x) (hj : j + vs.length ≤ L.k) (hc : L.cells y = (L.cells x).take j ++ vs ++ (L.cells x).drop (j + vs.length)) :
    (L.flat xs).take (i * L.k + j) ++ vs ++ (L.flat xs).drop (i * L.k + j + vs.length) = L.flat (xs.set i y) := by
  obtain ⟨hlt, hget⟩ := List.getElem?_eq_some_iff.1 hx
  have e1 : xs = xs.take i ++ x :: xs.drop (i + 1) := by rw [← hget, ← List.drop_eq_getElem_cons hlt, List.take_append_drop]
  have e2 : xs.set i y = xs.take i ++ y :: xs.drop (i + 1) := by rw [List.set_eq_take_append_cons_drop, if_pos hlt]
  have hA : (L.flat (xs.take i)).length = i * L.k := by rw [Lay.flat_len, List.length_take, Nat.min_eq_left (by omega)]
  have hC : (L.cells x).length = L.k := L.len x
  have e3 : L.flat xs = L.flat (xs.take i) ++ (L.cells x ++ L.flat (xs.drop (i + 1))) := by rw [← Lay.flat_cons, ← Lay.flat_append, ← e1]
  rw [e2, Lay.flat_append, Lay.flat_cons, hc, e3]
  generalize L.flat (xs.take i) = A at hA ⊢
  generalize L.flat (xs.drop (i + 1)) = B
  rw [← hA, List.take_length_add_append, List.take_append_of_le_length (by omega), Nat.add_assoc, List.drop_length_add_append, List.drop_append_of_le_length (by omega)]
  simp only [List.append_assoc]
/-- Cells of one element are written anew. -/
theorem OwnL.setAt {W : World} {base g E n cap i j : Nat} {xs : List α} {x y : α} {vs : List Value} (h : OwnL W base E L (.slice (some ⟨g, 0, none⟩) n cap) xs) (hx : xs[i]? = some x) (hj : j + vs.length ≤ L.k)
    (hc : L.cells y = (L.cells x).take j ++ vs ++ (L.cells x).drop (j + vs.length)) : OwnL (W.setCells g (i * L.k + j) vs) base E L (.slice (some ⟨g, 0, none⟩) n cap) (xs.set i y) := by
  obtain ⟨hlt, -⟩ := List.getElem?_eq_some_iff.1 hx
  rcases id h.2 with ⟨h0, -⟩ | ⟨g', cap', cur, hv, hbg, hg, hnc, hcm, hcs, htake⟩
  · cases h0
  simp only [Value.slice.injEq, Option.some.injEq, Addr.mk.injEq, and_true] at hv
  obtain ⟨rfl, rfl, rfl⟩ := hv
  have hH : Has W g E cur := hg
  have hin : (i + 1) * L.k ≤ xs.length * L.k := Nat.mul_le_mul_right _ hlt
  have hin2 : xs.length * L.k ≤ cap * L.k := Nat.mul_le_mul_right _ hnc
  rw [Nat.succ_mul] at hin
  have hN := hH.setCells vs (i * L.k + j) (by omega)
  have hF : (L.flat xs).length = xs.length * L.k := Lay.flat_len xs
  have ecur : cur.toList = L.flat xs ++ cur.toList.drop (xs.length * L.k) := by rw [← htake, List.take_append_drop]
  have e : cur.toList.take (i * L.k + j) ++ vs ++ cur.toList.drop (i * L.k + j + vs.length) = L.flat (xs.set i y) ++ cur.toList.drop (xs.length * L.k) := by
    rw [← Lay.flat_set hx hj hc]
    generalize cur.toList.drop (xs.length * L.k) = R at ecur ⊢
    rw [ecur, List.take_append_of_le_length (by omega), List.drop_append_of_le_length (by omega)]
    simp only [List.append_assoc]
  rw [e] at hN
  refine ⟨by rw [Lay.flat_len], .inr ⟨g, cap, _, by rw [List.length_set], hbg, hN, by rw [List.length_set]; exact hnc, hcm, ?_, ?_⟩⟩
  · rw [List.size_toArray, List.length_append, Lay.flat_len, List.length_set, List.length_drop, Array.length_toList (xs := cur)]
    omega
  · rw [List.take_left' (by rw [Lay.flat_len])]
end
end Go.Proofs.YtjkkclfndlfjhaaGreatDoor
/- Contract of Map.Put at texts. -/
namespace Go.Proofs.YtjkkclfndlfjhaaGreatDoor
open Go.RowKit Crc Frm Go.ChangeShapes Go.WideShapes Go.ChangeAt

/-- At block g lies a map that has these items. -/
def MapAt {α : Type} (M E : TypeId) (L : Lay α) (W : World) (base g : Nat) (xs : List α) : Prop := ∃ v, Has W g M #[v] ∧ OwnL W base E L v xs
/-- What Put leaves: one item more at most; each is made of what was there and of what was given. -/
def PutLeft {κ ν : Type} (M E : TypeId) (L : Lay (κ × ν)) (PK : κ → Prop) (PV : ν → Prop) (W : World) (base g n : Nat) (e : Ending) (W' : World) : Prop :=
  ∃ b xs', e = .returned (.bool b) ∧ MapAt M E L W' base g xs' ∧ xs'.length ≤ n + 1 ∧ (∀ p ∈ xs', PK p.1 ∧ PV p.2) ∧ FrT [M, E] W W' ∧ Below base W W'

/-- A cell beyond n is written. -/
theorem set_below {n g : Nat} {W : World} (hg : n ≤ g) (hn : n ≤ W.heap.size) (j : Nat) (u : Value) : Below n W (W.setCell ⟨g, j, none⟩ u) := below_of_grown (grown_set W g j u) (fun k e => by cases e; exact hg) hn
/-- A block has one type. -/
theorem Has.other {W : World} {g : Nat} {t u : TypeId} {cs ds : Array Value} (h : Has W g t cs) (h' : Has W g u ds) (hne : t ≠ u) : False := by
  unfold Has at h h'
  rw [h] at h'
  cases h'
  exact hne rfl
/-- A row of items is no block of another type. -/
theorem OwnL.apart {α : Type} {L : Lay α} {W : World} {base g : Nat} {E M : TypeId} {v : Value} {xs : List α} {cs : Array Value} (h : OwnL W base E L v xs) (hg : Has W g M cs) (hne : M ≠ E) : v.ownBlock ≠ some g := fun e => by
  obtain ⟨ds, hd⟩ := h.typed g e
  exact Has.other hg hd hne

set_option maxRecDepth 100000 in
set_option maxHeartbeats 6400000 in
theorem putS_any (PK PV : ByteArray → Prop) (g base : Nat) (xs : List (ByteArray × ByteArray)) (k u : ByteArray) (hk : PK k) (hu : PV u) (hP : ∀ p ∈ xs, PK p.1 ∧ PV p.2) (hl : xs.length ≤ 10000000) (W : World) (hbase : base ≤ W.heap.size) (hgb : base ≤ g) (hm : MapAt 216 284 layTt W base g xs) :
    Calls Tryz.prog 93 #[.pointer (some ⟨g, 0, none⟩), .string k, .string u] W (PutLeft 216 284 layTt PK PV W base g xs.length) := by
  obtain ⟨v, hg, hown⟩ := hm
  have HG := Lib.hid hg
  have HO := Lib.hid hown
  have HPP := Lib.hid hP
  clear hP hg hown
  go_enter Tryz.func93, Tryz.ntmps93
  go_wp2_with fail
  refine (findS_any g v xs k (by omega) _ HG.out HO.out.list).mono ?_
  rintro e w2 ⟨⟨ko, b, rfl, h1, h2⟩, hb2⟩
  have HG2 := Lib.hid (HG.out.below hb2 HG.out.lt)
  have HO2 := Lib.hid (HO.out.below hb2 (Nat.le_refl _))
  have HF2 := Lib.hid (FrT.ofBelow (ts := [216, 284]) hb2)
  have HB2 := Lib.hid (hb2.mono hbase)
  have hs2 := hb2.size
  clear hb2
  have c0 := HG2.out.cell 0
  have z0 := HG2.out.frozen 0
  cases b with
  | true =>
    have hko := h2 rfl
    obtain ⟨x, hx⟩ : ∃ p, xs[ko]? = some p := ⟨_, List.getElem?_eq_getElem hko⟩
    have HX := Lib.hid hx
    obtain ⟨g', cap, rfl, hbg, hgl⟩ := HO2.out.form (by omega)
    obtain ⟨cs', hty⟩ := HO2.out.typed g' rfl
    have HT : Has w2 g' 284 cs' := hty
    have HTH := Lib.hid HT
    obtain ⟨b', off, hA, hcell⟩ := HO2.out.list.at_ hx
    cases hA
    have c1 : w2.cell? ⟨g', ko * 2 + 1, none⟩ = some (.string x.2) := by
      have := hcell 1 _ rfl
      rwa [Nat.zero_add] at this
    have z1 := HT.frozen (ko * 2 + 1)
    clear HT hty hcell hx h2
    have hne : g ≠ g' := fun e => by
      have h4 : Has w2 g 284 cs' := e ▸ HTH.out
      exact Has.other HG2.out h4 (by decide)
    have hres : Hid (PutLeft 216 284 layTt PK PV W base g xs.length (.returned (.bool false)) (w2.setCell ⟨g', ko * 2 + 1, none⟩ (.string u))) := by
      refine ⟨false, xs.set ko (x.1, u), rfl, ⟨_, HG2.out.kept (grown_set w2 g' _ _) (by simpa using hne), HO2.out.setAt (vs := [.string u]) (j := 1) HX.out (by simp [layTt]) rfl⟩, by rw [List.length_set]; omega, fun p hp => ?_, HF2.out.trans (FrT.set HTH.out (by decide) _ _), HB2.out.trans (set_below hbg (by omega) _ _)⟩
      rcases List.mem_or_eq_of_mem_set hp with h | rfl
      · exact HPP.out p h
      · exact ⟨(HPP.out x (List.mem_of_getElem? HX.out)).1, hu⟩
    clear hne
    go_wp2
    go_ret
    exact hres.out
  | false =>
    have HA := Lib.hid (Has.new w2 284 #[.string k, .string u])
    have HGA := Lib.hid (HG2.out.alloc (.cells #[.string k, .string u] 284))
    have HOA := Lib.hid (HO2.out.alloc (.cells #[.string k, .string u] 284))
    have hbl : v.ownBlock ≠ some w2.heap.size := fun e => by have := (HO2.out.lt _ e).2; omega
    have HBL := Lib.hid hbl
    have h1v : v.oneCell' = true := by obtain ⟨A, cap, rfl, -⟩ := HO2.out.list; rfl
    clear hbl
    have hap := OwnL.apart HOA.out HGA.out (by decide)
    have HAP := Lib.hid hap
    have hF3 : Hid (∀ q, v.ownBlock = some q → ByT [216, 284] (w2.alloc (.cells #[.string k, .string u] 284)) q) := fun q e => by
      obtain ⟨ds, hd⟩ := HOA.out.typed q e
      exact ⟨ds, 284, (0, 0), hd, by decide⟩
    have HFA := Lib.hid (HF2.out.alloc (.cells #[.string k, .string u] 284))
    have HBA := Lib.hid (HB2.out.alloc (by omega) (.cells #[.string k, .string u] 284))
    clear hap
    go_wp2_with fail
    refine (insS_any v xs (k, u) ko base w2.heap.size h1 (by omega) _ (by rw [World.size_alloc]; omega) HOA.out HA.out HBL.out).mono ?_
    rintro e w3 ⟨v', rfl, ho3, hg3⟩
    have HO3 := Lib.hid ho3
    have HF3 := Lib.hid (HFA.out.trans (FrT.grown hg3 hF3.out))
    have HB3 := Lib.hid (HBA.out.trans (below_of_grown hg3 (fun k e => (HOA.out.lt k e).1) (by rw [World.size_alloc]; omega)))
    have hs3 := hg3.size
    rw [World.size_alloc] at hs3
    have HG3 := Lib.hid (HGA.out.kept hg3 (fun e => HAP.out e.symm))
    have c3 := HG3.out.cell 0
    have z3 := HG3.out.frozen 0
    obtain ⟨A3, n3, cap3, rfl⟩ : ∃ A n cap, v' = .slice A n cap := by obtain ⟨A, cap, h, -⟩ := HO3.out.list; exact ⟨_, _, _, h⟩
    clear c0 z0 ho3 hg3 h2
    have hres : Hid (PutLeft 216 284 layTt PK PV W base g xs.length (.returned (.bool true)) (w3.setCell ⟨g, 0, none⟩ (.slice A3 n3 cap3))) := by
      refine ⟨true, _, rfl, ⟨_, HG3.out.set 0 _, HO3.out.kept (grown_set w3 g 0 _) (.inr (OwnL.apart HO3.out HG3.out (by decide)))⟩, ?_, fun p hp => ?_, HF3.out.trans (FrT.set HG3.out (by decide) _ _), HB3.out.trans (set_below hgb (by omega) _ _)⟩
      · rw [List.length_append, List.length_take, List.length_cons, List.length_drop]; omega
      · rcases List.mem_append.1 hp with h | h
        · exact HPP.out p (List.mem_of_mem_take h)
        · rcases List.mem_cons.1 h with rfl | h
          · exact ⟨hk, hu⟩
          · exact HPP.out p (List.mem_of_mem_drop h)
    go_wp2
    go_ret
    exact hres.out
end Go.Proofs.YtjkkclfndlfjhaaGreatDoor
/- Contracts of Map.Get, Len and Del at texts. -/
namespace Go.Proofs.YtjkkclfndlfjhaaGreatDoor
open Go.RowKit Crc Frm Go.ChangeShapes Go.WideShapes Go.ChangeAt

/-- A value that is there, or the empty text; nothing that lay has turned. -/
def GetLeft (PV : ByteArray → Prop) (W : World) (e : Ending) (W' : World) : Prop := (∃ u b, e = .returned (.tuple #[.string u, .bool b]) ∧ (PV u ∨ u = ⟨#[]⟩)) ∧ Below W.heap.size W W'

set_option maxRecDepth 100000 in
set_option maxHeartbeats 6400000 in
theorem getS_any (PK PV : ByteArray → Prop) (g base : Nat) (xs : List (ByteArray × ByteArray)) (k : ByteArray) (hP : ∀ p ∈ xs, PK p.1 ∧ PV p.2) (hl : xs.length ≤ 10000000) (W : World) (hm : MapAt 216 284 layTt W base g xs) :
    Calls Tryz.prog 94 #[.pointer (some ⟨g, 0, none⟩), .string k] W (GetLeft PV W) := by
  obtain ⟨v, hg, hown⟩ := hm
  have HG := Lib.hid hg
  have HO := Lib.hid hown
  have HPP := Lib.hid hP
  clear hP hg hown
  go_enter Tryz.func94, Tryz.ntmps94
  go_wp2_with fail
  refine (findS_any g v xs k (by omega) _ HG.out HO.out.list).mono ?_
  rintro e w2 ⟨⟨ko, b, rfl, h1, h2⟩, hb2⟩
  have HG2 := Lib.hid (HG.out.below hb2 HG.out.lt)
  have HO2 := Lib.hid (HO.out.below hb2 (Nat.le_refl _))
  have HB2 := Lib.hid hb2
  clear hb2
  have c0 := HG2.out.cell 0
  cases b with
  | true =>
    have hko := h2 rfl
    obtain ⟨x, hx⟩ : ∃ p, xs[ko]? = some p := ⟨_, List.getElem?_eq_getElem hko⟩
    have HX := Lib.hid hx
    obtain ⟨g', cap, rfl, hbg, hgl⟩ := HO2.out.form (by omega)
    obtain ⟨b', off, hA, hcell⟩ := HO2.out.list.at_ hx
    cases hA
    have c1 : w2.cell? ⟨g', ko * 2 + 1, none⟩ = some (.string x.2) := by
      have := hcell 1 _ rfl
      rwa [Nat.zero_add] at this
    clear hcell hx h2
    go_wp2
    go_ret2
    exact ⟨⟨_, _, rfl, .inl (HPP.out x (List.mem_of_getElem? HX.out)).2⟩, HB2.out⟩
  | false =>
    clear h2 c0
    go_wp2
    go_ret2
    exact ⟨⟨_, _, rfl, .inr rfl⟩, HB2.out⟩

set_option maxRecDepth 100000 in
set_option maxHeartbeats 6400000 in
theorem lenS_any (g base : Nat) (xs : List (ByteArray × ByteArray)) (W : World) (hm : MapAt 216 284 layTt W base g xs) :
    Calls Tryz.prog 95 #[.pointer (some ⟨g, 0, none⟩)] W fun e W' => e = .returned (.int .i64 (xs.length : Int)) ∧ Below W.heap.size W W' := by
  obtain ⟨v, hg, hown⟩ := hm
  obtain ⟨A, cap, rfl, -⟩ := hown.list
  have c0 := hg.cell 0
  clear hg hown
  go_enter Tryz.func95, Tryz.ntmps95
  go_wp2
  go_ret
  exact ⟨rfl, Below.refl _ _⟩

/-- What Del leaves. -/
def DelLeft (PK PV : ByteArray → Prop) (W : World) (base g n : Nat) (e : Ending) (W' : World) : Prop :=
  ∃ b xs', e = .returned (.bool b) ∧ MapAt 216 284 layTt W' base g xs' ∧ xs'.length ≤ n ∧ (∀ p ∈ xs', PK p.1 ∧ PV p.2) ∧ FrT [216, 284] W W' ∧ Below base W W'

set_option maxRecDepth 100000 in
set_option maxHeartbeats 6400000 in
theorem delS_any (PK PV : ByteArray → Prop) (g base : Nat) (xs : List (ByteArray × ByteArray)) (k : ByteArray) (hP : ∀ p ∈ xs, PK p.1 ∧ PV p.2) (hl : xs.length ≤ 10000000) (W : World) (hbase : base ≤ W.heap.size) (hgb : base ≤ g) (hm : MapAt 216 284 layTt W base g xs) :
    Calls Tryz.prog 96 #[.pointer (some ⟨g, 0, none⟩), .string k] W (DelLeft PK PV W base g xs.length) := by
  obtain ⟨v, hg, hown⟩ := hm
  have HG := Lib.hid hg
  have HO := Lib.hid hown
  have HPP := Lib.hid hP
  clear hP hg hown
  go_enter Tryz.func96, Tryz.ntmps96
  go_wp2_with fail
  refine (findS_any g v xs k (by omega) _ HG.out HO.out.list).mono ?_
  rintro e w2 ⟨⟨ko, b, rfl, h1, h2⟩, hb2⟩
  have HG2 := Lib.hid (HG.out.below hb2 HG.out.lt)
  have HO2 := Lib.hid (HO.out.below hb2 (Nat.le_refl _))
  have HF2 := Lib.hid (FrT.ofBelow (ts := [216, 284]) hb2)
  have HB2 := Lib.hid (hb2.mono hbase)
  have hs2 := hb2.size
  clear hb2
  have c0 := HG2.out.cell 0
  have z0 := HG2.out.frozen 0
  cases b with
  | true =>
    have hko := h2 rfl
    have HAP := Lib.hid (OwnL.apart HO2.out HG2.out (by decide))
    have hF3 : Hid (∀ q, v.ownBlock = some q → ByT [216, 284] w2 q) := fun q e => by
      obtain ⟨ds, hd⟩ := HO2.out.typed q e
      exact ⟨ds, 284, (0, 0), hd, by decide⟩
    have h1v : v.oneCell' = true := by obtain ⟨A, cap, rfl, -⟩ := HO2.out.list; rfl
    clear h2
    go_wp2_with fail
    refine (delit_any v xs ko base hko (by omega) _ HO2.out).mono ?_
    rintro e w3 ⟨v', rfl, ho3, hg3, -⟩
    have HO3 := Lib.hid ho3
    have HF3 := Lib.hid (HF2.out.trans (FrT.grown hg3 hF3.out))
    have HB3 := Lib.hid (HB2.out.trans (below_of_grown hg3 (fun k e => (HO2.out.lt k e).1) (by omega)))
    have hs3 := hg3.size
    have HG3 := Lib.hid (HG2.out.kept hg3 (fun e => HAP.out e.symm))
    have c3 := HG3.out.cell 0
    have z3 := HG3.out.frozen 0
    obtain ⟨A3, n3, cap3, rfl⟩ : ∃ A n cap, v' = .slice A n cap := by obtain ⟨A, cap, h, -⟩ := HO3.out.list; exact ⟨_, _, _, h⟩
    clear c0 z0 ho3 hg3
    have hres : Hid (DelLeft PK PV W base g xs.length (.returned (.bool true)) (w3.setCell ⟨g, 0, none⟩ (.slice A3 n3 cap3))) := by
      refine ⟨true, _, rfl, ⟨_, HG3.out.set 0 _, HO3.out.kept (grown_set w3 g 0 _) (.inr (OwnL.apart HO3.out HG3.out (by decide)))⟩, ?_, fun p hp => ?_, HF3.out.trans (FrT.set HG3.out (by decide) _ _), HB3.out.trans (set_below hgb (by omega) _ _)⟩
      · rw [List.length_append, List.length_take, List.length_drop]; omega
      · rcases List.mem_append.1 hp with h | h
        · exact HPP.out p (List.mem_of_mem_take h)
        · exact HPP.out p (List.mem_of_mem_drop h)
    go_wp2
    go_ret
    exact hres.out
  | false =>
    clear h2 c0 z0
    go_wp2
    go_ret
    exact ⟨false, xs, rfl, ⟨v, HG2.out, HO2.out⟩, Nat.le_refl _, HPP.out, HF2.out, HB2.out⟩
end Go.Proofs.YtjkkclfndlfjhaaGreatDoor
/- Contract of Map.Get at sessions. -/
namespace Go.Proofs.YtjkkclfndlfjhaaGreatDoor
open Go.RowKit Crc Frm Go.ChangeShapes Go.WideShapes Go.ChangeAt

/-- Some session; nothing that lay has turned. -/
def SomeSess (W : World) (e : Ending) (W' : World) : Prop := (∃ s b, e = .returned (.tuple #[Ss.v s, .bool b])) ∧ Below W.heap.size W W'

set_option maxRecDepth 100000 in
set_option maxHeartbeats 6400000 in
theorem getI_any (g base : Nat) (xs : List (Int × Ss)) (k : Int) (hl : xs.length ≤ 10000000) (W : World) (hm : MapAt 209 213 layIs W base g xs) :
    Calls Tryz.prog 38 #[.pointer (some ⟨g, 0, none⟩), .int .i64 k] W (SomeSess W) := by
  obtain ⟨v, hg, hown⟩ := hm
  have HG := Lib.hid (hg.alloc (.cells #[.int .i64 0, .int .i64 0, .int .i64 0, .string ⟨#[]⟩] 68))
  have HO := Lib.hid (hown.alloc (.cells #[.int .i64 0, .int .i64 0, .int .i64 0, .string ⟨#[]⟩] 68))
  have HR := Lib.hid (Has.new W 68 #[.int .i64 0, .int .i64 0, .int .i64 0, .string ⟨#[]⟩])
  have HB := Lib.hid ((Below.refl _ W).alloc (Nat.le_refl _) (.cells #[.int .i64 0, .int .i64 0, .int .i64 0, .string ⟨#[]⟩] 68))
  clear hg hown
  go_enter Tryz.func38, Tryz.ntmps38
  go_wp2_with fail
  refine (findI_any g v xs k (by omega) _ HG.out HO.out.list).mono ?_
  rintro e w2 ⟨⟨ko, b, rfl, h1, h2⟩, hb2⟩
  have HG2 := Lib.hid (HG.out.below hb2 HG.out.lt)
  have HO2 := Lib.hid (HO.out.below hb2 (Nat.le_refl _))
  have HR2 := Lib.hid (HR.out.below hb2 HR.out.lt)
  have HB2 := Lib.hid (HB.out.trans (hb2.mono (by simp)))
  clear hb2
  have c0 := HG2.out.cell 0
  have r0 := HR2.out.cell 0
  have r1 := HR2.out.cell 1
  have r2 := HR2.out.cell 2
  have r3 := HR2.out.cell 3
  have f0 := HR2.out.frozen 0
  have f1 := HR2.out.frozen 1
  have f2 := HR2.out.frozen 2
  have f3 := HR2.out.frozen 3
  cases b with
  | true =>
    have hko := h2 rfl
    obtain ⟨x, hx⟩ : ∃ p, xs[ko]? = some p := ⟨_, List.getElem?_eq_getElem hko⟩
    obtain ⟨g', cap, rfl, hbg, hgl⟩ := HO2.out.form (by omega)
    obtain ⟨b', off, hA, hcell⟩ := HO2.out.list.at_ hx
    cases hA
    have c1 : w2.cell? ⟨g', ko * 5 + 1, none⟩ = some (.int .i64 x.2.client) := by
      have := hcell 1 _ rfl
      rwa [Nat.zero_add] at this
    have c2 : w2.cell? ⟨g', ko * 5 + 2, none⟩ = some (.int .i64 x.2.seq) := by
      have := hcell 2 _ rfl
      rwa [Nat.zero_add] at this
    have c3 : w2.cell? ⟨g', ko * 5 + 3, none⟩ = some (.int .i64 x.2.err) := by
      have := hcell 3 _ rfl
      rwa [Nat.zero_add] at this
    have c4 : w2.cell? ⟨g', ko * 5 + 4, none⟩ = some (.string x.2.val) := by
      have := hcell 4 _ rfl
      rwa [Nat.zero_add] at this
    clear hcell hx h2
    go_wp2
    refine bodyPost_ret (results_cell_row2 rfl _ _ W.heap.size 68 _ (0, 0) _ rfl (HR2.out.set4 (.int .i64 x.2.client) (.int .i64 x.2.seq) (.int .i64 x.2.err) (.string x.2.val)) Tryz.underlying68 rfl (by kernel_rfl)) rfl ⟨⟨x.2, true, rfl⟩, HB2.out.trans ((Fr.set4 _ W.heap.size (.int .i64 x.2.client) (.int .i64 x.2.seq) (.int .i64 x.2.err) (.string x.2.val)).toBelow (n := W.heap.size) (fun k e => by omega) HB2.out.size)⟩
  | false =>
    have HRA := Lib.hid (HR2.out.alloc (.cells #[.int .i64 0, .int .i64 0, .int .i64 0, .string ⟨#[]⟩] 68))
    have HBA := Lib.hid (HB2.out.alloc HB2.out.size (.cells #[.int .i64 0, .int .i64 0, .int .i64 0, .string ⟨#[]⟩] 68))
    clear h2 c0 r0 r1 r2 r3 f0 f1 f2 f3
    have r0 := HRA.out.cell 0
    have r1 := HRA.out.cell 1
    have r2 := HRA.out.cell 2
    have r3 := HRA.out.cell 3
    have f0 := HRA.out.frozen 0
    have f1 := HRA.out.frozen 1
    have f2 := HRA.out.frozen 2
    have f3 := HRA.out.frozen 3
    go_wp2
    refine bodyPost_ret (results_cell_row2 rfl _ _ W.heap.size 68 _ (0, 0) _ rfl (HRA.out.set4 (.int .i64 0) (.int .i64 0) (.int .i64 0) (.string ⟨#[]⟩)) Tryz.underlying68 rfl (by kernel_rfl)) rfl ⟨⟨⟨0, 0, 0, ⟨#[]⟩⟩, false, rfl⟩, HBA.out.trans ((Fr.set4 _ W.heap.size (.int .i64 0) (.int .i64 0) (.int .i64 0) (.string ⟨#[]⟩)).toBelow (n := W.heap.size) (fun k e => by omega) HBA.out.size)⟩
end Go.Proofs.YtjkkclfndlfjhaaGreatDoor
/- Contract of Map.Put at sessions. -/
namespace Go.Proofs.YtjkkclfndlfjhaaGreatDoor
open Go.RowKit Crc Frm Go.ChangeShapes Go.WideShapes Go.ChangeAt

set_option maxRecDepth 100000 in
set_option maxHeartbeats 6400000 in
theorem putI_any (PV : Ss → Prop) (g base : Nat) (xs : List (Int × Ss)) (k : Int) (u : Ss) (hu : PV u) (hP : ∀ p ∈ xs, PV p.2) (hl : xs.length ≤ 10000000) (W : World) (hbase : base ≤ W.heap.size) (hgb : base ≤ g) (hm : MapAt 209 213 layIs W base g xs) :
    Calls Tryz.prog 42 #[.pointer (some ⟨g, 0, none⟩), .int .i64 k, u.v] W (PutLeft 209 213 layIs (fun _ => True) PV W base g xs.length) := by
  obtain ⟨v, hg, hown⟩ := hm
  have HG := Lib.hid (hg.alloc (.cells #[.int .i64 u.client, .int .i64 u.seq, .int .i64 u.err, .string u.val] 68))
  have HO := Lib.hid (hown.alloc (.cells #[.int .i64 u.client, .int .i64 u.seq, .int .i64 u.err, .string u.val] 68))
  have HR := Lib.hid (Has.new W 68 #[.int .i64 u.client, .int .i64 u.seq, .int .i64 u.err, .string u.val])
  have HF := Lib.hid ((FrT.refl [209, 213] W).alloc (.cells #[.int .i64 u.client, .int .i64 u.seq, .int .i64 u.err, .string u.val] 68))
  have HPP := Lib.hid hP
  clear hP hg hown
  unfold Ss.v
  go_enter Tryz.func42, Tryz.ntmps42
  go_wp2_with fail
  refine (findI_any g v xs k (by omega) _ HG.out HO.out.list).mono ?_
  rintro e w2 ⟨⟨ko, b, rfl, h1, h2⟩, hb2⟩
  have HG2 := Lib.hid (HG.out.below hb2 HG.out.lt)
  have HO2 := Lib.hid (HO.out.below hb2 (Nat.le_refl _))
  have HR2 := Lib.hid (HR.out.below hb2 HR.out.lt)
  have HF2 := Lib.hid (HF.out.below hb2)
  have HB2 := Lib.hid (((Below.refl base W).alloc hbase (.cells #[.int .i64 u.client, .int .i64 u.seq, .int .i64 u.err, .string u.val] 68)).trans (hb2.mono (by rw [World.size_alloc]; omega)))
  have hs2 : W.heap.size + 1 ≤ w2.heap.size := by have := hb2.size; rw [World.size_alloc] at this; exact this
  clear hb2
  cases b with
  | true =>
    have hko := h2 rfl
    obtain ⟨x, hx⟩ : ∃ p, xs[ko]? = some p := ⟨_, List.getElem?_eq_getElem hko⟩
    have HX := Lib.hid hx
    obtain ⟨g', cap, rfl, hbg, hgl⟩ := HO2.out.form (by omega)
    obtain ⟨cs', hty⟩ := HO2.out.typed g' rfl
    have HT : Has w2 g' 213 cs' := hty
    have HTH := Lib.hid HT
    obtain ⟨b', off, hA, hcell⟩ := HO2.out.list.at_ hx
    cases hA
    have hne : g ≠ g' := fun e => by
      have h4 : Has w2 g 213 cs' := e ▸ HTH.out
      exact Has.other HG2.out h4 (by decide)
    have hne2 : W.heap.size ≠ g' := fun e => by
      have h4 : Has w2 W.heap.size 213 cs' := e ▸ HTH.out
      exact Has.other HR2.out h4 (by decide)
    have hres : Hid (PutLeft 209 213 layIs (fun _ => True) PV W base g xs.length (.returned (.bool false)) ((((w2.drew.setCell ⟨g', ko * 5 + 1, none⟩ (.int .i64 u.client)).setCell ⟨g', ko * 5 + 1 + 1, none⟩ (.int .i64 u.seq)).setCell ⟨g', ko * 5 + 1 + 2, none⟩ (.int .i64 u.err)).setCell ⟨g', ko * 5 + 1 + 3, none⟩ (.string u.val))) := by
      have hset : w2.drew.grownBy (w2.drew.setCells g' (ko * 5 + 1) [.int .i64 u.client, .int .i64 u.seq, .int .i64 u.err, .string u.val]) (some g') := grown_setCells _ _ _
      have HOD : OwnL w2.drew base 213 layIs _ xs := HO2.out.kept (grown_drew (World.grownBy.refl w2 none)) (.inr (by simp [Value.ownBlock]))
      refine ⟨false, xs.set ko (x.1, u), rfl, ⟨_, HG2.out.drew.kept hset (by simpa using hne), HOD.setAt (vs := [.int .i64 u.client, .int .i64 u.seq, .int .i64 u.err, .string u.val]) (j := 1) HX.out (by simp [layIs]) rfl⟩, by rw [List.length_set]; omega, fun p hp => ?_, HF2.out.drew.trans (FrT.grown hset fun q e => ?_), HB2.out.drew.trans (below_of_grown hset (fun q e => by cases e; exact hbg) (by show base ≤ w2.heap.size; omega))⟩
      · rcases List.mem_or_eq_of_mem_set hp with h | rfl
        · exact ⟨trivial, HPP.out p h⟩
        · exact ⟨trivial, hu⟩
      · cases e
        exact ⟨cs', 213, (0, 0), HTH.out, by decide⟩
    have c0 : w2.drew.cell? ⟨g, 0, none⟩ = _ := HG2.out.drew.cell 0
    have r0 : w2.drew.cell? ⟨W.heap.size, 0, none⟩ = some (.int .i64 u.client) := HR2.out.drew.cell 0
    have r1 : w2.drew.cell? ⟨W.heap.size, 1, none⟩ = some (.int .i64 u.seq) := HR2.out.drew.cell 1
    have r2 : w2.drew.cell? ⟨W.heap.size, 2, none⟩ = some (.int .i64 u.err) := HR2.out.drew.cell 2
    have r3 : w2.drew.cell? ⟨W.heap.size, 3, none⟩ = some (.string u.val) := HR2.out.drew.cell 3
    have c1 : w2.drew.cell? ⟨g', ko * 5 + 1, none⟩ = some (.int .i64 x.2.client) := by
      have := hcell 1 _ rfl
      rwa [Nat.zero_add] at this
    have c2 : w2.drew.cell? ⟨g', ko * 5 + 1 + 1, none⟩ = some (.int .i64 x.2.seq) := by
      have := hcell 2 _ rfl
      rwa [Nat.zero_add] at this
    have c3 : w2.drew.cell? ⟨g', ko * 5 + 1 + 2, none⟩ = some (.int .i64 x.2.err) := by
      have := hcell 3 _ rfl
      rwa [Nat.zero_add] at this
    have c4 : w2.drew.cell? ⟨g', ko * 5 + 1 + 3, none⟩ = some (.string x.2.val) := by
      have := hcell 4 _ rfl
      rwa [Nat.zero_add] at this
    have z1 := HT.drew.frozen (ko * 5 + 1)
    have z2 := HT.drew.frozen (ko * 5 + 1 + 1)
    have z3 := HT.drew.frozen (ko * 5 + 1 + 2)
    have z4 := HT.drew.frozen (ko * 5 + 1 + 3)
    have d2 : w2.cell? ⟨g', ko * 5 + 1 + 1, none⟩ = some (.int .i64 x.2.seq) := c2
    have d3 : w2.cell? ⟨g', ko * 5 + 1 + 2, none⟩ = some (.int .i64 x.2.err) := c3
    have d4 : w2.cell? ⟨g', ko * 5 + 1 + 3, none⟩ = some (.string x.2.val) := c4
    have y2 := HT.frozen (ko * 5 + 1 + 1)
    have y3 := HT.frozen (ko * 5 + 1 + 2)
    have y4 := HT.frozen (ko * 5 + 1 + 3)
    clear HT hty hcell hx h2
    go_wp2_with fail
    go_region
    go_wp2
    go_ret
    exact hres.out
  | false =>
    obtain ⟨Av, nv, capv, rfl⟩ : ∃ A n cap, v = .slice A n cap := by obtain ⟨A, cap, h, -⟩ := HO2.out.list; exact ⟨_, _, _, h⟩
    have HA := Lib.hid (Has.new w2.drew 213 #[.int .i64 k, .int .i64 u.client, .int .i64 u.seq, .int .i64 u.err, .string u.val])
    have HGA := Lib.hid (HG2.out.drew.alloc (.cells #[.int .i64 k, .int .i64 u.client, .int .i64 u.seq, .int .i64 u.err, .string u.val] 213))
    have HOD : OwnL w2.drew base 213 layIs (.slice Av nv capv) xs := HO2.out.kept (grown_drew (World.grownBy.refl w2 none)) (by cases h : (Value.slice Av nv capv).ownBlock with | none => exact .inl rfl | some q => exact .inr (by simp))
    have HOA := Lib.hid (HOD.alloc (.cells #[.int .i64 k, .int .i64 u.client, .int .i64 u.seq, .int .i64 u.err, .string u.val] 213))
    have HBL : Hid ((Value.slice Av nv capv).ownBlock ≠ some w2.drew.heap.size) := fun e => by have := (HOD.lt _ e).2; omega
    have HAP := Lib.hid (OwnL.apart HOA.out HGA.out (by decide))
    have hF3 : Hid (∀ q, (Value.slice Av nv capv).ownBlock = some q → ByT [209, 213] (w2.drew.alloc (.cells #[.int .i64 k, .int .i64 u.client, .int .i64 u.seq, .int .i64 u.err, .string u.val] 213)) q) := fun q e => by
      obtain ⟨ds, hd⟩ := HOA.out.typed q e
      exact ⟨ds, 213, (0, 0), hd, by decide⟩
    have HBA := Lib.hid (HB2.out.drew.alloc (by show base ≤ w2.heap.size; omega) (.cells #[.int .i64 k, .int .i64 u.client, .int .i64 u.seq, .int .i64 u.err, .string u.val] 213))
    have HFA := Lib.hid (HF2.out.drew.alloc (.cells #[.int .i64 k, .int .i64 u.client, .int .i64 u.seq, .int .i64 u.err, .string u.val] 213))
    have hfin : Hid (∀ e w3, InsLeft layIs 213 (w2.drew.alloc (.cells #[.int .i64 k, .int .i64 u.client, .int .i64 u.seq, .int .i64 u.err, .string u.val] 213)) base (.slice Av nv capv) xs ko (k, u) e w3 →
        ∃ A n cap, e = .returned (.slice A n cap) ∧ w3.cell? ⟨g, 0, none⟩ = some (.slice Av nv capv) ∧ w3.frozen? ⟨g, 0, none⟩ = false ∧ Hid (PutLeft 209 213 layIs (fun _ => True) PV W base g xs.length (.returned (.bool true)) (w3.setCell ⟨g, 0, none⟩ (.slice A n cap)))) := by
      rintro e w3 ⟨v', rfl, ho3, hg3⟩
      obtain ⟨A3, n3, cap3, rfl⟩ : ∃ A n cap, v' = .slice A n cap := by obtain ⟨A, cap, h, -⟩ := ho3.list; exact ⟨_, _, _, h⟩
      have HF3 := HFA.out.trans (FrT.grown hg3 hF3.out)
      have HB3 := HBA.out.trans (below_of_grown hg3 (fun k e => (HOA.out.lt k e).1) (by rw [World.size_alloc]; show base ≤ w2.heap.size + 1; omega))
      have HG3 := HGA.out.kept hg3 (fun e => HAP.out e.symm)
      refine ⟨A3, n3, cap3, rfl, HG3.cell 0, HG3.frozen 0, true, _, rfl, ⟨_, HG3.set 0 _, ho3.kept (grown_set w3 g 0 _) (.inr (OwnL.apart ho3 HG3 (by decide)))⟩, ?_, fun p hp => ?_, HF3.trans (FrT.set HG3 (by decide) _ _), HB3.trans (set_below hgb (by have := HB3.size; omega) _ _)⟩
      · rw [List.length_append, List.length_take, List.length_cons, List.length_drop]; omega
      · rcases List.mem_append.1 hp with h | h
        · exact ⟨trivial, HPP.out p (List.mem_of_mem_take h)⟩
        · rcases List.mem_cons.1 h with rfl | h
          · exact ⟨trivial, hu⟩
          · exact ⟨trivial, HPP.out p (List.mem_of_mem_drop h)⟩
    have hins : Hid (Calls Tryz.prog 98 #[.slice Av nv capv, .int .i64 (ko : Int), .slice (some ⟨w2.heap.size, 0, none⟩) 1 1] (w2.drew.alloc (.cells #[.int .i64 k, .int .i64 u.client, .int .i64 u.seq, .int .i64 u.err, .string u.val] 213)) (InsLeft layIs 213 (w2.drew.alloc (.cells #[.int .i64 k, .int .i64 u.client, .int .i64 u.seq, .int .i64 u.err, .string u.val] 213)) base (.slice Av nv capv) xs ko (k, u))) :=
      insI_any _ xs (k, u) ko base w2.heap.size h1 (by omega) _ (by rw [World.size_alloc]; show base ≤ w2.heap.size + 1; omega) HOA.out HA.out HBL.out
    have c0 : w2.drew.cell? ⟨g, 0, none⟩ = some (.slice Av nv capv) := HG2.out.drew.cell 0
    have r0 : w2.drew.cell? ⟨W.heap.size, 0, none⟩ = some (.int .i64 u.client) := HR2.out.drew.cell 0
    have r1 : w2.drew.cell? ⟨W.heap.size, 1, none⟩ = some (.int .i64 u.seq) := HR2.out.drew.cell 1
    have r2 : w2.drew.cell? ⟨W.heap.size, 2, none⟩ = some (.int .i64 u.err) := HR2.out.drew.cell 2
    have r3 : w2.drew.cell? ⟨W.heap.size, 3, none⟩ = some (.string u.val) := HR2.out.drew.cell 3
    have a0 := HGA.out.cell 0
    have a1 : (w2.alloc (.cells #[.int .i64 k, .int .i64 u.client, .int .i64 u.seq, .int .i64 u.err, .string u.val] 213)).cell? ⟨g, 0, none⟩ = some (.slice Av nv capv) := a0
    clear h2 HOD
    go_wp2_with fail
    go_region_with (go_at_call 98; refine hins.out.mono ?_; intro e w3 hx; obtain ⟨A3, n3, cap3, rfl, c3, z3, hres⟩ := hfin.out e w3 hx; clear hx; (try dsimp only))
    all_goals
      go_wp2
      go_ret
      exact hres.out
end Go.Proofs.YtjkkclfndlfjhaaGreatDoor
/- The iterators of a map: what All hands back tells of each item. -/
namespace Go.Proofs.YtjkkclfndlfjhaaGreatDoor
open Go.RowKit Crc Frm Go.ChangeShapes Go.WideShapes Go.ChangeAt

/-- Cells of other types than these lie as they lay. -/
def KpT (ts : List TypeId) (W W' : World) : Prop := ∀ (k : Nat) (cs : Array Value) (t : TypeId) (fz : Nat × Nat), W.heap[k]? = some (Obj.cells cs t fz) → t ∉ ts → W'.heap[k]? = some (Obj.cells cs t fz)
theorem KpT.refl (ts : List TypeId) (W : World) : KpT ts W W := fun _ _ _ _ h _ => h
theorem KpT.trans {ts : List TypeId} {a b c : World} (h1 : KpT ts a b) (h2 : KpT ts b c) : KpT ts a c := fun k cs t fz h ht => h2 k cs t fz (h1 k cs t fz h ht) ht
theorem KpT.below {ts : List TypeId} {W W' : World} (h : Below W.heap.size W W') : KpT ts W W' := fun k _ _ _ hk _ => (h.block k (Array.getElem?_eq_some_iff.1 hk).1).trans hk
theorem KpT.alloc {ts : List TypeId} {a b : World} (h : KpT ts a b) (o : Obj) : KpT ts a (b.alloc o) := h.trans (KpT.below ((Below.refl _ b).alloc (Nat.le_refl _) o))
theorem KpT.drew {ts : List TypeId} {a b : World} (h : KpT ts a b) : KpT ts a b.drew := h
theorem KpT.frT {ts : List TypeId} {W W' : World} (h : FrT ts W W') : KpT ts W W' := fun k cs t fz hk ht => (h.block k (Array.getElem?_eq_some_iff.1 hk).1 fun ⟨cs', t', fz', hb, ht'⟩ => by rw [hk] at hb; cases hb; exact ht ht').trans hk
theorem KpT.putObj {ts : List TypeId} {W : World} {l : Nat} {o : Obj} (o' : Obj) (hl : W.heap[l]? = some o) (ho : o.isCells = false) : KpT ts W (W.putObj l o') := fun k cs t fz hk _ => by
  have hne : k ≠ l := fun e => by
    subst e
    rw [hl] at hk
    cases hk
    cases ho
  exact (World.putObj_heap_other hne).trans hk
theorem Has.kpT {ts : List TypeId} {W W' : World} {g : Nat} {t : TypeId} {cs : Array Value} (h : Has W g t cs) (f : KpT ts W W') (ht : t ∉ ts) : Has W' g t cs := f g cs t (0, 0) h ht
theorem OwnL.kpT {α : Type} {L : Lay α} {ts : List TypeId} {W W' : World} {base : Nat} {e : TypeId} {v : Value} {xs : List α} (h : OwnL W base e L v xs) (f : KpT ts W W') (ht : e ∉ ts) : OwnL W' base e L v xs := by
  refine ⟨h.1, ?_⟩
  rcases h.2 with h' | ⟨g, cap, cur, rfl, e2, e3, e4⟩
  · exact .inl h'
  · exact .inr ⟨g, cap, cur, rfl, e2, f g _ _ _ e3 ht, e4⟩

def encTt (p : ByteArray × ByteArray) : Array Value := #[.string p.1, .string p.2]
def encIs (p : Int × Ss) : Array Value := #[.int .i64 p.1, p.2.v]
/-- x is the next one. -/
def Nth {α : Type} (xs pre : List α) (x : α) (_ : World) : Prop := pre = xs.take pre.length ∧ xs[pre.length]? = some x
theorem Nth.at_ {α : Type} {xs : List α} {j : Nat} {x : α} {W : World} (h : xs[j]? = some x) : Nth xs (xs.take j) x W := by
  have hj : j < xs.length := (List.getElem?_eq_some_iff.1 h).1
  have e : (xs.take j).length = j := by rw [List.length_take, Nat.min_eq_left (by omega)]
  exact ⟨by rw [e], by rw [e]; exact h⟩
theorem take_snoc {α : Type} {xs : List α} {j : Nat} {x : α} (h : xs[j]? = some x) : xs.take j ++ [x] = xs.take (j + 1) := by rw [List.take_add_one, h]; rfl

set_option maxRecDepth 100000 in
set_option maxHeartbeats 3200000 in
theorem iterS_any (g base box : Nat) (xs : List (ByteArray × ByteArray)) (hl : xs.length ≤ 10000000) (ts : List TypeId) (h1 : 284 ∉ ts) (n l : Nat) (J Jx : List (ByteArray × ByteArray) → World → Prop) (hJ : Lasts J)
    (hY : ∀ pre x W1, J pre W1 → Nth xs pre x W1 → YieldAt Fence.wide n Tryz.prog l (encTt x) W1 fun e W' => (e = .returned (.bool true) ∧ J (pre ++ [x]) W' ∧ KpT ts W1 W') ∨ (e = .returned (.bool false) ∧ Jx (pre ++ [x]) W'))
    (W : World) (hbox : Has W box 137 #[.pointer (some ⟨g, 0, none⟩)]) (hm : MapAt 216 284 layTt W base g xs) (h0 : J [] W) :
    CallsIn Fence.wide (n + 1) Tryz.prog 154 #[.func (.yield l) #[] #[], .pointer (some ⟨box, 0, none⟩)] W fun e W' => (∃ v, e = .returned v) ∧ ((∃ ys, ys = xs ∧ J ys W') ∨ (∃ pre, Jx pre W')) := by
  obtain ⟨v, hg, hown⟩ := hm
  have b0 := hbox.cell 0
  have c0 := hg.cell 0
  have HO := Lib.hid hown
  obtain ⟨A, cap, rfl, -⟩ := id hown.list
  clear hbox hg hown
  refine callsIn_of_wp Tryz.func154 rfl trivial ?_
  simp only [Tryz.ntmps154, List.size_toArray, List.length_cons, List.length_nil, Nat.reduceAdd, Nat.reduceSub, Array.replicate_succ, Array.replicate_zero, List.push_toArray, List.append_toArray, List.nil_append, List.cons_append]
  gi_wp2
  gi_loopw [10] (fun i wr => ∃ (j : Nat), j ≤ xs.length ∧ i = .int .i64 (j : Int) ∧ J (xs.take j) wr ∧ KpT ts W wr) (fun i _ => xs.length - (intOf i).toNat)
  case atStart => exact ⟨0, by omega, rfl, h0, KpT.refl _ _⟩
  case round =>
    obtain ⟨j, hj, rfl, hjw, hk⟩ := hrel
    have HJ := Lib.hid hjw
    have HK := Lib.hid hk
    clear hjw hk
    by_cases hjl : j < xs.length
    · obtain ⟨x, hx⟩ : ∃ x, xs[j]? = some x := ⟨_, List.getElem?_eq_getElem hjl⟩
      obtain ⟨b, off, rfl, hcell⟩ := (HO.out.kpT HK.out h1).list.at_ hx
      have d0 : wr.cell? ⟨b, off + j * 2, none⟩ = some (.string x.1) := hcell 0 _ rfl
      have d1 : wr.cell? ⟨b, off + j * 2 + 1, none⟩ = some (.string x.2) := hcell 1 _ rfl
      have ha : Below wr.heap.size wr (wr.alloc (.cells #[.string x.1, .string x.2] 284)) := (Below.refl _ wr).alloc (Nat.le_refl _) _
      obtain ⟨fn, tmps, assign, body, hy, hR⟩ := hY (xs.take j) x (wr.alloc (.cells #[.string x.1, .string x.2] 284)) (hJ _ _ _ HJ.out ha) (Nth.at_ hx)
      have HKA := Lib.hid (HK.out.trans (KpT.below ha))
      simp only [encTt] at hy
      rw [take_snoc hx] at hR
      have HR := Lib.hid hR
      clear hcell ha hR b0 c0 hx
      gi_wp2
      refine HR.out.mono ?_
      rintro e W3 (⟨rfl, hJ3, hk3⟩ | ⟨rfl, hJx3⟩)
      · gi_wp2
        go_roundw
        case rel => exact ⟨j + 1, by omega, by go_num, hJ3, HKA.out.trans hk3⟩
        case measure => simp [intOf]; omega
      · gi_wp2
        refine bodyPost_ret (results_none rfl _ _ _) rfl ?_
        exact ⟨⟨_, rfl⟩, .inr ⟨_, hJx3⟩⟩
    · obtain rfl : j = xs.length := by omega
      have hjw := HJ.out
      rw [List.take_of_length_le (Nat.le_refl _)] at hjw
      have HJ' := Lib.hid hjw
      clear hjw b0 c0
      gi_wp2
      refine bodyPost_end (results_none rfl _ _ _) rfl ?_
      exact ⟨⟨_, rfl⟩, .inl ⟨_, rfl, HJ'.out⟩⟩

set_option maxRecDepth 100000 in
set_option maxHeartbeats 3200000 in
theorem iterI_any (g base box : Nat) (xs : List (Int × Ss)) (hl : xs.length ≤ 10000000) (ts : List TypeId) (h1 : 213 ∉ ts) (n l : Nat) (J Jx : List (Int × Ss) → World → Prop) (hJ : Lasts J)
    (hY : ∀ pre x W1, J pre W1 → Nth xs pre x W1 → YieldAt Fence.wide n Tryz.prog l (encIs x) W1 fun e W' => (e = .returned (.bool true) ∧ J (pre ++ [x]) W' ∧ KpT ts W1 W') ∨ (e = .returned (.bool false) ∧ Jx (pre ++ [x]) W'))
    (W : World) (hbox : Has W box 133 #[.pointer (some ⟨g, 0, none⟩)]) (hm : MapAt 209 213 layIs W base g xs) (h0 : J [] W) :
    CallsIn Fence.wide (n + 1) Tryz.prog 99 #[.func (.yield l) #[] #[], .pointer (some ⟨box, 0, none⟩)] W fun e W' => (∃ v, e = .returned v) ∧ ((∃ ys, ys = xs ∧ J ys W') ∨ (∃ pre, Jx pre W')) := by
  obtain ⟨v, hg, hown⟩ := hm
  have b0 := hbox.cell 0
  have c0 := hg.cell 0
  have HO := Lib.hid hown
  obtain ⟨A, cap, rfl, -⟩ := id hown.list
  clear hbox hg hown
  refine callsIn_of_wp Tryz.func99 rfl trivial ?_
  simp only [Tryz.ntmps99, List.size_toArray, List.length_cons, List.length_nil, Nat.reduceAdd, Nat.reduceSub, Array.replicate_succ, Array.replicate_zero, List.push_toArray, List.append_toArray, List.nil_append, List.cons_append]
  gi_wp2
  gi_loopw [10] (fun i wr => ∃ (j : Nat), j ≤ xs.length ∧ i = .int .i64 (j : Int) ∧ J (xs.take j) wr ∧ KpT ts W wr) (fun i _ => xs.length - (intOf i).toNat)
  case atStart => exact ⟨0, by omega, rfl, h0, KpT.refl _ _⟩
  case round =>
    obtain ⟨j, hj, rfl, hjw, hk⟩ := hrel
    have HJ := Lib.hid hjw
    have HK := Lib.hid hk
    clear hjw hk
    by_cases hjl : j < xs.length
    · obtain ⟨x, hx⟩ : ∃ x, xs[j]? = some x := ⟨_, List.getElem?_eq_getElem hjl⟩
      obtain ⟨b, off, rfl, hcell⟩ := (HO.out.kpT HK.out h1).list.at_ hx
      have d0 : wr.cell? ⟨b, off + j * 5, none⟩ = some (.int .i64 x.1) := hcell 0 _ rfl
      have d1 : wr.cell? ⟨b, off + j * 5 + 1, none⟩ = some (.int .i64 x.2.client) := hcell 1 _ rfl
      have d2 : wr.cell? ⟨b, off + j * 5 + 2, none⟩ = some (.int .i64 x.2.seq) := hcell 2 _ rfl
      have d3 : wr.cell? ⟨b, off + j * 5 + 3, none⟩ = some (.int .i64 x.2.err) := hcell 3 _ rfl
      have d4 : wr.cell? ⟨b, off + j * 5 + 4, none⟩ = some (.string x.2.val) := hcell 4 _ rfl
      have ha : Below wr.heap.size wr (wr.alloc (.cells #[.int .i64 x.1, .int .i64 x.2.client, .int .i64 x.2.seq, .int .i64 x.2.err, .string x.2.val] 213)) := (Below.refl _ wr).alloc (Nat.le_refl _) _
      obtain ⟨fn, tmps, assign, body, hy, hR⟩ := hY (xs.take j) x (wr.alloc (.cells #[.int .i64 x.1, .int .i64 x.2.client, .int .i64 x.2.seq, .int .i64 x.2.err, .string x.2.val] 213)) (hJ _ _ _ HJ.out ha) (Nth.at_ hx)
      have HKA := Lib.hid (HK.out.trans (KpT.below ha))
      simp only [encIs, Ss.v] at hy
      rw [take_snoc hx] at hR
      have HR := Lib.hid hR
      clear hcell ha hR b0 c0 hx
      gi_wp2
      refine HR.out.mono ?_
      rintro e W3 (⟨rfl, hJ3, hk3⟩ | ⟨rfl, hJx3⟩)
      · gi_wp2
        go_roundw
        case rel => exact ⟨j + 1, by omega, by go_num, hJ3, HKA.out.trans hk3⟩
        case measure => simp [intOf]; omega
      · gi_wp2
        refine bodyPost_ret (results_none rfl _ _ _) rfl ?_
        exact ⟨⟨_, rfl⟩, .inr ⟨_, hJx3⟩⟩
    · obtain rfl : j = xs.length := by omega
      have hjw := HJ.out
      rw [List.take_of_length_le (Nat.le_refl _)] at hjw
      have HJ' := Lib.hid hjw
      clear hjw b0 c0
      gi_wp2
      refine bodyPost_end (results_none rfl _ _ _) rfl ?_
      exact ⟨⟨_, rfl⟩, .inl ⟨_, rfl, HJ'.out⟩⟩
end Go.Proofs.YtjkkclfndlfjhaaGreatDoor
/- Contracts of state.pairs and state.sessions: a map of what a state has. -/
namespace Go.Proofs.YtjkkclfndlfjhaaGreatDoor
open Go.RowKit Crc Frm Go.ChangeShapes Go.WideShapes Go.ChangeAt

theorem MapAt.alloc {α : Type} {M E : TypeId} {L : Lay α} {W : World} {base g : Nat} {xs : List α} (h : MapAt M E L W base g xs) (o : Obj) : MapAt M E L (W.alloc o) base g xs := by
  obtain ⟨v, h1, h2⟩ := h
  exact ⟨v, h1.alloc o, h2.alloc o⟩
theorem MapAt.kpT {α : Type} {M E : TypeId} {L : Lay α} {W W' : World} {base g : Nat} {xs : List α} {ts : List TypeId} (h : MapAt M E L W base g xs) (f : KpT ts W W') (h1 : M ∉ ts) (h2 : E ∉ ts) : MapAt M E L W' base g xs := by
  obtain ⟨v, h3, h4⟩ := h
  exact ⟨v, h3.kpT f h1, h4.kpT f h2⟩
theorem MapAt.below {α : Type} {M E : TypeId} {L : Lay α} {W W' : World} {base g : Nat} {xs : List α} (h : MapAt M E L W base g xs) (hb : Below W.heap.size W W') : MapAt M E L W' base g xs := h.kpT (ts := []) (KpT.below hb) (by simp) (by simp)

/-- A map that the call has made. -/
def MapMade {κ ν : Type} (M E : TypeId) (L : Lay (κ × ν)) (PK : κ → Prop) (PV : ν → Prop) (n : Nat) (W : World) (e : Ending) (W' : World) : Prop :=
  ∃ g xs, e = .returned (.pointer (some ⟨g, 0, none⟩)) ∧ W.heap.size ≤ g ∧ MapAt M E L W' W.heap.size g xs ∧ xs.length ≤ n ∧ (∀ p ∈ xs, PK p.1 ∧ PV p.2) ∧ Below W.heap.size W W'

set_option maxRecDepth 100000 in
set_option maxHeartbeats 3200000 in
theorem pairs_any (PK PV : ByteArray → Prop) (index term : Int) (psv xsv : Value) (ps : List Pr) (hP : ∀ p ∈ ps, PK p.key ∧ PV p.val) (hl : ps.length ≤ 1000000) (W : World) (hps : IsL W layPr psv ps) :
    Calls Tryz.prog 39 #[.agg #[.int .i64 index, .int .i64 term, psv, xsv]] W (MapMade 216 284 layTt PK PV ps.length W) := by
  have HPS := Lib.hid hps
  have HPP := Lib.hid hP
  obtain ⟨A, cap, rfl, -⟩ := hps
  clear hP
  go_enter Tryz.func39, Tryz.ntmps39
  go_wp2
  go_loopw [11] (fun i wr => ∃ (j : Nat) (xs : List (ByteArray × ByteArray)), j ≤ ps.length ∧ i = .int .i64 (j : Int) ∧ MapAt 216 284 layTt wr W.heap.size (W.heap.size + 1) xs ∧ xs.length ≤ j ∧ (∀ p ∈ xs, PK p.1 ∧ PV p.2) ∧ Below W.heap.size W wr) (fun i _ => ps.length - (intOf i).toNat)
  case atStart =>
    refine ⟨0, [], by omega, rfl, ⟨.slice none 0 0, ?_, OwnL.nil _ _ _ _⟩, by simp, fun p hp => by simp at hp, ((Below.refl _ W).alloc (Nat.le_refl _) _).alloc (by simp) _⟩
    have h := Has.new (W.alloc (.cells #[.int .i64 index, .int .i64 term, .slice A ps.length cap, xsv] 30)) 216 #[.slice none 0 0]
    rw [World.size_alloc] at h
    exact h
  case round =>
    obtain ⟨j, xs, hj, rfl, hm, hxl, hxp, hb⟩ := hrel
    have HM := Lib.hid hm
    have HXP := Lib.hid hxp
    have HB := Lib.hid hb
    have hbs := hb.size
    clear hm hxp hb
    by_cases hjl : j < ps.length
    · obtain ⟨p, hp⟩ : ∃ p, ps[j]? = some p := ⟨_, List.getElem?_eq_getElem hjl⟩
      obtain ⟨b, off, hA, hcell⟩ := (HPS.out.below HB.out (Nat.le_refl _)).at_ hp
      obtain rfl := hA
      have c0 : wr.cell? ⟨b, off + j * 3, none⟩ = some (.string p.key) := hcell 0 _ rfl
      have c1 : wr.cell? ⟨b, off + j * 3 + 1, none⟩ = some (.string p.val) := hcell 1 _ rfl
      have c2 : wr.cell? ⟨b, off + j * 3 + 2, none⟩ = some (.bool p.gone) := hcell 2 _ rfl
      have hpp := HPP.out p (List.mem_of_getElem? hp)
      have HKP := Lib.hid hpp
      have HMA := Lib.hid (HM.out.alloc (.cells #[.string p.key, .string p.val, .bool p.gone] 201))
      have HBA := Lib.hid (HB.out.alloc HB.out.size (.cells #[.string p.key, .string p.val, .bool p.gone] 201))
      clear hcell hp hpp
      go_wp2_with fail
      refine (putS_any PK PV (W.heap.size + 1) W.heap.size xs p.key p.val HKP.out.1 HKP.out.2 HXP.out (by omega) _ (by rw [World.size_alloc]; omega) (by omega) HMA.out).mono ?_
      rintro e w2 ⟨bo, xs', rfl, hm2, hl2, hp2, -, hb2⟩
      have HM2 := Lib.hid hm2
      have HP2 := Lib.hid hp2
      have HB2 := Lib.hid (HBA.out.trans hb2)
      clear hm2 hp2 hb2 c0 c1 c2
      go_wp2
      go_roundw
      case rel => exact ⟨j + 1, xs', by omega, by go_num, HM2.out, by omega, HP2.out, HB2.out⟩
      case measure => simp [intOf]; omega
    · obtain rfl : j = ps.length := by omega
      go_wp2
      go_ret
      exact ⟨_, xs, rfl, by omega, HM.out, hxl, HXP.out, HB.out⟩

set_option maxRecDepth 100000 in
set_option maxHeartbeats 3200000 in
theorem sessions_any (PV : Ss → Prop) (index term : Int) (psv xsv : Value) (ss : List Ss) (hP : ∀ p ∈ ss, PV p) (hl : ss.length ≤ 1000000) (W : World) (hxs : IsL W laySs xsv ss) :
    Calls Tryz.prog 37 #[.agg #[.int .i64 index, .int .i64 term, psv, xsv]] W (MapMade 209 213 layIs (fun _ => True) PV ss.length W) := by
  have HPS := Lib.hid hxs
  have HPP := Lib.hid hP
  obtain ⟨A, cap, rfl, -⟩ := hxs
  clear hP
  go_enter Tryz.func37, Tryz.ntmps37
  go_wp2
  go_loopw [11] (fun i wr => ∃ (j : Nat) (xs : List (Int × Ss)), j ≤ ss.length ∧ i = .int .i64 (j : Int) ∧ MapAt 209 213 layIs wr W.heap.size (W.heap.size + 1) xs ∧ xs.length ≤ j ∧ (∀ p ∈ xs, PV p.2) ∧ Below W.heap.size W wr) (fun i _ => ss.length - (intOf i).toNat)
  case atStart =>
    refine ⟨0, [], by omega, rfl, ⟨.slice none 0 0, ?_, OwnL.nil _ _ _ _⟩, by simp, fun p hp => by simp at hp, ((Below.refl _ W).alloc (Nat.le_refl _) _).alloc (by simp) _⟩
    have h := Has.new (W.alloc (.cells #[.int .i64 index, .int .i64 term, psv, .slice A ss.length cap] 30)) 209 #[.slice none 0 0]
    rw [World.size_alloc] at h
    exact h
  case round =>
    obtain ⟨j, xs, hj, rfl, hm, hxl, hxp, hb⟩ := hrel
    have HM := Lib.hid hm
    have HXP := Lib.hid hxp
    have HB := Lib.hid hb
    have hbs := hb.size
    clear hm hxp hb
    by_cases hjl : j < ss.length
    · obtain ⟨p, hp⟩ : ∃ p, ss[j]? = some p := ⟨_, List.getElem?_eq_getElem hjl⟩
      obtain ⟨b, off, hA, hcell⟩ := (HPS.out.below HB.out (Nat.le_refl _)).at_ hp
      obtain rfl := hA
      have c0 : wr.cell? ⟨b, off + j * 4, none⟩ = some (.int .i64 p.client) := hcell 0 _ rfl
      have c1 : wr.cell? ⟨b, off + j * 4 + 1, none⟩ = some (.int .i64 p.seq) := hcell 1 _ rfl
      have c2 : wr.cell? ⟨b, off + j * 4 + 2, none⟩ = some (.int .i64 p.err) := hcell 2 _ rfl
      have c3 : wr.cell? ⟨b, off + j * 4 + 3, none⟩ = some (.string p.val) := hcell 3 _ rfl
      have hpp := HPP.out p (List.mem_of_getElem? hp)
      have HKP := Lib.hid hpp
      have HMA := Lib.hid (HM.out.alloc (.cells #[.int .i64 p.client, .int .i64 p.seq, .int .i64 p.err, .string p.val] 68))
      have HBA := Lib.hid (HB.out.alloc HB.out.size (.cells #[.int .i64 p.client, .int .i64 p.seq, .int .i64 p.err, .string p.val] 68))
      clear hcell hp hpp
      go_wp2_with fail
      refine (putI_any PV (W.heap.size + 1) W.heap.size xs p.client p HKP.out HXP.out (by omega) _ (by rw [World.size_alloc]; omega) (by omega) HMA.out).mono ?_
      rintro e w2 ⟨bo, xs', rfl, hm2, hl2, hp2, -, hb2⟩
      have HM2 := Lib.hid hm2
      have HP2 := Lib.hid (fun p hp => (hp2 p hp).2)
      have HB2 := Lib.hid (HBA.out.trans hb2)
      clear hm2 hp2 hb2 c0 c1 c2 c3
      go_wp2
      go_roundw
      case rel => exact ⟨j + 1, xs', by omega, by go_num, HM2.out, by omega, HP2.out, HB2.out⟩
      case measure => simp [intOf]; omega
    · obtain rfl : j = ss.length := by omega
      go_wp2
      go_ret
      exact ⟨_, xs, rfl, by omega, HM.out, hxl, fun p hp => ⟨trivial, HXP.out p hp⟩, HB.out⟩
end Go.Proofs.YtjkkclfndlfjhaaGreatDoor
/- Contract of state.rows: the pairs that a map has. -/
namespace Go.Proofs.YtjkkclfndlfjhaaGreatDoor
open Go.RowKit Crc Frm Go.ChangeShapes Go.WideShapes Go.ChangeAt
attribute [local go_sem] Oper.semAt_some

section
variable {α : Type} {L : Lay α}
/-- Append of an element in a round of a loop over an iterator. -/
theorem wplIn_append_el {F : Fence} {n : Nat} {ops : Array Oper} {rest : List Oper} {o : Oper} {a : Act} {Q : Exit → Act → World → Prop} (w : World) (hgd : o.guard = none) (t e : TypeId) (s y : Operand)
    (ho : o.op = .call { callee := .builtin .append, args := #[s, y], argTypes := #[t, t] })
    (base : Nat) (v : Value) (xs : List α) (x : α) (i0 : TypeInfo) (z : Value) (bytes : Nat) (ht : Tryz.prog.underlying t = some (.slice e)) (hi0 : Tryz.prog.info? e = some i0) (hz0 : i0.zero = some z) (hz1 : i0.size = L.k) (hz2 : i0.bytes = bytes) (hzs : z.cells.size = L.k) (hby : 0 < bytes)
    (hs : a.eval s = v) (hown : OwnL w base e L v xs) (ad : Addr) (c : Nat) (hx : a.eval y = .slice (some ad) 1 c) (hcell : ∀ j u, (L.cells x)[j]? = some u → w.cell? (ad.add j) = some u)
    (hlen : (xs.length + 1) * bytes ≤ 140737488355328) (hbase : base ≤ w.heap.size)
    (h : ∀ v' w', OwnL w' base e L v' (xs ++ [x]) → w.grownBy w' v.ownBlock → (v'.ownBlock = v.ownBlock ∨ v'.ownBlock = some w.heap.size) → wpListIn F n Tryz.prog ops Q rest (a.put o.dst v') w') : wpListIn F n Tryz.prog ops Q (o :: rest) a w := by
  refine wpListIn_plain hgd fun K hK => ?_
  obtain ⟨v', w', hrun, h2, h3, h4⟩ := run_append_el (P := Tryz.prog) w o.type t e base v xs x i0 z bytes ht hi0 hz0 hz1 hz2 hzs hown ad c hcell hlen hby hbase
  unfold Oper.wpIn
  refine ⟨by simp [Oper.about, ho, resolve, Target.leads, Sem.run_pure], ?_⟩
  rw [Oper.semAt_plain F _ _ (by rw [ho]; intro c hc'; cases hc')]
  simp [execOp, ho, resolve, invoke, builtin, hs, hx, hrun, Result.andThen]
  exact hK _ _ (h v' w' h2 h3 h4)
/-- What an append to one's own row leaves as it was. -/
theorem append_keeps {W w1 : World} {base : Nat} {E : TypeId} {out : Value} {xs : List α} {tmp : Obj} (h : OwnL W base E L out xs) (hg : (W.alloc tmp).grownBy w1 out.ownBlock) : KeepsOthers W w1 ∧ KpT [E] W w1 := by
  have ha := h.alloc tmp
  refine ⟨(KeepsOthers.alloc W tmp).trans (KeepsOthers.of_grownBy hg fun j o ej hj => ?_), ((KpT.refl _ W).alloc tmp).trans (KpT.frT (FrT.grown hg fun k e => ?_))⟩
  · obtain ⟨cs, hc⟩ := ha.typed j ej
    rw [hc] at hj
    cases hj
    rfl
  · obtain ⟨cs, hc⟩ := ha.typed k e
    exact ⟨cs, E, (0, 0), hc, by simp⟩
end
theorem KpT.mono {ts us : List TypeId} {a b : World} (h : KpT ts a b) (hs : ∀ t ∈ ts, t ∈ us) : KpT us a b := fun k cs t fz hk ht => h k cs t fz hk fun h' => ht (hs t h')
theorem Has.putObj {W : World} {g : Nat} {t : TypeId} {cs : Array Value} (h : Has W g t cs) {l : Nat} {o : Obj} (o' : Obj) (hl : W.heap[l]? = some o) (ho : o.isCells = false) : Has (W.putObj l o') g t cs := h.kpT (ts := []) (KpT.putObj o' hl ho) (by simp)
theorem OwnL.putObj {α : Type} {L : Lay α} {W : World} {base : Nat} {e : TypeId} {v : Value} {xs : List α} (h : OwnL W base e L v xs) {l : Nat} {o : Obj} (o' : Obj) (hl : W.heap[l]? = some o) (ho : o.isCells = false) : OwnL (W.putObj l o') base e L v xs := h.kpT (ts := []) (KpT.putObj o' hl ho) (by simp)

theorem iterS_tells (g base box : Nat) (xs : List (ByteArray × ByteArray)) (hl : xs.length ≤ 10000000) (ts : List TypeId) (w : World) (hbox : Has w box 137 #[.pointer (some ⟨g, 0, none⟩)]) (hm : MapAt 216 284 layTt w base g xs) (h1 : 284 ∉ ts) :
    Tells 154 #[.pointer (some ⟨box, 0, none⟩)] encTt (KpT ts) (Nth xs) (fun ys => ys = xs) w :=
  fun n l J Jx W hW hJ _ hY h0 => iterS_any g base box xs hl ts h1 n l J Jx hJ hY W (hbox.kpT (ts := []) (KpT.below (hW.mono (Nat.le_refl _))) (by simp)) (hm.below hW) h0

theorem allS_any (p : Value) (hp : p.oneCell' = true) (w : World) : Calls Tryz.prog 97 #[p] w fun e w' => e = .returned (.func (.func 154) #[] #[.pointer (some ⟨w.heap.size, 0, none⟩)]) ∧ w' = w.alloc (.cells #[p] 137) := by
  go_enter Tryz.func97, Tryz.ntmps97
  go_wp2
  go_ret
  exact ⟨rfl, rfl⟩


/-- The pair of a map's item. -/
def prOf (p : ByteArray × ByteArray) : Pr := ⟨p.1, p.2, false⟩
/-- What state.rows' loop carries. -/
def RowsI (w : World) (pre : List (ByteArray × ByteArray)) (W : World) : Prop :=
  (∃ out, Has W w.heap.size 27 #[out] ∧ OwnL W w.heap.size 201 layPr out (pre.map prOf)) ∧ Below w.heap.size w W
theorem rowsI_lasts (w : World) : Lasts (RowsI w) := fun _ _ _ ⟨⟨out, h1, h2⟩, h3⟩ hb => ⟨⟨out, h1.below hb h1.lt, h2.below hb (Nat.le_refl _)⟩, h3.trans (hb.mono h3.size)⟩
theorem rowsI_bears (w : World) (B : Nat) (hB : w.heap.size ≤ B) : Bears B (RowsI w) := fun _ _ _ _ o' ⟨⟨out, h1, h2⟩, h3⟩ hl hk ho => ⟨⟨out, h1.putObj o' hk ho, h2.putObj o' hk ho⟩, below_putObj h3 o' hk (by omega)⟩

set_option maxRecDepth 100000 in
set_option maxHeartbeats 3200000 in
theorem srows_any (g base : Nat) (xs : List (ByteArray × ByteArray)) (hl : xs.length ≤ 10000000) (w : World) (hm : MapAt 216 284 layTt w base g xs) :
    Calls Tryz.prog 41 #[.pointer (some ⟨g, 0, none⟩)] w fun e W' => ∃ v, e = .returned v ∧ OwnL W' w.heap.size 201 layPr v (xs.map prOf) ∧ Below w.heap.size w W' := by
  obtain ⟨i0, hi0, hz0, hz1, hz2⟩ := info_parts info201
  refine (callsIn_wide (n := 3)).1 ?_
  have HM := Lib.hid hm
  refine callsIn_of_wp_marks Tryz.func41 rfl trivial ?_
  simp only [Tryz.ntmps41, List.size_toArray, List.length_cons, List.length_nil, Nat.reduceAdd, Nat.reduceSub, Array.replicate_succ, Array.replicate_zero, List.push_toArray, List.append_toArray, List.nil_append, List.cons_append]
  gi_wp2_with (refine ⟨trivial, ?_⟩; gi_at_call 97; refine (calls_in (allS_any _ rfl _)).mono ?_; rintro e w' ⟨rfl, rfl⟩)
  have hO := (Has.new w 27 #[.slice none 0 0]).alloc (.cells #[.pointer (some ⟨g, 0, none⟩)] 137)
  have hX := Has.new (w.alloc (.cells #[.slice none 0 0] 27)) 137 #[.pointer (some ⟨g, 0, none⟩)]
  rw [World.size_alloc] at hX
  have hB0 : Below w.heap.size w ((w.alloc (.cells #[.slice none 0 0] 27)).alloc (.cells #[.pointer (some ⟨g, 0, none⟩)] 137)) := ((Below.refl _ w).alloc (Nat.le_refl _) _).alloc (by simp) _
  have hM0 := HM.out.below hB0
  try simp only [World.size_alloc]
  obtain ⟨W0, hW0⟩ : ∃ W0, W0 = (w.alloc (.cells #[.slice none 0 0] 27)).alloc (.cells #[.pointer (some ⟨g, 0, none⟩)] 137) := ⟨_, rfl⟩
  have hsz : W0.heap.size = w.heap.size + 2 := by rw [hW0]; simp
  rw [← hW0] at hO hX hB0 hM0 ⊢
  have HO := Lib.hid hO
  have HX := Lib.hid hX
  have HB0 := Lib.hid hB0
  have HM0 := Lib.hid hM0
  clear hW0 hO hX hB0 hM0
  refine wp_range (n := 1) (gf := 154) (lb := #[.pointer (some ⟨w.heap.size + 1, 0, none⟩)]) rfl (enters_of Tryz.func154 (by kernel_rfl) rfl)
    (iterS_tells g base (w.heap.size + 1) xs hl [27, 201] W0 HX.out HM0.out (by decide)) (Below.refl _ _) KpT.trans
    (fun W l o o' _ hk ho => KpT.putObj o' hk ho) (fun _ => rfl) (fun _ _ _ _ _ _ h _ _ _ => h)
    (RowsI w) (fun _ _ _ => False) (rowsI_lasts _) (rowsI_bears _ _ (by omega)) (fun _ _ _ _ h _ => h) (fun _ _ _ _ _ _ h _ _ _ => h)
    ⟨⟨_, HO.out, OwnL.nil _ _ _ _⟩, HB0.out⟩
    (fun x => { tmps := #[.pointer (some ⟨g, 0, none⟩), undef, .slice none 0 0, .pointer (some ⟨w.heap.size, 0, none⟩), .string x.1, .string x.2, .pointer (some ⟨g, 0, none⟩),
      .func (.func 154) #[] #[.pointer (some ⟨w.heap.size + 1, 0, none⟩)], .string x.1, .string x.2, undef, undef, undef, undef, undef, undef, undef], defers := [] }) ?assign ?body ?done ?stop
  case assign =>
    intro l x W K hK
    simp only [encTt]
    gi_wp2
    exact hK
  case body =>
    rintro l pre x W ⟨⟨out, h1, h2⟩, h3⟩ ⟨k1, k2⟩
    have hpl : pre.length < xs.length := (List.getElem?_eq_some_iff.1 k2).1
    obtain ⟨Ao, no, co, rfl⟩ : ∃ A n c, out = .slice A n c := by obtain ⟨A, c, h, -⟩ := h2.list; exact ⟨_, _, _, h⟩
    have hc := h1.cell 0
    have H1 := Lib.hid h1
    have H2 := Lib.hid h2
    have H3 := Lib.hid h3
    have hs3 := h3.size
    clear k1 k2 h1 h2 h3
    gi_wp2_with (gi_at_builtin; refine wplIn_append_el _ rfl 27 201 (.tmp 10) (.tmp 14) rfl w.heap.size (.slice Ao no co) (pre.map prOf) (prOf x) i0 _ 40 Tryz.underlying27 hi0 hz0 hz1 hz2 rfl (by decide) rfl (H2.out.alloc _) ⟨W.heap.size, 0, none⟩ 1 rfl (fun j u hj => cells_new W 201 #[.string x.1, .string x.2, .bool false] j u hj) (by rw [List.length_map]; omega) (by rw [World.size_alloc]; omega) ?_; intro v' w1 ho hg _; obtain ⟨A1, n1, c1, rfl⟩ : ∃ A n c, v' = .slice A n c := by { obtain ⟨A, c, h, -⟩ := ho.list; exact ⟨_, _, _, h⟩ }; have q := append_keeps H2.out hg; have h1 := H1.out.kpT q.2 (by decide); have hc1 := h1.cell 0; have hf1 := h1.frozen 0; have HQ := Lib.hid q; have HO1 := Lib.hid ho; have H11 := Lib.hid h1; have HB1 := Lib.hid (((H3.out.alloc H3.out.size _).grown hg (by rw [World.size_alloc]; omega) fun k hk => (H2.out.lt k hk).1)); clear ho hg q h1)
    refine ⟨HQ.out.1.trans (KeepsOthers.setCell _ _ _), (HQ.out.2.mono (by simp)).trans (KpT.frT (FrT.set H11.out (by simp) _ _)), ⟨_, H11.out.set 0 _, ?_⟩, HB1.out.trans (set_below (Nat.le_refl _) HB1.out.size _ _)⟩
    rw [List.map_append]
    exact HO1.out.kept (grown_set w1 w.heap.size 0 _) (.inr (OwnL.apart HO1.out H11.out (by decide)))
  case done =>
    rintro D ys W hD rfl ⟨⟨out, h1, h2⟩, h3⟩ hK
    obtain ⟨Ao, no, co, rfl⟩ : ∃ A n c, out = .slice A n c := by obtain ⟨A, c, h, -⟩ := h2.list; exact ⟨_, _, _, h⟩
    have hc := h1.cell 0
    have H2 := Lib.hid h2
    have H3 := Lib.hid h3
    have HK := Lib.hid hK
    clear h1 h2 h3 hK
    gi_wp2
    refine ⟨by simp, .inl ⟨_, _, rfl, run_takeDeferred HK.out, ?_⟩⟩
    refine ⟨_, results_tmp rfl _ _ _, _, rfl, H2.out.putObj _ HK.out rfl, below_putObj H3.out _ HK.out (by omega)⟩
  case stop =>
    rintro D c pre W _ h _
    exact h.elim
end Go.Proofs.YtjkkclfndlfjhaaGreatDoor
/- Contract of state.do: a command at a map of texts. -/
namespace Go.Proofs.YtjkkclfndlfjhaaGreatDoor
open Go.RowKit Crc Frm Go.ChangeShapes Go.WideShapes Go.ChangeAt

/-- What do leaves of the map. -/
def SdoMap (PK PV : ByteArray → Prop) (W : World) (base g n : Nat) (xs : List (ByteArray × ByteArray)) (W' : World) : Prop :=
  MapAt 216 284 layTt W' base g xs ∧ xs.length ≤ n + 1 ∧ (∀ p ∈ xs, PK p.1 ∧ PV p.2) ∧ FrT [216, 284] W W' ∧ Below base W W'
def SdoLeft (PK PV : ByteArray → Prop) (W : World) (base g n : Nat) (e : Ending) (W' : World) : Prop :=
  ∃ (err : Int) (u : ByteArray) (xs : List (ByteArray × ByteArray)), e = .returned (.agg #[.int .i64 err, .string u]) ∧ (PV u ∨ u = ⟨#[]⟩) ∧ SdoMap PK PV W base g n xs W'
theorem sdo_end {PK PV : ByteArray → Prop} {W w : World} {base g n r : Nat} {xs : List (ByteArray × ByteArray)} {a b : Value} (hm : MapAt 216 284 layTt w base g xs) (hr : Has w r 64 #[a, b]) (hf : FrT [216, 284] W w) (hb : Below base W w) (h1 : W.heap.size ≤ r) (hbase : base ≤ W.heap.size)
    (hl : xs.length ≤ n + 1) (hp : ∀ p ∈ xs, PK p.1 ∧ PV p.2) (x y : Value) : SdoMap PK PV W base g n xs ((w.setCell ⟨r, 0, none⟩ x).setCell ⟨r, 1, none⟩ y) := by
  have f := Fr.set2 w r x y
  have hk : KpT [64] w ((w.setCell ⟨r, 0, none⟩ x).setCell ⟨r, 1, none⟩ y) := KpT.frT (f.mono fun k _ e => by subst e; exact ⟨_, 64, (0, 0), hr, by simp⟩)
  exact ⟨hm.kpT hk (by decide) (by decide), hl, hp, Fr.trans hf f fun k hk e => by omega, hb.trans (f.toBelow (fun k e => by omega) (by have := hb.size; omega))⟩

set_option maxRecDepth 100000 in
set_option maxHeartbeats 6400000 in
theorem sdo_any (PK PV : ByteArray → Prop) (g base : Nat) (xs : List (ByteArray × ByteArray)) (c : Cm) (hk : PK c.key) (hv : PV c.val) (hP : ∀ p ∈ xs, PK p.1 ∧ PV p.2) (hl : xs.length ≤ 1000000) (W : World) (hbase : base ≤ W.heap.size) (hgb : base ≤ g) (hm : MapAt 216 284 layTt W base g xs) :
    Calls Tryz.prog 40 #[.pointer (some ⟨g, 0, none⟩), c.v] W (SdoLeft PK PV W base g xs.length) := by
  have HP2 := Lib.hid hP
  have ha : Below W.heap.size W ((W.alloc (.cells #[.int .i64 c.op, .int .i64 c.client, .int .i64 c.seq, .string c.key, .string c.val, .string c.old] 59)).alloc (.cells #[.int .i64 0, .string ⟨#[]⟩] 64)) := ((Below.refl _ W).alloc (Nat.le_refl _) _).alloc (by simp) _
  have HM := Lib.hid (hm.below ha)
  have HC : Hid (Has ((W.alloc (.cells #[.int .i64 c.op, .int .i64 c.client, .int .i64 c.seq, .string c.key, .string c.val, .string c.old] 59)).alloc (.cells #[.int .i64 0, .string ⟨#[]⟩] 64)) W.heap.size 59 #[.int .i64 c.op, .int .i64 c.client, .int .i64 c.seq, .string c.key, .string c.val, .string c.old]) := Lib.hid ((Has.new W 59 _).alloc _)
  have HR : Hid (Has ((W.alloc (.cells #[.int .i64 c.op, .int .i64 c.client, .int .i64 c.seq, .string c.key, .string c.val, .string c.old] 59)).alloc (.cells #[.int .i64 0, .string ⟨#[]⟩] 64)) (W.heap.size + 1) 64 #[.int .i64 0, .string ⟨#[]⟩]) := by
    have h := Has.new (W.alloc (.cells #[.int .i64 c.op, .int .i64 c.client, .int .i64 c.seq, .string c.key, .string c.val, .string c.old] 59)) 64 #[.int .i64 0, .string ⟨#[]⟩]
    rw [World.size_alloc] at h
    exact h
  have HA := Lib.hid ha
  clear ha hm hP
  unfold Cm.v
  go_enter Tryz.func40, Tryz.ntmps40
  go_wp2_with fail
  refine (getS_any PK PV g base xs c.key HP2.out (by omega) _ HM.out).mono ?_
  rintro e w2 ⟨⟨u, b, rfl, hu⟩, hb2⟩
  have HM2 := Lib.hid (HM.out.below hb2)
  have HC2 := Lib.hid (HC.out.below hb2 HC.out.lt)
  have HR2 := Lib.hid (HR.out.below hb2 HR.out.lt)
  have HAW := HA.out.trans (hb2.mono HA.out.size)
  have HB2 := Lib.hid (HAW.mono hbase)
  have HF2 := Lib.hid (FrT.ofBelow (ts := [216, 284]) HAW)
  have hs2 : W.heap.size ≤ w2.heap.size := HAW.size
  clear hb2 HAW HM HC HR HA
  obtain ⟨k0, k1, k2, k3, k4, k5⟩ := Has.six HC2.out
  obtain ⟨r0, r1, f0, f1⟩ := Has.two HR2.out
  by_cases o1 : c.op = 1
  · have e1 : (c.op == 1) = true := by simp [o1]
    have n1 : (c.op != 1) = false := by simp [o1]
    have e2 : (c.op == 2) = false := by simp [o1]
    have e3 : (c.op == 3) = false := by simp [o1]
    cases b with
    | true =>
      go_wp2_with fail
      refine (putS_any PK PV g base xs c.key c.val hk hv HP2.out (by omega) _ (by omega) hgb HM2.out).mono ?_
      rintro e w3 ⟨bo, xs3, rfl, hm3, hl3, hp3, hf3, hb3⟩
      have HM3 := Lib.hid hm3
      have HP3 := Lib.hid hp3
      have HF3 := Lib.hid (HF2.out.trans hf3)
      have HB3 := Lib.hid (HB2.out.trans hb3)
      have HR3 := Lib.hid (HR2.out.frT hf3 (by decide))
      clear hm3 hp3 hf3 hb3 k0 k1 k2 k3 k4 k5 r0 r1 f0 f1
      obtain ⟨r0, r1, f0, f1⟩ := Has.two HR3.out
      go_wp2
      refine bodyPost_ret (results_cell_row rfl _ _ (W.heap.size + 1) 64 _ (0, 0) _ rfl (HR3.out.set2 (.int .i64 0) (.string u)) Tryz.underlying64 rfl (by kernel_rfl)) rfl ⟨0, u, xs3, rfl, hu, sdo_end HM3.out HR3.out HF3.out HB3.out (by omega) hbase (by omega) HP3.out _ _⟩
    | false =>
      go_wp2_with fail
      refine (lenS_any g base xs _ HM2.out).mono ?_
      rintro e wq ⟨rfl, hb'⟩
      have hs9 : w2.heap.size ≤ wq.heap.size := hb'.size
      replace HM2 := Lib.hid (HM2.out.below hb')
      replace HF2 := Lib.hid (HF2.out.below hb')
      replace HB2 := Lib.hid (HB2.out.trans (hb'.mono (by omega)))
      replace HR2 := Lib.hid (HR2.out.below hb' HR2.out.lt)
      replace HC2 := Lib.hid (HC2.out.below hb' HC2.out.lt)
      clear hb' k0 k1 k2 k3 k4 k5 r0 r1 f0 f1
      obtain ⟨k0, k1, k2, k3, k4, k5⟩ := Has.six HC2.out
      obtain ⟨r0, r1, f0, f1⟩ := Has.two HR2.out
      by_cases h64 : 64 ≤ xs.length
      · go_wp2
        refine bodyPost_ret (results_cell_row rfl _ _ (W.heap.size + 1) 64 _ (0, 0) _ rfl (HR2.out.set2 (.int .i64 4) (.string ⟨#[]⟩)) Tryz.underlying64 rfl (by kernel_rfl)) rfl ⟨4, ⟨#[]⟩, xs, rfl, .inr rfl, sdo_end HM2.out HR2.out HF2.out HB2.out (by omega) hbase (by omega) HP2.out _ _⟩
      · go_wp2_with fail
        refine (putS_any PK PV g base xs c.key c.val hk hv HP2.out (by omega) _ (by omega) hgb HM2.out).mono ?_
        rintro e w3 ⟨bo, xs3, rfl, hm3, hl3, hp3, hf3, hb3⟩
        have HM3 := Lib.hid hm3
        have HP3 := Lib.hid hp3
        have HF3 := Lib.hid (HF2.out.trans hf3)
        have HB3 := Lib.hid (HB2.out.trans hb3)
        have HR3 := Lib.hid (HR2.out.frT hf3 (by decide))
        clear hm3 hp3 hf3 hb3 k0 k1 k2 k3 k4 k5 r0 r1 f0 f1
        obtain ⟨r0, r1, f0, f1⟩ := Has.two HR3.out
        go_wp2
        refine bodyPost_ret (results_cell_row rfl _ _ (W.heap.size + 1) 64 _ (0, 0) _ rfl (HR3.out.set2 (.int .i64 0) (.string u)) Tryz.underlying64 rfl (by kernel_rfl)) rfl ⟨0, u, xs3, rfl, hu, sdo_end HM3.out HR3.out HF3.out HB3.out (by omega) hbase (by omega) HP3.out _ _⟩
  · have e1 : (c.op == 1) = false := by simpa using o1
    have n1 : (c.op != 1) = true := by simpa using o1
    cases b with
    | false =>
      go_wp2
      refine bodyPost_ret (results_cell_row rfl _ _ (W.heap.size + 1) 64 _ (0, 0) _ rfl (HR2.out.set2 (.int .i64 6) (.string ⟨#[]⟩)) Tryz.underlying64 rfl (by kernel_rfl)) rfl ⟨6, ⟨#[]⟩, xs, rfl, .inr rfl, sdo_end HM2.out HR2.out HF2.out HB2.out (by omega) hbase (by omega) HP2.out _ _⟩
    | true =>
      by_cases o3 : c.op = 3
      · have e3 : (c.op == 3) = true := by simp [o3]
        have e2 : (c.op == 2) = false := by simp [o3]
        cases hmt : (!u.toList == c.old.toList) with
        | true =>
          go_wp2
          refine bodyPost_ret (results_cell_row rfl _ _ (W.heap.size + 1) 64 _ (0, 0) _ rfl (HR2.out.set2 (.int .i64 11) (.string u)) Tryz.underlying64 rfl (by kernel_rfl)) rfl ⟨11, u, xs, rfl, hu, sdo_end HM2.out HR2.out HF2.out HB2.out (by omega) hbase (by omega) HP2.out _ _⟩
        | false =>
          go_wp2_with fail
          refine (putS_any PK PV g base xs c.key c.val hk hv HP2.out (by omega) _ (by omega) hgb HM2.out).mono ?_
          rintro e w3 ⟨bo, xs3, rfl, hm3, hl3, hp3, hf3, hb3⟩
          have HM3 := Lib.hid hm3
          have HP3 := Lib.hid hp3
          have HF3 := Lib.hid (HF2.out.trans hf3)
          have HB3 := Lib.hid (HB2.out.trans hb3)
          have HR3 := Lib.hid (HR2.out.frT hf3 (by decide))
          clear hm3 hp3 hf3 hb3 k0 k1 k2 k3 k4 k5 r0 r1 f0 f1
          obtain ⟨r0, r1, f0, f1⟩ := Has.two HR3.out
          go_wp2
          refine bodyPost_ret (results_cell_row rfl _ _ (W.heap.size + 1) 64 _ (0, 0) _ rfl (HR3.out.set2 (.int .i64 0) (.string u)) Tryz.underlying64 rfl (by kernel_rfl)) rfl ⟨0, u, xs3, rfl, hu, sdo_end HM3.out HR3.out HF3.out HB3.out (by omega) hbase (by omega) HP3.out _ _⟩
      · have e3 : (c.op == 3) = false := by simpa using o3
        by_cases o2 : c.op = 2
        · have e2 : (c.op == 2) = true := by simp [o2]
          go_wp2_with fail
          refine (delS_any PK PV g base xs c.key HP2.out (by omega) _ (by omega) hgb HM2.out).mono ?_
          rintro e w3 ⟨bo, xs3, rfl, hm3, hl3, hp3, hf3, hb3⟩
          have HM3 := Lib.hid hm3
          have HP3 := Lib.hid hp3
          have HF3 := Lib.hid (HF2.out.trans hf3)
          have HB3 := Lib.hid (HB2.out.trans hb3)
          have HR3 := Lib.hid (HR2.out.frT hf3 (by decide))
          clear hm3 hp3 hf3 hb3 k0 k1 k2 k3 k4 k5 r0 r1 f0 f1
          obtain ⟨r0, r1, f0, f1⟩ := Has.two HR3.out
          go_wp2
          refine bodyPost_ret (results_cell_row rfl _ _ (W.heap.size + 1) 64 _ (0, 0) _ rfl (HR3.out.set2 (.int .i64 0) (.string u)) Tryz.underlying64 rfl (by kernel_rfl)) rfl ⟨0, u, xs3, rfl, hu, sdo_end HM3.out HR3.out HF3.out HB3.out (by omega) hbase (by omega) HP3.out _ _⟩
        · have e2 : (c.op == 2) = false := by simpa using o2
          go_wp2_with fail
          refine (putS_any PK PV g base xs c.key c.val hk hv HP2.out (by omega) _ (by omega) hgb HM2.out).mono ?_
          rintro e w3 ⟨bo, xs3, rfl, hm3, hl3, hp3, hf3, hb3⟩
          have HM3 := Lib.hid hm3
          have HP3 := Lib.hid hp3
          have HF3 := Lib.hid (HF2.out.trans hf3)
          have HB3 := Lib.hid (HB2.out.trans hb3)
          have HR3 := Lib.hid (HR2.out.frT hf3 (by decide))
          clear hm3 hp3 hf3 hb3 k0 k1 k2 k3 k4 k5 r0 r1 f0 f1
          obtain ⟨r0, r1, f0, f1⟩ := Has.two HR3.out
          go_wp2
          refine bodyPost_ret (results_cell_row rfl _ _ (W.heap.size + 1) 64 _ (0, 0) _ rfl (HR3.out.set2 (.int .i64 0) (.string u)) Tryz.underlying64 rfl (by kernel_rfl)) rfl ⟨0, u, xs3, rfl, hu, sdo_end HM3.out HR3.out HF3.out HB3.out (by omega) hbase (by omega) HP3.out _ _⟩
end Go.Proofs.YtjkkclfndlfjhaaGreatDoor
/- A function that ranges over an iterator, walked outside of a fence; results that lie in two variables of several cells. -/
namespace Go.Proofs.YtjkkclfndlfjhaaGreatDoor
open Go.RowKit Crc Frm Go.ChangeShapes Go.WideShapes Go.ChangeAt

/-- The end of a body behind which at most the mark of one loop over an iterator is left. -/
def postM (fn : Func) (R : Ending → World → Prop) : Exit → Act → World → Prop
  | .normal, a, w | .ret, a, w => (a.defers = [] ∧ ∃ v, (results fn a.tmps).run Tryz.prog w = .ok v w ∧ R (.returned v) w) ∨
      (∃ D, a.defers = [{ target := .collected D, args := #[] }] ∧ w.heap[D]? = some (.deferred (some [])) ∧ ∀ o, ∃ v, (results fn a.tmps).run Tryz.prog (w.putObj D o) = .ok v (w.putObj D o) ∧ R (.returned v) (w.putObj D o))
  | _, _, _ => False
theorem postM_ret {fn : Func} {R : Ending → World → Prop} {tmps : Array Value} {w : World} {v : Value} (hr : (results fn tmps).run Tryz.prog w = .ok v w) (hR : R (.returned v) w) : postM fn R .ret { tmps := tmps, defers := [] } w := .inl ⟨rfl, v, hr, hR⟩
theorem postM_def {fn : Func} {R : Ending → World → Prop} {tmps : Array Value} {w : World} {D : Nat} (hD : w.heap[D]? = some (.deferred (some []))) (h : ∀ o, ∃ v, (results fn tmps).run Tryz.prog (w.putObj D o) = .ok v (w.putObj D o) ∧ R (.returned v) (w.putObj D o)) :
    postM fn R .ret { tmps := tmps, defers := [{ target := .collected D, args := #[] }] } w := .inr ⟨D, rfl, hD, h⟩

theorem calls_of_postM {f : FuncId} {fn : Func} {c : Code} {args : Array Value} {w : World} {R : Ending → World → Prop} (hf : Tryz.prog.funcs[f]? = some fn) (hb : fn.body = some c)
    (h : c.wp Tryz.prog (postM fn R) { tmps := args ++ Array.replicate (fn.ntmps - args.size) undef, defers := [] } w) : Calls Tryz.prog f args w R := by
  refine (callsIn_wide (n := 3)).1 (callsIn_of_wp_marks hf hb trivial (wpIn_wide.2 (wp_mono h ?_)))
  have key : ∀ (a : Act) (w : World), ((a.defers = [] ∧ ∃ v, (results fn a.tmps).run Tryz.prog w = .ok v w ∧ R (.returned v) w) ∨
      (∃ D, a.defers = [{ target := .collected D, args := #[] }] ∧ w.heap[D]? = some (.deferred (some [])) ∧ ∀ o, ∃ v, (results fn a.tmps).run Tryz.prog (w.putObj D o) = .ok v (w.putObj D o) ∧ R (.returned v) (w.putObj D o))) →
      LeavesInM Fence.wide 3 Tryz.prog fn a.tmps R a.defers .returning w := by
    rintro a w (⟨hd, v, hr, hR⟩ | ⟨D, hd, hD, h⟩)
    · rw [hd]; exact ⟨v, hr, hR⟩
    · rw [hd]
      obtain ⟨v, hr, hR⟩ := h _
      exact ⟨by simp, .inl ⟨_, _, rfl, run_takeDeferred hD, v, hr, hR⟩⟩
  intro e a w hp
  cases e with
  | normal => exact key a w hp
  | ret => exact key a w hp
  | exit id => exact hp.elim
  | goto t => exact hp.elim
  | panic ch => exact hp.elim
  | outgrown => exact hp.elim

/-- Both results lie in variables of several cells. -/
theorem results_cells_rows {P : Program} {fn : Func} {p q : Tmp} {ty uy : TypeId} (h : fn.results = #[.cell p ty, .cell q uy]) (tmps : Array Value) (w : World) (g g2 : Nat) (t t2 : TypeId) (cs cs2 : Array Value) (fr fr2 : Nat × Nat) (d d2 : TypeDesc)
    (hp : tmps.getD p undef = .pointer (some ⟨g, 0, none⟩)) (hg : w.heap[g]? = some (.cells cs t fr)) (hu : P.underlying ty = some d) (hd : (match d with | .struct _ | .array _ _ => true | _ => false) = true) (hi : (P.info? ty).map (·.size) = some cs.size)
    (hq : tmps.getD q undef = .pointer (some ⟨g2, 0, none⟩)) (hg2 : w.heap[g2]? = some (.cells cs2 t2 fr2)) (hu2 : P.underlying uy = some d2) (hd2 : (match d2 with | .struct _ | .array _ _ => true | _ => false) = true) (hi2 : (P.info? uy).map (·.size) = some cs2.size) :
    (results fn tmps).run P w = .ok (.tuple #[.agg cs, .agg cs2]) w := by
  have hp' : tmps[p]?.getD undef = .pointer (some ⟨g, 0, none⟩) := by simpa using hp
  have hq' : tmps[q]?.getD undef = .pointer (some ⟨g2, 0, none⟩) := by simpa using hq
  have hl := run_loadVar_row (P := P) w g t ty cs fr d hg hu hd hi
  have hl2 := run_loadVar_row (P := P) w g2 t2 uy cs2 fr2 d2 hg2 hu2 hd2 hi2
  simp [results, h, hp', hq', asAddr, hl, hl2]
end Go.Proofs.YtjkkclfndlfjhaaGreatDoor
/- A range over an iterator where the assignment of a round makes a block. -/
namespace Go.Proofs.YtjkkclfndlfjhaaGreatDoor
open Go.RowKit

/-- THE STATEMENT 'for .. := range g { .. }', its iterator of such a kind; its assignment makes one block. -/
theorem wp_range2 {α : Type} {g : Operand} {ps : Array Tmp} {assign body : Code} {Q : Exit → Act → World → Prop} {a : Act} {w w0 : World} {n gf : Nat} {lb : Array Value}
    (hg : a.eval g = .func (.func gf) #[] lb) (eg : ∀ args w, (callFunc gf args).run Tryz.prog w = .ok (.enter gf args) w)
    {encs : α → Array Value} {Kp : World → World → Prop} {R : List α → α → World → Prop} {S : List α → Prop} (hseq : Tells gf lb encs Kp R S w0) (hb0 : Below w0.heap.size w0 w)
    (hKt : ∀ {A B C : World}, Kp A B → Kp B C → Kp A C) (hKb : ∀ (W : World) (l : Nat) (o o' : Obj), w.heap.size ≤ l → W.heap[l]? = some o → o.isCells = false → Kp W (W.putObj l o'))
    (hps : ∀ x, (encs x).size = ps.size) (hRb : ∀ pre x W l o o', R pre x W → w.heap.size ≤ l → W.heap[l]? = some o → o.isCells = false → R pre x (W.putObj l o'))
    (I : List α → World → Prop) (Ix : Code → List α → World → Prop) (hIl : Lasts I) (hIb : Bears w.heap.size I) (hXl : ∀ c, Lasts (Ix c)) (hXb : ∀ c, Bears w.heap.size (Ix c)) (h0 : I [] w) (o₁ : α → Obj) (hKa : ∀ W o, Kp W (W.alloc o)) (hRa : ∀ pre x W o, R pre x W → R pre x (W.alloc o)) (a₁ : α → World → Act)
    (hassign : ∀ (l : Nat) (x : α) (W : World) (K : Act → World → Prop), K (a₁ x W) (W.alloc (o₁ x)) →
      assign.wpIn (Fence.wide.inRound l) n Tryz.prog (Exit.then K (fun _ _ _ => False)) { tmps := (ps.zip (encs x)).foldl (fun t (p, v) => t.setIfInBounds p v) a.tmps, defers := [] } W)
    (hbody : ∀ (l : Nat) (pre : List α) (x : α) (Wb W : World), I pre W → R pre x W → W.heap[Wb.heap.size]? = some (o₁ x) → w.heap.size ≤ Wb.heap.size → body.wpIn (Fence.wide.inRound l) n Tryz.prog (roundOut Kp I Ix (pre ++ [x]) W) (a₁ x Wb) W)
    (hdone : ∀ (D : Nat) (xs : List α) (W : World), w.heap.size ≤ D → S xs → I xs W → W.heap[D]? = some (.deferred (some [])) → Q .normal { a with defers := { target := .collected D, args := #[] } :: a.defers } W)
    (hstop : ∀ (D : Nat) (c : Code) (pre : List α) (W : World), w.heap.size ≤ D → Ix c pre W → W.heap[D]? = some (.deferred (some [])) → c.wpIn Fence.wide (n + 2) Tryz.prog Q { a with defers := { target := .collected D, args := #[] } :: a.defers } W) :
    (Code.rangeFunc g ps assign body).wpIn Fence.wide (n + 2) Tryz.prog Q a w := by
  refine wpIn_rangeFunc fun fn hfn => ?_
  -- the loop's record, and the world where it has been laid
  obtain ⟨rec, hrec⟩ : ∃ rec : LoopState → Option Code → Loop, rec = fun st pe => { state := st, pending := pe, fn, tmps := a.tmps, params := ps, assign, body, defers := w.heap.size } := ⟨_, rfl⟩
  obtain ⟨W1, hW1⟩ : ∃ W1, W1 = (w.alloc (.deferred (some []))).alloc (.loop (rec .ready none)) := ⟨_, rfl⟩
  have hB1 : Below w.heap.size w W1 := by rw [hW1]; exact ((Below.refl _ w).alloc (Nat.le_refl _) _).alloc (by simp) _
  have hL1 : W1.heap[w.heap.size + 1]? = some (.loop (rec .ready none)) := by
    have := World.alloc_heap_new (w.alloc (.deferred (some []))) (.loop (rec .ready none))
    rw [World.size_alloc] at this
    rw [hW1]; exact this
  have hD1 : W1.heap[w.heap.size]? = some (.deferred (some [])) := by
    rw [hW1]; exact (Below.heap_alloc _ _ _ (by simp)).trans (World.alloc_heap_new w _)
  -- what is carried from round to round, the record and the block for deferred calls with it
  let J : List α → World → Prop := fun pre W => I pre W ∧ W.heap[w.heap.size + 1]? = some (.loop (rec .ready none)) ∧ W.heap[w.heap.size]? = some (.deferred (some []))
  let Jx : List α → World → Prop := fun pre W => ∃ c, Ix c pre W ∧ W.heap[w.heap.size + 1]? = some (.loop (rec .done (some c))) ∧ W.heap[w.heap.size]? = some (.deferred (some []))
  have keep : ∀ {W W' : World} {k : Nat} {o : Obj}, Below W.heap.size W W' → W.heap[k]? = some o → W'.heap[k]? = some o := fun hb hk => (hb.block _ (Array.getElem?_eq_some_iff.1 hk).1).trans hk
  have hJ : Lasts J := fun s W W' hs hb => ⟨hIl s W W' hs.1 hb, keep hb hs.2.1, keep hb hs.2.2⟩
  have hJx : Lasts Jx := fun s W W' hs hb => by
    obtain ⟨c, h1, h2, h3⟩ := hs
    exact ⟨c, hXl c s W W' h1 hb, keep hb h2, keep hb h3⟩
  have round : ∀ pre x W, J pre W → R pre x W → YieldAt Fence.wide n Tryz.prog (w.heap.size + 1) (encs x) W fun e W' =>
      (e = .returned (.bool true) ∧ J (pre ++ [x]) W' ∧ Kp W W') ∨ (e = .returned (.bool false) ∧ Jx (pre ++ [x]) W') := by
    rintro pre x W0 ⟨hi0, hl0, hd0⟩ hx0
    have hy := run_yield (P := Tryz.prog) (args := encs x) hl0 (by rw [hrec]; exact hps x)
    rw [hrec] at hy
    have hba : Below W0.heap.size W0 (W0.alloc (o₁ x)) := (Below.refl _ W0).alloc (Nat.le_refl _) _
    have hl := keep hba hl0
    have hd := keep hba hd0
    have hi : I pre (W0.alloc (o₁ x)) := hIl _ _ _ hi0 hba
    have hx : R pre x (W0.alloc (o₁ x)) := hRa _ _ _ _ hx0
    have hnew := World.alloc_heap_new W0 (o₁ x)
    have hka : Kp W0 (W0.alloc (o₁ x)) := hKa _ _
    have hlt0 : w.heap.size + 1 < W0.heap.size := (Array.getElem?_eq_some_iff.1 hl0).1
    refine ⟨fn, _, assign, body, hy, roundIn_of_wpIn hfn (hassign _ x W0 _ ⟨_, run_beginRound hl (by rw [hrec]), ?_⟩)⟩
    obtain ⟨W, hWW⟩ : ∃ W, W = W0.alloc (o₁ x) := ⟨_, rfl⟩
    rw [← hWW] at hl hd hi hx hnew hka ⊢
    obtain ⟨W2, hW2⟩ : ∃ W2, W2 = W.putObj (w.heap.size + 1) (.loop { rec .ready none with state := .busy }) := ⟨_, rfl⟩
    rw [← hW2]
    have hl2 : W2.heap[w.heap.size + 1]? = some (.loop { rec .ready none with state := .busy }) := by rw [hW2]; exact World.putObj_heap_same (Array.getElem?_eq_some_iff.1 hl).1
    have hd2 : W2.heap[w.heap.size]? = some (.deferred (some [])) := by rw [hW2]; exact (World.putObj_heap_other (by omega)).trans hd
    have hk2' : Kp W W2 := by rw [hW2]; exact hKb _ _ _ _ (by omega) hl rfl
    have hk2 : Kp W0 W2 := hKt hka hk2'
    have hi2 : I pre W2 := by rw [hW2]; exact hIb _ _ _ _ _ hi (by omega) hl rfl
    have hx2 : R pre x W2 := by rw [hW2]; exact hRb _ _ _ _ _ _ hx (by omega) hl rfl
    have hnew2 : W2.heap[W0.heap.size]? = some (o₁ x) := by rw [hW2]; exact (World.putObj_heap_other (by omega)).trans hnew
    -- the record is shut behind the body, whichever way it was left
    have shut : ∀ (jump : Option Code) (W3 : World), KeepsOthers W2 W3 → ∃ o, W3.heap[w.heap.size + 1]? = some o ∧ o.isCells = false ∧
        (Instr.endRound (w.heap.size + 1) jump).run Tryz.prog W3 = .ok (.bool jump.isNone) (W3.putObj (w.heap.size + 1) (.loop (rec (if jump.isNone then .ready else .done) jump))) ∧
        (W3.putObj (w.heap.size + 1) (.loop (rec (if jump.isNone then .ready else .done) jump))).heap[w.heap.size + 1]? = some (.loop (rec (if jump.isNone then .ready else .done) jump)) ∧
        (W3.putObj (w.heap.size + 1) (.loop (rec (if jump.isNone then .ready else .done) jump))).heap[w.heap.size]? = some (.deferred (some [])) := fun jump W3 hk3 => by
      have hl3 := hk3.same _ _ hl2 rfl
      have hd3 := hk3.same _ _ hd2 rfl
      have hend := run_endRound (P := Tryz.prog) jump hl3
      refine ⟨_, hl3, rfl, ?_, World.putObj_heap_same (Array.getElem?_eq_some_iff.1 hl3).1, (World.putObj_heap_other (by omega)).trans hd3⟩
      rw [hrec] at hend ⊢
      exact hend
    refine wpIn_mono (hbody _ pre x W0 W2 hi2 hx2 hnew2 (by omega)) ?_
    rintro e a3 W3 hp
    cases e with
    | normal =>
      obtain ⟨hk3, hkp, hi3⟩ := hp
      obtain ⟨o, h1, h2, h3, h4, h5⟩ := shut none W3 hk3
      exact ⟨_, _, h3, .inl ⟨rfl, ⟨hIb _ _ _ _ _ hi3 (by omega) h1 h2, h4, h5⟩, hKt (hKt hk2 hkp) (hKb _ _ _ _ (by omega) h1 h2)⟩⟩
    | ret =>
      obtain ⟨o, h1, h2, h3, h4, h5⟩ := shut (some .ret) W3 hp.1
      exact ⟨_, _, h3, .inr ⟨rfl, .ret, hXb _ _ _ _ _ _ hp.2 (by omega) h1 h2, h4, h5⟩⟩
    | exit id =>
      obtain ⟨o, h1, h2, h3, h4, h5⟩ := shut (some (.exit id)) W3 hp.1
      exact ⟨_, _, h3, .inr ⟨rfl, .exit id, hXb _ _ _ _ _ _ hp.2 (by omega) h1 h2, h4, h5⟩⟩
    | goto t =>
      obtain ⟨o, h1, h2, h3, h4, h5⟩ := shut (some (.goto t)) W3 hp.1
      exact ⟨_, _, h3, .inr ⟨rfl, .goto t, hXb _ _ _ _ _ _ hp.2 (by omega) h1 h2, h4, h5⟩⟩
    | panic ch => exact hp.elim
    | outgrown => exact hp.elim
  refine ⟨w.heap.size + 1, [{ target := .collected w.heap.size, args := #[] }], W1, { target := .fn (.func gf) lb, args := #[.func (.yield (w.heap.size + 1)) #[] #[]] }, W1, gf,
    #[.func (.yield (w.heap.size + 1)) #[] #[]] ++ lb, W1, ?_, ?_, fun _ _ => trivial, ?_, fun h => (by cases h), ?_⟩
  · rw [hW1, hrec]; exact run_enterLoop_outer _ _ _ _ _
  · simp only [resolve, hg]
    simp [go_sem]
  · simp [invoke, go_sem, eg]
  · refine (hseq n (w.heap.size + 1) J Jx W1 (hb0.trans (hB1.mono hb0.size)) hJ hJx round ⟨hIl _ _ _ h0 hB1, hL1, hD1⟩).mono ?_
    rintro e W2 ⟨⟨v, rfl⟩, (⟨xs, hS, hi, hl, hd⟩ | ⟨pre, c, hi, hl, hd⟩)⟩
    · refine ⟨none, _, by have := run_endLoop (P := Tryz.prog) hl (by rw [hrec]; simp); rw [hrec] at this; exact this, ?_⟩
      exact hdone _ xs _ (Nat.le_refl _) hS (hIb _ _ _ _ _ hi (by omega) hl rfl) ((World.putObj_heap_other (by omega)).trans hd)
    · refine ⟨some c, _, by have := run_endLoop (P := Tryz.prog) hl (by rw [hrec]; simp); rw [hrec] at this; exact this, ?_⟩
      exact hstop _ c pre _ (Nat.le_refl _) (hXb _ _ _ _ _ _ hi (by omega) hl rfl) ((World.putObj_heap_other (by omega)).trans hd)

end Go.Proofs.YtjkkclfndlfjhaaGreatDoor
