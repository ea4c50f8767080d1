/- Contract of slices.SortFunc at references: the same slice, as many. -/
import Derived.Test.YtjkkclfndlfjhaaGreatDoorDel
import Derived.Shelf.Small.Strs
import Derived.Test.YtjkkclfndlfjhaaGreatDoorShf
import Derived.Shelf.Small.Bits
import Derived.Ground.NamesProg
import Derived.Ground.SlsfProg
import Derived.Sort.Statements
import Derived.Shelf.SlSortCmp.WholeK
import Derived.Shelf.SlSortCmp.NoneTotal
set_option linter.all false
namespace Go.Proofs.YtjkkclfndlfjhaaGreatDoor
open Go.RowKit Go.Lib Go.Sort

theorem cmpb_refl : ∀ a : List UInt8, compareBytes a a = 0
  | [] => rfl
  | a :: aa => by
    have h : ¬ a < a := by rw [UInt8.lt_iff_toNat_lt]; omega
    simp only [compareBytes, if_neg h, cmpb_refl aa]
theorem cmpb_trans : ∀ a b c : List UInt8, compareBytes a b < 0 → compareBytes b c < 0 → compareBytes a c < 0
  | [], [], c, h, _ => by simp [compareBytes] at h
  | [], b :: bs, [], _, h => by simp [compareBytes] at h
  | [], b :: bs, c :: cs, _, _ => by simp [compareBytes]
  | a :: aa, [], c, h, _ => by simp [compareBytes] at h
  | a :: aa, b :: bs, [], _, h => by simp [compareBytes] at h
  | a :: aa, b :: bs, c :: cs, h1, h2 => by
    have ih := cmpb_trans aa bs cs
    simp only [compareBytes, UInt8.lt_iff_toNat_lt] at h1 h2 ⊢
    split at h1 <;> split at h2 <;> (try split at h1) <;> (try split at h2) <;> (try split) <;> (try split) <;> first | omega | (exfalso; omega) | (exact ih h1 h2)
theorem cmpb_ntrans : ∀ a b c : List UInt8, ¬ compareBytes a b < 0 → ¬ compareBytes b c < 0 → ¬ compareBytes a c < 0
  | [], [], c, _, h => h
  | [], b :: bs, c, h, _ => by simp [compareBytes] at h
  | a :: aa, b, [], _, _ => by simp [compareBytes]
  | a :: aa, [], c :: cs, _, h => by simp [compareBytes] at h
  | a :: aa, b :: bs, c :: cs, h1, h2 => by
    have ih := cmpb_ntrans aa bs cs
    simp only [compareBytes, UInt8.lt_iff_toNat_lt] at h1 h2 ⊢
    split at h1 <;> split at h2 <;> (try split at h1) <;> (try split at h2) <;> (try split) <;> (try split) <;> first | omega | (exfalso; omega) | (exact ih h1 h2)

instance : Inhabited Rf := ⟨⟨⟨#[]⟩, 0, 0, 0⟩⟩
def cmpRf (x y : Rf) : Int := compareBytes x.name.data.toList y.name.data.toList
theorem swoRf : SWO (ltOf cmpRf) where
  irrefl x := by simp [ltOf, cmpRf, cmpb_refl]
  trans x y z h1 h2 := by
    simp only [ltOf, cmpRf] at *
    exact decide_eq_true (cmpb_trans _ _ _ (of_decide_eq_true h1) (of_decide_eq_true h2))
  ntrans x y z h1 h2 := by
    simp only [ltOf, cmpRf] at *
    exact decide_eq_false (cmpb_ntrans _ _ _ (of_decide_eq_false h1) (of_decide_eq_false h2))

set_option maxHeartbeats 1000000 in
theorem docmp_any (x y : Rf) (W : World) : Calls Tryz.prog 111 #[x.v, y.v] W fun e W' => e = .returned (.int .i64 (cmpRf x y)) ∧ ∃ q os', W' = grow (W.drewN q) os' := by
  have hcon := fun W' => Any.strings_Compare Tryz.strCmp x.name y.name W'
  change ∀ W', Calls Tryz.prog 112 _ _ _ at hcon
  have HC := Lib.hid hcon
  clear hcon
  unfold Rf.v
  go_enter Tryz.func111, Tryz.ntmps111
  go_wp2_with (go_at_call 112; refine (HC.out _).mono ?_; rintro e w' ⟨rfl, rfl⟩)
  go_ret
  exact ⟨rfl, 0, _, by rw [alloc_eq_grow, alloc_eq_grow, grow_grow]; rfl⟩

theorem flatK_rf (xs : List Rf) : (flatK layRf.cells 4 xs.toArray).toList = layRf.flat xs := by
  apply List.ext_getElem?
  intro t
  by_cases h : t < xs.length * 4
  · have hd : t / 4 < xs.length := by omega
    have hx : xs[t / 4]? = some (xs[t / 4]'hd) := List.getElem?_eq_getElem hd
    have hm : t % 4 < (layRf.cells (xs[t / 4]'hd)).length := by rw [layRf.len]; exact Nat.mod_lt _ (by decide)
    have h1 := Lay.flat_get (L := layRf) hx (List.getElem?_eq_getElem hm)
    rw [show t / 4 * layRf.k + t % 4 = t from by show t / 4 * 4 + t % 4 = t; omega] at h1
    rw [h1]
    simp only [flatK, Array.toList_map, Array.toList_range, List.getElem?_map, List.size_toArray]
    rw [List.getElem?_range h]
    simp only [Option.map_some, Option.some.injEq]
    rw [getElem!_pos xs.toArray (t / 4) (by simpa using hd)]
    simp only [List.getElem_toArray]
    rw [getElem!_pos (layRf.cells (xs[t / 4]'hd)) (t % 4) hm]
  · rw [List.getElem?_eq_none (by simp; omega), List.getElem?_eq_none (by rw [Lay.flat_len]; show xs.length * 4 ≤ t; omega)]

theorem heap_put {w : World} {g n : Nat} {os : Array Obj} {cur : Array Value} {e : TypeId} {fr : Nat × Nat} (d : Array Value) (hb : w.heap[g]? = some (.cells cur e fr)) :
    (grow (putRow id (Sort.ahead w n) g 0 d) os).heap[g]? = some (.cells (putCells id 0 d cur) e fr) := by
  have hg : g < w.heap.size := (Array.getElem?_eq_some_iff.1 hb).1
  rw [heap_grow_old _ _ (by simpa using hg)]
  simp [putRow, mapBlock, Sort.ahead, Array.getElem?_modify, hb, onCells]
theorem grownBy_put {w : World} {g n : Nat} {os : Array Obj} (d : Array Value) : w.grownBy (grow (putRow id (Sort.ahead w n) g 0 d) os) (some g) := by
  refine ⟨rfl, rfl, rfl, by simp, fun k hk hne => ?_⟩
  rw [heap_grow_old _ _ (by simpa using hk)]
  have : g ≠ k := fun e => hne (by rw [e])
  simp [putRow, mapBlock, Sort.ahead, Array.getElem?_modify, this]
theorem take_put (cur : Array Value) (ts : List Value) (h : ts.length ≤ cur.size) : (putCells id 0 ts.toArray cur).toList.take ts.length = ts := by
  apply List.ext_getElem?
  intro j
  by_cases hj : j < ts.length
  · rw [List.getElem?_take_of_lt hj, Array.getElem?_toList]
    simp [putCells, hj, show j < cur.size by omega]
  · rw [List.getElem?_take_eq_none (by omega), List.getElem?_eq_none (by omega)]

/-- What the sort leaves. -/
def SortLeft (W : World) (base : Nat) (v : Value) (n : Nat) (e : Ending) (W' : World) : Prop :=
  e = .returned (.tuple #[]) ∧ ∃ ys : List Rf, ys.length = n ∧ OwnL W' base 173 layRf v ys ∧ W.grownBy W' v.ownBlock

theorem sort_any (v : Value) (xs : List Rf) (base : Nat) (hl : xs.length ≤ 100000000) (W : World) (hown : OwnL W base 173 layRf v xs) :
    Calls Tryz.prog 110 #[v, .func (.func 111) #[] #[]] W (SortLeft W base v xs.length) := by
  rcases id hown.2 with ⟨rfl, h0⟩ | ⟨g, cap, cur, rfl, hbg, hg, hnc, hcm, hcs, htake⟩
  · have hcon := AnyF.slices_SortFunc_none Tryz.sortRef none 0 (.func (.func 111) #[] #[]) W
    change Calls Tryz.prog 110 _ _ _ at hcon
    refine hcon.mono ?_
    rintro e w' ⟨rfl, rfl⟩
    exact ⟨rfl, xs, rfl, hown, World.grownBy.refl _ _⟩
  · have hk : layRf.k = 4 := rfl
    have hcell := fun j u hj => World.ownsRow.cells hown (g := g) rfl j u hj
    have hH : HoldsK layRf.cells 4 W g 0 xs.toArray := by
      intro t ht
      rw [size_flatK, List.size_toArray] at ht
      have h1 : (layRf.flat xs)[t]? = some ((flatK layRf.cells 4 xs.toArray)[t]!) := by
        rw [← flatK_rf, Array.getElem?_toList, Array.getElem?_eq_getElem (by simpa using ht), getElem!_pos _ _ (by simpa using ht)]
      have := hcell t _ h1
      rw [add_none] at this
      exact ⟨this, Has.frozen (show Has W g 173 cur from hg) _⟩
    have eg : ∀ args w, (callFunc 111 args).run Tryz.prog w = .ok (.enter 111 args) w := enters_of Tryz.func111 (by kernel_rfl) rfl
    have hcmp : CmpLays Tryz.prog 111 #[] layRf.cells 4 cmpRf g 0 xs.toArray.size W := fun _ _ _ _ x y => docmp_any x y _
    have hcon := AnyQ.slices_SortFunc Tryz.sortRef 4 Tryz.isAgg173 Tryz.sizeOf173 layRf.cells (fun _ => rfl) (fun x => layRf.one x) cmpRf swoRf 111 #[] g 0 cap xs.toArray W eg hcmp hH (Array.getElem?_eq_some_iff.1 hg).1 (by simp; omega)
    rw [List.size_toArray] at hcon
    change Calls Tryz.prog 110 _ _ _ at hcon
    refine hcon.mono ?_
    rintro e w' ⟨rfl, d', n, os, hp, -, rfl⟩
    have hds : d'.size = xs.length := by have := hp.1; simpa using this
    refine ⟨rfl, d'.toList, by simpa using hds, ?_, grownBy_put _⟩
    have hfl : (flatK layRf.cells 4 d').toList = layRf.flat d'.toList := by have := flatK_rf d'.toList; simpa using this
    have hfe : flatK layRf.cells 4 d' = (layRf.flat d'.toList).toArray := by rw [← hfl]
    have hlen : (layRf.flat d'.toList).length = xs.length * 4 := by rw [Lay.flat_len, hk, Array.length_toList (xs := d'), hds]
    rw [hk] at hcs
    refine ⟨by rw [Lay.flat_len], .inr ⟨g, cap, _, by rw [Array.length_toList (xs := d'), hds], hbg, heap_put _ hg, by rw [Array.length_toList (xs := d'), hds]; exact hnc, hcm, by rw [hk]; simp [putCells, hcs], ?_⟩⟩
    rw [hfe, Array.length_toList (xs := d'), hds, hk, ← hlen]
    exact take_put _ _ (by omega)
end Go.Proofs.YtjkkclfndlfjhaaGreatDoor
