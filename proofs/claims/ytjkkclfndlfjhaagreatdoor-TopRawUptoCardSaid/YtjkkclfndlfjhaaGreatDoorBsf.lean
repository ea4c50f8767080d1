/- Contracts of cmp.Compare, the closures of Map.find, slices.BinarySearchFunc and Map.find: what they answer is in bounds; they turn nothing. -/
import Derived.Test.YtjkkclfndlfjhaaGreatDoorEdo
import Derived.BigQuiet
set_option linter.all false
namespace Go.Proofs.YtjkkclfndlfjhaaGreatDoor
open Go.RowKit Crc Frm Go.ChangeShapes Go.WideShapes Go.ChangeAt

/-- Some int; nothing that lay has turned. -/
def SomeInt (W : World) (e : Ending) (W' : World) : Prop := (∃ k : Int, e = .returned (.int .i64 k)) ∧ Below W.heap.size W W'
/-- Where a key stands or would, and whether it is there. -/
def SomePos (n : Nat) (W : World) (e : Ending) (W' : World) : Prop := (∃ (k : Nat) (b : Bool), e = .returned (.tuple #[.int .i64 (k : Int), .bool b]) ∧ k ≤ n ∧ (b = true → k < n)) ∧ Below W.heap.size W W'

set_option maxRecDepth 100000 in
set_option maxHeartbeats 3200000 in
theorem nanI_any (a : Int) (W : World) : Calls Tryz.prog 210 #[.int .i64 a] W (SomeBool W) := by
  go_enter Tryz.func210, Tryz.ntmps210
  go_wp2
  all_goals
    go_ret
    exact ⟨⟨_, rfl⟩, Below.refl _ _⟩

set_option maxRecDepth 100000 in
set_option maxHeartbeats 3200000 in
theorem cmpI_any (a b : Int) (W : World) : Calls Tryz.prog 150 #[.int .i64 a, .int .i64 b] W (SomeInt W) := by
  go_enter Tryz.func150, Tryz.ntmps150
  go_wp2_with fail
  refine (nanI_any a _).mono ?_
  rintro e w1 ⟨⟨b1, rfl⟩, hb1⟩
  have HB1 := Lib.hid hb1
  clear hb1
  go_wp2_with fail
  refine (nanI_any b _).mono ?_
  rintro e w2 ⟨⟨b2, rfl⟩, hb2⟩
  have HB2 := Lib.hid (HB1.out.trans (hb2.mono HB1.out.size))
  clear hb2
  cases b1 <;> cases b2
  all_goals
    go_wp2
  all_goals
    go_ret
    exact ⟨⟨_, rfl⟩, HB2.out⟩

set_option maxRecDepth 100000 in
set_option maxHeartbeats 3200000 in
theorem cloI_any (x : Int × Ss) (k : Int) (W : World) : Calls Tryz.prog 149 #[.agg #[.int .i64 x.1, .int .i64 x.2.client, .int .i64 x.2.seq, .int .i64 x.2.err, .string x.2.val], .int .i64 k] W (SomeInt W) := by
  have hb0 : ∀ o, Below W.heap.size W (W.alloc o) := fun o => (Below.refl _ W).alloc (Nat.le_refl _) _
  have HB := Lib.hid hb0
  clear hb0
  go_enter Tryz.func149, Tryz.ntmps149
  go_wp2_with fail
  refine (cmpI_any _ k _).mono ?_
  rintro e w2 ⟨⟨b, rfl⟩, hb2⟩
  have HB2 := Lib.hid ((HB.out _).trans (hb2.mono (by simp)))
  clear hb2
  go_wp2
  go_ret
  exact ⟨⟨_, rfl⟩, HB2.out⟩

set_option maxRecDepth 100000 in
set_option maxHeartbeats 6400000 in
theorem bsfI_any (v : Value) (xs : List (Int × Ss)) (k : Int) (hl : xs.length ≤ 100000000) (W : World) (hxs : IsL W layIs v xs) :
    Calls Tryz.prog 148 #[v, .int .i64 k, .func (.func 149) #[] #[]] W (SomePos xs.length W) := by
  have HP := Lib.hid hxs
  obtain ⟨A, cap, rfl, -⟩ := hxs
  go_enter Tryz.func148, Tryz.ntmps148
  go_wp2
  go_loopg [9, 10] xs.length (fun kx s9 s10 wr => ∃ lo hi : Nat, s9 = .int .i64 lo ∧ s10 = .int .i64 hi ∧ lo ≤ hi ∧ hi ≤ xs.length ∧ hi - lo ≤ kx ∧ RowKit.Hid (Below W.heap.size W wr))
  case atStart => exact ⟨0, xs.length, rfl, rfl, Nat.zero_le _, Nat.le_refl _, by omega, Lib.hid (Below.refl _ _)⟩
  case round =>
    obtain ⟨lo, hi, rfl, rfl, hlh, hin, hg, HX⟩ := hrel
    by_cases hlt : lo < hi
    · obtain ⟨x, hp⟩ : ∃ p, xs[(lo + hi) / 2]? = some p := ⟨_, List.getElem?_eq_getElem (by omega)⟩
      obtain ⟨b', off, hA, hcell⟩ := (HP.out.below HX.out (Nat.le_refl _)).at_ hp
      obtain rfl := hA
      have c0 : wr.cell? ⟨b', off + (lo + hi) / 2 * 5, none⟩ = some (.int .i64 x.1) := hcell 0 _ rfl
      have c1 : wr.cell? ⟨b', off + (lo + hi) / 2 * 5 + 1, none⟩ = some (.int .i64 x.2.client) := hcell 1 _ rfl
      have c2 : wr.cell? ⟨b', off + (lo + hi) / 2 * 5 + 2, none⟩ = some (.int .i64 x.2.seq) := hcell 2 _ rfl
      have c3 : wr.cell? ⟨b', off + (lo + hi) / 2 * 5 + 3, none⟩ = some (.int .i64 x.2.err) := hcell 3 _ rfl
      have c4 : wr.cell? ⟨b', off + (lo + hi) / 2 * 5 + 4, none⟩ = some (.string x.2.val) := hcell 4 _ rfl
      clear hcell
      go_wp2_with fail
      refine (cloI_any x k _).mono ?_
      rintro e w2 ⟨⟨ko, rfl⟩, hb2⟩
      have HB2 := Lib.hid (HX.out.trans (hb2.mono HX.out.size))
      clear hb2
      by_cases hko : ko < 0
      · go_wp2
        go_roundg (hi - ((lo + hi) / 2 + 1))
        case measure => omega
        case rel => exact ⟨(lo + hi) / 2 + 1, hi, by rw [show ((lo : Int) + (hi : Int)) / 2 + 1 = (((lo + hi) / 2 + 1 : Nat) : Int) by omega], rfl, by omega, hin, Nat.le_refl _, HB2⟩
      · go_wp2
        go_roundg ((lo + hi) / 2 - lo)
        case measure => omega
        case rel => exact ⟨lo, (lo + hi) / 2, rfl, by rw [show ((lo : Int) + (hi : Int)) / 2 = (((lo + hi) / 2 : Nat) : Int) by omega], by omega, by omega, Nat.le_refl _, HB2⟩
    · obtain rfl : hi = lo := by omega
      by_cases hn : hi < xs.length
      · obtain ⟨x, hp⟩ : ∃ p, xs[hi]? = some p := ⟨_, List.getElem?_eq_getElem (by omega)⟩
        obtain ⟨b', off, hA, hcell⟩ := (HP.out.below HX.out (Nat.le_refl _)).at_ hp
        obtain rfl := hA
        have c0 : wr.cell? ⟨b', off + hi * 5, none⟩ = some (.int .i64 x.1) := hcell 0 _ rfl
        have c1 : wr.cell? ⟨b', off + hi * 5 + 1, none⟩ = some (.int .i64 x.2.client) := hcell 1 _ rfl
        have c2 : wr.cell? ⟨b', off + hi * 5 + 2, none⟩ = some (.int .i64 x.2.seq) := hcell 2 _ rfl
        have c3 : wr.cell? ⟨b', off + hi * 5 + 3, none⟩ = some (.int .i64 x.2.err) := hcell 3 _ rfl
        have c4 : wr.cell? ⟨b', off + hi * 5 + 4, none⟩ = some (.string x.2.val) := hcell 4 _ rfl
        clear hcell
        go_wp2_with fail
        refine (cloI_any x k _).mono ?_
        rintro e w2 ⟨⟨ko, rfl⟩, hb2⟩
        have HB2 := Lib.hid (HX.out.trans (hb2.mono HX.out.size))
        clear hb2
        go_wp2
        all_goals
          go_ret2
          exact ⟨⟨hi, _, rfl, by omega, fun _ => hn⟩, HB2.out⟩
      · go_wp2
        go_ret2
        exact ⟨⟨hi, _, rfl, by omega, fun h => by simp at h⟩, HX.out⟩

set_option maxRecDepth 100000 in
set_option maxHeartbeats 3200000 in
theorem findI_any (g : Nat) (v : Value) (xs : List (Int × Ss)) (k : Int) (hl : xs.length ≤ 100000000) (W : World) (hg : Has W g 209 #[v]) (hxs : IsL W layIs v xs) :
    Calls Tryz.prog 92 #[.pointer (some ⟨g, 0, none⟩), .int .i64 k] W (SomePos xs.length W) := by
  have HP := Lib.hid hxs
  have c0 : W.cell? ⟨g, 0, none⟩ = some v := hg.cell 0
  have h1 : v.oneCell' = true := by obtain ⟨A, cap, rfl, -⟩ := hxs; rfl
  clear hxs
  go_enter Tryz.func92, Tryz.ntmps92
  go_wp2_with fail
  refine (bsfI_any v xs k hl _ HP.out).mono ?_
  rintro e w2 ⟨⟨ko, b, rfl, h1, h2⟩, hb2⟩
  have HB2 := Lib.hid hb2
  clear hb2
  go_wp2
  go_ret2
  exact ⟨⟨ko, b, rfl, h1, h2⟩, HB2.out⟩

set_option maxRecDepth 100000 in
set_option maxHeartbeats 3200000 in
theorem nanS_any (a : ByteArray) (W : World) : Calls Tryz.prog 259 #[.string a] W (SomeBool W) := by
  go_enter Tryz.func259, Tryz.ntmps259
  go_wp2
  all_goals
    go_ret
    exact ⟨⟨_, rfl⟩, Below.refl _ _⟩

set_option maxRecDepth 100000 in
set_option maxHeartbeats 3200000 in
theorem cmpS_any (a b : ByteArray) (W : World) : Calls Tryz.prog 213 #[.string a, .string b] W (SomeInt W) := by
  go_enter Tryz.func213, Tryz.ntmps213
  go_wp2_with fail
  refine (nanS_any a _).mono ?_
  rintro e w1 ⟨⟨b1, rfl⟩, hb1⟩
  have HB1 := Lib.hid hb1
  clear hb1
  go_wp2_with fail
  refine (nanS_any b _).mono ?_
  rintro e w2 ⟨⟨b2, rfl⟩, hb2⟩
  have HB2 := Lib.hid (HB1.out.trans (hb2.mono HB1.out.size))
  clear hb2
  cases b1 <;> cases b2
  all_goals
    go_wp2
  all_goals
    go_ret
    exact ⟨⟨_, rfl⟩, HB2.out⟩

set_option maxRecDepth 100000 in
set_option maxHeartbeats 3200000 in
theorem cloS_any (x : ByteArray × ByteArray) (k : ByteArray) (W : World) : Calls Tryz.prog 212 #[.agg #[.string x.1, .string x.2], .string k] W (SomeInt W) := by
  have hb0 : ∀ o, Below W.heap.size W (W.alloc o) := fun o => (Below.refl _ W).alloc (Nat.le_refl _) _
  have HB := Lib.hid hb0
  clear hb0
  go_enter Tryz.func212, Tryz.ntmps212
  go_wp2_with fail
  refine (cmpS_any _ k _).mono ?_
  rintro e w2 ⟨⟨b, rfl⟩, hb2⟩
  have HB2 := Lib.hid ((HB.out _).trans (hb2.mono (by simp)))
  clear hb2
  go_wp2
  go_ret
  exact ⟨⟨_, rfl⟩, HB2.out⟩

set_option maxRecDepth 100000 in
set_option maxHeartbeats 6400000 in
theorem bsfS_any (v : Value) (xs : List (ByteArray × ByteArray)) (k : ByteArray) (hl : xs.length ≤ 100000000) (W : World) (hxs : IsL W layTt v xs) :
    Calls Tryz.prog 211 #[v, .string k, .func (.func 212) #[] #[]] W (SomePos xs.length W) := by
  have HP := Lib.hid hxs
  obtain ⟨A, cap, rfl, -⟩ := hxs
  go_enter Tryz.func211, Tryz.ntmps211
  go_wp2
  go_loopg [9, 10] xs.length (fun kx s9 s10 wr => ∃ lo hi : Nat, s9 = .int .i64 lo ∧ s10 = .int .i64 hi ∧ lo ≤ hi ∧ hi ≤ xs.length ∧ hi - lo ≤ kx ∧ RowKit.Hid (Below W.heap.size W wr))
  case atStart => exact ⟨0, xs.length, rfl, rfl, Nat.zero_le _, Nat.le_refl _, by omega, Lib.hid (Below.refl _ _)⟩
  case round =>
    obtain ⟨lo, hi, rfl, rfl, hlh, hin, hg, HX⟩ := hrel
    by_cases hlt : lo < hi
    · obtain ⟨x, hp⟩ : ∃ p, xs[(lo + hi) / 2]? = some p := ⟨_, List.getElem?_eq_getElem (by omega)⟩
      obtain ⟨b', off, hA, hcell⟩ := (HP.out.below HX.out (Nat.le_refl _)).at_ hp
      obtain rfl := hA
      have c0 : wr.cell? ⟨b', off + (lo + hi) / 2 * 2, none⟩ = some (.string x.1) := hcell 0 _ rfl
      have c1 : wr.cell? ⟨b', off + (lo + hi) / 2 * 2 + 1, none⟩ = some (.string x.2) := hcell 1 _ rfl
      clear hcell
      go_wp2_with fail
      refine (cloS_any x k _).mono ?_
      rintro e w2 ⟨⟨ko, rfl⟩, hb2⟩
      have HB2 := Lib.hid (HX.out.trans (hb2.mono HX.out.size))
      clear hb2
      by_cases hko : ko < 0
      · go_wp2
        go_roundg (hi - ((lo + hi) / 2 + 1))
        case measure => omega
        case rel => exact ⟨(lo + hi) / 2 + 1, hi, by rw [show ((lo : Int) + (hi : Int)) / 2 + 1 = (((lo + hi) / 2 + 1 : Nat) : Int) by omega], rfl, by omega, hin, Nat.le_refl _, HB2⟩
      · go_wp2
        go_roundg ((lo + hi) / 2 - lo)
        case measure => omega
        case rel => exact ⟨lo, (lo + hi) / 2, rfl, by rw [show ((lo : Int) + (hi : Int)) / 2 = (((lo + hi) / 2 : Nat) : Int) by omega], by omega, by omega, Nat.le_refl _, HB2⟩
    · obtain rfl : hi = lo := by omega
      by_cases hn : hi < xs.length
      · obtain ⟨x, hp⟩ : ∃ p, xs[hi]? = some p := ⟨_, List.getElem?_eq_getElem (by omega)⟩
        obtain ⟨b', off, hA, hcell⟩ := (HP.out.below HX.out (Nat.le_refl _)).at_ hp
        obtain rfl := hA
        have c0 : wr.cell? ⟨b', off + hi * 2, none⟩ = some (.string x.1) := hcell 0 _ rfl
        have c1 : wr.cell? ⟨b', off + hi * 2 + 1, none⟩ = some (.string x.2) := hcell 1 _ rfl
        clear hcell
        go_wp2_with fail
        refine (cloS_any x k _).mono ?_
        rintro e w2 ⟨⟨ko, rfl⟩, hb2⟩
        have HB2 := Lib.hid (HX.out.trans (hb2.mono HX.out.size))
        clear hb2
        go_wp2
        all_goals
          go_ret2
          exact ⟨⟨hi, _, rfl, by omega, fun _ => hn⟩, HB2.out⟩
      · go_wp2
        go_ret2
        exact ⟨⟨hi, _, rfl, by omega, fun h => by simp at h⟩, HX.out⟩

set_option maxRecDepth 100000 in
set_option maxHeartbeats 3200000 in
theorem findS_any (g : Nat) (v : Value) (xs : List (ByteArray × ByteArray)) (k : ByteArray) (hl : xs.length ≤ 100000000) (W : World) (hg : Has W g 216 #[v]) (hxs : IsL W layTt v xs) :
    Calls Tryz.prog 151 #[.pointer (some ⟨g, 0, none⟩), .string k] W (SomePos xs.length W) := by
  have HP := Lib.hid hxs
  have c0 : W.cell? ⟨g, 0, none⟩ = some v := hg.cell 0
  have h1 : v.oneCell' = true := by obtain ⟨A, cap, rfl, -⟩ := hxs; rfl
  clear hxs
  go_enter Tryz.func151, Tryz.ntmps151
  go_wp2_with fail
  refine (bsfS_any v xs k hl _ HP.out).mono ?_
  rintro e w2 ⟨⟨ko, b, rfl, h1, h2⟩, hb2⟩
  have HB2 := Lib.hid hb2
  clear hb2
  go_wp2
  go_ret2
  exact ⟨⟨ko, b, rfl, h1, h2⟩, HB2.out⟩
end Go.Proofs.YtjkkclfndlfjhaaGreatDoor
