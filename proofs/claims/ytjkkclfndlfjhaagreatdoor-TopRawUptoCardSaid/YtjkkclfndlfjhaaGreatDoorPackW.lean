/- Contracts of pack's Writer: numbers, bytes and texts behind one another. -/
import Derived.Test.YtjkkclfndlfjhaaGreatDoorMem
import Derived.Deep.RegionLaw
import Derived.Deep.DeepCutAuto
import Derived.Deep.CutRange
import Derived.Lib.AppendStr
set_option linter.all false
namespace Go.Proofs.YtjkkclfndlfjhaaGreatDoor
open Go.RowKit Crc Frm Go.ChangeShapes Go.WideShapes Go.ChangeAt

/-- A writer at block g that has laid these bytes; all that is its own lies from n₀ on. -/
def Wr (n₀ : Nat) (W : World) (g : Nat) (bs : List UInt8) : Prop := ∃ v, Boxed W g 164 v ∧ Owns W (g + 1) v bs ∧ n₀ ≤ g

/-- What a writer's step leaves: nothing below n₀ has turned, nothing but writers and bytes. -/
def Wx (n₀ : Nat) (W W' : World) : Prop := Below n₀ W W' ∧ FrT [164, 5] W W'
theorem Wx.refl (n₀ : Nat) (W : World) : Wx n₀ W W := ⟨Below.refl _ _, FrT.refl _ _⟩
theorem Wx.trans {n₀ : Nat} {a b c : World} (h1 : Wx n₀ a b) (h2 : Wx n₀ b c) : Wx n₀ a c := ⟨h1.1.trans h2.1, h1.2.trans h2.2⟩
theorem Wx.drew {n₀ : Nat} {a b : World} (h1 : Wx n₀ a b) : Wx n₀ a b.drew := ⟨h1.1.drew, h1.2.drew⟩
theorem Wx.below {n₀ : Nat} {a b c : World} (h1 : Wx n₀ a b) (h2 : Below b.heap.size b c) (hn : n₀ ≤ b.heap.size) : Wx n₀ a c := ⟨h1.1.trans (h2.mono hn), h1.2.below h2⟩
theorem Owns.typed {w : World} {base : Nat} {v : Value} {bs : List UInt8} (h : Owns w base v bs) : ∀ b, v.ownBlock = some b → ∃ cs, w.heap[b]? = some (.cells cs 5 (0, 0)) := by
  intro b hb
  rcases h.2 with ⟨rfl, _⟩ | ⟨g, cap, cur, rfl, e2, e3, e4⟩
  · cases hb
  · cases hb; exact ⟨_, e3⟩

/-- What holds behind an append to a writer's bytes and the store. -/
theorem wr_step {n₀ g : Nat} {W w1 : World} {v v' : Value} {bs cs : List UInt8} {tmp : Obj} (hb : Boxed W g 164 v) (ho : Owns (W.alloc tmp) (g + 1) v bs) (hg : n₀ ≤ g) (ho' : Owns w1 (g + 1) v' cs) (hgr : (W.alloc tmp).grownBy w1 v.ownBlock) :
    Boxed w1 g 164 v ∧ Wr n₀ (w1.setCell ⟨g, 0, none⟩ v') g cs ∧ Wx n₀ W (w1.setCell ⟨g, 0, none⟩ v') := by
  have ne : ∀ {X : World} {u : Value} {xs : List UInt8}, Owns X (g + 1) u xs → some g ≠ u.ownBlock := fun h e => by have := (h.lt g e.symm).1; omega
  have b1 : Boxed w1 g 164 v := Boxed.kept (Boxed.alloc hb tmp) hgr (ne ho)
  have hlt := Boxed.lt hb
  have hs := hgr.size
  rw [World.size_alloc] at hs
  refine ⟨b1, ⟨v', Boxed.set v' b1, ho'.kept (grownBy_setCell' w1 g v') (.inr (fun e => ne ho' e.symm)), hg⟩, ?_⟩
  refine ⟨?_, (((FrT.refl _ W).alloc tmp).trans (FrT.grown hgr fun k hk => ?_)).trans (FrT.set (show w1.heap[g]? = _ from b1) (by decide) 0 v')⟩
  rotate_left
  · obtain ⟨cs, hcs⟩ := ho.typed k hk
    exact ⟨cs, 5, (0, 0), hcs, by decide⟩
  refine ((((Below.refl n₀ W).alloc (by omega) tmp).grown hgr (by rw [World.size_alloc]; omega) fun k hk => ?_)).grown (grownBy_setCell' w1 g v') (by omega) fun k e => by cases e; omega
  have := (ho.lt k hk).1
  omega

set_option maxRecDepth 100000 in
set_option maxHeartbeats 800000 in
theorem wbyte_any (n₀ g : Nat) (bs : List UInt8) (c : UInt8) (hl : bs.length ≤ 1000000000) (W : World) (h : Wr n₀ W g bs) :
    Calls Tryz.prog 65 #[.pointer (some ⟨g, 0, none⟩), .int .u8 (c.toNat : Int)] W fun e W' => e = .returned (.pointer (some ⟨g, 0, none⟩)) ∧ Wr n₀ W' g (bs ++ [c]) ∧ Wx n₀ W W' := by
  obtain ⟨v, hb, ho, hg⟩ := h
  have hc := hb.cell
  have hsz := hb.lt
  have HB := Lib.hid hb
  have HO := Lib.hid (ho.alloc (.cells #[.int .u8 (c.toNat : Int)] 5))
  clear hb ho
  go_enter Tryz.func65, Tryz.ntmps65
  go_wp2_with (at_builtin; refine wpl_append_bytes _ rfl (.tmp 9) (.tmp 11) rfl (g + 1) v bs rfl HO.out _ [c] rfl (one_new W _ c rfl) (by simp; omega) (by simp; omega) ?_)
  intro v1 w1 ho1 hg1 _
  obtain ⟨q1, q2, q3⟩ := wr_step HB.out HO.out hg ho1 hg1
  have hc1 := q1.cell
  have hf1 := q1.frozen
  obtain ⟨g', cap', hv', _, _⟩ := ho1.form (by simp)
  rw [List.length_append, List.length_singleton] at hv'
  subst hv'
  have Q2 := Lib.hid q2
  have Q3 := Lib.hid q3
  clear ho1 hg1 q1 q2 q3
  go_wp2
  go_ret
  exact ⟨rfl, Q2.out, Q3.out⟩

set_option maxRecDepth 100000 in
set_option maxHeartbeats 1600000 in
theorem wnum_any (n₀ g : Nat) (bs : List UInt8) (n : Int) (hl : bs.length ≤ 1000000000) (W : World) (h : Wr n₀ W g bs) :
    Calls Tryz.prog 55 #[.pointer (some ⟨g, 0, none⟩), .int .i64 n] W fun e W' => e = .returned (.pointer (some ⟨g, 0, none⟩)) ∧ Wr n₀ W' g (bs ++ beTo n 8) ∧ Wx n₀ W W' := by
  have H := Lib.hid h
  clear h
  go_enter Tryz.func55, Tryz.ntmps55
  go_wp2
  go_loopw [5] (fun i wr => ∃ j : Nat, j ≤ 8 ∧ i = .int .i64 (7 - (j : Int)) ∧ Wr n₀ wr g (bs ++ beTo n j) ∧ Wx n₀ W wr) (fun i _ => (intOf i + 1).toNat)
  case atStart => exact ⟨0, by omega, rfl, by simpa [beTo] using H.out, Wx.refl _ _⟩
  case round =>
    obtain ⟨j, hj, rfl, ⟨v, hb, ho, hg⟩, hbr⟩ := hrel
    by_cases hj8 : j < 8
    · have hc := hb.cell
      have hsz := hb.lt
      have HB := Lib.hid hb
      have HO := Lib.hid ho
      have HR := Lib.hid hbr
      clear hb ho hbr
      have e1 : IntKind.u8.wrap (n / 2 ^ (8 * (7 - (j : Int))).toNat) = (((byteOf n (7 - j)).toNat : Nat) : Int) := by
        rw [byteOf_val, show (8 * (7 - (j : Int))).toNat = 8 * (7 - j) by omega]
        rfl
      have q1 : IntKind.i64.wrap (8 * (7 - (j : Int))) = 8 * (7 - (j : Int)) := IntWalk.i64_in _ (by omega)
      have q2 : ¬ (8 * (7 - (j : Int))) < 0 := by omega
      have q3 : (8 * (7 - (j : Int))) < 64 := by omega
      go_wp2
      go_region_law (first | (refine step_append_bytes _ (by rfl) (.tmp 14) (.tmp 20) (by rfl) (g + 1) v (bs ++ beTo n j) (by rfl) ?_ _ [byteOf n (7 - j)] (by rfl) ?_ ?_ ?_ ?_; (repeat (first | with_reducible exact HO.out | with_reducible refine Owns.drew ?_ | with_reducible refine Owns.alloc ?_ _)); (exact one_new _ _ _ (by first | rfl | rw [e1])); (rw [List.length_append, beTo_len]; simp; omega); (simp; omega); intro v1 w1 ho1 hg1 _; obtain ⟨q1', q2', q3'⟩ := wr_step (n₀ := n₀) (W := wr.drew) HB.out (HO.out.drew.alloc _) hg ho1 hg1; have hc1 := q1'.cell; have hf1 := q1'.frozen; obtain ⟨g', cap', hv', _, _⟩ := ho1.form (by rw [List.length_append]; simp only [List.length_singleton]; omega); rw [show (bs ++ beTo n j ++ [byteOf n (7 - j)]).length = bs.length + ((beTo n j).length + 1) from (by simp; try omega)] at hv'; subst hv'; have Q2 := Lib.hid q2'; have Q3 := Lib.hid q3'; clear ho1 hg1 q1' q2' q3'))
      all_goals
        go_wp2
        go_roundw
        case rel => exact ⟨j + 1, by omega, by go_num, by rw [beTo_succ, ← List.append_assoc]; exact Q2.out, HR.out.trans (((Wx.refl n₀ wr).drew).trans Q3.out)⟩
        case measure => simp [intOf]; omega
    · obtain rfl : j = 8 := by omega
      go_wp2
      go_ret
      exact ⟨rfl, ⟨v, hb, ho, hg⟩, hbr⟩

theorem wr_step0 {n₀ g : Nat} {W w1 : World} {v v' : Value} {bs cs : List UInt8} (hb : Boxed W g 164 v) (ho : Owns W (g + 1) v bs) (hg : n₀ ≤ g) (ho' : Owns w1 (g + 1) v' cs) (hgr : W.grownBy w1 v.ownBlock) :
    Boxed w1 g 164 v ∧ Wr n₀ (w1.setCell ⟨g, 0, none⟩ v') g cs ∧ Wx n₀ W (w1.setCell ⟨g, 0, none⟩ v') := by
  have ne : ∀ {X : World} {u : Value} {xs : List UInt8}, Owns X (g + 1) u xs → some g ≠ u.ownBlock := fun h e => by have := (h.lt g e.symm).1; omega
  have b1 : Boxed w1 g 164 v := Boxed.kept hb hgr (ne ho)
  have hlt := Boxed.lt hb
  have hs := hgr.size
  refine ⟨b1, ⟨v', Boxed.set v' b1, ho'.kept (grownBy_setCell' w1 g v') (.inr (fun e => ne ho' e.symm)), hg⟩, ?_⟩
  refine ⟨?_, (FrT.grown hgr fun k hk => ?_).trans (FrT.set (show w1.heap[g]? = _ from b1) (by decide) 0 v')⟩
  rotate_left
  · obtain ⟨cs, hcs⟩ := ho.typed k hk
    exact ⟨cs, 5, (0, 0), hcs, by decide⟩
  refine ((Below.refl n₀ W).grown hgr (by omega) fun k hk => ?_).grown (grownBy_setCell' w1 g v') (by omega) fun k e => by cases e; omega
  have := (ho.lt k hk).1
  omega

theorem strCells_eq (s : ByteArray) : Lib.strCells s = cellsOf s.data.toList := by
  simp [Lib.strCells, cellsOf]

theorem wpl_append_str {ops : Array Oper} {rest : List Oper} {o : Oper} {a : Act} {Q : Exit → Act → World → Prop} (w : World) (hgd : o.guard = none) (s x : Operand)
    (ho : o.op = .call { callee := .builtin .append, args := #[s, x], argTypes := #[72, 9] })
    (base : Nat) (v : Value) (xs : List UInt8) (hs : a.eval s = v) (hown : Owns w base v xs) (t : ByteArray) (hx : a.eval x = .string t)
    (hlen : xs.length + t.size ≤ 140737488355328) (hbase : base ≤ w.heap.size)
    (h : ∀ v' w', Owns w' base v' (xs ++ t.data.toList) → w.grownBy w' v.ownBlock → wpList Tryz.prog ops Q rest (a.put o.dst v') w') : wpList Tryz.prog ops Q (o :: rest) a w := by
  obtain ⟨i0, hi0, hz0, hz1, hz2⟩ := info_parts info5
  refine Lib.wpList_append_own_string w hgd s x 72 9 ho base 5 i0 Tryz.underlying72 Tryz.underlying9 hi0 hz0 hz1 hz2 v xs.length (cellsOf xs) hs hown t hx (by simp only [maxLen]; omega) hlen hbase fun v' w' h1 h2 _ => h v' w' ?_ h2
  unfold Owns
  rw [List.length_append, cellsOf_append, ← strCells_eq]
  exact h1

set_option maxRecDepth 100000 in
set_option maxHeartbeats 800000 in
theorem wtext_any (n₀ g : Nat) (bs : List UInt8) (s : ByteArray) (hl : bs.length ≤ 900000000) (hs : s.size ≤ 1000000000) (W : World) (h : Wr n₀ W g bs) :
    Calls Tryz.prog 64 #[.pointer (some ⟨g, 0, none⟩), .string s] W fun e W' => e = .returned (.pointer (some ⟨g, 0, none⟩)) ∧ Wr n₀ W' g (bs ++ txt s) ∧ Wx n₀ W W' := by
  have H := Lib.hid h
  clear h
  go_enter Tryz.func64, Tryz.ntmps64
  go_wp2_with fail
  refine (wnum_any n₀ g bs (s.size : Int) (by omega) _ H.out).mono ?_
  rintro e w1 ⟨rfl, ⟨v, hb, ho, hg⟩, hx⟩
  have hc := hb.cell
  have hsz := hb.lt
  have HB := Lib.hid hb
  have HO := Lib.hid ho
  have HX := Lib.hid hx
  clear hb ho hx
  go_wp2_with (at_builtin; refine wpl_append_str _ rfl (.tmp 13) (.tmp 14) rfl (g + 1) v _ rfl HO.out s rfl (by rw [List.length_append, beTo_len]; omega) (by omega) ?_)
  intro v1 w2 ho1 hg1
  obtain ⟨q1, q2, q3⟩ := wr_step0 HB.out HO.out hg ho1 hg1
  have hc1 := q1.cell
  have hf1 := q1.frozen
  obtain ⟨g', cap', hv', _, _⟩ := ho1.form (by rw [List.length_append, List.length_append, beTo_len]; omega)
  obtain ⟨n, hn⟩ : ∃ n, v1 = .slice (some ⟨g', 0, none⟩) n cap' := ⟨_, hv'⟩
  clear hv'
  subst hn
  have Q2 := Lib.hid q2
  have Q3 := Lib.hid (HX.out.trans q3)
  clear ho1 hg1 q1 q2 q3
  go_wp2
  go_ret
  exact ⟨rfl, Q2.out, Q3.out⟩

set_option maxRecDepth 100000 in
set_option maxHeartbeats 800000 in
theorem wbytes_any (n₀ g : Nat) (bs : List UInt8) (hl : bs.length ≤ 1000000000) (W : World) (h : Wr n₀ W g bs) :
    Calls Tryz.prog 57 #[.pointer (some ⟨g, 0, none⟩)] W fun e W' => ∃ v, e = .returned v ∧ Owns W' W.heap.size v bs ∧ Below W.heap.size W W' := by
  obtain ⟨v, hb, ho, hg⟩ := h
  have hc := hb.cell
  have HO := Lib.hid ho.bytes
  clear hb ho
  go_enter Tryz.func57, Tryz.ntmps57
  go_wp2_with (at_builtin; refine wpl_append_bytes _ rfl (.const (.slice none 0 0)) (.tmp 6) rfl W.heap.size (.slice none 0 0) [] rfl (Owns.nil _ _) v bs rfl HO.out (by simp; omega) (by simp) ?_)
  intro v1 w1 ho1 hg1 _
  have hb1 := below_append (Below.refl _ W) (Owns.nil W W.heap.size) (Nat.le_refl _) hg1 (Nat.le_refl _)
  have HO1 := Lib.hid ho1
  have HB1 := Lib.hid hb1
  clear ho1 hg1 hb1
  go_wp2
  go_ret
  exact ⟨v1, rfl, HO1.out, HB1.out⟩

theorem Wr.below {n₀ g : Nat} {W W' : World} {bs : List UInt8} (h : Wr n₀ W g bs) (hb : Below W.heap.size W W') : Wr n₀ W' g bs := by
  obtain ⟨v, h1, h2, h3⟩ := h
  exact ⟨v, Boxed.below h1 hb, h2.below hb (Nat.le_refl _), h3⟩
theorem Wr.lt {n₀ g : Nat} {W : World} {bs : List UInt8} (h : Wr n₀ W g bs) : g < W.heap.size := by
  obtain ⟨v, h1, h2, h3⟩ := h
  exact h1.lt
theorem Wr.new {n₀ : Nat} {W : World} (hn : n₀ ≤ W.heap.size) : Wr n₀ (W.alloc (.cells #[.slice none 0 0] 164)) W.heap.size [] :=
  ⟨.slice none 0 0, Boxed.new W 164 _, Owns.nil _ _, hn⟩
theorem byteOf_wrap8 (n : Int) : IntKind.u8.wrap n = (((byteOf n 0).toNat : Nat) : Int) := by
  rw [byteOf_val, IntKind.wrap_u8]; simp
theorem byteOf_mod (n : Int) : n % 256 = (((byteOf n 0).toNat : Nat) : Int) := by
  rw [byteOf_val]; simp
theorem wbyte_int (n₀ g : Nat) (bs : List UInt8) (c : UInt8) (n : Int) (hn : n = (c.toNat : Int)) (hl : bs.length ≤ 1000000000) (W : World) (h : Wr n₀ W g bs) :
    Calls Tryz.prog 65 #[.pointer (some ⟨g, 0, none⟩), .int .u8 n] W fun e W' => e = .returned (.pointer (some ⟨g, 0, none⟩)) ∧ Wr n₀ W' g (bs ++ [c]) ∧ Wx n₀ W W' := by
  subst hn
  exact wbyte_any n₀ g bs c hl W h
end Go.Proofs.YtjkkclfndlfjhaaGreatDoor
