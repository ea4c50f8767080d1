/- CheckTables: what a table has for two indexes is, added bit by bit, what it has for the sum of both; the table of 0 is 0 throughout. Every polynomial, every two indexes. -/
import Derived.Test.YtflolmldildjhaaKit
import Derived.Deep.RegionHeld3
namespace Go.Proofs.Ytflolmldildjhaa.lawCheckTables
open Go.ChangeShapes Go.WideShapes Go.ChangeAt Go.RowKit Crc

theorem steps_none (k : Nat) : ∀ a, steps 0 k a = a / 2 ^ k := by
  induction k with
  | zero => intro a; simp [steps]
  | succ k ih =>
    intro a
    have h : Crc.step 0 a = a / 2 := by unfold Crc.step; split <;> simp
    rw [steps, h, ih, Nat.div_div_eq_div_mul, Nat.pow_succ, Nat.mul_comm]

theorem run_index_tab (p : Nat) (k : IntKind) (i : Nat) (hi : i < 256) (w : World) : (Instr.index 25 (.agg (tab p)) (.int k (i : Int))).run Try.prog w = .ok (.int .u32 ((steps p 8 i : Nat) : Int)) w := by
  have hu := run_underlying (P := Try.prog) Try.underlying25 w
  have hs : (sizeOf 22).run Try.prog w = .ok 1 w := by kernel_rfl
  have hg : (isAgg 22).run Try.prog w = .ok false w := by kernel_rfl
  simp [Instr.index, asIntOf, hu, Result.andThen, part, hs, hg, tab_get p i hi]
  omega

set_option maxRecDepth 100000 in
set_option maxHeartbeats 400000 in
theorem walk (p : Nat) (hp : p ≤ 4294967295) (a : Nat) (ha : a ≤ 255) (b : Nat) (hb' : b ≤ 255) (w : World) :
    Calls Try.prog 9 #[.int .u32 (p : Int), .int .u8 (a : Int), .int .u8 (b : Int)] w fun e w' => e = .returned (.bool true) ∧ Below w.heap.size w w' := by
  have hz := (zero_of_info info25).1
  go_enter Try.func9, Try.ntmps9
  go_wp2_with fail
  refine (awake_any _).mono ?_
  rintro e w0 ⟨rfl, hb0⟩
  go_wp2_with fail
  refine (of_any p (by omega) _).mono ?_
  rintro e w1 ⟨rfl, hb1'⟩
  have hb1 := hb0.trans (hb1'.mono hb0.size)
  clear hb0 hb1'
  have hg := heap_alloc_last w1 (.cells (tabTo 0 0) 25)
  have hr := setRow_heap (w1.alloc (.cells (tabTo 0 0) 25)) w1.heap.size _ (tab p) 25 _ hg
  have HR := Lib.hid hr
  clear hr
  go_wp2_with (
    (refine wpList_store_row rfl 25 _ _ rfl w1.heap.size (tab p) rfl rfl 25 _ hg (by rw [size_tab]; exact size25) (by rw [size_tab, size_tabTo]) (one_tabTo _ _) ?_
     obtain ⟨w2, hw2⟩ : ∃ w2, w2 = (w1.alloc (.cells (tabTo 0 0) 25)).setRow w1.heap.size (tab p) := ⟨_, rfl⟩
     have hb2 : Below w.heap.size w w2 := by rw [hw2]; exact below_row (hb1.alloc hb1.size _) hb1.size _
     have ht2 : Hid (IsTab w2 p w1.heap.size) := isTab_of_row (by rw [hw2]; exact HR.out)
     have hs2 : w1.heap.size < w2.heap.size := by rw [hw2]; simp
     rw [← hw2]
     clear hw2 HR hg hz))
  go_frame
  have hx : bits .xor .u8 (a : Int) (b : Int) = ((a ^^^ b : Nat) : Int) := u8_xor_nat a b (by omega) (by omega)
  have hxl : a ^^^ b < 256 := Nat.xor_lt_two_pow (n := 8) (by omega) (by omega)
  have hca := ht2.out a (by omega)
  have hcb := ht2.out b (by omega)
  have hcx := ht2.out (a ^^^ b) hxl
  have hi0 := fun (k : IntKind) (w : World) => run_index_tab 0 k a (by omega) w
  have hst : steps 0 8 a = 0 := by rw [steps_none]; omega
  rw [hst] at hi0
  have hxs : bits .xor .u32 ((steps p 8 a : Nat) : Int) ((steps p 8 b : Nat) : Int) = ((steps p 8 (a ^^^ b) : Nat) : Int) := by
    rw [xor_u32 _ _ (steps_lt (by omega) 8 _ (by omega)) (steps_lt (by omega) 8 _ (by omega)), steps_xor]
  clear hst
  have qa : (0 : Int) ≤ (a : Int) := by omega
  have qa' : (a : Int) < 256 := by omega
  have qb : (0 : Int) ≤ (b : Int) := by omega
  have qb' : (b : Int) < 256 := by omega
  have qx : (0 : Int) ≤ ((a ^^^ b : Nat) : Int) := by omega
  have qx' : ((a ^^^ b : Nat) : Int) < 256 := by omega
  go_region_held3 (fun w' => w'.cell? ⟨w1.heap.size, a, none⟩ = some (.int .u32 ((steps p 8 a : Nat) : Int)) ∧ w'.cell? ⟨w1.heap.size, b, none⟩ = some (.int .u32 ((steps p 8 b : Nat) : Int)) ∧ w'.cell? ⟨w1.heap.size, a ^^^ b, none⟩ = some (.int .u32 ((steps p 8 (a ^^^ b) : Nat) : Int)))
    (go_keep)
    ((go_at_call 19; refine (of_any 0 (by omega) _).mono ?_; rintro e w5 ⟨rfl, hb5⟩; have e1 := cell_later hb5 hca; have e2 := cell_later hb5 hcb; have e3 := cell_later hb5 hcx))
  go_wp2
  go_ret
  exact ⟨rfl, hb2.drew.trans (hb5.mono hb2.size)⟩

set_option maxRecDepth 100000 in
theorem lifted (os : Os) (started : os.Started) (H : Type) (enc : TypeId × Value → H) :
    ReturnsInHanded {} Try.checked os 9 .any (Rows.checkTablesSpec.pre6 enc Try.prog Try.f9 Rows.checkTablesRow.domain false) (Rows.checkTablesSpec.post enc Try.prog Try.f9 false true false false) := by
  refine returnsInHanded_of_change_sized (C := Try.checked) own started (by kernel_rfl) Try.func9
    (ChangeSpec.witness6 (enc := enc) (C := Try.checked) false ⟨#[], #[.int .u32 0, .int .u8 0, .int .u8 0], []⟩ 8 (by kernel_rfl) (by kernel_rfl) (by kernel_rfl) (by kernel_rfl)) ?_
  intro W base args ds gs before hval0 hW _ hsz0 _
  have hval : ∀ (j : Nat) t v, Try.f9.params[j]? = some t → args[j]? = some v → Value.okWide Try.prog W .any base t v := hval0
  have hsz : (DataW.weightsEach Try.prog (Try.f9.params.toList ++ Rows.checkTablesSpec.plain.varTypes Try.prog) (ds ++ gs)).all (· ≤ reachBytes) = true := hsz0
  have hW' := hW
  obtain ⟨p, q, hA0, hV, rfl, hfz, hnd⟩ := hW
  have hA : DataW.TrodAll enc Try.prog W 0 (fun _ => true) true Try.f9.params.toList args.toList ds p := hA0
  have hA1 := hA
  rw [Try.params9] at hA hA1 hval hsz
  obtain ⟨v0, v1, v2, d0, d1, d2, p0, p1, p2, rfl, rfl, rfl, h0, h1, h2⟩ := trodAll_three hA
  obtain ⟨rfl, rfl⟩ := trodVars_none hV
  simp only [List.append_nil] at hW'
  obtain ⟨z0, rfl, rfl, rfl, wz0⟩ := open_int Try.underlying22 (hval 0 22 v0 rfl rfl) h0
  have bz0 := bounds_u32 wz0
  obtain ⟨x0, rfl⟩ := Int.eq_ofNat_of_zero_le bz0.1
  obtain ⟨z1, rfl, rfl, rfl, wz1⟩ := open_int Try.underlying5 (hval 1 5 v1 rfl rfl) h1
  have bz1 := bounds_u8 wz1
  obtain ⟨x1, rfl⟩ := Int.eq_ofNat_of_zero_le bz1.1
  obtain ⟨z2, rfl, rfl, rfl, wz2⟩ := open_int Try.underlying5 (hval 2 5 v2 rfl rfl) h2
  have bz2 := bounds_u8 wz2
  obtain ⟨x2, rfl⟩ := Int.eq_ofNat_of_zero_le bz2.1
  refine (walk x0 (by omega) x1 (by omega) x2 (by omega) W).mono fun e W' ⟨he, hb⟩ => ?_
  subst he
  exact ⟨_, rfl, post_of_below (pv := []) hW' (fun _ _ _ => trodAll_mk1 (shut_bool Try.underlying4 _)) (fun sp _ => args_stay laidOut hb _ _ _ _ (by simp [ok5, ok22]) hA1 (fun x hx => by simp at hx) (fun x hx => by simp at hx)) (fun _ _ => rfl) (by simp)
    hb (ok_one (by kernel_rfl) rfl (okWide_bool_mk Try.underlying4 _))⟩

theorem holds : Rows.CheckTablesSaid :=
  OpenClaim.holds_of_wide 9 Try.f9 rfl rfl rfl rfl rfl rfl rfl ⟨rfl, rfl, rfl, rfl, rfl⟩ rfl rfl rfl rfl rfl (by kernel_rfl) Try.func9 (by kernel_rfl)
    (of_decide_eq_true (by kernel_rfl)) (by unfold Func.isWrapper; first | (rw [if_pos (by decide +kernel)]; kernel_rfl) | (rw [if_neg (by decide +kernel)]; exact ⟨rfl, rfl⟩))
    (fun os started H enc _ => lifted os started H enc)
#print axioms holds
end Go.Proofs.Ytflolmldildjhaa.lawCheckTables
