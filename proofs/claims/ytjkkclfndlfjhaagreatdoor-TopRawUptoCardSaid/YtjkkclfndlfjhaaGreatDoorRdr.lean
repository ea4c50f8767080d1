/- Contracts of pack's Reader: it reads numbers, bytes and texts as long as there are some. -/
import Derived.Test.YtjkkclfndlfjhaaGreatDoorMem
import Derived.Deep.RegionLaw
import Derived.Deep.DeepCutAuto
import Derived.Deep.CutRange
import Derived.Laws.IdiomStrings
set_option linter.all false
namespace Go.Proofs.YtjkkclfndlfjhaaGreatDoor
open Go.RowKit Crc Frm Go.ChangeShapes Go.WideShapes Go.ChangeAt

theorem Fr.set (W : World) (g j : Nat) (u : Value) : Fr (· = g) W (W.setCell ⟨g, j, none⟩ u) := (Fr.ofGrown (grown_set W g j u)).mono fun _ _ e => Option.some.inj e

/-- What take leaves. -/
def Took (g : Nat) (R : Rs) (n : Int) (W : World) (e : Ending) (W' : World) : Prop :=
  ∃ u, e = .returned u ∧ IsBytes W' u (R.take n).1 ∧ (0 < (R.take n).1.length → ∀ b, u.ownBlock = some b → b < g) ∧ Rd W' g (R.take n).2 ∧ Fr (· = g) W W'

set_option maxRecDepth 100000 in
set_option maxHeartbeats 800000 in
theorem take_any (g : Nat) (R : Rs) (n : Int) (hl : R.rest.length ≤ 1000000000) (W : World) (h : Rd W g R) :
    Calls Tryz.prog 104 #[.pointer (some ⟨g, 0, none⟩), .int .i64 n] W (Took g R n W) := by
  obtain ⟨v, hh, hb, hne⟩ := h
  have hlt := hh.lt
  have c0 : W.cell? ⟨g, 0, none⟩ = some v := hh.cell 0
  have c1 : W.cell? ⟨g, 1, none⟩ = some (.bool R.bad) := hh.cell 1
  have f0 := hh.frozen 0
  have f1 := hh.frozen 1
  have HH := Lib.hid hh
  have HB := Lib.hid hb
  have HN := Lib.hid hne
  have bad : R.bad = true ∨ n < 0 ∨ (R.rest.length : Int) < n → R.take n = ([], ⟨R.rest, true⟩) := fun h => by
    unfold Rs.take
    rw [if_pos]
    simp only [Bool.or_eq_true, decide_eq_true_eq]
    rcases h with h | h | h
    · exact .inl (.inl h)
    · exact .inl (.inr h)
    · exact .inr h
  have left : R.take n = ([], ⟨R.rest, true⟩) → Took g R n W (.returned (.slice none 0 0)) (W.setCell ⟨g, 1, none⟩ (.bool true)) := fun e => by
    unfold Took
    rw [e]
    refine ⟨_, rfl, ⟨none, 0, rfl, by simp, by decide, fun h => by simp at h⟩, fun h => by simp at h, ⟨v, by simpa using HH.out.set 1 (.bool true), HB.out.grown (grown_set W g 1 _) (fun hp e => absurd (HN.out hp g e) (Nat.lt_irrefl g)), HN.out⟩, Fr.set W g 1 _⟩
  have LEFT := Lib.hid left
  have BAD := Lib.hid bad
  clear left bad
  obtain ⟨A, cap, rfl, hlc, hcm, -⟩ := hb
  clear hh hne
  by_cases hbad : R.bad = true
  · rw [hbad] at c1
    have h := LEFT.out (BAD.out (.inl hbad))
    have HX := Lib.hid h
    clear h
    go_enter Tryz.func104, Tryz.ntmps104
    go_wp2
    go_ret
    exact HX.out
  have hb' : R.bad = false := by simpa using hbad
  rw [hb'] at c1
  by_cases hneg : n < 0
  · have h := LEFT.out (BAD.out (.inr (.inl hneg)))
    have HX := Lib.hid h
    clear h
    go_enter Tryz.func104, Tryz.ntmps104
    go_wp2
    go_ret
    exact HX.out
  by_cases hbig : (R.rest.length : Int) < n
  · have h := LEFT.out (BAD.out (.inr (.inr hbig)))
    have HX := Lib.hid h
    clear h
    go_enter Tryz.func104, Tryz.ntmps104
    go_wp2
    go_ret
    exact HX.out
  obtain ⟨k, rfl⟩ := Int.eq_ofNat_of_zero_le (Int.not_lt.1 hneg)
  have hk : k ≤ R.rest.length := by omega
  have htake : R.take (k : Int) = (R.rest.take k, ⟨R.rest.drop k, false⟩) := by
    unfold Rs.take
    rw [if_neg (by simp [hb']; omega)]
    rfl
  obtain ⟨u1, r1, b1, o1⟩ := part_run _ _ W HB.out k hk
  obtain ⟨u2, r2, b2, o2⟩ := drop_run _ _ W HB.out k hk
  have hW : Took g R (k : Int) W (.returned u1) ((W.setCell ⟨g, 1, none⟩ (.bool false)).setCell ⟨g, 0, none⟩ u2) := by
    unfold Took
    rw [htake]
    have hp : ∀ {xs : List UInt8} {u : Value}, xs.length ≤ R.rest.length → u.ownBlock = (Value.slice A R.rest.length cap).ownBlock → 0 < xs.length → ∀ b, u.ownBlock = some b → b < g := fun hx ho h b e => HN.out (by omega) b (by rw [← ho]; exact e)
    have ne : ∀ {xs : List UInt8} {u : Value}, (0 < xs.length → ∀ b, u.ownBlock = some b → b < g) → 0 < xs.length → u.ownBlock ≠ some g := fun h hp e => absurd (h hp g e) (Nat.lt_irrefl g)
    have h1 := hp (xs := R.rest.take k) (by rw [List.length_take]; omega) o1
    have h2 := hp (xs := R.rest.drop k) (by rw [List.length_drop]; omega) o2
    refine ⟨u1, rfl, (b1.grown (grown_set W g 1 _) (ne h1)).grown (grown_set _ g 0 _) (ne h1), h1, ⟨u2, ?_, (b2.grown (grown_set W g 1 _) (ne h2)).grown (grown_set _ g 0 _) (ne h2), h2⟩, (Fr.set W g 1 _).trans (Fr.set _ g 0 _) fun _ _ h => h⟩
    simpa using (HH.out.set 1 (.bool false)).set 0 u2
  obtain ⟨A2, cap2, rfl, -⟩ := b2
  rw [List.length_drop] at hW r2
  have HX := Lib.hid hW
  clear hW b1 o1 o2 htake
  go_enter Tryz.func104, Tryz.ntmps104
  go_wp2
  go_ret
  exact HX.out

/-- OF: a Reader in new memory. -/
theorem rof_any (v : Value) (bs : List UInt8) (W : World) (hv : IsBytes W v bs) :
    Calls Tryz.prog 50 #[v] W fun e W' => e = .returned (.pointer (some ⟨W.heap.size, 0, none⟩)) ∧ Rd W' W.heap.size ⟨bs, false⟩ ∧ Below W.heap.size W W' := by
  have HV := Lib.hid hv
  obtain ⟨A, cap, rfl, hlc, hcm, -⟩ := hv
  go_enter Tryz.func50, Tryz.ntmps50
  go_wp2
  go_ret
  refine ⟨rfl, ⟨_, Has.new W 231 _, HV.out.below ((Below.refl _ W).alloc (Nat.le_refl _) _), fun hp b e => ?_⟩, (Below.refl _ W).alloc (Nat.le_refl _) _⟩
  obtain ⟨b', h1, h2⟩ := HV.out.block hp
  rw [h1] at e
  cases e
  exact h2

theorem rbad_any (g : Nat) (R : Rs) (W : World) (h : Rd W g R) : Calls Tryz.prog 61 #[.pointer (some ⟨g, 0, none⟩)] W fun e W' => e = .returned (.bool R.bad) ∧ W' = W := by
  obtain ⟨v, hh, hb, hne⟩ := h
  have c1 : W.cell? ⟨g, 1, none⟩ = some (.bool R.bad) := hh.cell 1
  clear hh hb hne
  go_enter Tryz.func61, Tryz.ntmps61
  go_wp2
  go_ret
  exact ⟨rfl, rfl⟩

theorem rdone_any (g : Nat) (R : Rs) (W : World) (h : Rd W g R) : Calls Tryz.prog 53 #[.pointer (some ⟨g, 0, none⟩)] W fun e W' => e = .returned (.bool (!R.bad && decide (R.rest.length = 0))) ∧ W' = W := by
  obtain ⟨v, hh, hb, hne⟩ := h
  have c0 : W.cell? ⟨g, 0, none⟩ = some v := hh.cell 0
  have c1 : W.cell? ⟨g, 1, none⟩ = some (.bool R.bad) := hh.cell 1
  obtain ⟨A, cap, rfl, hlc, hcm, -⟩ := hb
  clear hh hne
  cases hbad : R.bad with
  | true =>
    rw [hbad] at c1
    go_enter Tryz.func53, Tryz.ntmps53
    go_wp2
    go_ret
    exact ⟨rfl, rfl⟩
  | false =>
    rw [hbad] at c1
    by_cases h0 : R.rest.length = 0
    · rw [h0] at c0
      go_enter Tryz.func53, Tryz.ntmps53
      go_wp2
      go_ret
      exact ⟨by simp [h0], rfl⟩
    · have h1 : ((R.rest.length : Int) == 0) = false := by simp; intro e; rw [e] at h0; simp at h0
      go_enter Tryz.func53, Tryz.ntmps53
      go_wp2
      go_ret
      exact ⟨by simp [h0], rfl⟩
theorem or_step (n : Int) (c : UInt8) : bits .or .i64 (wrap64 (n * 256)) (wrap64 (c.toNat : Int)) = numStep n c := by
  have hc := c.toNat_lt
  have hw : wrap64 (c.toNat : Int) = (c.toNat : Int) := by unfold wrap64; omega
  rw [hw]
  show IntKind.i64.wrap (((BitVec.ofInt 64 (wrap64 (n * 256)) ||| BitVec.ofInt 64 (c.toNat : Int)).toNat : Nat) : Int) = IntKind.i64.wrap (n * 256 + (c.toNat : Int))
  rw [BitVec.toNat_or, BitVec.toNat_ofInt, BitVec.toNat_ofInt]
  obtain ⟨m, hm⟩ : ∃ m : Nat, (m : Int) = n % 72057594037927936 := ⟨(n % 72057594037927936).toNat, by omega⟩
  have e1 : (wrap64 (n * 256) % ((2 ^ 64 : Nat) : Int)).toNat = 2 ^ 8 * m := by
    unfold wrap64
    simp only [Nat.reducePow]
    omega
  have e2 : ((c.toNat : Int) % ((2 ^ 64 : Nat) : Int)).toNat = c.toNat := by
    simp only [Nat.reducePow]
    omega
  rw [e1, e2, ← Nat.two_pow_add_eq_or_of_lt hc, IntKind.wrap_i64, IntKind.wrap_i64]
  simp only [Nat.reducePow]
  omega

set_option maxRecDepth 100000 in
set_option maxHeartbeats 800000 in
theorem rnum_any (g : Nat) (R : Rs) (hl : R.rest.length ≤ 1000000000) (W : World) (h : Rd W g R) :
    Calls Tryz.prog 51 #[.pointer (some ⟨g, 0, none⟩)] W fun e W' => e = .returned (.int .i64 R.num.1) ∧ Rd W' g R.num.2 ∧ Fr (· = g) W W' := by
  have H := Lib.hid h
  clear h
  go_enter Tryz.func51, Tryz.ntmps51
  go_wp2_with fail
  refine (take_any g R 8 hl _ H.out).mono ?_
  rintro e w1 ⟨u, rfl, hb, -, hr, hf⟩
  have HB := Lib.hid hb
  have HR := Lib.hid hr
  have HF := Lib.hid hf
  have hnum : numOf (R.take 8).1 = R.num.1 := rfl
  have HNUM := Lib.hid hnum
  have hrr : (R.take 8).2 = R.num.2 := rfl
  have hl8 : (R.take 8).1.length ≤ 1000000000 := Nat.le_trans (R.take_out 8) hl
  rw [hrr] at HR
  generalize (R.take 8).1 = bs at HB HNUM hl8 hb
  obtain ⟨A, cap, rfl, hlc, hcm, hcell⟩ := hb
  have HC := Lib.hid hcell
  clear hr hf hnum hrr hcell
  go_wp2
  go_loopw [3, 9] (fun s i wr => ∃ j : Nat, j ≤ bs.length ∧ i = .int .i64 (j : Int) ∧ s = .int .i64 (numOf (bs.take j)) ∧ Below w1.heap.size w1 wr) (fun _ i _ => bs.length - (intOf i).toNat)
  case atStart => exact ⟨0, by omega, rfl, rfl, Below.refl _ _⟩
  case round =>
    obtain ⟨j, hj, rfl, rfl, hbr⟩ := hrel
    by_cases hjl : j < bs.length
    · obtain ⟨c, hc⟩ : ∃ c, bs[j]? = some c := ⟨_, List.getElem?_eq_getElem hjl⟩
      obtain ⟨b, off, rfl, hcell⟩ := HC.out (by omega)
      have hcj := (hbr.cell (p := ⟨b, off + j, none⟩) (cell_lt (hcell j c hc))).trans (hcell j c hc)
      have HBR := Lib.hid hbr
      clear hbr hcell
      go_wp2
      go_roundw
      case rel => exact ⟨j + 1, by omega, rfl, by rw [or_step, List.take_add_one, hc]; simp [numOf, List.foldl_append], HBR.out⟩
      case measure => simp [intOf]; omega
    · obtain rfl : j = bs.length := by omega
      have HBR := Lib.hid hbr
      clear hbr
      go_wp2
      go_ret
      exact ⟨by rw [List.take_length, HNUM.out]; rfl, HR.out.kept HBR.out, HF.out.below HBR.out HF.out.size⟩

set_option maxRecDepth 100000 in
set_option maxHeartbeats 800000 in
theorem rbyte_any (g : Nat) (R : Rs) (hl : R.rest.length ≤ 1000000000) (W : World) (h : Rd W g R) :
    Calls Tryz.prog 63 #[.pointer (some ⟨g, 0, none⟩)] W fun e W' => e = .returned (.int .u8 (R.byte.1.toNat : Int)) ∧ Rd W' g R.byte.2 ∧ Fr (· = g) W W' := by
  have H := Lib.hid h
  clear h
  go_enter Tryz.func63, Tryz.ntmps63
  go_wp2_with fail
  refine (take_any g R 1 hl _ H.out).mono ?_
  rintro e w1 ⟨u, rfl, hb, -, hr, hf⟩
  have HR := Lib.hid hr
  have HF := Lib.hid hf
  have hnum : (R.take 1).1.headD 0 = R.byte.1 := rfl
  have HNUM := Lib.hid hnum
  have hrr : (R.take 1).2 = R.byte.2 := rfl
  have hl8 : (R.take 1).1.length ≤ 1000000000 := Nat.le_trans (R.take_out 1) hl
  rw [hrr] at HR
  generalize (R.take 1).1 = bs at HNUM hl8 hb
  obtain ⟨A, cap, rfl, hlc, hcm, hcell⟩ := hb
  have HC := Lib.hid hcell
  clear hr hf hnum hrr hcell
  go_wp2
  go_loopw [8] (fun i wr => i = .int .i64 0 ∧ wr = w1) (fun _ _ => 0)
  case atStart => exact ⟨rfl, rfl⟩
  case round =>
    obtain ⟨rfl, rfl⟩ := hrel
    cases bs with
    | nil =>
      go_wp2
      go_ret
      exact ⟨by rw [← HNUM.out]; rfl, HR.out, HF.out⟩
    | cons c cs =>
      obtain ⟨b, off, rfl, hcell⟩ := HC.out (by simp)
      have hcj := hcell 0 c rfl
      rw [Nat.add_zero] at hcj
      clear hcell
      go_wp2
      go_ret
      exact ⟨by rw [← HNUM.out]; rfl, HR.out, HF.out⟩
theorem convert_bytes {w : World} {u : Value} {bs : List UInt8} (h : IsBytes w u bs) : (convert 72 9 u).run Tryz.prog w = .ok (.string ⟨bs.toArray⟩) w := by
  obtain ⟨A, cap, rfl, -, -, hr⟩ := h
  cases A with
  | none =>
    have : bs = [] := by
      cases bs with
      | nil => rfl
      | cons c cs => obtain ⟨b, off, h, _⟩ := hr (by simp); cases h
    subst this
    rw [run_convert_bytes_string w 72 9 5 none _ cap Tryz.underlying72 Tryz.underlying5 Tryz.underlying9]
    rfl
  | some a =>
    refine run_convert_bytes_back w 72 9 5 a cap bs Tryz.underlying72 Tryz.underlying5 Tryz.underlying9 fun j hj => ?_
    obtain ⟨b, off, h, hc⟩ := hr (by omega)
    cases h
    rw [add_plain]
    exact hc j _ (List.getElem?_eq_getElem hj)

set_option maxRecDepth 100000 in
set_option maxHeartbeats 800000 in
theorem rtext_any (g : Nat) (R : Rs) (hl : R.rest.length ≤ 1000000000) (W : World) (h : Rd W g R) :
    Calls Tryz.prog 62 #[.pointer (some ⟨g, 0, none⟩)] W fun e W' => e = .returned (.string R.text.1) ∧ Rd W' g R.text.2 ∧ Fr (· = g) W W' := by
  have H := Lib.hid h
  clear h
  go_enter Tryz.func62, Tryz.ntmps62
  go_wp2_with fail
  refine (rnum_any g R hl _ H.out).mono ?_
  rintro e w1 ⟨rfl, hr, hf⟩
  have HR := Lib.hid hr
  have HF := Lib.hid hf
  clear hr hf
  go_wp2_with fail
  refine (take_any g R.num.2 R.num.1 (Nat.le_trans R.num_len hl) _ HR.out).mono ?_
  rintro e w2 ⟨u, rfl, hb, -, hr, hf⟩
  have hcv := convert_bytes hb
  have HR2 := Lib.hid (show Rd w2 g R.text.2 from hr)
  have HF2 := Lib.hid (HF.out.trans hf fun _ _ h => h)
  rw [show (⟨(R.num.2.take R.num.1).1.toArray⟩ : ByteArray) = R.text.1 from rfl] at hcv
  obtain ⟨A, cap, rfl, -⟩ := hb
  clear hr hf
  go_wp2
  go_ret
  exact ⟨rfl, HR2.out, HF2.out⟩
end Go.Proofs.YtjkkclfndlfjhaaGreatDoor
