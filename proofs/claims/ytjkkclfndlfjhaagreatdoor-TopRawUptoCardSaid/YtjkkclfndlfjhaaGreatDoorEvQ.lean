/- The quiet operations: what the evaluator tells of one is what the model's run gives. -/
import Derived.Test.YtjkkclfndlfjhaaGreatDoorEvR
import Derived.Laws.Strings
import Derived.Laws.IdiomStrings
set_option linter.all false
set_option linter.unusedSimpArgs false
namespace Go.Proofs.YtjkkclfndlfjhaaGreatDoor.Ev
open Go Go.RowKit

-- TYPES

/-- A type's shape is what the program has. -/
def ShOk (P : Program) (d : TypeDesc) : Sh → Prop
  | .int k => d = .int k
  | .bool => d = .bool
  | .str => d = .string
  | .ptr => ∃ e, d = .pointer e
  | .func => ∃ a b c, d = .func a b c
  | .slc e => d = .slice e
  | .arr n e => d = .array n e
  | .map k e => d = .map k e
  | .st fs => ∃ F : List Field, d = .struct F.toArray ∧ F.map (fun f => (f.type, f.offset)) = fs ∧ ∀ f ∈ F, P.cellsOf f.type ≠ 0
  | .other => False
def aggOf (d : TypeDesc) : Bool := match d with
  | .struct _ => true
  | .array .. => true
  | _ => false
structure TyOk (P : Program) (t : Nat) (i : TI) : Prop where
  zlen : i.zero.length = i.size
  info : ∃ inf z, P.info? t = some inf ∧ inf.size = i.size ∧ inf.bytes = i.bytes ∧ inf.zero = some z ∧ (∀ g, F2 (RC g) i.zero z.cells.toList) ∧ (i.agg = true → ∃ L : List Value, z = .agg L.toArray) ∧ (i.agg = false → z.cells = #[z])
  und : ∃ d, P.underlying t = some d ∧ ShOk P d i.sh

variable {P : Program} {ty : Nat → Option TI}
def TyAll (P : Program) (ty : Nat → Option TI) : Prop := ∀ t i, ty t = some i → TyOk P t i

theorem TyOk.run_size {t : Nat} {i : TI} (h : TyOk P t i) (w : World) : (sizeOf t).run P w = .ok i.size w := by
  obtain ⟨inf, z, h1, h2, _⟩ := h.info
  rw [run_sizeOf w h1, ← h2]
  simp [Program.cellsOf, h1]
theorem TyOk.cells {t : Nat} {i : TI} (h : TyOk P t i) : P.cellsOf t = i.size := by
  obtain ⟨inf, z, h1, h2, _⟩ := h.info
  simp [Program.cellsOf, h1, h2]
theorem TyOk.agg {t : Nat} {i : TI} (h : TyOk P t i) (w : World) : (isAgg t).run P w = .ok i.agg w := by
  obtain ⟨d, hd, hs⟩ := h.und
  unfold isAgg TI.agg
  simp only [Sem.run_bind, run_underlying hd, Result.andThen_ok]
  cases hsh : i.sh <;> rw [hsh] at hs <;> simp only [ShOk] at hs
  case ptr => obtain ⟨_, rfl⟩ := hs; rfl
  case func => obtain ⟨_, _, _, rfl⟩ := hs; rfl
  case st => obtain ⟨F, rfl, _⟩ := hs; rfl
  all_goals subst hs; rfl
theorem TyOk.run_zero {t : Nat} {i : TI} (h : TyOk P t i) (w : World) : ∃ z, (zeroValue t).run P w = .ok z w ∧ (∀ g, F2 (RC g) i.zero z.cells.toList) ∧ (i.agg = true → ∃ L : List Value, z = .agg L.toArray) ∧ (i.agg = false → z.cells = #[z]) := by
  obtain ⟨inf, z, h1, _, _, h4, h5, h6, h7⟩ := h.info
  refine ⟨z, ?_, h5, h6, h7⟩
  simp [zeroValue, run_typeInfo w h1, h4]

-- WHAT IS READ

theorem add_plain {a : Addr} (h : a.spot = none) (j : Nat) : a.add j = ⟨a.block, a.off + j, none⟩ := by
  obtain ⟨b, o, s⟩ := a
  cases h
  unfold Addr.add
  split <;> simp_all
theorem cell_of {w : World} {B : Nat} {C : List Value} {el : TypeId} {fr : Nat × Nat} (h : w.heap[B]? = some (.cells C.toArray el fr)) (o : Nat) : w.cell? ⟨B, o, none⟩ = C[o]? := by
  simp [World.cell?, h]

theorem asV_some {agg : Bool} {l : List CV} {v : AV} (h : asV agg l = some v) : (agg = true ∧ v = .g l) ∨ (agg = false ∧ ∃ c, l = [c] ∧ v = .c c) := by
  unfold asV at h
  split at h
  · cases h; exact .inl ⟨rfl, rfl⟩
  · split at h
    · cases h; exact .inr ⟨rfl, _, rfl, rfl⟩
    · cases h

/-- These cells lie there. -/
def Lies (g : Gh) (w : World) (a : Addr) (cs : List CV) : Prop := ∃ L : List Value, F2 (RC g) cs L ∧ ∀ (j : Nat) (V : Value), L[j]? = some V → w.cell? (a.add j) = some V

theorem F2.of_cut {g : Gh} {cs : List CV} {C : List Value} {off o n : Nat} (hn : off + n ≤ cs.length) (hC : o + n ≤ C.length)
    (h : ∀ i v, off ≤ i → i < off + n → cs[i]? = some v → ∃ V, C[o + (i - off)]? = some V ∧ RC g v V) : F2 (RC g) ((cs.drop off).take n) ((C.drop o).take n) := by
  refine F2.of_get (by simp; omega) fun i a hi => ?_
  rw [List.getElem?_take] at hi ⊢
  split at hi
  · rename_i hlt
    rw [if_pos hlt]
    rw [List.getElem?_drop] at hi ⊢
    obtain ⟨V, hV, hr⟩ := h (off + i) a (by omega) (by omega) hi
    rw [show o + (off + i - off) = o + i by omega] at hV
    exact ⟨V, hV, hr⟩
  · cases hi

theorem HS.lies_row {g : Gh} {H : Tr AB} {w : World} (hs : HS g H w) {b off n : Nat} {r : List CV} (hr : readRow H b off n = some r) {a : Addr} (ha : PtrR g b off a) : Lies g w a r ∧ r.length = n := by
  unfold readRow at hr
  split at hr
  · rename_i cs hH
    obtain ⟨h1, rfl⟩ := cut_some hr
    obtain ⟨B, O, hB, hO, C, el, rfl, hF⟩ := hs b _ hH
    obtain ⟨hsp, hv, ho⟩ := ha
    rw [hB] at hv; cases hv
    refine ⟨⟨(C.drop off).take n, (hF.drop off).take n, fun j V hj => ?_⟩, by simp; omega⟩
    rw [add_plain hsp, cell_of hO]
    rw [List.getElem?_take] at hj
    split at hj
    · rw [List.getElem?_drop, ← ho] at hj; exact hj
    · cases hj
  · cases hr

/-- Cells of a version of an array. -/
theorem ArrOk.lies {g : Gh} {w : World} {cs r : List CV} {B : Nat} {A : Arr} (h : ArrOk g w cs B A) {off n : Nat} (hc : cut cs off n = some r) {a : Addr} (hsp : a.spot = none) (hB : a.block = B) (ho : off = A.a0 + a.off) (hn : off + n ≤ A.h) : Lies g w a r ∧ r.length = n := by
  obtain ⟨h1, rfl⟩ := cut_some hc
  obtain ⟨hA, C, el, hO, hC, hsz, hcell⟩ := h
  subst hB
  refine ⟨⟨(C.drop a.off).take n, F2.of_cut h1 (by omega) fun i v hi hi2 hv => ?_, fun j V hj => ?_⟩, by simp; omega⟩
  · obtain ⟨V, hV, hr⟩ := hcell i v (by omega) (by omega) hv
    rw [show a.off + (i - off) = i - A.a0 by omega]
    exact ⟨V, hV, hr⟩
  · rw [add_plain hsp, cell_of hO]
    rw [List.getElem?_take] at hj
    split at hj
    · rw [List.getElem?_drop] at hj; exact hj
    · cases hj

theorem HS.lies_el {g : Gh} {H : Tr AB} {w : World} (hs : HS g H w) {b off lim n : Nat} {r : List CV} (hr : readSl H b off n = some r) (hn : off + n ≤ lim) {a : Addr} (ha : ElR g b off lim a) : Lies g w a r ∧ r.length = n := by
  unfold readSl at hr
  split at hr
  · rename_i e cs hH
    obtain ⟨hv, hall⟩ := hs b _ hH
    obtain ⟨hsp, A, hA, hb, ho, hlim⟩ := ha
    exact (hall _ _ hA hb).2.lies hr hsp rfl ho (by omega)
  · cases hr
theorem HS.lies_p {g : Gh} {H : Tr AB} {w : World} (hs : HS g H w) {n : Nat} {p : CV} {r : List CV} (hr : readP H n p = some r) {v : Value} (hp : RC g p v) : ∃ a, v = .pointer (some a) ∧ Lies g w a r ∧ r.length = n := by
  cases p <;> simp only [readP] at hr <;> try cases hr
  · obtain ⟨a, e, ha⟩ := hp
    exact ⟨a, e, hs.lies_row hr ha⟩
  · obtain ⟨a, e, ha⟩ := hp
    obtain ⟨h1, h2⟩ := sel_true hr
    exact ⟨a, e, hs.lies_el h2 (Nat.le_of_ble_eq_true h1) ha⟩

theorem HS.lies_sl {g : Gh} {H : Tr AB} {w : World} (hs : HS g H w) {b off len esz cap : Nat} {clip : Bool} {r : List CV} (hr : readSl H b off (len * esz) = some r) {a : Addr} (ha : SlR g b off len esz clip a cap) : Lies g w a r ∧ r.length = len * esz := by
  unfold readSl at hr
  split at hr
  · rename_i e cs hH
    obtain ⟨hsp, hlc, _, hp⟩ := ha
    obtain ⟨hv, hall⟩ := hs b _ hH
    rcases hp with h0 | ⟨A, hA, hb, _, ho, hle, _⟩
    · have : len = 0 := by omega
      subst this
      rw [Nat.zero_mul] at hr ⊢
      obtain ⟨_, rfl⟩ := cut_some hr
      rw [List.take_zero]
      exact ⟨⟨[], .nil, fun j V h => by simp at h⟩, rfl⟩
    · exact (hall _ _ hA hb).2.lies hr hsp rfl ho hle
  · cases hr

-- THE RUNS

theorem Lies.load {g : Gh} {w : World} {a : Addr} {cs : List CV} (h : Lies g w a cs) : ∃ L : List Value, (loadCells a cs.length).run P w = .ok L.toArray w ∧ F2 (RC g) cs L := by
  obtain ⟨L, hF, hc⟩ := h
  refine ⟨L, ?_, hF⟩
  rw [hF.length]
  exact run_loadCells_list w a L hc

theorem run_loadVar_sim {g : Gh} {w : World} {a : Addr} {cs : List CV} {t : Nat} {i : TI} (hi : TyOk P t i) (h : Lies g w a cs) (hn : cs.length = i.size) {v : AV} (hv : asV i.agg cs = some v) : ∃ V, (loadVar t a).run P w = .ok V w ∧ RA g v V := by
  rcases asV_some hv with ⟨hg, rfl⟩ | ⟨hg, c, rfl, rfl⟩
  · obtain ⟨L, hl, hF⟩ := h.load (P := P)
    refine ⟨.agg L.toArray, ?_, L, rfl, hF⟩
    simp only [loadVar, Sem.run_bind, hi.agg, hg, Result.andThen_ok, if_true, hi.run_size]
    rw [← hn, hl]
    rfl
  · obtain ⟨L, hF, hc⟩ := h
    cases hF with
    | cons hr ht =>
      cases ht
      rename_i V
      refine ⟨V, ?_, hr⟩
      have := hc 0 V rfl
      rw [show a.add 0 = a by simp [Addr.add]] at this
      simp [loadVar, hi.agg, hg, run_load, this]

section ops
variable {g : Gh} {t : Tm} {ρ : Operand → Value} {w : World} {H : Tr AB}

theorem qLoad_sound (hty : TyAll P ty) (hs : HS g H w) {ti : Nat} {a : Operand} (ho : OpR g t ρ a) {v : TV} (h : qLoad ty t H ti a = some v) :
    ∃ V, (Instr.loadAt ti (ρ a)).run P w = .ok V w ∧ RT g v V := by
  obtain ⟨i, hi, h⟩ := bnd_some h
  obtain ⟨p, hp, h⟩ := bnd_some h
  obtain ⟨cs, hcs, h⟩ := bnd_some h
  obtain ⟨u, hu, h⟩ := bnd_some h
  cases h
  obtain ⟨ad, he, hl, hn⟩ := hs.lies_p hcs (ho.c hp)
  obtain ⟨V, hV, hr⟩ := run_loadVar_sim (hty _ _ hi) hl hn hu
  exact ⟨V, by simp [Instr.loadAt, Instr.sureAddr, he, hV], hr⟩

theorem qPick_sound {c a b : Operand} (hc : OpR g t ρ c) (ha : OpR g t ρ a) (hb : OpR g t ρ b) {v : TV} (h : qPick t c a b = some v) :
    ∃ x, ρ c = .bool x ∧ RT g v (if x then ρ a else ρ b) := by
  unfold qPick at h
  split at h
  · rename_i hx; exact ⟨true, hc.c hx, ha v h⟩
  · rename_i hx; exact ⟨false, hc.c hx, hb v h⟩
  · cases h

theorem wrapA_eq (k : IntKind) (n : Int) : wrapA k n = k.wrap n := by
  unfold wrapA
  split
  · rename_i x
    split
    · rename_i hx
      have := blt_true hx
      unfold IntKind.wrap
      simp [IntKind.bits, IntKind.signed]
      omega
    · rfl
  · rfl
theorem intEq_eq (x y : Int) : intEq x y = (x == y) := by
  rw [Bool.eq_iff_iff, beq_iff_eq]
  cases x with
  | ofNat a => cases y with
    | ofNat b => show Nat.beq a b = true ↔ _; rw [Nat.beq_eq]; exact ⟨fun h => by rw [h], fun h => Int.ofNat.inj h⟩
    | negSucc b => exact ⟨fun h => (by cases h), fun h => (by cases h)⟩
  | negSucc a => cases y with
    | ofNat b => exact ⟨fun h => (by cases h), fun h => (by cases h)⟩
    | negSucc b => show Nat.beq a b = true ↔ _; rw [Nat.beq_eq]; exact ⟨fun h => by rw [h], fun h => Int.negSucc.inj h⟩
theorem leI_eq (x y : Int) : leI x y = decide (x ≤ y) := by
  rw [Bool.eq_iff_iff, decide_eq_true_iff]
  cases x with
  | ofNat a => cases y with
    | ofNat b => show Nat.ble a b = true ↔ (a : Int) ≤ (b : Int); rw [Nat.ble_eq]; omega
    | negSucc b => show false = true ↔ (a : Int) ≤ Int.negSucc b; rw [Int.negSucc_eq]; simp; omega
  | negSucc a => cases y with
    | ofNat b => show true = true ↔ Int.negSucc a ≤ (b : Int); rw [Int.negSucc_eq]; simp; omega
    | negSucc b => show Nat.ble b a = true ↔ Int.negSucc a ≤ Int.negSucc b; rw [Nat.ble_eq, Int.negSucc_eq, Int.negSucc_eq]; omega
theorem ltI_eq (x y : Int) : ltI x y = decide (x < y) := by
  unfold ltI
  rw [leI_eq]
  by_cases h : y ≤ x
  · simp [h]
  · simp [h]; omega

theorem intBin_sound {op : BinOp} {k : IntKind} {x y : Int} {v : CV} (h : intBin op k x y = some v) (ti : TypeId) : ∃ V, (binOp op ti (.int k x) (.int k y)).run P w = .ok V w ∧ RC g v V := by
  cases op <;> simp only [intBin] at h <;> first | cases h | skip
  case add => exact ⟨_, by simp [binOp, Op.intArith]; rfl, by simp [RC, wrapA_eq] <;> rfl⟩
  case sub => exact ⟨_, by simp [binOp, Op.intArith]; rfl, by simp [RC, wrapA_eq] <;> rfl⟩
  case mul => exact ⟨_, by simp [binOp, Op.intArith]; rfl, by simp [RC, wrapA_eq] <;> rfl⟩
  case quo =>
    unfold divA at h
    split at h
    · cases h
    · rename_i hy; cases h
      have : y ≠ 0 := fun e => hy (by subst e; rfl)
      exact ⟨_, by simp [binOp, Op.intDiv, this]; rfl, by simp [RC, wrapA_eq]⟩
  case rem =>
    unfold remA at h
    split at h
    · cases h
    · rename_i hy; cases h
      have : y ≠ 0 := fun e => hy (by subst e; rfl)
      exact ⟨_, by simp [binOp, Op.intDiv, this]; rfl, by simp [RC]⟩
  case and => exact ⟨_, by simp [binOp, Op.intBits]; rfl, by simp [RC, andA]⟩
  case or => exact ⟨_, by simp [binOp, Op.intBits]; rfl, by simp [RC, orA]⟩
  case xor => exact ⟨_, by simp [binOp, Op.intBits]; rfl, by simp [RC, xorA]⟩
  case eql => exact ⟨_, by simp [binOp, Op.intCmp]; rfl, by simp [RC, intEq_eq]⟩
  case neq => exact ⟨_, by simp [binOp, Op.intCmp]; rfl, by simp [RC, intEq_eq, bne]⟩
  case lss => exact ⟨_, by simp [binOp, Op.intCmp]; rfl, by simp [RC, ltI_eq]⟩
  case leq => exact ⟨_, by simp [binOp, Op.intCmp]; rfl, by simp [RC, leI_eq]⟩
  case gtr => exact ⟨_, by simp [binOp, Op.intCmp]; rfl, by simp [RC, ltI_eq]⟩
  case geq => exact ⟨_, by simp [binOp, Op.intCmp]; rfl, by simp [RC, leI_eq]⟩

theorem intPair_sound {op : BinOp} {k k' : IntKind} {x y : Int} {v : CV} (h : intPair op k k' x y = some v) (ti : TypeId) : ∃ V, (binOp op ti (.int k x) (.int k' y)).run P w = .ok V w ∧ RC g v V := by
  have other : ∀ op, sel (decide (k = k')) (intBin op k x y) none = some v → ∃ V, (binOp op ti (.int k x) (.int k' y)).run P w = .ok V w ∧ RC g v V := fun op h => by
    obtain ⟨h1, h2⟩ := sel_true h
    obtain rfl := of_decide_eq_true h1
    exact intBin_sound h2 ti
  cases op
  case shl =>
    simp only [intPair, shlA] at h
    split at h
    · rename_i n; cases h
      exact ⟨_, by simp [binOp, Op.shift]; rfl, by simp [RC, wrapA_eq]⟩
    · cases h
  case shr =>
    simp only [intPair, shrA] at h
    split at h
    · rename_i n; cases h
      exact ⟨_, by simp [binOp, Op.shift]; rfl, by simp [RC]⟩
    · cases h
  all_goals exact other _ h

theorem baOf_inj {l m : List Nat} (hl : ∀ x ∈ l, x < 256) (hm : ∀ x ∈ m, x < 256) (h : baOf l = baOf m) : l = m := by
  unfold baOf at h
  have h := congrArg (fun b : ByteArray => b.data.toList.map (·.toNat)) h
  simp only [List.map_map] at h
  have key : ∀ l : List Nat, (∀ x ∈ l, x < 256) → l.map ((fun x : UInt8 => x.toNat) ∘ UInt8.ofNat) = l := fun l hl => by
    conv => rhs; rw [← List.map_id l]
    apply List.map_congr_left
    intro x hx
    simp
    exact hl x hx
  rwa [key l hl, key m hm] at h
theorem baOf_beq {l m : List Nat} (hl : ∀ x ∈ l, x < 256) (hm : ∀ x ∈ m, x < 256) : (baOf l == baOf m) = eqL l m := by
  show ((baOf l).data == (baOf m).data) = _
  rw [Bool.eq_iff_iff, beq_iff_eq, eqL_eq]
  exact ⟨fun h => baOf_inj hl hm (congrArg ByteArray.mk h), fun h => by rw [h]⟩
theorem baOf_toList (l : List Nat) : (baOf l).toList = l.map UInt8.ofNat := by
  simp [baOf]
theorem strBin_sound {op : BinOp} {l m : List Nat} (hl : ∀ x ∈ l, x < 256) (hm : ∀ x ∈ m, x < 256) {v : CV} (h : strBin op l m = some v) (ti : TypeId) :
    ∃ V, (binOp op ti (.string (baOf l)) (.string (baOf m))).run P w = .ok V w ∧ RC g v V := by
  have e : ((baOf l).toList == (baOf m).toList) = eqL l m := by
    rw [Bool.eq_iff_iff, beq_iff_eq, eqL_eq]
    refine ⟨fun h => ?_, fun h => by rw [h]⟩
    rw [baOf_toList, baOf_toList] at h
    exact baOf_inj hl hm (by unfold baOf; rw [h])
  cases op <;> simp only [strBin] at h <;> first | cases h | skip
  case eql => exact ⟨_, by simp [binOp, Op.stringOp]; rfl, by simp [RC, e]⟩
  case neq => exact ⟨_, by simp [binOp, Op.stringOp]; rfl, by simp [RC, e]⟩

/-- A struct that may be held against another one, cell by cell. -/
def EqOk (P : Program) (t : Nat) (z : List CV) : Prop := ∀ (g : Gh) (l m : List CV) (r : Bool) (L M : List Value) (w : World) (op : BinOp) (x y : Operand), F2 (RC g) l L → F2 (RC g) m M → eqCs l m = some r → (op = .eql ∨ op = .neq) →
  likes z l = true → likes z m = true →
  (eqGuard op t x y (.agg L.toArray) (.agg M.toArray)).run P w = .ok () w ∧ (Op.equal t (.agg L.toArray) (.agg M.toArray)).run P w = .ok r w

theorem guard_none {op : BinOp} {ti : TypeId} {x y : Operand} {a b : Value} (ha : ∀ c, a ≠ .agg c) (hi : a ≠ .nilIface ∨ b ≠ .nilIface) : (eqGuard op ti x y a b).run P w = .ok () w := by
  have key : ∀ op, op = .eql ∨ op = .neq → (eqGuard op ti x y a b).run P w = .ok () w := fun op ho => by
    rcases ho with rfl | rfl <;> (cases a <;> cases b <;> first | rfl | (exfalso; simp_all))
  cases op
  case eql => exact key _ (.inl rfl)
  case neq => exact key _ (.inr rfl)
  all_goals rfl

section
variable (n : Nat) {ti : TypeId}
theorem eqIn_bool (hd : P.underlying ti = some .bool) (a b : Bool) : (Op.equalIn (n + 1) ti (.bool a) (.bool b)).run P w = .ok (a == b) w := by simp [Op.equalIn, run_underlying hd]
theorem eqIn_ptr {e : TypeId} (hd : P.underlying ti = some (.pointer e)) (b : Option Addr) : (Op.equalIn (n + 1) ti (.pointer none) (.pointer b)).run P w = .ok b.isNone w := by simp [Op.equalIn, run_underlying hd]
theorem eqIn_ptr' {e : TypeId} (hd : P.underlying ti = some (.pointer e)) (a : Addr) : (Op.equalIn (n + 1) ti (.pointer (some a)) (.pointer none)).run P w = .ok false w := by simp [Op.equalIn, run_underlying hd]
theorem eqIn_slc {e : TypeId} (hd : P.underlying ti = some (.slice e)) (b : Option Addr) (i j k l : Nat) : (Op.equalIn (n + 1) ti (.slice none i j) (.slice b k l)).run P w = .ok b.isNone w := by simp [Op.equalIn, run_underlying hd]
theorem eqIn_slc' {e : TypeId} (hd : P.underlying ti = some (.slice e)) (a : Addr) (i j k l : Nat) : (Op.equalIn (n + 1) ti (.slice (some a) i j) (.slice none k l)).run P w = .ok false w := by simp [Op.equalIn, run_underlying hd]
theorem eqIn_fn {p q : Array TypeId} {v : Bool} (hd : P.underlying ti = some (.func p q v)) : (Op.equalIn (n + 1) ti .nilFunc .nilFunc).run P w = .ok true w := by simp [Op.equalIn, run_underlying hd]
theorem eqIn_fn1 {p q : Array TypeId} {v : Bool} (hd : P.underlying ti = some (.func p q v)) (f : Fn) (F C : Array Value) : (Op.equalIn (n + 1) ti .nilFunc (.func f F C)).run P w = .ok false w := by simp [Op.equalIn, run_underlying hd]
theorem eqIn_fn2 {p q : Array TypeId} {v : Bool} (hd : P.underlying ti = some (.func p q v)) (f : Fn) (F C : Array Value) : (Op.equalIn (n + 1) ti (.func f F C) .nilFunc).run P w = .ok false w := by simp [Op.equalIn, run_underlying hd]
end

theorem equal_sound {i : TI} {ti : Nat} (hi : TyOk P ti i) (hc : i.cmp = true → EqOk P ti i.zero) {a b : AV} {r : Bool} (h : eqAny i a b = some r) {A B : Value} (ha : RA g a A) (hb : RA g b B) {op : BinOp} (hop : op = .eql ∨ op = .neq) (x y : Operand) :
    (eqGuard op ti x y A B).run P w = .ok () w ∧ (Op.equal ti A B).run P w = .ok r w ∧ binOp .eql ti A B = (do pure (.bool (← Op.equal ti A B))) ∧ binOp .neq ti A B = (do pure (.bool (!(← Op.equal ti A B)))) := by
  obtain ⟨d, hd, hs⟩ := hi.und
  cases a with
  | g l => cases b with
    | g m =>
      obtain ⟨L, rfl, hL⟩ := ha
      obtain ⟨M, rfl, hM⟩ := hb
      obtain ⟨h1, h2⟩ := sel_true h
      obtain ⟨hla, h2⟩ := sel_true h2
      obtain ⟨hlb, h2⟩ := sel_true h2
      obtain ⟨e1, e2⟩ := hc h1 g l m r L M w op x y hL hM h2 hop hla hlb
      exact ⟨e1, e2, rfl, rfl⟩
    | c b => cases h
  | c a => cases b with
    | g m => cases h
    | c b =>
      simp only [eqAny] at h
      split at h
      · rename_i hsh
        rw [hsh] at hs; obtain rfl : d = .bool := hs
        split at h
        · cases h
          obtain rfl : A = _ := ha
          obtain rfl : B = _ := hb
          exact ⟨guard_none (by simp) (by simp), by rw [eqB_eq]; exact eqIn_bool 9999 hd _ _, rfl, rfl⟩
        · cases h
      · rename_i hsh
        rw [hsh] at hs; obtain ⟨e, rfl⟩ := hs
        have key : (A = .pointer none ∧ ∃ q, B = .pointer q ∧ r = q.isNone) ∨ (∃ q, A = .pointer (some q) ∧ B = .pointer none ∧ r = false) := by
          cases a <;> simp only [eqPtr] at h <;> try cases h
          · cases b <;> simp only [eqPtr] at h <;> try cases h
            · exact .inl ⟨ha, none, hb, rfl⟩
            · obtain ⟨ad, e, _⟩ := hb; exact .inl ⟨ha, some ad, e, rfl⟩
            · obtain ⟨ad, e, _⟩ := hb; exact .inl ⟨ha, some ad, e, rfl⟩
          · cases b <;> simp only [eqPtr] at h <;> try cases h
            obtain ⟨ad, e, _⟩ := ha; exact .inr ⟨ad, e, hb, rfl⟩
          · cases b <;> simp only [eqPtr] at h <;> try cases h
            obtain ⟨ad, e, _⟩ := ha; exact .inr ⟨ad, e, hb, rfl⟩
        rcases key with ⟨rfl, q, rfl, rfl⟩ | ⟨q, rfl, rfl, rfl⟩
        · exact ⟨guard_none (by simp) (by simp), eqIn_ptr 9999 hd _, rfl, rfl⟩
        · exact ⟨guard_none (by simp) (by simp), eqIn_ptr' 9999 hd _, rfl, rfl⟩
      · rename_i hsh
        rw [hsh] at hs; obtain rfl : d = _ := hs
        cases a <;> simp only [eqSl] at h <;> try cases h
        · cases b <;> simp only [eqSl] at h <;> try cases h
          · obtain rfl : A = _ := ha
            obtain rfl : B = _ := hb
            exact ⟨guard_none (by simp) (by simp), by first | exact eqIn_ptr 9999 hd _ | exact eqIn_ptr' 9999 hd _ | exact eqIn_slc 9999 hd _ _ _ _ _ | exact eqIn_slc' 9999 hd _ _ _ _ _ | exact eqIn_fn 9999 hd | exact eqIn_fn1 9999 hd _ _ _ | exact eqIn_fn2 9999 hd _ _ _, rfl, rfl⟩
          · obtain rfl : A = _ := ha
            obtain ⟨ad, cap, rfl, _⟩ := hb
            exact ⟨guard_none (by simp) (by simp), by first | exact eqIn_ptr 9999 hd _ | exact eqIn_ptr' 9999 hd _ | exact eqIn_slc 9999 hd _ _ _ _ _ | exact eqIn_slc' 9999 hd _ _ _ _ _ | exact eqIn_fn 9999 hd | exact eqIn_fn1 9999 hd _ _ _ | exact eqIn_fn2 9999 hd _ _ _, rfl, rfl⟩
        · cases b <;> simp only [eqSl] at h <;> try cases h
          obtain ⟨ad, cap, rfl, _⟩ := ha
          obtain rfl : B = _ := hb
          exact ⟨guard_none (by simp) (by simp), by first | exact eqIn_ptr 9999 hd _ | exact eqIn_ptr' 9999 hd _ | exact eqIn_slc 9999 hd _ _ _ _ _ | exact eqIn_slc' 9999 hd _ _ _ _ _ | exact eqIn_fn 9999 hd | exact eqIn_fn1 9999 hd _ _ _ | exact eqIn_fn2 9999 hd _ _ _, rfl, rfl⟩
      · rename_i hsh
        rw [hsh] at hs; obtain ⟨p1, p2, p3, rfl⟩ := hs
        cases a <;> simp only [eqFn] at h <;> try cases h
        · cases b <;> simp only [eqFn] at h <;> try cases h
          obtain ⟨F, C, rfl, _⟩ := ha
          obtain rfl : B = _ := hb
          exact ⟨guard_none (by simp) (by simp), by first | exact eqIn_ptr 9999 hd _ | exact eqIn_ptr' 9999 hd _ | exact eqIn_slc 9999 hd _ _ _ _ _ | exact eqIn_slc' 9999 hd _ _ _ _ _ | exact eqIn_fn 9999 hd | exact eqIn_fn1 9999 hd _ _ _ | exact eqIn_fn2 9999 hd _ _ _, rfl, rfl⟩
        · cases b <;> simp only [eqFn] at h <;> try cases h
          · obtain rfl : A = _ := ha
            obtain ⟨F, C, rfl, _⟩ := hb
            exact ⟨guard_none (by simp) (by simp), by first | exact eqIn_ptr 9999 hd _ | exact eqIn_ptr' 9999 hd _ | exact eqIn_slc 9999 hd _ _ _ _ _ | exact eqIn_slc' 9999 hd _ _ _ _ _ | exact eqIn_fn 9999 hd | exact eqIn_fn1 9999 hd _ _ _ | exact eqIn_fn2 9999 hd _ _ _, rfl, rfl⟩
          · obtain rfl : A = _ := ha
            obtain rfl : B = _ := hb
            exact ⟨guard_none (by simp) (by simp), by first | exact eqIn_ptr 9999 hd _ | exact eqIn_ptr' 9999 hd _ | exact eqIn_slc 9999 hd _ _ _ _ _ | exact eqIn_slc' 9999 hd _ _ _ _ _ | exact eqIn_fn 9999 hd | exact eqIn_fn1 9999 hd _ _ _ | exact eqIn_fn2 9999 hd _ _ _, rfl, rfl⟩
      · cases h

/-- The structs that may be held against one another. -/
def CmpAll (P : Program) (ty : Nat → Option TI) : Prop := ∀ t i, ty t = some i → i.cmp = true → EqOk P t i.zero

theorem qBin_sound (hty : TyAll P ty) (hcmp : CmpAll P ty) {op : BinOp} {ti : Nat} {x y : Operand} (hx : OpR g t ρ x) (hy : OpR g t ρ y) {v : TV} (h : qBin ty t op ti x y = some v) :
    ∃ V, ((do eqGuard op ti x y (ρ x) (ρ y); binOp op ti (ρ x) (ρ y)) : Sem Value).run P w = .ok V w ∧ RT g v V := by
  obtain ⟨a, ha, h⟩ := bnd_some h
  obtain ⟨b, hb, h⟩ := bnd_some h
  have hA := hx.a ha
  have hB := hy.a hb
  split at h
  · rename_i k m k' n
    obtain ⟨r, hr, h⟩ := bnd_some h
    cases h
    obtain ⟨V, hV, hRC⟩ := intPair_sound (P := P) (w := w) (g := g) hr ti
    have e1 := (show RC g (.i _ _) (ρ x) from hA)
    have e2 := (show RC g (.i _ _) (ρ y) from hB)
    simp only [RC] at e1 e2
    rw [e1, e2]
    exact ⟨V, by rw [Sem.run_bind, guard_none (by simp) (by simp), Result.andThen_ok, hV], hRC⟩
  · rename_i l m
    obtain ⟨r, hr, h⟩ := bnd_some h
    cases h
    obtain ⟨e1, hl⟩ : ρ x = _ ∧ _ := hA
    obtain ⟨e2, hm⟩ : ρ y = _ ∧ _ := hB
    obtain ⟨V, hV, hRC⟩ := strBin_sound (P := P) (w := w) (g := g) hl hm hr ti
    rw [e1, e2]
    exact ⟨V, by rw [Sem.run_bind, guard_none (by simp) (by simp), Result.andThen_ok, hV], hRC⟩
  · obtain ⟨i, hi, h⟩ := bnd_some h
    obtain ⟨r, hr, h⟩ := bnd_some h
    cases h
    cases op <;> simp only [anyBin] at hr <;> first | cases hr | skip
    · obtain ⟨q, hq, hr⟩ := bnd_some hr
      cases hr
      obtain ⟨e1, e2, e3, _⟩ := equal_sound (w := w) (hty _ _ hi) (hcmp _ _ hi) hq hA hB (op := .eql) (.inl rfl) x y
      exact ⟨.bool q, by rw [Sem.run_bind, e1, Result.andThen_ok, e3]; simp [e2], rfl⟩
    · obtain ⟨q, hq, hr⟩ := bnd_some hr
      cases hr
      obtain ⟨e1, e2, _, e3⟩ := equal_sound (w := w) (hty _ _ hi) (hcmp _ _ hi) hq hA hB (op := .neq) (.inr rfl) x y
      exact ⟨.bool (!q), by rw [Sem.run_bind, e1, Result.andThen_ok, e3]; simp [e2], rfl⟩

theorem qUn_sound {op : UnOp} {x : Operand} (hx : OpR g t ρ x) {v : TV} (h : qUn t op x = some v) : ∃ V, (Op.unary op (ρ x)).run P w = .ok V w ∧ RT g v V := by
  unfold qUn at h
  split at h
  · split at h
    · rename_i b hb
      cases h
      obtain e : ρ x = _ := hx.c hb
      rw [e]
      exact ⟨_, rfl, rfl⟩
    · cases h
  · split at h
    · rename_i k n hb
      cases h
      obtain e : ρ x = _ := hx.c hb
      rw [e]
      refine ⟨_, rfl, ?_⟩
      show _ = _
      rw [wrapA_eq]
    · cases h
  · cases h

theorem byteOfC_some {c : CV} {n : Nat} (h : byteOfC c = some n) : c = .i .u8 (n : Int) ∧ n < 256 := by
  unfold byteOfC at h
  split at h
  · rename_i m
    obtain ⟨k, hk, h⟩ := bnd_some h
    obtain ⟨hb, h⟩ := sel_true h
    cases h
    rw [natOf_some hk]
    exact ⟨rfl, blt_true hb⟩
  · cases h

/-- Cells that are bytes. -/
theorem bytes_cells {g : Gh} {cs : List CV} {L : List Value} (hF : F2 (RC g) cs L) : ∀ {l : List Nat}, F2 (fun a b => byteOfC a = some b) cs l → L = l.map (fun n : Nat => Value.int .u8 (n : Int)) ∧ ∀ x ∈ l, x < 256 := by
  induction hF with
  | nil => intro l h; cases h; exact ⟨rfl, by simp⟩
  | cons h1 _ ih =>
    intro l h
    cases h with
    | cons h2 t2 =>
      obtain ⟨rfl, hlt⟩ := byteOfC_some h2
      obtain ⟨e, hall⟩ := ih t2
      refine ⟨by rw [List.map_cons, ← e]; exact congrArg (· :: _) h1, ?_⟩
      intro x hx
      rcases List.mem_cons.1 hx with rfl | hx
      · exact hlt
      · exact hall x hx

theorem ofNat_toNat {n : Nat} (h : n < 256) : ((UInt8.ofNat n).toNat : Int) = (n : Int) := by
  simp [UInt8.toNat_ofNat', Nat.mod_eq_of_lt h]

theorem qConv_sound (hty : TyAll P ty) (hs : HS g H w) {src dst : Nat} {x : Operand} (hx : OpR g t ρ x) {v : TV} (h : qConv ty t H src dst x = some v) :
    ∃ V, (convert src dst (ρ x)).run P w = .ok V w ∧ RT g v V := by
  obtain ⟨d, hd, h⟩ := bnd_some h
  obtain ⟨s, hs', h⟩ := bnd_some h
  obtain ⟨u, hu, h⟩ := bnd_some h
  obtain ⟨dd, hdd, hds⟩ := (hty _ _ hd).und
  obtain ⟨sd, hsd, hss⟩ := (hty _ _ hs').und
  have hU := hx.c hu
  split at h
  · rename_i k hsh
    rw [hsh] at hds; obtain rfl : dd = _ := hds
    split at h
    · rename_i k' n
      cases h
      have e1 := (show RC g (.i _ _) (ρ x) from hU)
      simp only [RC] at e1
      refine ⟨.int k (k.wrap n), ?_, by show _ = _; rw [wrapA_eq]⟩
      rw [e1]
      unfold convert
      simp only [Sem.run_bind, run_underlying hsd, run_underlying hdd, Result.andThen_ok]
      rfl
    · cases h
  · rename_i hsh
    rw [hsh] at hds; obtain rfl : dd = _ := hds
    split at h
    · rename_i e hssh
      obtain ⟨ei, hei, h⟩ := bnd_some h
      rw [hssh] at hss; obtain rfl : sd = _ := hss
      split at h
      · rename_i hesh
        obtain ⟨ed, hed, hes⟩ := (hty _ _ hei).und
        rw [hesh] at hes; obtain rfl : ed = _ := hes
        split at h
        · cases h
          have e1 : ρ x = .slice none 0 0 := hU
          refine ⟨.string .empty, ?_, rfl, by simp⟩
          rw [e1, run_convert_bytes_string w src dst e none 0 0 hsd hed hdd]
          rfl
        · rename_i blk off len esz clip _
          obtain ⟨he1, h⟩ := sel_true h
          obtain ⟨cs, hcs, h⟩ := bnd_some h
          obtain ⟨l, hl, h⟩ := bnd_some h
          cases h
          obtain ⟨a, cap, e1, hsl⟩ := hU
          obtain rfl := Nat.eq_of_beq_eq_true he1
          have hcs : readSl H blk off (len * 1) = some cs := by rw [Nat.mul_one]; exact hcs
          obtain ⟨⟨L, hF, hc⟩, hn⟩ := hs.lies_sl hcs hsl
          obtain ⟨rfl, hall⟩ := bytes_cells hF (mapO_some hl)
          have hlen : (l.map UInt8.ofNat).length = len := by
            have := hF.length
            rw [List.length_map] at this ⊢
            omega
          refine ⟨.string (baOf l), ?_, rfl, hall⟩
          rw [e1, ← hlen]
          exact run_convert_bytes_back w src dst e a cap (l.map UInt8.ofNat) hsd hed hdd fun j hj => by
            have hj' : j < l.length := by simpa using hj
            rw [hc j (.int .u8 (l[j] : Int)) (by simp [List.getElem?_eq_getElem hj'])]
            rw [List.getElem_map, ofNat_toNat (hall _ (List.getElem_mem hj'))]
        · cases h
      · cases h
    · cases h
  · cases h

end ops

end Go.Proofs.YtjkkclfndlfjhaaGreatDoor.Ev
/- The quiet operations, the others: places, parts, slices, maps, built-ins. -/
set_option linter.unusedSimpArgs false
namespace Go.Proofs.YtjkkclfndlfjhaaGreatDoor.Ev
open Go Go.RowKit

variable {P : Program} {ty : Nat → Option TI}
section ops
variable {g : Gh} {t : Tm} {ρ : Operand → Value} {w : World} {H : Tr AB}

theorem moveP_sound {o : Nat} {p r : CV} {v : Value} (h : moveP o p = some r) (hp : RC g p v) : ∃ a, v = .pointer (some a) ∧ RC g r (.pointer (some (a.add o))) := by
  cases p <;> simp only [moveP] at h <;> try cases h
  · obtain ⟨a, e, h1, h2, h3⟩ := hp
    exact ⟨a, e, _, rfl, by rw [add_plain h1], by rw [add_plain h1]; exact h2, by rw [add_plain h1, h3]; rfl⟩
  · obtain ⟨a, e, h1, A, h2, h3, h4, h5⟩ := hp
    refine ⟨a, e, _, rfl, by rw [add_plain h1], A, by rw [add_plain h1]; exact h2, h3, ?_, h5⟩
    rw [add_plain h1, h4]
    show A.a0 + a.off + o = A.a0 + (a.off + o)
    omega

theorem fields_get {F : List Field} {fs : List (Nat × Nat)} (he : F.map (fun f => (f.type, f.offset)) = fs) {k : Nat} {q : Nat × Nat} (h : fs[k]? = some q) : ∃ f, F[k]? = some f ∧ f ∈ F ∧ f.type = q.1 ∧ f.offset = q.2 := by
  rw [← he, List.getElem?_map] at h
  cases hf : F[k]? with
  | none => rw [hf] at h; cases h
  | some f =>
    rw [hf] at h
    cases h
    exact ⟨f, rfl, List.mem_of_getElem? hf, rfl, rfl⟩
theorem run_size_ne {t : TypeId} (h : P.cellsOf t ≠ 0) (w : World) : (sizeOf t).run P w = .ok (P.cellsOf t) w := by
  cases hi : P.info? t with
  | none => simp [Program.cellsOf, hi] at h
  | some i => exact run_sizeOf w hi

theorem qFieldAddr_sound (hty : TyAll P ty) {si f : Nat} {x : Operand} (hx : OpR g t ρ x) {v : TV} (h : qFieldAddr ty t si x f = some v) :
    ∃ V, (Instr.fieldAt si (ρ x) f).run P w = .ok V w ∧ RT g v V := by
  replace h := bnd_some h; obtain ⟨i, hi, h⟩ := h
  replace h := bnd_some h; obtain ⟨p, hp, h⟩ := h
  obtain ⟨d, hd, hs⟩ := (hty _ _ hi).und
  split at h
  · rename_i fs hsh
    rw [hsh] at hs
    obtain ⟨F, rfl, he, hne⟩ := hs
    replace h := bnd_some h; obtain ⟨q, hq, h⟩ := h
    replace h := bnd_some h; obtain ⟨r, hr, h⟩ := h
    cases h
    obtain ⟨fld, hF, hm, h1, h2⟩ := fields_get he hq
    obtain ⟨a, e1, hR⟩ := moveP_sound hr (hx.c hp)
    refine ⟨_, ?_, hR⟩
    simp [Instr.fieldAt, run_underlying hd, hF, e1, Instr.sureAddr, fieldPlace, run_size_ne (hne _ hm), hne _ hm, h2]
  · cases h

theorem part_sound {ft : Nat} {j : TI} (hj : TyOk P ft j) {cs : List CV} {L : List Value} (hF : F2 (RC g) cs L) {o : Nat} {v : TV} (h : partA j cs o = some v) :
    ∃ V, (part ft L.toArray o).run P w = .ok V w ∧ RT g v V := by
  replace h := bnd_some h; obtain ⟨l, hl, h⟩ := h
  replace h := bnd_some h; obtain ⟨u, hu, h⟩ := h
  cases h
  obtain ⟨h1, rfl⟩ := cut_some hl
  rcases asV_some hu with ⟨hg, rfl⟩ | ⟨hg, c, hc, rfl⟩
  · refine ⟨.agg ((L.drop o).take j.size).toArray, ?_, _, rfl, (hF.drop o).take j.size⟩
    simp [part, hj.agg, hg, hj.run_size, List.extract_toArray, List.extract_eq_take_drop]
  · have hlen := congrArg List.length hc
    simp only [List.length_take, List.length_drop, List.length_cons, List.length_nil] at hlen
    have hco : cs[o]? = some c := by
      have := congrArg (fun l : List CV => l[0]?) hc
      simp only [List.getElem?_cons_zero] at this
      rw [List.getElem?_take, List.getElem?_drop] at this
      split at this
      · simpa using this
      · cases this
    obtain ⟨V, hV, hr⟩ := hF.get o c hco
    exact ⟨V, by simp [part, hj.agg, hg, hV], hr⟩

theorem qField_sound (hty : TyAll P ty) {si f : Nat} {x : Operand} (hx : OpR g t ρ x) {v : TV} (h : qField ty t si x f = some v) :
    ∃ V, (Instr.field si (ρ x) f).run P w = .ok V w ∧ RT g v V := by
  replace h := bnd_some h; obtain ⟨i, hi, h⟩ := h
  obtain ⟨d, hd, hs⟩ := (hty _ _ hi).und
  split at h
  · rename_i cs hcs
    obtain ⟨L, e1, hF⟩ := hx.a hcs
    split at h
    · rename_i fs hsh
      rw [hsh] at hs
      obtain ⟨F, rfl, he, hne⟩ := hs
      replace h := bnd_some h; obtain ⟨q, hq, h⟩ := h
      obtain ⟨fld, hFk, hm, h1, h2⟩ := fields_get he hq
      replace h := bnd_some h; obtain ⟨j, hj, h⟩ := h
      obtain ⟨V, hV, hr⟩ := part_sound (w := w) (hty _ _ hj) hF h
      refine ⟨V, ?_, hr⟩
      simp only [Instr.field, Sem.run_bind, run_underlying hd, Result.andThen_ok, List.getElem?_toArray, hFk, e1, asAgg, Sem.run_pure]
      rw [h1, h2]
      exact hV
    · cases h
  · cases h

theorem inA_some {k len : Nat} {r : Option TV} {v : TV} (h : inA k len r = some v) : k < len ∧ r = some v := by
  unfold inA at h
  split at h
  · rename_i hk; exact ⟨blt_true hk, h⟩
  · cases h

theorem qIndexAddr_sound (hty : TyAll P ty) {ti : Nat} {x ix : Operand} (hx : OpR g t ρ x) (hix : OpR g t ρ ix) {v : TV} (h : qIndexAddr ty t ti x ix = some v) :
    ∃ V, (Instr.indexAt ti (ρ x) (ρ ix)).run P w = .ok V w ∧ RT g v V := by
  replace h := bnd_some h; obtain ⟨i, hi, h⟩ := h
  replace h := bnd_some h; obtain ⟨u, hu, h⟩ := h
  replace h := bnd_some h; obtain ⟨k, hk, h⟩ := h
  obtain ⟨kk, ek⟩ := hix.n hk
  obtain ⟨d, hd, hs⟩ := (hty _ _ hi).und
  split at h
  · rename_i len e hsh
    rw [hsh] at hs; obtain rfl : d = _ := hs
    replace h := bnd_some h; obtain ⟨j, hj, h⟩ := h
    replace h := inA_some h; obtain ⟨hlt, h⟩ := h
    replace h := bnd_some h; obtain ⟨r, hr, h⟩ := h
    cases h
    obtain ⟨a, e1, hR⟩ := moveP_sound hr (hx.c hu)
    refine ⟨_, ?_, hR⟩
    simp [Instr.indexAt, asIntOf, ek, run_underlying hd, e1, Instr.sureAddr, hlt, (hty _ _ hj).run_size]
  · rename_i e hsh
    rw [hsh] at hs; obtain rfl : d = _ := hs
    replace h := bnd_some h; obtain ⟨j, hj, h⟩ := h
    unfold elP at h
    split at h
    · rename_i blk off len esz clip
      replace h := sel_true h; obtain ⟨he, h⟩ := h
      obtain rfl := Nat.eq_of_beq_eq_true he
      replace h := inA_some h; obtain ⟨hlt, h⟩ := h
      cases h
      obtain ⟨a, cap, e1, hsp, hlc, _, hp⟩ := hx.c hu
      rcases hp with h0 | ⟨A, hA, hb, he2, ho, hle, _⟩
      · omega
      · refine ⟨.pointer (some (a.add (k * j.size))), ?_, a.add (k * j.size), rfl, by rw [add_plain hsp], A, by rw [add_plain hsp]; exact hA, hb, ?_, ?_⟩
        · simp [Instr.indexAt, asIntOf, ek, run_underlying hd, e1, hlt, (hty _ _ hj).run_size]
        · rw [add_plain hsp, ho]
          show A.a0 + a.off + k * j.size = A.a0 + (a.off + k * j.size)
          omega
        · show off + (k + 1) * j.size ≤ A.h
          have : (k + 1) * j.size ≤ len * j.size := Nat.mul_le_mul_right _ hlt
          omega
    · cases h
  · cases h

theorem qIndex_sound (hty : TyAll P ty) {ti : Nat} {x ix : Operand} (hx : OpR g t ρ x) (hix : OpR g t ρ ix) {v : TV} (h : qIndex ty t ti x ix = some v) :
    ∃ V, (Instr.index ti (ρ x) (ρ ix)).run P w = .ok V w ∧ RT g v V := by
  replace h := bnd_some h; obtain ⟨i, hi, h⟩ := h
  replace h := bnd_some h; obtain ⟨u, hu, h⟩ := h
  replace h := bnd_some h; obtain ⟨k, hk, h⟩ := h
  obtain ⟨kk, ek⟩ := hix.n hk
  obtain ⟨d, hd, hs⟩ := (hty _ _ hi).und
  have hU := hx.a hu
  split at h
  · rename_i len e hsh
    rw [hsh] at hs; obtain rfl : d = _ := hs
    split at h
    · rename_i cs
      obtain ⟨L, e1, hF⟩ := hU
      replace h := bnd_some h; obtain ⟨j, hj, h⟩ := h
      replace h := inA_some h; obtain ⟨hlt, h⟩ := h
      obtain ⟨V, hV, hr⟩ := part_sound (w := w) (hty _ _ hj) hF h
      refine ⟨V, ?_, hr⟩
      simp only [Instr.index, Sem.run_bind, asIntOf, ek, e1, Sem.run_pure, Result.andThen_ok, run_underlying hd, (hty _ _ hj).run_size]
      rw [if_pos ⟨by omega, by omega⟩]
      simpa [(hty _ _ hj).run_size] using hV
    · cases h
  · rename_i hsh
    rw [hsh] at hs; obtain rfl : d = _ := hs
    split at h
    · rename_i l
      replace h := bnd_some h; obtain ⟨b, hb, h⟩ := h
      cases h
      obtain ⟨e1, hall⟩ : ρ x = .string (baOf l) ∧ ∀ x ∈ l, x < 256 := hU
      refine ⟨.int .u8 (b : Int), ?_, rfl⟩
      have hget : (baOf l)[k]? = some (UInt8.ofNat b) := by
        show (if h : k < (baOf l).size then some (baOf l)[k] else none) = _
        have hk' : k < l.length := (List.getElem?_eq_some_iff.1 hb).1
        have hlk : l[k] = b := (List.getElem?_eq_some_iff.1 hb).2
        have hsz : (baOf l).size = l.length := by simp [baOf, ByteArray.size]
        rw [dif_pos (by omega)]
        congr 1
        show (baOf l).data[k]'(by simpa [baOf] using hk') = _
        simp [baOf, hlk]
      simp [Instr.index, asIntOf, ek, run_underlying hd, e1, hget, ofNat_toNat (hall _ (List.mem_of_getElem? hb))]
      have := ofNat_toNat (hall _ (List.mem_of_getElem? hb))
      simpa using this
    · cases h
  · cases h

theorem optN_sound {x : Option Operand} {d n : Nat} (hx : ∀ o, x = some o → OpR g t ρ o) (h : optN t d x = some n) : (x = none ∧ n = d) ∨ ∃ o k, x = some o ∧ ρ o = .int k (n : Int) := by
  cases x with
  | none => cases h; exact .inl ⟨rfl, rfl⟩
  | some o =>
    obtain ⟨k, hk⟩ := (hx o rfl).n h
    exact .inr ⟨o, k, rfl, hk⟩

theorem run_sliceBound {k : IntKind} {n y : Nat} (h : n ≤ y) (c : BoundsCode) : (Instr.sliceBound (.int k (n : Int)) y c).run P w = .ok n w := by
  simp [Instr.sliceBound, asIntOf, h]

/-- The bounds of a slice expression, as the evaluator reads them. -/
theorem run_bounds {isS : Bool} {len cap a b : Nat} {lo hi : Option Operand} (hlo : ∀ o, lo = some o → OpR g t ρ o) (hhi : ∀ o, hi = some o → OpR g t ρ o) (ha : optN t 0 lo = some a) (hb : optN t len hi = some b)
    (hab : a ≤ b) (hbc : b ≤ cap) : (Instr.sliceBounds isS len cap (lo.map ρ) (hi.map ρ) none).run P w = .ok (a, b, cap) w := by
  rcases optN_sound hlo ha with ⟨rfl, rfl⟩ | ⟨o, k, rfl, e1⟩ <;> rcases optN_sound hhi hb with ⟨rfl, rfl⟩ | ⟨o', k', rfl, e2⟩
  · simp [Instr.sliceBounds]
  · simp only [Instr.sliceBounds, Option.map, Sem.run_bind, Sem.run_pure, Result.andThen_ok, e2, run_sliceBound hbc]
  · simp only [Instr.sliceBounds, Option.map, Sem.run_bind, Sem.run_pure, Result.andThen_ok, e1, run_sliceBound hab]
  · simp only [Instr.sliceBounds, Option.map, Sem.run_bind, Sem.run_pure, Result.andThen_ok, e1, e2, run_sliceBound hbc, run_sliceBound hab]
theorem run_bounds3 {isS : Bool} {len cap a b c : Nat} {lo hi : Option Operand} {mx : Operand} (hlo : ∀ o, lo = some o → OpR g t ρ o) (hhi : ∀ o, hi = some o → OpR g t ρ o) (hmx : OpR g t ρ mx) (ha : optN t 0 lo = some a) (hb : optN t len hi = some b)
    (hh : hi ≠ none) (hc : optN t 0 (some mx) = some c) (hab : a ≤ b) (hbc : b ≤ c) (hcc : c ≤ cap) : (Instr.sliceBounds isS len cap (lo.map ρ) (hi.map ρ) ((some mx).map ρ)).run P w = .ok (a, b, c) w := by
  obtain ⟨k3, e3⟩ := hmx.n hc
  rcases optN_sound hhi hb with ⟨rfl, _⟩ | ⟨o', k', rfl, e2⟩
  · exact absurd rfl hh
  rcases optN_sound hlo ha with ⟨rfl, rfl⟩ | ⟨o, k, rfl, e1⟩
  · simp only [Instr.sliceBounds, Option.map, Sem.run_bind, Sem.run_pure, Result.andThen_ok, e2, e3, run_sliceBound hcc, run_sliceBound hbc]
  · simp only [Instr.sliceBounds, Option.map, Sem.run_bind, Sem.run_pure, Result.andThen_ok, e1, e2, e3, run_sliceBound hcc, run_sliceBound hbc, run_sliceBound hab]

/-- A slice of a slice. -/
theorem SlR.sub {b off len esz a c m cap : Nat} {clip clip' : Bool} {ad : Addr} (h : SlR g b off len esz clip ad cap) (hac : a ≤ c) (hc : c ≤ len) (hcm : c ≤ m) (hm : m ≤ cap) (hcl : clip' = true → m = c) :
    SlR g b (off + a * esz) (c - a) esz clip' (if m = a then ad else ad.add (a * esz)) (m - a) := by
  obtain ⟨h1, h2, h3, h4⟩ := h
  refine ⟨by split <;> simp [add_plain h1, h1], by omega, fun hc => by have := hcl hc; omega, ?_⟩
  by_cases e : m = a
  · left; omega
  · rw [if_neg e]
    rcases h4 with h0 | ⟨A, hA, hb, he, ho, hle, hsz⟩
    · omega
    · right
      refine ⟨A, by rw [add_plain h1]; exact hA, hb, he, ?_, ?_, ?_⟩
      · rw [add_plain h1, ho]; show A.a0 + ad.off + a * esz = A.a0 + (ad.off + a * esz); omega
      · have : a * esz + (c - a) * esz = c * esz := by rw [← Nat.add_mul]; congr 1; omega
        have : c * esz ≤ len * esz := Nat.mul_le_mul_right _ hc
        omega
      · rw [add_plain h1]
        show ad.off + a * esz + (m - a) * esz ≤ A.size
        have : a * esz + (m - a) * esz = m * esz := by rw [← Nat.add_mul]; congr 1; omega
        have : m * esz ≤ cap * esz := Nat.mul_le_mul_right _ hm
        omega

theorem baOf_sub {l : List Nat} (a b : Nat) : (baOf l).extract a b = baOf ((l.drop a).take (b - a)) := by
  unfold baOf
  apply ByteArray.ext
  rw [ByteArray.data_extract]
  simp [List.extract_toArray, List.extract_eq_take_drop, List.map_take, List.map_drop]

theorem run_sliceAt_slc {ti e : TypeId} (hd : P.underlying ti = some (.slice e)) (x : Value) (lo hi mx : Option Value) : (Instr.sliceAt ti x lo hi mx).run P w = (Instr.slice ti x lo hi mx).run P w := by
  simp [Instr.sliceAt, run_underlying hd]
theorem run_sliceAt_str {ti : TypeId} (hd : P.underlying ti = some .string) (x : Value) (lo hi mx : Option Value) : (Instr.sliceAt ti x lo hi mx).run P w = (Instr.slice ti x lo hi mx).run P w := by
  simp [Instr.sliceAt, run_underlying hd]

theorem sliceSl_some {size blk off len esz a b : Nat} {clip : Bool} {r : CV} (h : sliceSl size blk off len esz clip a b = some r) : a ≤ b ∧ b ≤ len ∧ size = esz ∧ r = .sl blk (off + a * esz) (b - a) esz (clip && Nat.beq b len) := by
  unfold sliceSl at h
  split at h
  · rename_i h1 h2 h3
    cases h
    exact ⟨Nat.le_of_ble_eq_true h1, Nat.le_of_ble_eq_true h2, Nat.eq_of_beq_eq_true h3, by cases clip <;> rfl⟩
  · cases h
theorem sliceSl3_some {size blk off len esz a b c : Nat} {r : CV} (h : sliceSl3 size blk off len esz a b c = some r) : a ≤ b ∧ b ≤ len ∧ c = b ∧ size = esz ∧ r = .sl blk (off + a * esz) (b - a) esz true := by
  unfold sliceSl3 at h
  split at h
  · rename_i h1 h2 h3 h4
    cases h
    exact ⟨Nat.le_of_ble_eq_true h1, Nat.le_of_ble_eq_true h2, Nat.eq_of_beq_eq_true h3, Nat.eq_of_beq_eq_true h4, rfl⟩
  · cases h
theorem sliceStr_some {l : List Nat} {a b : Nat} {r : CV} (h : sliceStr l a b = some r) : a ≤ b ∧ b ≤ l.length ∧ r = .s ((l.drop a).take (b - a)) := by
  unfold sliceStr at h
  split at h
  · rename_i h1 h2
    cases h
    rw [lenR_eq] at h2
    exact ⟨Nat.le_of_ble_eq_true h1, Nat.le_of_ble_eq_true h2, by rw [takeR_eq, dropR_eq]; rfl⟩
  · cases h
theorem sliceNs_some {a b c : Nat} {r : CV} (h : sliceNs a b c = some r) : a = 0 ∧ b = 0 ∧ c = 0 ∧ r = .ns := by
  unfold sliceNs at h
  split at h
  · cases h; exact ⟨rfl, rfl, rfl, rfl⟩
  · cases h

theorem qSlice_sound (hty : TyAll P ty) {ti : Nat} {x : Operand} {lo hi mx : Option Operand} (hx : OpR g t ρ x) (hlo : ∀ o, lo = some o → OpR g t ρ o) (hhi : ∀ o, hi = some o → OpR g t ρ o) (hmx : ∀ o, mx = some o → OpR g t ρ o) {v : TV}
    (h : qSlice ty t ti x lo hi mx = some v) : ∃ V, (Instr.sliceAt ti (ρ x) (lo.map ρ) (hi.map ρ) (mx.map ρ)).run P w = .ok V w ∧ RT g v V := by
  replace h := sel_true h; obtain ⟨hok, h⟩ := h
  replace h := bnd_some h; obtain ⟨i, hi', h⟩ := h
  replace h := bnd_some h; obtain ⟨u, hu, h⟩ := h
  replace h := bnd_some h; obtain ⟨r, hr, h⟩ := h
  cases h
  obtain ⟨d, hd, hs⟩ := (hty _ _ hi').und
  have hU := hx.c hu
  have hne : ∀ m, mx = some m → hi ≠ none := fun m hm e => by subst hm; subst e; cases hok
  cases u <;> simp only [sliceA] at hr <;> try cases hr
  · rename_i l
    split at hr
    · have hsh : i.sh = .str := by assumption
      rw [hsh] at hs; obtain rfl : d = _ := hs
      replace hr := bnd_some hr; obtain ⟨a, ha, hr⟩ := hr
      replace hr := bnd_some hr; obtain ⟨b, hb, hr⟩ := hr
      obtain ⟨hab, hbl, rfl⟩ := sliceStr_some hr
      obtain ⟨e1, hall⟩ : ρ x = .string (baOf l) ∧ ∀ x ∈ l, x < 256 := hU
      have hsz : (baOf l).size = l.length := by simp [baOf, ByteArray.size]
      rw [lenR_eq] at hb
      refine ⟨.string ((baOf l).extract a b), ?_, by rw [baOf_sub], fun y hy => hall y (List.mem_of_mem_drop (List.mem_of_mem_take hy))⟩
      rw [run_sliceAt_str hd, e1]
      simp only [Instr.slice, Sem.run_bind, run_underlying hd, Result.andThen_ok, Option.map_none, Option.isSome_none, Bool.false_eq_true, if_false, Sem.run_pure]
      rw [hsz, run_bounds hlo hhi ha hb hab hbl]
      rfl
    · cases hr
  · split at hr
    · rename_i e hsh
      rw [hsh] at hs; obtain rfl : d = _ := hs
      replace hr := bnd_some hr; obtain ⟨ei, hei, hr⟩ := hr
      replace hr := bnd_some hr; obtain ⟨a, ha, hr⟩ := hr
      replace hr := bnd_some hr; obtain ⟨b, hb, hr⟩ := hr
      replace hr := bnd_some hr; obtain ⟨c, hc, hr⟩ := hr
      obtain ⟨rfl, rfl, rfl, rfl⟩ := sliceNs_some hr
      have e1 : ρ x = .slice none 0 0 := hU
      refine ⟨.slice none 0 0, ?_, rfl⟩
      rw [run_sliceAt_slc hd, e1]
      have hb0 : (Instr.sliceBounds true 0 0 (lo.map ρ) (hi.map ρ) (mx.map ρ)).run P w = .ok (0, 0, 0) w := by
        cases mx with
        | none => exact run_bounds hlo hhi ha hb (Nat.le_refl _) (Nat.le_refl _)
        | some m => exact run_bounds3 hlo hhi (hmx m rfl) ha hb (hne m rfl) hc (Nat.le_refl _) (Nat.le_refl _) (Nat.le_refl _)
      simp only [Instr.slice, Sem.run_bind, run_underlying hd, Result.andThen_ok, hb0, (hty _ _ hei).run_size, Sem.run_pure]
      rfl
    · cases hr
  · rename_i blk off len esz clip
    split at hr
    · rename_i e hsh
      rw [hsh] at hs; obtain rfl : d = _ := hs
      replace hr := bnd_some hr; obtain ⟨ei, hei, hr⟩ := hr
      replace hr := bnd_some hr; obtain ⟨a, ha, hr⟩ := hr
      replace hr := bnd_some hr; obtain ⟨b, hb, hr⟩ := hr
      obtain ⟨ad, cap, e1, hsl⟩ := hU
      have hlc := hsl.2.1
      split at hr
      · obtain ⟨hab, hbl, hes, rfl⟩ := sliceSl_some hr
        subst hes
        refine ⟨.slice (some (if cap = a then ad else ad.add (a * ei.size))) (b - a) (cap - a), ?_, _, _, rfl, hsl.sub hab hbl (by omega) (Nat.le_refl _) fun hc => ?_⟩
        · rw [run_sliceAt_slc hd, e1]
          simp only [Instr.slice, Sem.run_bind, run_underlying hd, Result.andThen_ok, Option.map_none, run_bounds hlo hhi ha hb hab (Nat.le_trans hbl hlc), (hty _ _ hei).run_size, Sem.run_pure]
          by_cases hca : cap = a <;> simp [hca]
        · simp only [Bool.and_eq_true] at hc
          have := hsl.2.2.1 hc.1
          have := Nat.eq_of_beq_eq_true hc.2
          omega
      · rename_i m
        replace hr := bnd_some hr; obtain ⟨c, hc, hr⟩ := hr
        obtain ⟨hab, hbl, rfl, hes, rfl⟩ := sliceSl3_some hr
        subst hes
        refine ⟨.slice (some (if c = a then ad else ad.add (a * ei.size))) (c - a) (c - a), ?_, _, _, rfl, hsl.sub hab hbl (Nat.le_refl _) (by omega) fun _ => rfl⟩
        rw [run_sliceAt_slc hd, e1]
        simp only [Instr.slice, Sem.run_bind, run_underlying hd, Result.andThen_ok, run_bounds3 hlo hhi (hmx m rfl) ha hb (hne m rfl) hc hab (Nat.le_refl _) (Nat.le_trans hbl hlc), (hty _ _ hei).run_size, Sem.run_pure]
        by_cases hca : c = a <;> simp [hca]
    · cases hr

theorem qExtract_sound {x : Operand} {n : Nat} (hx : OpR g t ρ x) {v : TV} (h : qExtract t x n = some v) : ∃ V, (Instr.extract (ρ x) n).run P w = .ok V w ∧ RT g v V := by
  unfold qExtract at h
  split at h
  · rename_i l hl
    obtain ⟨L, e1, hF⟩ := hx _ hl
    replace h := bnd_some h; obtain ⟨u, hu, h⟩ := h
    cases h
    obtain ⟨V, hV, hr⟩ := hF.get n u hu
    exact ⟨V, by simp [Instr.extract, e1, hV], hr⟩
  · cases h

theorem ptrs_sound {l : List Operand} (hx : ∀ o ∈ l, OpR g t ρ o) {r : List (Nat × Nat)} (h : mapO (opP t) l = some r) : F2 (PtrV g) r (l.map ρ) := by
  have hF := mapO_some h
  clear h
  induction hF with
  | nil => exact .nil
  | cons h1 _ ih => exact .cons ((hx _ (by simp)).p h1) (ih fun o ho => hx o (by simp [ho]))

theorem qMakeFunc_sound {f : Fn} {first caps : List Operand} (h1 : ∀ o ∈ first, OpR g t ρ o) (h2 : ∀ o ∈ caps, OpR g t ρ o) {v : TV} (h : qMakeFunc t f first caps = some v) :
    RT g v (.func f (first.map ρ).toArray (caps.map ρ).toArray) := by
  unfold qMakeFunc at h
  split at h
  · replace h := bnd_some h; obtain ⟨fs, hfs, h⟩ := h
    replace h := bnd_some h; obtain ⟨cs, hcs, h⟩ := h
    cases h
    exact ⟨_, _, rfl, ptrs_sound h1 hfs, ptrs_sound h2 hcs⟩
  · cases h

-- PARTS LAID INTO CELLS

theorem foldl_set (new : List Value) : ∀ (off : Nat) (l : List Value), off + new.length ≤ l.length →
    (new.zipIdx.foldl (fun cs (c, j) => cs.setIfInBounds (off + j) c) l.toArray) = (l.take off ++ new ++ l.drop (off + new.length)).toArray := by
  suffices key : ∀ (new : List Value) (k off : Nat) (l : List Value), off + k + new.length ≤ l.length →
      ((new.zipIdx k).foldl (fun cs (c, j) => cs.setIfInBounds (off + j) c) l.toArray) = (l.take (off + k) ++ new ++ l.drop (off + k + new.length)).toArray by
    intro off l h
    exact key new 0 off l (by simpa using h)
  intro new
  induction new with
  | nil => intro k off l h; simp
  | cons a new ih =>
    intro k off l h
    simp only [List.length_cons] at h
    simp only [List.zipIdx_cons, List.foldl_cons, List.setIfInBounds_toArray]
    rw [ih (k + 1) off (l.set (off + k) a) (by rw [List.length_set]; omega)]
    congr 1
    apply List.ext_getElem?
    intro i
    simp only [List.getElem?_append, List.length_append, List.length_take, List.length_set, List.length_cons, List.getElem?_take, List.getElem?_drop, List.getElem?_set, List.getElem?_cons]
    by_cases h1 : i < off + k
    · simp [show i < off + (k + 1) by omega, h1, show min (off + k) l.length = off + k by omega, show min (off + (k + 1)) l.length = off + k + 1 by omega, show ¬ off + k = i by omega, show i < off + k + 1 by omega, show i < off + k + (new.length + 1) by omega, show i < off + k + 1 + new.length by omega]
    · by_cases h2 : i = off + k
      · subst h2
        simp [show off + k < off + (k + 1) by omega, show min (off + k) l.length = off + k by omega, show min (off + (k + 1)) l.length = off + k + 1 by omega, show off + k < l.length by omega]
        intro h'; omega
      · by_cases h3 : i < off + k + 1 + new.length
        · simp [show ¬ i < off + (k + 1) by omega, h1, show min (off + k) l.length = off + k by omega, show min (off + (k + 1)) l.length = off + k + 1 by omega, show ¬ i < off + k + 1 by omega, h3, show i < off + k + (new.length + 1) by omega, show ¬ i - (off + k) = 0 by omega]
          rw [show i - (off + k) - 1 = i - (off + k + 1) by omega]
        · simp [show ¬ i < off + (k + 1) by omega, h1, show min (off + k) l.length = off + k by omega, show min (off + (k + 1)) l.length = off + k + 1 by omega, show ¬ i < off + k + 1 by omega, h3, show ¬ i < off + k + (new.length + 1) by omega]
          rw [if_neg (by omega)]
          congr 1; omega

theorem cells_of {v : AV} {V : Value} (h : RA g v V) : ∃ L : List Value, V.cells = L.toArray ∧ F2 (RC g) (cells v) L := by
  cases v with
  | c c =>
    refine ⟨[V], ?_, .cons h .nil⟩
    cases c <;> simp only [RA, RC] at h
    case p => obtain ⟨a, rfl, _⟩ := h; rfl
    case pe => obtain ⟨a, rfl, _⟩ := h; rfl
    case sl => obtain ⟨a, cap, rfl, _⟩ := h; rfl
    case m => obtain ⟨B, rfl, _⟩ := h; rfl
    case fn => obtain ⟨F, C, rfl, _⟩ := h; rfl
    case y => obtain ⟨B, rfl, _⟩ := h; rfl
    case s => obtain ⟨rfl, _⟩ := h; rfl
    all_goals subst h; rfl
  | g l =>
    obtain ⟨L, rfl, hF⟩ := h
    exact ⟨L, rfl, hF⟩

theorem F2.splice {α β : Type} {r : α → β → Prop} {l new : List α} {m new' : List β} (h : F2 r l m) (hn : F2 r new new') (off : Nat) : F2 r (l.take off ++ new ++ l.drop (off + new.length)) (m.take off ++ new' ++ m.drop (off + new'.length)) := by
  rw [← hn.length]
  exact ((h.take off).append hn).append (h.drop _)

theorem foldl_setA {new : List Value} {off : Nat} {l : List Value} (h : off + new.length ≤ l.length) :
    Array.foldl (fun cs x => cs.setIfInBounds (off + x.snd) x.fst) l.toArray new.toArray.zipIdx = (l.take off ++ new ++ l.drop (off + new.length)).toArray := by
  have := foldl_set new off l h
  rw [← this, ← Array.foldl_toList, Array.toList_zipIdx]

/-- 'fill', as the evaluator has it. -/
theorem fill_sound {place place' : Nat → Option (Nat × Nat)} (hpl : ∀ k q, place k = some q → place' k = some q) : ∀ {l : List (Nat × Operand)} {cs r : List CV} {C : List Value}, (∀ p ∈ l, OpR g t ρ p.2) → F2 (RC g) cs C → fillA place t l cs = some r →
    ∃ R : List Value, Instr.fill place' C.toArray (l.map fun p => (p.1, ρ p.2)) = some R.toArray ∧ F2 (RC g) r R
  | [], cs, r, C, _, hF, h => by cases h; exact ⟨C, rfl, hF⟩
  | p :: l, cs, r, C, hx, hF, h => by
    replace h : bnd (place p.1) (fun q => bnd (opA t p.2) fun v => bnd (fillStep v q.1 q.2 cs) fun cs' => fillA place t l cs') = some r := h
    replace h := bnd_some h; obtain ⟨q, hq, h⟩ := h
    replace h := bnd_some h; obtain ⟨v, hv, h⟩ := h
    replace h := bnd_some h; obtain ⟨cs', hcs, h⟩ := h
    obtain ⟨L, hL, hLF⟩ := cells_of ((hx p (by simp)).a hv)
    unfold fillStep at hcs
    split at hcs
    · rename_i h1 h2
      have h1 := Nat.eq_of_beq_eq_true h1
      have h2 := Nat.le_of_ble_eq_true h2
      rw [lenR_eq] at h1 h2
      cases hcs
      have hoff : q.1 + q.2 ≤ cs.length := h2
      rw [setAt_eq _ _ _ (by omega)] at h
      have hlen := hLF.length
      have hClen := hF.length
      obtain ⟨R, hR, hRF⟩ := fill_sound hpl (fun p hp => hx p (by simp [hp])) (hF.splice hLF q.1) h
      refine ⟨R, ?_, hRF⟩
      rw [List.map_cons, Instr.fill]
      simp only [hpl _ _ hq, hL, List.size_toArray]
      have hne : ¬ (L.length ≠ q.2 || decide (q.1 + L.length > C.length)) = true := by simp; omega
      rw [if_neg hne, foldl_setA (by omega)]
      exact hR
    · cases hcs

theorem run_places : ∀ (F : List Field), (∀ f ∈ F, P.cellsOf f.type ≠ 0) → (F.mapM fun f => (do pure (f.offset, ← sizeOf f.type) : Sem (Nat × Nat))).run P w = .ok (F.map fun f => (f.offset, P.cellsOf f.type)) w
  | [], _ => rfl
  | f :: F, h => by
    rw [List.mapM_cons]
    simp only [Sem.run_bind, run_size_ne (h f (by simp)), Result.andThen_ok, Sem.run_pure, run_places F fun x hx => h x (by simp [hx])]
    rfl

theorem qBuild_sound (hty : TyAll P ty) {ti : Nat} {parts : List (Nat × Operand)} (hx : ∀ p ∈ parts, OpR g t ρ p.2) {v : TV} (h : qBuild ty t ti parts = some v) :
    ∃ V, (Instr.build ti (parts.map fun p => (p.1, ρ p.2)).toArray).run P w = .ok V w ∧ RT g v V := by
  replace h := bnd_some h; obtain ⟨i, hi, h⟩ := h
  obtain ⟨d, hd, hs⟩ := (hty _ _ hi).und
  obtain ⟨z, hz, hzF, _, _⟩ := (hty _ _ hi).run_zero w
  split at h
  · rename_i fs hsh
    rw [hsh] at hs
    obtain ⟨F, rfl, he, hne⟩ := hs
    replace h := bnd_some h; obtain ⟨cs, hcs, h⟩ := h
    cases h
    have hpl : ∀ k q, placeSt ty fs k = some q → (F.map fun f => (f.offset, P.cellsOf f.type)).toArray[k]? = some q := fun k q hq => by
      replace hq := bnd_some hq; obtain ⟨p, hp, hq⟩ := hq
      replace hq := bnd_some hq; obtain ⟨j, hj, hq⟩ := hq
      cases hq
      obtain ⟨f, hF, _, h1, h2⟩ := fields_get he hp
      rw [List.getElem?_toArray, List.getElem?_map, hF]
      show some (f.offset, P.cellsOf f.type) = _
      rw [h2, h1, (hty _ _ hj).cells]
    obtain ⟨R, hR, hRF⟩ := fill_sound hpl hx (hzF g) hcs
    refine ⟨.agg R.toArray, ?_, R, rfl, hRF⟩
    simp only [Array.toArray_toList] at hR
    have hR' : Instr.fill (fun x => Option.map (fun f : Field => (f.offset, P.cellsOf f.type)) F[x]?) z.cells (parts.map fun p => (p.1, ρ p.2)) = some R.toArray := by
      rw [← hR]; congr 1; funext k; simp
    simp only [Instr.build, Sem.run_bind, hz, Result.andThen_ok, run_underlying hd, List.mapM_toArray, Sem.run_map, run_places F hne]
    simp [hR']
  · rename_i n e hsh
    rw [hsh] at hs; obtain rfl : d = _ := hs
    replace h := bnd_some h; obtain ⟨j, hj, h⟩ := h
    replace h := bnd_some h; obtain ⟨cs, hcs, h⟩ := h
    cases h
    obtain ⟨R, hR, hRF⟩ := fill_sound (fun _ _ h => h) hx (hzF g) hcs
    refine ⟨.agg R.toArray, ?_, R, rfl, hRF⟩
    simp only [Array.toArray_toList] at hR
    simp only [Instr.build, Sem.run_bind, hz, Result.andThen_ok, run_underlying hd, (hty _ _ hj).run_size]
    rw [show (fun i => some (i * j.size, j.size)) = placeArr j.size from rfl, hR]
    rfl
  · cases h

-- MAPS

/-- What a map holds. -/
def MapR (g : Gh) (es : List (CV × CV)) (E : List MapEntry) : Prop := F2 (fun p e => RC g p.1 e.key ∧ RC g p.2 e.val) es E

theorem keyOk_some {sh : Sh} {kv : CV} {e : Nat} (h : keyOk ty sh kv = some e) : ∃ kt i l, sh = .map kt e ∧ kv = .s l ∧ ty kt = some i ∧ i.sh = .str := by
  unfold keyOk at h
  split at h
  · rename_i kt e'
    split at h
    · rename_i l
      replace h := bnd_some h; obtain ⟨i, hi, h⟩ := h
      split at h
      · rename_i hs; cases h; exact ⟨kt, i, l, rfl, rfl, hi, hs⟩
      · cases h
    · cases h
  · cases h

theorem eqC_s {l : List Nat} {c : CV} {b : Bool} (h : eqC (.s l) c = some b) : ∃ m, c = .s m ∧ b = eqL l m := by
  cases c <;> simp only [eqC] at h <;> try cases h
  exact ⟨_, rfl, rfl⟩

theorem find_sound {l : List Nat} (hl : ∀ x ∈ l, x < 256) : ∀ {es : List (CV × CV)} {E : List MapEntry} (i : Nat) {r : Option CV}, MapR g es E → keyFind (.s l) es = some r →
    match r with
    | none => Instr.findNow .string (.string (baOf l)) E i = some none
    | some c => ∃ j e, Instr.findNow .string (.string (baOf l)) E i = some (some (i + j, e.val)) ∧ E[j]? = some e ∧ e.key = .string (baOf l) ∧ RC g c e.val
  | [], E, i, r, hF, h => by cases hF; cases h; rfl
  | p :: es, E, i, r, hF, h => by
    cases hF with
    | cons h1 ht =>
      rename_i e E
      unfold keyFind at h
      split at h
      · rename_i hk
        obtain ⟨m, hm, hb⟩ := eqC_s hk
        cases h
        have hkey := h1.1
        rw [hm] at hkey
        obtain ⟨hkey, hmb⟩ := hkey
        have hlm : l = m := (eqL_eq l m).1 hb.symm
        refine ⟨0, e, ?_, rfl, by rw [hkey, hlm], h1.2⟩
        simp [Instr.findNow, Instr.sameNow, hkey, baOf_beq hl hmb, ← hb]
      · rename_i hk
        obtain ⟨m, hm, hb⟩ := eqC_s hk
        have hkey := h1.1
        rw [hm] at hkey
        obtain ⟨hkey, hmb⟩ := hkey
        have step : Instr.findNow .string (.string (baOf l)) (e :: E) i = Instr.findNow .string (.string (baOf l)) E (i + 1) := by
          rw [Instr.findNow]
          simp [Instr.sameNow, hkey, baOf_beq hl hmb, ← hb]
        have ih := find_sound hl (i + 1) ht h
        cases r with
        | none => show _ = _; rw [step]; exact ih
        | some c =>
          obtain ⟨j, e', h2, h3, h4, h5⟩ := ih
          exact ⟨j + 1, e', by rw [step, h2]; congr 3; omega, h3, h4, h5⟩
      · cases h

theorem run_checkKey_str {kt : TypeId} (hd : P.underlying kt = some .string) (b : Bool) (n : Nat) (s : ByteArray) : (Instr.checkKey b (n + 1) kt (.string s)).run P w = .ok () w := by
  simp [Instr.checkKey, run_underlying hd]

theorem HS.map {g : Gh} {H : Tr AB} {w : World} (hs : HS g H w) {mv : CV} {es : List (CV × CV)} (h : mapOf H mv = some es) {v : Value} (hv : RC g mv v) :
    (v = .map none ∧ es = []) ∨ ∃ B E clock, v = .map (some B) ∧ w.heap[B]? = some (.map E.toArray clock) ∧ MapR g es E := by
  unfold mapOf at h
  split at h
  · cases h; exact .inl ⟨hv, rfl⟩
  · rename_i id
    obtain ⟨B, e, hB⟩ := hv
    split at h
    · rename_i es' hH
      cases h
      obtain ⟨B', O, hB', hO, E, clock, rfl, hF, _⟩ := hs _ _ hH
      rw [hB] at hB'; cases hB'
      exact .inr ⟨B, E, clock, e, hO, hF⟩
    · cases h
  · cases h

theorem RA.of_asV {agg : Bool} {zc : List CV} {z : Value} {v : AV} (hz : F2 (RC g) zc z.cells.toList) (h1 : agg = true → ∃ L : List Value, z = .agg L.toArray) (h2 : agg = false → z.cells = #[z]) (h : asV agg zc = some v) : RA g v z := by
  rcases asV_some h with ⟨hg, rfl⟩ | ⟨hg, c, rfl, rfl⟩
  · obtain ⟨L, rfl⟩ := h1 hg
    exact ⟨L, rfl, by simpa [Value.cells] using hz⟩
  · rw [h2 hg] at hz
    cases hz with
    | cons h _ => exact h

theorem run_getObj {B : Nat} {o : Obj} (h : w.heap[B]? = some o) (hc : ∀ c e f, o ≠ .cells c e f) : (getObj B).run P w = .ok o w := by
  unfold getObj
  cases o <;> simp [Sem.run, h] <;> simp_all

theorem qLookup_sound (hty : TyAll P ty) (hs : HS g H w) {ti : Nat} {m k : Operand} {ok : Bool} (hm : OpR g t ρ m) (hk : OpR g t ρ k) {v : TV} (h : qLookup ty t H ti m k ok = some v) :
    ∃ V, (Instr.lookup ti (ρ m) (ρ k) ok).run P w = .ok V w ∧ RT g v V := by
  replace h := bnd_some h; obtain ⟨i, hi, h⟩ := h
  replace h := bnd_some h; obtain ⟨mv, hmv, h⟩ := h
  replace h := bnd_some h; obtain ⟨kv, hkv, h⟩ := h
  replace h := bnd_some h; obtain ⟨e, he, h⟩ := h
  replace h := bnd_some h; obtain ⟨es, hes, h⟩ := h
  replace h := bnd_some h; obtain ⟨j, hj, h⟩ := h
  replace h := bnd_some h; obtain ⟨r, hr, h⟩ := h
  obtain ⟨kt, ki, l, hsh, rfl, hki, hks⟩ := keyOk_some he
  obtain ⟨d, hd, hds⟩ := (hty _ _ hi).und
  rw [hsh] at hds; obtain rfl : d = _ := hds
  obtain ⟨kd, hkd, hkds⟩ := (hty _ _ hki).und
  rw [hks] at hkds; obtain rfl : kd = _ := hkds
  obtain ⟨e1, hl⟩ : ρ k = .string (baOf l) ∧ ∀ x ∈ l, x < 256 := hk.c hkv
  obtain ⟨z, hz, hzF, hz1, hz2⟩ := (hty _ _ hj).run_zero w
  -- the entries that the model goes over
  obtain ⟨E, hE, hF⟩ : ∃ E : List MapEntry, (Instr.lookup ti (ρ m) (ρ k) ok).run P w = ((do
      let (v, ok') ← match ← Instr.findKey kt (.string (baOf l)) E with
        | some (_, v) => pure (v, true)
        | none => pure (← zeroValue e, false)
      pure (if ok then .tuple #[v, .bool ok'] else v) : Sem Value)).run P w ∧ MapR g es E := by
    rcases hs.map hes (hm.c hmv) with ⟨e2, rfl⟩ | ⟨B, E, clock, e2, hB, hF⟩
    · exact ⟨[], by simp [Instr.lookup, run_underlying hd, e1, e2, run_checkKey_str hkd _ 9999]; rfl, .nil⟩
    · exact ⟨E, by simp [Instr.lookup, run_underlying hd, e1, e2, run_checkKey_str hkd _ 9999, run_getObj hB (by simp)]; rfl, hF⟩
  have hf := find_sound (g := g) hl 0 hF hr
  rw [hE]
  cases r with
  | none =>
    replace h := bnd_some h; obtain ⟨zv, hzv, h⟩ := h
    cases h
    have hzR := RA.of_asV (hzF g) hz1 hz2 hzv
    cases ok with
    | true => exact ⟨.tuple #[z, .bool false], by simp [Instr.findKey, run_underlying hkd, hf, hz], [z, .bool false], rfl, .cons hzR (.cons rfl .nil)⟩
    | false => exact ⟨z, by simp [Instr.findKey, run_underlying hkd, hf, hz], hzR⟩
  | some c =>
    obtain ⟨jj, en, h1, _, _, h2⟩ := hf
    cases h
    cases ok with
    | true => exact ⟨.tuple #[en.val, .bool true], by simp [Instr.findKey, run_underlying hkd, h1], [en.val, .bool true], rfl, .cons h2 (.cons rfl .nil)⟩
    | false => exact ⟨en.val, by simp [Instr.findKey, run_underlying hkd, h1], h2⟩

-- BUILT-IN FUNCTIONS

theorem baOf_size (l : List Nat) : (baOf l).size = l.length := by simp [baOf, ByteArray.size]

theorem qLen_sound (hty : TyAll P ty) (hs : HS g H w) {argTypes : List Nat} {args : List Operand} (hx : ∀ o ∈ args, OpR g t ρ o) {T : TypeId} {v : TV} (h : qLen ty t H argTypes args = some v) :
    ∃ V, (Builtin.len_ argTypes.toArray T (args.map ρ).toArray).run P w = .ok V w ∧ RT g v V := by
  unfold qLen at h
  split at h
  · rename_i ti x
    replace h := bnd_some h; obtain ⟨i, hi, h⟩ := h
    replace h := bnd_some h; obtain ⟨u, hu, h⟩ := h
    replace h := bnd_some h; obtain ⟨n, hn, h⟩ := h
    cases h
    obtain ⟨d, hd, hds⟩ := (hty _ _ hi).und
    have hU := (hx x (by simp)).a hu
    refine ⟨.int .i64 (n : Int), ?_, rfl⟩
    have go : ∀ V, ρ x = V → (Builtin.len_ [ti].toArray T ([x].map ρ).toArray).run P w = (Builtin.len_ #[ti] T #[V]).run P w := fun V e => by rw [← e]; rfl
    unfold lenA at hn
    split at hn
    · rename_i id
      unfold lenM at hn
      split at hn
      · rename_i hsh
        rw [hsh] at hds; obtain rfl : d = _ := hds
        split at hn
        · rename_i es hH
          cases hn
          obtain ⟨B, e1, hB⟩ := hU
          obtain ⟨B', O, hB', hO, E, clock, rfl, hF, _⟩ := hs _ _ hH
          rw [hB] at hB'; cases hB'
          rw [go _ e1]
          simp [Builtin.len_, run_underlying hd, run_getObj hO (by simp), goInt, lenR_eq, hF.length]
        · cases hn
      · cases hn
    · rename_i cv _
      cases cv <;> simp only [lenC] at hn <;> try cases hn
      · rename_i l
        split at hn
        · rename_i hsh
          rw [hsh] at hds; obtain rfl : d = _ := hds
          cases hn
          obtain ⟨e1, _⟩ := hU
          rw [go _ e1]
          simp [Builtin.len_, run_underlying hd, goInt, lenR_eq, baOf_size]
        · cases hn
      · split at hn
        · rename_i hsh
          rw [hsh] at hds; obtain rfl : d = _ := hds
          cases hn
          rw [go _ hU]
          simp [Builtin.len_, run_underlying hd, goInt]
        · cases hn
      · split at hn
        · rename_i hsh
          rw [hsh] at hds; obtain rfl : d = _ := hds
          cases hn
          obtain ⟨a, cap, e1, _⟩ := hU
          rw [go _ e1]
          simp [Builtin.len_, run_underlying hd, goInt]
        · cases hn
    · split at hn
      · rename_i hsh
        rw [hsh] at hds; obtain rfl : d = _ := hds
        cases hn
        rw [go _ rfl]
        simp [Builtin.len_, run_underlying hd, goInt]
      · cases hn
  · cases h

theorem minI_eq (x y : Int) : minI x y = if y < x then y else x := by
  unfold minI; rw [ltI_eq]; by_cases h : y < x <;> simp [h, sel]
theorem maxI_eq (x y : Int) : maxI x y = if y > x then y else x := by
  unfold maxI; rw [ltI_eq]; by_cases h : x < y <;> simp [h, sel]

theorem foldL_sound {f : Int → Int → Int} {m2 : Value → Value → Sem Value} (hm : ∀ k x k' y, m2 (.int k x) (.int k' y) = pure (.int k (f x y))) {k : IntKind} : ∀ {args : List Operand} {a : Int} {v : TV}, (∀ o ∈ args, OpR g t ρ o) → foldL f t k a args = some v →
    ∃ V, ((args.map ρ).foldlM m2 (.int k a)).run P w = .ok V w ∧ RT g v V
  | [], a, v, _, h => by cases h; exact ⟨_, rfl, rfl⟩
  | x :: rest, a, v, hx, h => by
    replace h : bnd (opI t x) (fun b => foldL f t k (f a b) rest) = some v := h
    replace h := bnd_some h; obtain ⟨b, hb, h⟩ := h
    obtain ⟨k', e1⟩ := (hx x (by simp)).i hb
    obtain ⟨V, hV, hr⟩ := foldL_sound hm (fun o ho => hx o (by simp [ho])) h
    refine ⟨V, ?_, hr⟩
    simp only [List.map_cons, List.foldlM_cons, e1, hm, Sem.run_bind, Sem.run_pure, Result.andThen_ok]
    exact hV
theorem fold1_sound {f : Int → Int → Int} {m2 : Value → Value → Sem Value} (hm : ∀ k x k' y, m2 (.int k x) (.int k' y) = pure (.int k (f x y))) {args : List Operand} {v : TV} (hx : ∀ o ∈ args, OpR g t ρ o) (h : fold1 f t args = some v) :
    ∃ x rest V, args.map ρ = x :: rest ∧ (rest.foldlM m2 x).run P w = .ok V w ∧ RT g v V := by
  cases args with
  | nil => cases h
  | cons x rest =>
    simp only [fold1] at h
    split at h
    · rename_i k a hk
      have e1 : ρ x = .int k a := (hx x (by simp)).c hk
      obtain ⟨V, hV, hr⟩ := foldL_sound (w := w) hm (fun o ho => hx o (by simp [ho])) h
      exact ⟨_, _, V, rfl, by rw [e1]; exact hV, hr⟩
    · cases h
theorem qMin_sound {args : List Operand} (hx : ∀ o ∈ args, OpR g t ρ o) {A : Array TypeId} {T : TypeId} {v : TV} (h : fold1 minI t args = some v) : ∃ V, (Builtin.min_ A T (args.map ρ).toArray).run P w = .ok V w ∧ RT g v V := by
  obtain ⟨x, rest, V, e, hV, hr⟩ := fold1_sound (P := P) (w := w) (m2 := Builtin.min2) (fun k x k' y => by rw [minI_eq]; rfl) hx h
  exact ⟨V, by rw [e]; exact hV, hr⟩
theorem qMax_sound {args : List Operand} (hx : ∀ o ∈ args, OpR g t ρ o) {A : Array TypeId} {T : TypeId} {v : TV} (h : fold1 maxI t args = some v) : ∃ V, (Builtin.max_ A T (args.map ρ).toArray).run P w = .ok V w ∧ RT g v V := by
  obtain ⟨x, rest, V, e, hV, hr⟩ := fold1_sound (P := P) (w := w) (m2 := Builtin.max2) (fun k x k' y => by rw [maxI_eq]; rfl) hx h
  exact ⟨V, by rw [e]; exact hV, hr⟩

end ops
end Go.Proofs.YtjkkclfndlfjhaaGreatDoor.Ev
