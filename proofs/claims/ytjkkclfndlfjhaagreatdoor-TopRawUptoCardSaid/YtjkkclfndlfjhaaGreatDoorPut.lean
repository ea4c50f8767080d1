/- Contract of state.PutRows and cmds.put: keys and sessions, a command, as bytes. -/
import Derived.Test.YtjkkclfndlfjhaaGreatDoorPackW
import Derived.Test.YtjkkclfndlfjhaaGreatDoorRdr
import Derived.Deep.RegionHeld3
set_option linter.all false
namespace Go.Proofs.YtjkkclfndlfjhaaGreatDoor
open Go.RowKit Crc Frm Go.ChangeShapes Go.WideShapes Go.ChangeAt

theorem Has.six {W : World} {g : Nat} {t : TypeId} {a b c d e f : Value} (h : Has W g t #[a, b, c, d, e, f]) :
    W.cell? ⟨g, 0, none⟩ = some a ∧ W.cell? ⟨g, 1, none⟩ = some b ∧ W.cell? ⟨g, 2, none⟩ = some c ∧ W.cell? ⟨g, 3, none⟩ = some d ∧ W.cell? ⟨g, 4, none⟩ = some e ∧ W.cell? ⟨g, 5, none⟩ = some f :=
  ⟨h.cell 0, h.cell 1, h.cell 2, h.cell 3, h.cell 4, h.cell 5⟩
theorem Has.five {W : World} {g : Nat} {t : TypeId} {a b c d e : Value} (h : Has W g t #[a, b, c, d, e]) :
    W.cell? ⟨g, 0, none⟩ = some a ∧ W.cell? ⟨g, 1, none⟩ = some b ∧ W.cell? ⟨g, 2, none⟩ = some c ∧ W.cell? ⟨g, 3, none⟩ = some d ∧ W.cell? ⟨g, 4, none⟩ = some e :=
  ⟨h.cell 0, h.cell 1, h.cell 2, h.cell 3, h.cell 4⟩
theorem Has.four {W : World} {g : Nat} {t : TypeId} {a b c d : Value} (h : Has W g t #[a, b, c, d]) :
    W.cell? ⟨g, 0, none⟩ = some a ∧ W.cell? ⟨g, 1, none⟩ = some b ∧ W.cell? ⟨g, 2, none⟩ = some c ∧ W.cell? ⟨g, 3, none⟩ = some d :=
  ⟨h.cell 0, h.cell 1, h.cell 2, h.cell 3⟩
theorem Has.three {W : World} {g : Nat} {t : TypeId} {a b c : Value} (h : Has W g t #[a, b, c]) :
    W.cell? ⟨g, 0, none⟩ = some a ∧ W.cell? ⟨g, 1, none⟩ = some b ∧ W.cell? ⟨g, 2, none⟩ = some c :=
  ⟨h.cell 0, h.cell 1, h.cell 2⟩

set_option maxRecDepth 100000 in
set_option maxHeartbeats 1600000 in
theorem cput_any (n₀ g : Nat) (bs : List UInt8) (c : Cm) (hl : bs.length ≤ 1000) (h1 : c.key.size ≤ 100000) (h2 : c.val.size ≤ 100000) (h3 : c.old.size ≤ 100000) (W : World) (h : Wr n₀ W g bs) :
    Calls Tryz.prog 60 #[.pointer (some ⟨g, 0, none⟩), c.v] W fun e W' => e = .returned (.tuple #[]) ∧ Wr n₀ W' g (bs ++ cmBytes c) ∧ Wx n₀ W W' := by
  have hgl := h.lt
  have hn0 : n₀ ≤ g := by obtain ⟨_, _, _, h⟩ := h; exact h
  have ha : Below W.heap.size W (W.alloc (.cells #[.int .i64 c.op, .int .i64 c.client, .int .i64 c.seq, .string c.key, .string c.val, .string c.old] 59)).drew := ((Below.refl _ W).alloc (Nat.le_refl _) _).drew
  have H0 := Lib.hid (h.below ha)
  have K0 := Lib.hid (Has.new W 59 #[.int .i64 c.op, .int .i64 c.client, .int .i64 c.seq, .string c.key, .string c.val, .string c.old]).drew
  have X0 := Lib.hid ((Wx.refl n₀ W).below ha (by omega))
  clear h ha
  unfold Cm.v
  go_enter Tryz.func60, Tryz.ntmps60
  go_upto_region 1 with fail
  go_region_held3 (fun w' => w'.cell? ⟨W.heap.size, 0, none⟩ = some (.int .i64 c.op) ∧ w'.cell? ⟨W.heap.size, 1, none⟩ = some (.int .i64 c.client) ∧ w'.cell? ⟨W.heap.size, 2, none⟩ = some (.int .i64 c.seq) ∧ w'.cell? ⟨W.heap.size, 3, none⟩ = some (.string c.key) ∧ w'.cell? ⟨W.heap.size, 4, none⟩ = some (.string c.val) ∧ w'.cell? ⟨W.heap.size, 5, none⟩ = some (.string c.old))
    (first | exact K6.out.six | exact K5.out.six | exact K4.out.six | exact K3.out.six | exact K2.out.six | exact K1.out.six | exact K0.out.six)
    (first
      | (go_at_call 64; refine (wtext_any n₀ g _ c.old (by simp [beTo_len, txt_len]; omega) (by omega) _ H5.out).mono ?_; rintro e w6 ⟨rfl, h, x⟩; have H6 := Lib.hid h; have K6 := Lib.hid (K5.out.frT x.2 (by decide)); have X6 := Lib.hid (X5.out.trans x); clear h x)
      | (go_at_call 64; refine (wtext_any n₀ g _ c.val (by simp [beTo_len, txt_len]; omega) (by omega) _ H4.out).mono ?_; rintro e w5 ⟨rfl, h, x⟩; have H5 := Lib.hid h; have K5 := Lib.hid (K4.out.frT x.2 (by decide)); have X5 := Lib.hid (X4.out.trans x); clear h x)
      | (go_at_call 64; refine (wtext_any n₀ g _ c.key (by simp [beTo_len]; omega) (by omega) _ H3.out).mono ?_; rintro e w4 ⟨rfl, h, x⟩; have H4 := Lib.hid h; have K4 := Lib.hid (K3.out.frT x.2 (by decide)); have X4 := Lib.hid (X3.out.trans x); clear h x)
      | (go_at_call 55; refine (wnum_any n₀ g _ c.seq (by simp [beTo_len]; omega) _ H2.out).mono ?_; rintro e w3 ⟨rfl, h, x⟩; have H3 := Lib.hid h; have K3 := Lib.hid (K2.out.frT x.2 (by decide)); have X3 := Lib.hid (X2.out.trans x); clear h x)
      | (go_at_call 55; refine (wnum_any n₀ g _ c.client (by simp; omega) _ H1.out).mono ?_; rintro e w2 ⟨rfl, h, x⟩; have H2 := Lib.hid h; have K2 := Lib.hid (K1.out.frT x.2 (by decide)); have X2 := Lib.hid (X1.out.trans x); clear h x)
      | (go_at_call 65; refine (wbyte_int n₀ g bs (byteOf c.op 0) _ (byteOf_wrap8 _) (by omega) _ H0.out).mono ?_; rintro e w1 ⟨rfl, h, x⟩; have H1 := Lib.hid h; have K1 := Lib.hid (K0.out.frT x.2 (by decide)); have X1 := Lib.hid (X0.out.trans x); clear h x))
  go_wp2
  go_end0
  exact ⟨rfl, by simpa [cmBytes] using H6.out, X6.out⟩

set_option maxRecDepth 100000 in
set_option maxHeartbeats 3200000 in
theorem putrows_any (n₀ g : Nat) (bs : List UInt8) (psv xsv : Value) (ps : List Pr) (xs : List Ss) (hl : bs.length + (putRows ps xs).length ≤ 800000000) (W : World) (h : Wr n₀ W g bs)
    (hps : ∀ W', Below n₀ W W' → IsL W' layPr psv ps) (hxs : ∀ W', Below n₀ W W' → IsL W' laySs xsv xs) :
    Calls Tryz.prog 56 #[.pointer (some ⟨g, 0, none⟩), psv, xsv] W fun e W' => e = .returned (.tuple #[]) ∧ Wr n₀ W' g (bs ++ putRows ps xs) ∧ Wx n₀ W W' := by
  have H := Lib.hid h
  have HP := Lib.hid hps
  have HXS := Lib.hid hxs
  have hgl := h.lt
  have hn0 : n₀ ≤ g := by obtain ⟨_, _, _, h⟩ := h; exact h
  obtain ⟨A, cap, rfl, -⟩ := hps W (Below.refl _ _)
  obtain ⟨A2, cap2, rfl, -⟩ := hxs W (Below.refl _ _)
  have hlen : (putRows ps xs).length = 16 + (ps.flatMap putPair).length + (xs.flatMap putSess).length := by
    simp only [putRows, List.length_append, beTo_len]; omega
  have hpsl := flat_least putPair 17 (fun x => by rw [putPair_len]; omega) ps
  have hxsl := flat_least putSess 32 (fun x => by rw [putSess_len]; omega) xs
  clear h hps hxs
  go_enter Tryz.func56, Tryz.ntmps56
  go_wp2_with fail
  refine (wnum_any n₀ g bs (ps.length : Int) (by omega) _ H.out).mono ?_
  rintro e w1 ⟨rfl, h1, x1⟩
  have HA := Lib.hid h1
  have XA := Lib.hid x1
  clear h1 x1
  go_wp2
  go_loopw [17] (fun i wr => ∃ j : Nat, j ≤ ps.length ∧ i = .int .i64 (j : Int) ∧ Wr n₀ wr g (bs ++ beTo (ps.length : Int) 8 ++ (ps.take j).flatMap putPair) ∧ Wx n₀ W wr) (fun i _ => ps.length - (intOf i).toNat)
  case atStart => exact ⟨0, by omega, rfl, by simpa using HA.out, XA.out⟩
  case round =>
    obtain ⟨j, hj, rfl, hw, hx⟩ := hrel
    by_cases hjl : j < ps.length
    · obtain ⟨p, hp⟩ : ∃ p, ps[j]? = some p := ⟨_, List.getElem?_eq_getElem hjl⟩
      obtain ⟨b, off, hA, hcell⟩ := (HP.out wr hx.1).at_ hp
      obtain rfl := hA
      have c0 : wr.cell? ⟨b, off + j * 3, none⟩ = some (.string p.key) := hcell 0 _ rfl
      have c1 : wr.cell? ⟨b, off + j * 3 + 1, none⟩ = some (.string p.val) := hcell 1 _ rfl
      have c2 : wr.cell? ⟨b, off + j * 3 + 2, none⟩ = some (.bool p.gone) := hcell 2 _ rfl
      have hwl := hw.lt
      have hpl : (bs ++ beTo (ps.length : Int) 8 ++ (ps.take j).flatMap putPair).length + (putPair p).length ≤ 800000000 := by
        have h1 := flat_take_le putPair ps (j + 1)
        rw [flat_take_succ _ hp, List.length_append] at h1
        simp only [List.length_append, beTo_len]
        omega
      rw [putPair_len] at hpl
      have ha : ∀ o, Below wr.heap.size wr (wr.alloc o).drew := fun o => ((Below.refl _ wr).alloc (Nat.le_refl _) o).drew
      have H0 := fun o => Lib.hid (hw.below (ha o))
      have X0 := fun o => Lib.hid (hx.below (ha o) (by omega))
      clear hw hx hcell ha
      obtain ⟨key, val, gone⟩ := p
      simp only at c0 c1 c2 hpl
      generalize hB : bs ++ beTo (ps.length : Int) 8 ++ (ps.take j).flatMap putPair = B at *
      cases gone with
      | true =>
        replace H0 := H0 (.cells #[.string key, .string val, .bool true] 201)
        replace X0 := X0 (.cells #[.string key, .string val, .bool true] 201)
        have K0 := Lib.hid (Has.new wr 201 #[.string key, .string val, .bool true]).drew
        go_wp2
        go_region_held3 (fun w' => w'.cell? ⟨wr.heap.size, 0, none⟩ = some (.string key) ∧ w'.cell? ⟨wr.heap.size, 1, none⟩ = some (.string val) ∧ w'.cell? ⟨wr.heap.size, 2, none⟩ = some (.bool true))
          (first | exact K3.out.three | exact K2.out.three | exact K1.out.three | exact K0.out.three)
          (first
            | (go_at_call 65; refine (wbyte_any n₀ g _ 1 (by rw [List.length_append, List.length_append, txt_len, txt_len]; omega) _ H2.out).mono ?_; rintro e w3 ⟨rfl, h, x⟩; have H3 := Lib.hid h; have K3 := Lib.hid (K2.out.frT x.2 (by decide)); have X3 := Lib.hid (X2.out.trans x); clear h x)
            | (go_at_call 64; refine (wtext_any n₀ g _ val (by rw [List.length_append, txt_len]; omega) (by omega) _ H1.out).mono ?_; rintro e w2 ⟨rfl, h, x⟩; have H2 := Lib.hid h; have K2 := Lib.hid (K1.out.frT x.2 (by decide)); have X2 := Lib.hid (X1.out.trans x); clear h x)
            | (go_at_call 64; refine (wtext_any n₀ g _ key (by omega) (by omega) _ H0.out).mono ?_; rintro e w1 ⟨rfl, h, x⟩; have H1 := Lib.hid h; have K1 := Lib.hid (K0.out.frT x.2 (by decide)); have X1 := Lib.hid (X0.out.trans x); clear h x))
        all_goals
          go_wp2
          go_roundw
          case rel => exact ⟨j + 1, by omega, by go_num, by rw [flat_take_succ _ hp, ← List.append_assoc, hB]; simpa [putPair] using H3.out, X3.out⟩
          case measure => simp [intOf]; omega
      | false =>
        replace H0 := H0 (.cells #[.string key, .string val, .bool false] 201)
        replace X0 := X0 (.cells #[.string key, .string val, .bool false] 201)
        have K0 := Lib.hid (Has.new wr 201 #[.string key, .string val, .bool false]).drew
        go_wp2
        go_region_held3 (fun w' => w'.cell? ⟨wr.heap.size, 0, none⟩ = some (.string key) ∧ w'.cell? ⟨wr.heap.size, 1, none⟩ = some (.string val) ∧ w'.cell? ⟨wr.heap.size, 2, none⟩ = some (.bool false))
          (first | exact K3.out.three | exact K2.out.three | exact K1.out.three | exact K0.out.three)
          (first
            | (go_at_call 65; refine (wbyte_any n₀ g _ 0 (by rw [List.length_append, List.length_append, txt_len, txt_len]; omega) _ H2.out).mono ?_; rintro e w3 ⟨rfl, h, x⟩; have H3 := Lib.hid h; have K3 := Lib.hid (K2.out.frT x.2 (by decide)); have X3 := Lib.hid (X2.out.trans x); clear h x)
            | (go_at_call 64; refine (wtext_any n₀ g _ val (by rw [List.length_append, txt_len]; omega) (by omega) _ H1.out).mono ?_; rintro e w2 ⟨rfl, h, x⟩; have H2 := Lib.hid h; have K2 := Lib.hid (K1.out.frT x.2 (by decide)); have X2 := Lib.hid (X1.out.trans x); clear h x)
            | (go_at_call 64; refine (wtext_any n₀ g _ key (by omega) (by omega) _ H0.out).mono ?_; rintro e w1 ⟨rfl, h, x⟩; have H1 := Lib.hid h; have K1 := Lib.hid (K0.out.frT x.2 (by decide)); have X1 := Lib.hid (X0.out.trans x); clear h x))
        all_goals
          go_wp2
          go_roundw
          case rel => exact ⟨j + 1, by omega, by go_num, by rw [flat_take_succ _ hp, ← List.append_assoc, hB]; simpa [putPair] using H3.out, X3.out⟩
          case measure => simp [intOf]; omega
    · obtain rfl : j = ps.length := by omega
      rw [List.take_length] at hw
      have hwl := hw.lt
      have HB := Lib.hid hw
      have XB := Lib.hid hx
      clear hw hx
      go_wp2_with fail
      refine (wnum_any n₀ g _ (xs.length : Int) (by simp only [List.length_append, beTo_len]; omega) _ HB.out).mono ?_
      rintro e w3 ⟨rfl, h3, x3⟩
      have HD := Lib.hid h3
      have XD := Lib.hid (XB.out.trans x3)
      clear h3 x3 HB XB HA XA H
      go_wp2
      go_loopw [39] (fun i wr => ∃ j : Nat, j ≤ xs.length ∧ i = .int .i64 (j : Int) ∧ Wr n₀ wr g (bs ++ beTo (ps.length : Int) 8 ++ ps.flatMap putPair ++ beTo (xs.length : Int) 8 ++ (xs.take j).flatMap putSess) ∧ Wx n₀ W wr) (fun i _ => xs.length - (intOf i).toNat)
      case atStart => exact ⟨0, by omega, rfl, by simpa using HD.out, XD.out⟩
      case round =>
        obtain ⟨j, hj, rfl, hw, hx⟩ := hrel
        by_cases hjl : j < xs.length
        · obtain ⟨x, hp⟩ : ∃ p, xs[j]? = some p := ⟨_, List.getElem?_eq_getElem hjl⟩
          obtain ⟨b, off, hA, hcell⟩ := (HXS.out wr hx.1).at_ hp
          obtain rfl := hA
          have c0 : wr.cell? ⟨b, off + j * 4, none⟩ = some (.int .i64 x.client) := hcell 0 _ rfl
          have c1 : wr.cell? ⟨b, off + j * 4 + 1, none⟩ = some (.int .i64 x.seq) := hcell 1 _ rfl
          have c2 : wr.cell? ⟨b, off + j * 4 + 2, none⟩ = some (.int .i64 x.err) := hcell 2 _ rfl
          have c3 : wr.cell? ⟨b, off + j * 4 + 3, none⟩ = some (.string x.val) := hcell 3 _ rfl
          have hwl := hw.lt
          have hpl : (bs ++ beTo (ps.length : Int) 8 ++ ps.flatMap putPair ++ beTo (xs.length : Int) 8 ++ (xs.take j).flatMap putSess).length + (putSess x).length ≤ 800000000 := by
            have h1 := flat_take_le putSess xs (j + 1)
            rw [flat_take_succ _ hp, List.length_append] at h1
            simp only [List.length_append, beTo_len]
            omega
          rw [putSess_len] at hpl
          have ha : Below wr.heap.size wr (wr.alloc (.cells #[.int .i64 x.client, .int .i64 x.seq, .int .i64 x.err, .string x.val] 68)).drew := ((Below.refl _ wr).alloc (Nat.le_refl _) _).drew
          have H0 := Lib.hid (hw.below ha)
          have X0 := Lib.hid (hx.below ha (by omega))
          have K0 := Lib.hid (Has.new wr 68 #[.int .i64 x.client, .int .i64 x.seq, .int .i64 x.err, .string x.val]).drew
          clear hw hx hcell ha
          generalize hB : bs ++ beTo (ps.length : Int) 8 ++ ps.flatMap putPair ++ beTo (xs.length : Int) 8 ++ (xs.take j).flatMap putSess = B at *
          go_wp2
          go_region_held3 (fun w' => w'.cell? ⟨wr.heap.size, 0, none⟩ = some (.int .i64 x.client) ∧ w'.cell? ⟨wr.heap.size, 1, none⟩ = some (.int .i64 x.seq) ∧ w'.cell? ⟨wr.heap.size, 2, none⟩ = some (.int .i64 x.err) ∧ w'.cell? ⟨wr.heap.size, 3, none⟩ = some (.string x.val))
            (first | exact K4.out.four | exact K3.out.four | exact K2.out.four | exact K1.out.four | exact K0.out.four)
            (first
              | (go_at_call 64; refine (wtext_any n₀ g _ x.val (by simp only [List.length_append, beTo_len] at *; omega) (by omega) _ H3.out).mono ?_; rintro e w4 ⟨rfl, h, x⟩; have H4 := Lib.hid h; have K4 := Lib.hid (K3.out.frT x.2 (by decide)); have X4 := Lib.hid (X3.out.trans x); clear h x)
              | (go_at_call 55; refine (wnum_any n₀ g _ x.err (by simp only [List.length_append, beTo_len] at *; omega) _ H2.out).mono ?_; rintro e w3 ⟨rfl, h, x⟩; have H3 := Lib.hid h; have K3 := Lib.hid (K2.out.frT x.2 (by decide)); have X3 := Lib.hid (X2.out.trans x); clear h x)
              | (go_at_call 55; refine (wnum_any n₀ g _ x.seq (by rw [List.length_append, beTo_len]; omega) _ H1.out).mono ?_; rintro e w2 ⟨rfl, h, x⟩; have H2 := Lib.hid h; have K2 := Lib.hid (K1.out.frT x.2 (by decide)); have X2 := Lib.hid (X1.out.trans x); clear h x)
              | (go_at_call 55; refine (wnum_any n₀ g _ x.client (by omega) _ H0.out).mono ?_; rintro e w1 ⟨rfl, h, x⟩; have H1 := Lib.hid h; have K1 := Lib.hid (K0.out.frT x.2 (by decide)); have X1 := Lib.hid (X0.out.trans x); clear h x))
          all_goals
            go_wp2
            go_roundw
            case rel => exact ⟨j + 1, by omega, by go_num, by rw [flat_take_succ _ hp, ← List.append_assoc, hB]; simpa [putSess] using H4.out, X4.out⟩
            case measure => simp [intOf]; omega
        · obtain rfl : j = xs.length := by omega
          rw [List.take_length] at hw
          have H4 := Lib.hid hw
          have X4 := Lib.hid hx
          clear hw hx
          go_wp2
          go_end0
          exact ⟨rfl, by simpa [putRows] using H4.out, X4.out⟩
end Go.Proofs.YtjkkclfndlfjhaaGreatDoor
