/- Contracts of Bytes of state, delta, cmds and edits, and of image.head: what bytes they make. -/
import Derived.Test.YtjkkclfndlfjhaaGreatDoorPut
set_option linter.all false
namespace Go.Proofs.YtjkkclfndlfjhaaGreatDoor
open Go.RowKit Crc Frm Go.ChangeShapes Go.WideShapes Go.ChangeAt

theorem Wr.le {n₀ g : Nat} {W : World} {bs : List UInt8} (h : Wr n₀ W g bs) : n₀ ≤ g := by obtain ⟨_, _, _, h⟩ := h; exact h
/-- What a function leaves that makes bytes. -/
def Made (W : World) (bs : List UInt8) (e : Ending) (W' : World) : Prop := ∃ v, e = .returned v ∧ Owns W' W.heap.size v bs ∧ Below W.heap.size W W'

set_option maxRecDepth 100000 in
set_option maxHeartbeats 1600000 in
theorem stbytes_any (index term : Int) (psv xsv : Value) (ps : List Pr) (xs : List Ss) (hl : (putRows ps xs).length ≤ 700000000) (W : World) (hps : IsL W layPr psv ps) (hxs : IsL W laySs xsv xs) :
    Calls Tryz.prog 16 #[.agg #[.int .i64 index, .int .i64 term, psv, xsv]] W (Made W (stBytes index term ps xs)) := by
  have HP := Lib.hid hps
  have HXS := Lib.hid hxs
  obtain ⟨A, cap, rfl, -⟩ := hps
  obtain ⟨A2, cap2, rfl, -⟩ := hxs
  have ha : ∀ o o', Below W.heap.size W (((W.alloc o).alloc o').drew) := fun o o' => (((Below.refl _ W).alloc (Nat.le_refl _) _).alloc (by simp) _).drew
  have H0 := Lib.hid ((Wr.new (n₀ := W.heap.size) (W := W.alloc (.cells #[.int .i64 index, .int .i64 term, (.slice A ps.length cap), (.slice A2 xs.length cap2)] 30)) (by simp)).below (Below.refl _ _).drew)
  have K0 := Lib.hid (((Has.new W 30 #[.int .i64 index, .int .i64 term, (.slice A ps.length cap), (.slice A2 xs.length cap2)]).alloc (.cells #[.slice none 0 0] 164))).drew
  have X0 := Lib.hid ((Wx.refl W.heap.size W).below (ha (.cells #[.int .i64 index, .int .i64 term, (.slice A ps.length cap), (.slice A2 xs.length cap2)] 30) (.cells #[.slice none 0 0] 164)) (Nat.le_refl _))
  rw [World.size_alloc] at H0
  clear ha
  go_enter Tryz.func16, Tryz.ntmps16
  go_wp2
  go_region_held3 (fun w' => w'.cell? ⟨W.heap.size, 0, none⟩ = some (.int .i64 index) ∧ w'.cell? ⟨W.heap.size, 1, none⟩ = some (.int .i64 term) ∧ w'.cell? ⟨W.heap.size, 2, none⟩ = some (.slice A ps.length cap) ∧ w'.cell? ⟨W.heap.size, 3, none⟩ = some (.slice A2 xs.length cap2))
    (first | exact K2.out.four | exact K1.out.four | exact K0.out.four)
    (first
      | (go_at_call 55; refine (wnum_any W.heap.size _ _ term (by simp [beTo_len]) _ H1.out).mono ?_; rintro e w2 ⟨rfl, h, x⟩; have H2 := Lib.hid h; have K2 := Lib.hid (K1.out.frT x.2 (by decide)); have X2 := Lib.hid (X1.out.trans x); clear h x)
      | (go_at_call 55; refine (wnum_any W.heap.size _ _ index (by simp) _ H0.out).mono ?_; rintro e w1 ⟨rfl, h, x⟩; have H1 := Lib.hid h; have K1 := Lib.hid (K0.out.frT x.2 (by decide)); have X1 := Lib.hid (X0.out.trans x); clear h x))
  have c2 : w2.cell? ⟨W.heap.size, 2, none⟩ = _ := K2.out.cell 2
  have c3 : w2.cell? ⟨W.heap.size, 3, none⟩ = _ := K2.out.cell 3
  simp only [List.getElem?_toArray, List.getElem?_cons_succ, List.getElem?_cons_zero] at c2 c3
  go_wp2_with fail
  refine (putrows_any W.heap.size _ _ _ _ ps xs (by simp only [List.length_append, List.length_nil, beTo_len]; omega) _ H2.out (fun W' hb => HP.out.below (X2.out.1.trans hb) (Nat.le_refl _)) (fun W' hb => HXS.out.below (X2.out.1.trans hb) (Nat.le_refl _))).mono ?_
  rintro e wa ⟨rfl, h, x⟩
  have HA := Lib.hid h
  have XA := Lib.hid (X2.out.trans x)
  clear h x c2 c3
  go_wp2_with fail
  refine (wbytes_any W.heap.size _ _ (by simp only [List.length_append, List.length_nil, beTo_len]; omega) _ HA.out).mono ?_
  rintro e wb ⟨v, rfl, h, x⟩
  have hsz := XA.out.1.size
  have HB := Lib.hid (h.base W.heap.size hsz)
  have XB := Lib.hid (XA.out.1.trans (x.mono hsz))
  clear h x
  go_wp2
  go_ret
  exact ⟨v, rfl, by simpa [stBytes] using HB.out, XB.out⟩

set_option maxRecDepth 100000 in
set_option maxHeartbeats 1600000 in
theorem debytes_any (a b t : Int) (psv xsv : Value) (ps : List Pr) (xs : List Ss) (hl : (putRows ps xs).length ≤ 700000000) (W : World) (hps : IsL W layPr psv ps) (hxs : IsL W laySs xsv xs) :
    Calls Tryz.prog 18 #[.agg #[.int .i64 a, .int .i64 b, .int .i64 t, psv, xsv]] W (Made W (deBytes a b t ps xs)) := by
  have HP := Lib.hid hps
  have HXS := Lib.hid hxs
  obtain ⟨A, cap, rfl, -⟩ := hps
  obtain ⟨A2, cap2, rfl, -⟩ := hxs
  have ha : ∀ o o', Below W.heap.size W (((W.alloc o).alloc o').drew) := fun o o' => (((Below.refl _ W).alloc (Nat.le_refl _) _).alloc (by simp) _).drew
  have H0 := Lib.hid ((Wr.new (n₀ := W.heap.size) (W := W.alloc (.cells #[.int .i64 a, .int .i64 b, .int .i64 t, (.slice A ps.length cap), (.slice A2 xs.length cap2)] 87)) (by simp)).below (Below.refl _ _).drew)
  have K0 := Lib.hid (((Has.new W 87 #[.int .i64 a, .int .i64 b, .int .i64 t, (.slice A ps.length cap), (.slice A2 xs.length cap2)]).alloc (.cells #[.slice none 0 0] 164))).drew
  have X0 := Lib.hid ((Wx.refl W.heap.size W).below (ha (.cells #[.int .i64 a, .int .i64 b, .int .i64 t, (.slice A ps.length cap), (.slice A2 xs.length cap2)] 87) (.cells #[.slice none 0 0] 164)) (Nat.le_refl _))
  rw [World.size_alloc] at H0
  clear ha
  go_enter Tryz.func18, Tryz.ntmps18
  go_wp2
  go_region_held3 (fun w' => w'.cell? ⟨W.heap.size, 0, none⟩ = some (.int .i64 a) ∧ w'.cell? ⟨W.heap.size, 1, none⟩ = some (.int .i64 b) ∧ w'.cell? ⟨W.heap.size, 2, none⟩ = some (.int .i64 t) ∧ w'.cell? ⟨W.heap.size, 3, none⟩ = some (.slice A ps.length cap) ∧ w'.cell? ⟨W.heap.size, 4, none⟩ = some (.slice A2 xs.length cap2))
    (first | exact K3.out.five | exact K2.out.five | exact K1.out.five | exact K0.out.five)
    (first
      | (go_at_call 55; refine (wnum_any W.heap.size _ _ t (by simp [beTo_len]) _ H2.out).mono ?_; rintro e w3 ⟨rfl, h, x⟩; have H3 := Lib.hid h; have K3 := Lib.hid (K2.out.frT x.2 (by decide)); have X3 := Lib.hid (X2.out.trans x); clear h x)
      | (go_at_call 55; refine (wnum_any W.heap.size _ _ b (by simp [beTo_len]) _ H1.out).mono ?_; rintro e w2 ⟨rfl, h, x⟩; have H2 := Lib.hid h; have K2 := Lib.hid (K1.out.frT x.2 (by decide)); have X2 := Lib.hid (X1.out.trans x); clear h x)
      | (go_at_call 55; refine (wnum_any W.heap.size _ _ a (by simp) _ H0.out).mono ?_; rintro e w1 ⟨rfl, h, x⟩; have H1 := Lib.hid h; have K1 := Lib.hid (K0.out.frT x.2 (by decide)); have X1 := Lib.hid (X0.out.trans x); clear h x))
  have c2 : w3.cell? ⟨W.heap.size, 3, none⟩ = _ := K3.out.cell 3
  have c3 : w3.cell? ⟨W.heap.size, 4, none⟩ = _ := K3.out.cell 4
  simp only [List.getElem?_toArray, List.getElem?_cons_succ, List.getElem?_cons_zero] at c2 c3
  go_wp2_with fail
  refine (putrows_any W.heap.size _ _ _ _ ps xs (by simp only [List.length_append, List.length_nil, beTo_len]; omega) _ H3.out (fun W' hb => HP.out.below (X3.out.1.trans hb) (Nat.le_refl _)) (fun W' hb => HXS.out.below (X3.out.1.trans hb) (Nat.le_refl _))).mono ?_
  rintro e wa ⟨rfl, h, x⟩
  have HA := Lib.hid h
  have XA := Lib.hid (X3.out.trans x)
  clear h x c2 c3
  go_wp2_with fail
  refine (wbytes_any W.heap.size _ _ (by simp only [List.length_append, List.length_nil, beTo_len]; omega) _ HA.out).mono ?_
  rintro e wb ⟨v, rfl, h, x⟩
  have hsz := XA.out.1.size
  have HB := Lib.hid (h.base W.heap.size hsz)
  have XB := Lib.hid (XA.out.1.trans (x.mono hsz))
  clear h x
  go_wp2
  go_ret
  exact ⟨v, rfl, by simpa [deBytes] using HB.out, XB.out⟩

theorem Has.eight {W : World} {g : Nat} {t : TypeId} {a b c d e f p q : Value} (h : Has W g t #[a, b, c, d, e, f, p, q]) :
    W.cell? ⟨g, 0, none⟩ = some a ∧ W.cell? ⟨g, 1, none⟩ = some b :=
  ⟨h.cell 0, h.cell 1⟩
set_option maxRecDepth 100000 in
set_option maxHeartbeats 1600000 in
theorem enbytes_any (x : En) (h1 : x.cmd.key.size ≤ 100000) (h2 : x.cmd.val.size ≤ 100000) (h3 : x.cmd.old.size ≤ 100000) (W : World) :
    Calls Tryz.prog 20 #[x.v] W (Made W (enBytes x)) := by
  have ha : ∀ o o', Below W.heap.size W (((W.alloc o).alloc o').drew) := fun o o' => (((Below.refl _ W).alloc (Nat.le_refl _) _).alloc (by simp) _).drew
  have H0 := Lib.hid ((Wr.new (n₀ := W.heap.size) (W := W.alloc (.cells #[.int .i64 x.index, .int .i64 x.term, .int .i64 x.cmd.op, .int .i64 x.cmd.client, .int .i64 x.cmd.seq, .string x.cmd.key, .string x.cmd.val, .string x.cmd.old] 61)) (by simp)).below (Below.refl _ _).drew)
  have K0 := Lib.hid (((Has.new W 61 #[.int .i64 x.index, .int .i64 x.term, .int .i64 x.cmd.op, .int .i64 x.cmd.client, .int .i64 x.cmd.seq, .string x.cmd.key, .string x.cmd.val, .string x.cmd.old]).alloc (.cells #[.slice none 0 0] 164))).drew
  have X0 := Lib.hid ((Wx.refl W.heap.size W).below (ha (.cells #[.int .i64 x.index, .int .i64 x.term, .int .i64 x.cmd.op, .int .i64 x.cmd.client, .int .i64 x.cmd.seq, .string x.cmd.key, .string x.cmd.val, .string x.cmd.old] 61) (.cells #[.slice none 0 0] 164)) (Nat.le_refl _))
  rw [World.size_alloc] at H0
  clear ha
  unfold En.v
  go_enter Tryz.func20, Tryz.ntmps20
  go_wp2
  go_region_held3 (fun w' => w'.cell? ⟨W.heap.size, 0, none⟩ = some (.int .i64 x.index) ∧ w'.cell? ⟨W.heap.size, 1, none⟩ = some (.int .i64 x.term))
    (first | exact K2.out.eight | exact K1.out.eight | exact K0.out.eight)
    (first
      | (go_at_call 55; refine (wnum_any W.heap.size _ _ x.term (by simp [beTo_len]) _ H1.out).mono ?_; rintro e w2 ⟨rfl, h, x⟩; have H2 := Lib.hid h; have K2 := Lib.hid (K1.out.frT x.2 (by decide)); have X2 := Lib.hid (X1.out.trans x); clear h x)
      | (go_at_call 55; refine (wnum_any W.heap.size _ _ x.index (by simp) _ H0.out).mono ?_; rintro e w1 ⟨rfl, h, x⟩; have H1 := Lib.hid h; have K1 := Lib.hid (K0.out.frT x.2 (by decide)); have X1 := Lib.hid (X0.out.trans x); clear h x))
  have c2 : w2.cell? ⟨W.heap.size, 2, none⟩ = _ := K2.out.cell 2
  have c3 : w2.cell? ⟨W.heap.size, 3, none⟩ = _ := K2.out.cell 3
  have c4 : w2.cell? ⟨W.heap.size, 4, none⟩ = _ := K2.out.cell 4
  have c5 : w2.cell? ⟨W.heap.size, 5, none⟩ = _ := K2.out.cell 5
  have c6 : w2.cell? ⟨W.heap.size, 6, none⟩ = _ := K2.out.cell 6
  have c7 : w2.cell? ⟨W.heap.size, 7, none⟩ = _ := K2.out.cell 7
  simp only [List.getElem?_toArray, List.getElem?_cons_succ, List.getElem?_cons_zero] at c2 c3 c4 c5 c6 c7
  go_wp2_with fail
  refine (cput_any W.heap.size _ _ x.cmd (by simp only [List.length_append, List.length_nil, beTo_len]; omega) h1 h2 h3 _ H2.out).mono ?_
  rintro e wa ⟨rfl, h, x'⟩
  have HA := Lib.hid h
  have XA := Lib.hid (X2.out.trans x')
  clear h x' c2 c3 c4 c5 c6 c7
  go_wp2_with fail
  refine (wbytes_any W.heap.size _ _ (by simp only [cmBytes, List.length_append, List.length_nil, List.length_singleton, beTo_len, txt_len]; omega) _ HA.out).mono ?_
  rintro e wb ⟨v, rfl, h, x'⟩
  have hsz := XA.out.1.size
  have HB := Lib.hid (h.base W.heap.size hsz)
  have XB := Lib.hid (XA.out.1.trans (x'.mono hsz))
  clear h x'
  go_wp2
  go_ret
  exact ⟨v, rfl, by simpa [enBytes] using HB.out, XB.out⟩

set_option maxRecDepth 100000 in
set_option maxHeartbeats 1600000 in
theorem head_any (k a b : Int) (W : World) : Calls Tryz.prog 45 #[.int .i64 k, .int .i64 a, .int .i64 b] W (Made W (headBytes k a b)) := by
  have hb0 : Below W.heap.size W (W.alloc (.cells #[.slice none 0 0] 164)) := (Below.refl _ W).alloc (Nat.le_refl _) _
  have H0 := Lib.hid (Wr.new (n₀ := W.heap.size) (W := W) (Nat.le_refl _))
  have X0 := Lib.hid ((Wx.refl W.heap.size W).below hb0 (Nat.le_refl _))
  clear hb0
  go_enter Tryz.func45, Tryz.ntmps45
  go_wp2_with fail
  refine (wbyte_int W.heap.size _ _ (byteOf k 0) _ (by first | exact byteOf_wrap8 _ | exact byteOf_mod _) (by simp) _ H0.out).mono ?_
  rintro e w1 ⟨rfl, h, x⟩
  have H1 := Lib.hid h
  have X1 := Lib.hid (X0.out.trans x)
  clear h x
  go_wp2_with fail
  refine (wnum_any W.heap.size _ _ a (by simp) _ H1.out).mono ?_
  rintro e w2 ⟨rfl, h, x⟩
  have H2 := Lib.hid h
  have X2 := Lib.hid (X1.out.trans x)
  clear h x
  go_wp2_with fail
  refine (wnum_any W.heap.size _ _ b (by simp [beTo_len]) _ H2.out).mono ?_
  rintro e w3 ⟨rfl, h, x⟩
  have H3 := Lib.hid h
  have X3 := Lib.hid (X2.out.trans x)
  clear h x
  go_wp2_with fail
  refine (wbytes_any W.heap.size _ _ (by simp [beTo_len]) _ H3.out).mono ?_
  rintro e wb ⟨v, rfl, h, x⟩
  have hsz := X3.out.1.size
  have HB := Lib.hid (h.base W.heap.size hsz)
  have XB := Lib.hid (X3.out.1.trans (x.mono hsz))
  clear h x
  go_wp2
  go_ret
  exact ⟨v, rfl, by simpa [headBytes] using HB.out, XB.out⟩
end Go.Proofs.YtjkkclfndlfjhaaGreatDoor
/- Contract of image.frames: frames of rows, one behind the other. -/
namespace Go.Proofs.YtjkkclfndlfjhaaGreatDoor
open Go.RowKit Crc Frm Go.ChangeShapes Go.WideShapes Go.ChangeAt

theorem join_snoc (rs : List (List UInt8)) (r : List UInt8) : join (rs ++ [r]) = join rs ++ frame r := by
  induction rs with
  | nil => simp [join]
  | cons x xs ih => simp [join, ih]
theorem join_bound (rs : List (List UInt8)) (h : ∀ r ∈ rs, r.length ≤ 16384) : (join rs).length ≤ rs.length * 16393 := by
  induction rs with
  | nil => simp [join]
  | cons x xs ih =>
    have h1 := h x (List.mem_cons_self ..)
    have h2 := ih fun r hr => h r (List.mem_cons_of_mem _ hr)
    rw [join, List.length_append, length_frame, List.length_cons]
    omega

set_option maxRecDepth 100000 in
set_option maxHeartbeats 3200000 in
theorem frames_any (v : Value) (rs : List (List UInt8)) (hl : rs.length ≤ 1000) (hr : ∀ r ∈ rs, r.length ≤ 16384) (W : World) (hv : IsRows W v rs) :
    Calls Tryz.prog 44 #[v] W fun e W' => ∃ v', e = .returned (.tuple #[v', .int .i64 0]) ∧ Owns W' W.heap.size v' (join rs) ∧ Below W.heap.size W W' := by
  have HV := Lib.hid hv
  have HR := Lib.hid hr
  obtain ⟨A, cap, rfl, -⟩ := hv
  clear hr
  go_enter Tryz.func44, Tryz.ntmps44
  go_wp2
  go_loopw [4, 11] (fun s4 i wr => ∃ (j : Nat), j ≤ rs.length ∧ i = .int .i64 (j : Int) ∧ Owns wr W.heap.size s4 (join (rs.take j)) ∧ Below W.heap.size W wr) (fun _ i _ => rs.length - (intOf i).toNat)
  case atStart => exact ⟨0, by omega, rfl, Owns.nil _ _, Below.refl _ _⟩
  case round =>
    obtain ⟨j, hj, rfl, ho, hb⟩ := hrel
    have HO := Lib.hid ho
    have HB := Lib.hid hb
    have hbs := hb.size
    have hjb := join_bound (rs.take j) (fun r hr => HR.out r (List.mem_of_mem_take hr))
    rw [List.length_take, Nat.min_eq_left hj] at hjb
    clear ho hb
    by_cases hjl : j < rs.length
    · obtain ⟨r, hr⟩ : ∃ r, rs[j]? = some r := ⟨_, List.getElem?_eq_getElem hjl⟩
      obtain ⟨b3, off3, u3, hA, hc3, hu3⟩ := (HV.out.below HB.out).at_ hr
      obtain rfl := hA
      have hr3 := HR.out r (List.mem_of_getElem? hr)
      have HU3 := Lib.hid hu3
      have hnext : join (rs.take (j + 1)) = join (rs.take j) ++ frame r := by rw [List.take_add_one, hr]; exact join_snoc _ _
      have HN := Lib.hid hnext
      obtain ⟨Au3, capu3, rfl, -⟩ := id hu3
      clear hu3 hnext hr
      go_wp2_with fail
      refine (make_any _ r hr3 _ HU3.out).mono ?_
      rintro e w4 ⟨v4, rfl, ho4, hb4⟩
      have HO4 := Lib.hid (HO.out.below hb4 (Nat.le_refl _))
      have HF4 := Lib.hid ho4.bytes
      have HB4 := Lib.hid (HB.out.trans (hb4.mono hbs))
      have hs4 := hb4.size
      have hfl : (frame r).length = r.length + 9 := length_frame r
      clear ho4 hb4 hc3
      go_wp2_with (at_builtin; refine wpl_append_bytes _ rfl (.tmp 23) (.tmp 24) rfl W.heap.size u4 (join (rs.take j)) rfl HO4.out _ (frame r) rfl HF4.out (by omega) (by omega) ?_)
      intro v5 w5 ho5 hg5 _
      have HO5 := Lib.hid ho5
      have HB5 := Lib.hid (HB4.out.grown hg5 (by omega) fun k hk => (HO4.out.lt k hk).1)
      clear ho5 hg5
      go_wp2
      go_roundw
      case rel => exact ⟨j + 1, by omega, by go_num, by rw [HN.out]; exact HO5.out, HB5.out⟩
      case measure => simp [intOf]; omega
    · obtain rfl : j = rs.length := by omega
      have ho := HO.out
      rw [List.take_of_length_le (Nat.le_refl _)] at ho
      have HO' := Lib.hid ho
      clear ho
      go_wp2
      go_ret2
      exact ⟨_, rfl, HO'.out, HB.out⟩
end Go.Proofs.YtjkkclfndlfjhaaGreatDoor
/- Contract of edits.Bytes: what bytes it makes. -/
namespace Go.Proofs.YtjkkclfndlfjhaaGreatDoor
open Go.RowKit Crc Frm Go.ChangeShapes Go.WideShapes Go.ChangeAt

set_option maxRecDepth 100000 in
set_option maxHeartbeats 3200000 in
theorem edbytes_any (floor : Int) (addv dropv : Value) (add : List Rf) (drop : List ByteArray) (hl : (edBytes floor add drop).length ≤ 700000000) (W : World) (hps : IsL W layRf addv add) (hxs : IsL W layStr dropv drop) :
    Calls Tryz.prog 22 #[.agg #[addv, dropv, .int .i64 floor]] W (Made W (edBytes floor add drop)) := by
  have hlen : (edBytes floor add drop).length = 24 + (add.flatMap putRef).length + (drop.flatMap txt).length := by
    simp only [edBytes, List.length_append, beTo_len]; omega
  have hpsl := flat_least putRef 25 (fun x => by rw [putRef_len]; omega) add
  have hxsl := flat_least txt 8 (fun x => by rw [txt_len]; omega) drop
  have HP := Lib.hid hps
  have HXS := Lib.hid hxs
  obtain ⟨A, cap, rfl, -⟩ := hps
  obtain ⟨A2, cap2, rfl, -⟩ := hxs
  have ha : ∀ o o', Below W.heap.size W (((W.alloc o).alloc o').drew) := fun o o' => (((Below.refl _ W).alloc (Nat.le_refl _) _).alloc (by simp) _).drew
  have H0 := Lib.hid ((Wr.new (n₀ := W.heap.size) (W := W.alloc (.cells #[.slice A add.length cap, .slice A2 drop.length cap2, .int .i64 floor] 97)) (by simp)).below (Below.refl _ _).drew)
  have K0 := Lib.hid (((Has.new W 97 #[.slice A add.length cap, .slice A2 drop.length cap2, .int .i64 floor]).alloc (.cells #[.slice none 0 0] 164))).drew
  have X0 := Lib.hid ((Wx.refl W.heap.size W).below (ha (.cells #[.slice A add.length cap, .slice A2 drop.length cap2, .int .i64 floor] 97) (.cells #[.slice none 0 0] 164)) (Nat.le_refl _))
  rw [World.size_alloc] at H0
  clear ha
  go_enter Tryz.func22, Tryz.ntmps22
  go_wp2
  go_region_held3 (fun w' => w'.cell? ⟨W.heap.size, 0, none⟩ = some (.slice A add.length cap) ∧ w'.cell? ⟨W.heap.size, 1, none⟩ = some (.slice A2 drop.length cap2) ∧ w'.cell? ⟨W.heap.size, 2, none⟩ = some (.int .i64 floor))
    (first | exact K2.out.three | exact K1.out.three | exact K0.out.three)
    (first
      | (go_at_call 55; refine (wnum_any W.heap.size _ _ (add.length : Int) (by simp [beTo_len]) _ H1.out).mono ?_; rintro e w2 ⟨rfl, h, x⟩; have H2 := Lib.hid h; have K2 := Lib.hid (K1.out.frT x.2 (by decide)); have X2 := Lib.hid (X1.out.trans x); clear h x)
      | (go_at_call 55; refine (wnum_any W.heap.size _ _ floor (by simp) _ H0.out).mono ?_; rintro e w1 ⟨rfl, h, x⟩; have H1 := Lib.hid h; have K1 := Lib.hid (K0.out.frT x.2 (by decide)); have X1 := Lib.hid (X0.out.trans x); clear h x))
  have HE := H2
  have KE := K2
  have XE := X2
  clear H0 H1 H2 K0 K1 K2 X0 X1 X2
  have e0 : w2.cell? ⟨W.heap.size, 0, none⟩ = some (.slice A add.length cap) := KE.out.cell 0
  go_wp2
  clear e0
  go_loopw [21] (fun i wr => ∃ j : Nat, j ≤ add.length ∧ i = .int .i64 (j : Int) ∧ Wr W.heap.size wr (W.heap.size + 1) (beTo floor 8 ++ beTo (add.length : Int) 8 ++ (add.take j).flatMap putRef) ∧ Has wr W.heap.size 97 #[.slice A add.length cap, .slice A2 drop.length cap2, .int .i64 floor] ∧ Wx W.heap.size W wr) (fun i _ => add.length - (intOf i).toNat)
  case atStart => exact ⟨0, by omega, rfl, by simpa using HE.out, KE.out, XE.out⟩
  case round =>
    obtain ⟨j, hj, rfl, hw, hk, hx⟩ := hrel
    by_cases hjl : j < add.length
    · obtain ⟨r, hp⟩ : ∃ p, add[j]? = some p := ⟨_, List.getElem?_eq_getElem hjl⟩
      obtain ⟨b, off, hA, hcell⟩ := (HP.out.below hx.1 (Nat.le_refl _)).at_ hp
      obtain rfl := hA
      have c0 : wr.cell? ⟨b, off + j * 4, none⟩ = some (.string r.name) := hcell 0 _ rfl
      have c1 : wr.cell? ⟨b, off + j * 4 + 1, none⟩ = some (.int .i64 r.kind) := hcell 1 _ rfl
      have c2 : wr.cell? ⟨b, off + j * 4 + 2, none⟩ = some (.int .i64 r.lo) := hcell 2 _ rfl
      have c3 : wr.cell? ⟨b, off + j * 4 + 3, none⟩ = some (.int .i64 r.hi) := hcell 3 _ rfl
      have hwl := hw.lt
      have hpl : (beTo floor 8 ++ beTo (add.length : Int) 8 ++ (add.take j).flatMap putRef).length + (putRef r).length ≤ 700000000 := by
        have h1 := flat_take_le putRef add (j + 1)
        rw [flat_take_succ _ hp, List.length_append] at h1
        simp only [List.length_append, beTo_len]
        omega
      rw [putRef_len] at hpl
      have ha : Below wr.heap.size wr (wr.alloc (.cells #[.string r.name, .int .i64 r.kind, .int .i64 r.lo, .int .i64 r.hi] 173)).drew := ((Below.refl _ wr).alloc (Nat.le_refl _) _).drew
      have H0 := Lib.hid (hw.below ha)
      have X0 := Lib.hid (hx.below ha (by omega))
      have K0 := Lib.hid (Has.new wr 173 #[.string r.name, .int .i64 r.kind, .int .i64 r.lo, .int .i64 r.hi]).drew
      have F0 := Lib.hid (FrT.ofBelow (ts := [164, 5]) ha)
      have KK := Lib.hid hk
      clear hw hx hcell ha hk
      generalize hB : beTo floor 8 ++ beTo (add.length : Int) 8 ++ (add.take j).flatMap putRef = B at *
      go_wp2
      go_region_held3 (fun w' => w'.cell? ⟨wr.heap.size, 0, none⟩ = some (.string r.name) ∧ w'.cell? ⟨wr.heap.size, 1, none⟩ = some (.int .i64 r.kind) ∧ w'.cell? ⟨wr.heap.size, 2, none⟩ = some (.int .i64 r.lo) ∧ w'.cell? ⟨wr.heap.size, 3, none⟩ = some (.int .i64 r.hi))
        (first | exact K4.out.four | exact K3.out.four | exact K2.out.four | exact K1.out.four | exact K0.out.four)
        (first
          | (go_at_call 55; refine (wnum_any W.heap.size _ _ r.hi (by simp only [List.length_append, List.length_singleton, beTo_len, txt_len] at *; omega) _ H3.out).mono ?_; rintro e w4 ⟨rfl, h, x⟩; have H4 := Lib.hid h; have K4 := Lib.hid (K3.out.frT x.2 (by decide)); have F4 := Lib.hid (F3.out.trans x.2); have X4 := Lib.hid (X3.out.trans x); clear h x)
          | (go_at_call 55; refine (wnum_any W.heap.size _ _ r.lo (by simp only [List.length_append, List.length_singleton, txt_len] at *; omega) _ H2.out).mono ?_; rintro e w3 ⟨rfl, h, x⟩; have H3 := Lib.hid h; have K3 := Lib.hid (K2.out.frT x.2 (by decide)); have F3 := Lib.hid (F2.out.trans x.2); have X3 := Lib.hid (X2.out.trans x); clear h x)
          | (go_at_call 65; refine (wbyte_int W.heap.size _ _ (byteOf r.kind 0) _ (byteOf_wrap8 _) (by rw [List.length_append, txt_len]; omega) _ H1.out).mono ?_; rintro e w2 ⟨rfl, h, x⟩; have H2 := Lib.hid h; have K2 := Lib.hid (K1.out.frT x.2 (by decide)); have F2 := Lib.hid (F1.out.trans x.2); have X2 := Lib.hid (X1.out.trans x); clear h x)
          | (go_at_call 64; refine (wtext_any W.heap.size _ B r.name (by omega) (by omega) _ H0.out).mono ?_; rintro e w1 ⟨rfl, h, x⟩; have H1 := Lib.hid h; have K1 := Lib.hid (K0.out.frT x.2 (by decide)); have F1 := Lib.hid (F0.out.trans x.2); have X1 := Lib.hid (X0.out.trans x); clear h x))
      all_goals
        go_wp2
        go_roundw
        case rel => exact ⟨j + 1, by omega, by go_num, by rw [flat_take_succ _ hp, ← List.append_assoc, hB]; simpa [putRef] using H4.out, KK.out.frT F4.out (by decide), X4.out⟩
        case measure => simp [intOf]; omega
    · obtain rfl : j = add.length := by omega
      rw [List.take_length] at hw
      have hwl := hw.lt
      have HB := Lib.hid hw
      have XB := Lib.hid hx
      have KB := Lib.hid hk
      have e1 : wr.cell? ⟨W.heap.size, 1, none⟩ = some (.slice A2 drop.length cap2) := hk.cell 1
      clear hw hx hk HE KE XE
      go_wp2_with fail
      refine (wnum_any W.heap.size _ _ (drop.length : Int) (by simp only [List.length_append, beTo_len]; omega) _ HB.out).mono ?_
      rintro e w3 ⟨rfl, h3, x3⟩
      have HD := Lib.hid h3
      have XD := Lib.hid (XB.out.trans x3)
      have KD := Lib.hid (KB.out.frT x3.2 (by decide))
      have e2 : w3.cell? ⟨W.heap.size, 1, none⟩ = some (.slice A2 drop.length cap2) := KD.out.cell 1
      clear h3 x3 HB XB KB e1
      go_wp2
      clear e2
      go_loopw [48] (fun i wr => ∃ j : Nat, j ≤ drop.length ∧ i = .int .i64 (j : Int) ∧ Wr W.heap.size wr (W.heap.size + 1) (beTo floor 8 ++ beTo (add.length : Int) 8 ++ add.flatMap putRef ++ beTo (drop.length : Int) 8 ++ (drop.take j).flatMap txt) ∧ Wx W.heap.size W wr) (fun i _ => drop.length - (intOf i).toNat)
      case atStart => exact ⟨0, by omega, rfl, by simpa using HD.out, XD.out⟩
      case round =>
        obtain ⟨j, hj, rfl, hw, hx⟩ := hrel
        by_cases hjl : j < drop.length
        · obtain ⟨x, hp⟩ : ∃ p, drop[j]? = some p := ⟨_, List.getElem?_eq_getElem hjl⟩
          obtain ⟨b, off, hA, hcell⟩ := (HXS.out.below hx.1 (Nat.le_refl _)).at_ hp
          obtain rfl := hA
          have c0 : wr.cell? ⟨b, off + j * 1, none⟩ = some (.string x) := hcell 0 _ rfl
          rw [Nat.mul_one] at c0
          have hwl := hw.lt
          have hpl : (beTo floor 8 ++ beTo (add.length : Int) 8 ++ add.flatMap putRef ++ beTo (drop.length : Int) 8 ++ (drop.take j).flatMap txt).length + (txt x).length ≤ 700000000 := by
            have h1 := flat_take_le txt drop (j + 1)
            rw [flat_take_succ _ hp, List.length_append] at h1
            simp only [List.length_append, beTo_len]
            omega
          rw [txt_len] at hpl
          have HF := Lib.hid hw
          have XF := Lib.hid hx
          clear hw hx hcell
          generalize hB : beTo floor 8 ++ beTo (add.length : Int) 8 ++ add.flatMap putRef ++ beTo (drop.length : Int) 8 ++ (drop.take j).flatMap txt = B at *
          go_wp2_with fail
          refine (wtext_any W.heap.size _ B x (by omega) (by omega) _ HF.out).mono ?_
          rintro e w4 ⟨rfl, h4, x4⟩
          have HG := Lib.hid h4
          have XG := Lib.hid (XF.out.trans x4)
          clear h4 x4
          go_wp2
          go_roundw
          case rel => exact ⟨j + 1, by omega, by go_num, by rw [flat_take_succ _ hp, ← List.append_assoc, hB]; exact HG.out, XG.out⟩
          case measure => simp [intOf]; omega
        · obtain rfl : j = drop.length := by omega
          rw [List.take_length] at hw
          have H4 := Lib.hid hw
          have X4 := Lib.hid hx
          clear hw hx
          go_wp2_with fail
          refine (wbytes_any W.heap.size _ _ (by simp only [List.length_append, beTo_len]; omega) _ H4.out).mono ?_
          rintro e wb ⟨v, rfl, h, x⟩
          have hsz := X4.out.1.size
          have HZ := Lib.hid (h.base W.heap.size hsz)
          have XZ := Lib.hid (X4.out.1.trans (x.mono hsz))
          clear h x
          go_wp2
          go_ret
          exact ⟨v, rfl, by simpa [edBytes] using HZ.out, XZ.out⟩
end Go.Proofs.YtjkkclfndlfjhaaGreatDoor
/- Contract of state.ReadRows: whatever a Reader has, what is told are pairs and sessions in memory of the call's own, no more than there were bytes. -/
namespace Go.Proofs.YtjkkclfndlfjhaaGreatDoor
open Go.RowKit Crc Frm Go.ChangeShapes Go.WideShapes Go.ChangeAt

theorem info201 : (Tryz.prog.info? 201).map (fun i => (i.zero, i.size, i.bytes)) = some (some (.agg #[.string ⟨#[]⟩, .string ⟨#[]⟩, .bool false]), 3, 40) := by kernel_rfl
theorem info68 : (Tryz.prog.info? 68).map (fun i => (i.zero, i.size, i.bytes)) = some (some (.agg #[.int .i64 0, .int .i64 0, .int .i64 0, .string ⟨#[]⟩]), 4, 40) := by kernel_rfl

/-- Pairs that are read of so many bytes. -/
def FitPs (N : Nat) (ps : List Pr) : Prop := ∀ p ∈ ps, p.key.size ≤ N ∧ p.val.size ≤ N
def FitXs (N : Nat) (xs : List Ss) : Prop := ∀ x ∈ xs, x.val.size ≤ N
theorem FitPs.snoc {N : Nat} {ps : List Pr} {p : Pr} (h : FitPs N ps) (h1 : p.key.size ≤ N) (h2 : p.val.size ≤ N) : FitPs N (ps ++ [p]) := by
  intro q hq
  rcases List.mem_append.1 hq with h' | h'
  · exact h q h'
  · obtain rfl := List.mem_singleton.1 h'; exact ⟨h1, h2⟩
theorem FitXs.snoc {N : Nat} {ps : List Ss} {p : Ss} (h : FitXs N ps) (h2 : p.val.size ≤ N) : FitXs N (ps ++ [p]) := by
  intro q hq
  rcases List.mem_append.1 hq with h' | h'
  · exact h q h'
  · obtain rfl := List.mem_singleton.1 h'; exact h2
theorem cells_new (w : World) (t : TypeId) (cs : Array Value) : ∀ j u, cs.toList[j]? = some u → (w.alloc (.cells cs t)).cell? ((⟨w.heap.size, 0, none⟩ : Addr).add j) = some u := by
  intro j u h
  rw [show (⟨w.heap.size, 0, none⟩ : Addr).add j = ⟨w.heap.size, j, none⟩ from by unfold Addr.add; split <;> simp_all, (Has.new w t cs).cell j]
  simpa using h

/-- Rows of other types lie apart. -/
theorem own_apart {α β : Type} {L : Lay α} {M : Lay β} {w : World} {b1 b2 : Nat} {e1 e2 : TypeId} {v1 v2 : Value} {xs : List α} {ys : List β} (h1 : OwnL w b1 e1 L v1 xs) (h2 : OwnL w b2 e2 M v2 ys) (he : e1 ≠ e2) : ∀ b, v1.ownBlock = some b → some b ≠ v2.ownBlock := by
  intro b hb e
  obtain ⟨cs, hc⟩ := h1.typed b hb
  obtain ⟨cs', hc'⟩ := h2.typed b e.symm
  rw [hc] at hc'
  cases hc'
  exact he rfl

/-- How many were read of N bytes, and what is left. -/
def Rs.Room (N k : Nat) (R : Rs) : Prop := R.rest.length ≤ N ∧ 8 * k + R.rest.length ≤ N + (if R.bad then 8 else 0)

theorem Rs.Room.two {N k : Nat} {R R' : Rs} (h : R.Room N k) (hb : R.bad = false) (h1 : R'.rest.length ≤ R.rest.length) (h2 : R'.bad = false → R'.rest.length + 8 ≤ R.rest.length) : R'.Room N (k + 1) := by
  obtain ⟨ha, hc⟩ := h
  rw [hb] at hc
  refine ⟨by omega, ?_⟩
  cases hbad : R'.bad with
  | true => simp at hc ⊢; omega
  | false => have := h2 hbad; simp at hc ⊢; omega
theorem Rs.text_less (R : Rs) (h : R.text.2.bad = false) : R.text.2.rest.length + 8 ≤ R.rest.length := by
  have := (R.text_spec h).2
  rw [this, List.length_append, txt_len]; omega
theorem Rs.pair_less (R : Rs) (h : R.text.2.text.2.byte.2.bad = false) : R.text.2.text.2.byte.2.rest.length + 8 ≤ R.rest.length := by
  have h1 := (Rs.byte_spec _ h).1
  have h2 := Rs.text_less _ h1
  have h3 := Rs.text_less _ (Rs.text_spec _ h1).1
  have := R.text.2.text.2.byte_len
  omega
theorem Rs.sess_less (R : Rs) (h : R.num.2.num.2.num.2.text.2.bad = false) : R.num.2.num.2.num.2.text.2.rest.length + 8 ≤ R.rest.length := by
  have h2 := Rs.text_less _ h
  have h4 := R.num_len
  have h5 := R.num.2.num_len
  have h6 := R.num.2.num.2.num_len
  omega

/-- What ReadRows leaves. -/
def RowsRead (g N : Nat) (W : World) (e : Ending) (W' : World) : Prop :=
  ∃ psv xsv ps xs R', e = .returned (.tuple #[psv, xsv]) ∧ OwnL W' W.heap.size 201 layPr psv ps ∧ OwnL W' W.heap.size 68 laySs xsv xs ∧ Rd W' g R' ∧ Fr (· = g) W W' ∧
    FitPs N ps ∧ FitXs N xs ∧ 8 * ps.length ≤ N + 8 ∧ 8 * xs.length ≤ N + 8 ∧ R'.rest.length ≤ N

set_option maxRecDepth 100000 in
set_option maxHeartbeats 6400000 in
set_option linter.unusedSimpArgs false in
theorem readrows_any (g : Nat) (R : Rs) (N : Nat) (hN : N ≤ 1000000) (hR : R.rest.length ≤ N) (W : World) (h : Rd W g R) :
    Calls Tryz.prog 52 #[.pointer (some ⟨g, 0, none⟩)] W (RowsRead g N W) := by
  obtain ⟨i1, hi1, hz1, hs1, hb1⟩ := info_parts info201
  obtain ⟨i2, hi2, hz2, hs2, hb2'⟩ := info_parts info68
  have hgl := h.lt
  have HH := Lib.hid h
  clear h
  go_enter Tryz.func52, Tryz.ntmps52
  go_wp2_with fail
  refine (rnum_any g R (by omega) _ HH.out).mono ?_
  rintro e w1 ⟨rfl, h, x⟩
  have HA := Lib.hid h
  have XA := Lib.hid x
  have hrn := R.num_len
  have hb := R.num_bounds
  clear h x HH
  generalize R.num.1 = n0 at *
  generalize R.num.2 = R0 at *
  go_wp2
  go_loopw [4, 5] (fun s4 s5 wr => ∃ (n : Int) (ps : List Pr) (R' : Rs), s5 = .int .i64 n ∧ -9223372036854775808 ≤ n ∧ n ≤ 9223372036854775807 ∧ OwnL wr W.heap.size 201 layPr s4 ps ∧ Rd wr g R' ∧ Fr (· = g) W wr ∧ FitPs N ps ∧ R'.Room N ps.length) (fun _ i _ => (intOf i).toNat)
  case atStart => exact ⟨n0, [], R0, rfl, hb.1, hb.2, OwnL.nil _ _ _ _, HA.out, XA.out, fun p hp => by simp at hp, by omega, by simp; omega⟩
  case round =>
    obtain ⟨n, ps, R', rfl, hn1, hn2, ho, hr, hx, hfit, hroom⟩ := hrel
    have hRN := hroom.1
    by_cases hc : 0 < n ∧ R'.bad = false
    · obtain ⟨hn, hbad⟩ := hc
      have hol : ∀ b, u4.ownBlock = some b → W.heap.size ≤ b := fun b hb => (ho.lt b hb).1
      have HOL := Lib.hid hol
      have HR := Lib.hid hr
      have HO := Lib.hid ho
      have HX := Lib.hid hx
      have HFIT := Lib.hid hfit
      have HROOM := Lib.hid hroom
      clear hr ho hx hfit hroom hol
      go_wp2_with fail
      refine (rbad_any g R' _ HR.out).mono ?_
      rintro e w2 ⟨rfl, rfl⟩
      have HBAD := Lib.hid hbad
      rw [hbad]
      clear hbad
      go_wp2_with fail
      refine (rtext_any g R' (by omega) _ HR.out).mono ?_
      rintro e w3 ⟨rfl, h3, x3⟩
      have hs3 := HX.out.size
      have hs4 := x3.size
      have ha := (Below.refl w3.heap.size w3).alloc (Nat.le_refl _) (.cells #[.string R'.text.1, .string ⟨#[]⟩, .bool false] 201)
      have HR1 := Lib.hid (h3.kept ha)
      have HK1 := Lib.hid (Has.new w3 201 #[.string R'.text.1, .string ⟨#[]⟩, .bool false])
      have HX1 := Lib.hid (((HX.out.trans x3 fun _ _ h => h)).below ha (by omega))
      have HO1 := Lib.hid ((HO.out.fr x3 (fun b hb => by have := HOL.out b hb; omega)).below ha (Nat.le_refl _))
      have hl1 := R'.text_len
      have hz1' := R'.text_size
      clear h3 x3 ha
      go_wp2_with fail
      refine (rtext_any g R'.text.2 (by omega) _ HR1.out).mono ?_
      rintro e w4 ⟨rfl, h3, x3⟩
      have hs5 := x3.size
      rw [World.size_alloc] at hs5
      have HR2 := Lib.hid (h3.fr (Fr.set w4 w3.heap.size 1 (.string R'.text.2.text.1)) (fun b hb => by omega))
      have hk2 := HK1.out.fr x3 (by omega)
      have HK2 := Lib.hid (hk2.set 1 (.string R'.text.2.text.1))
      have HX2 := Lib.hid ((HX1.out.trans x3 fun _ _ h => h).trans (Fr.set w4 w3.heap.size 1 (.string R'.text.2.text.1)) fun k hk e => by omega)
      have HO2 := Lib.hid ((HO1.out.fr x3 (fun b hb => by have := HOL.out b hb; omega)).fr (Fr.set w4 w3.heap.size 1 (.string R'.text.2.text.1)) (fun b hb => by have := (HO.out.lt b hb).2; omega))
      have c1 : w4.cell? ⟨w3.heap.size, 1, none⟩ = some (.string ⟨#[]⟩) := hk2.cell 1
      have f1 := hk2.frozen 1
      have hl2 := R'.text.2.text_len
      have hz2' := R'.text.2.text_size
      clear h3 x3 hk2
      go_wp2_with fail
      refine (rbyte_any g R'.text.2.text.2 (by omega) _ HR2.out).mono ?_
      rintro e w5 ⟨rfl, h3, x3⟩
      have hs6 := x3.size
      rw [World.size_setCell] at hs6
      have hk3 := HK2.out.fr x3 (by omega)
      have c0' : w5.cell? ⟨w3.heap.size, 0, none⟩ = some (.string R'.text.1) := hk3.cell 0
      have c1' : w5.cell? ⟨w3.heap.size, 1, none⟩ = some (.string R'.text.2.text.1) := hk3.cell 1
      have c2' : w5.cell? ⟨w3.heap.size, 2, none⟩ = some (.bool false) := hk3.cell 2
      have f0' := hk3.frozen 0
      have f2' := hk3.frozen 2
      have hl3 := R'.text.2.text.2.byte_len
      have hcl := R'.text.2.text.2.byte.1.toNat_lt
      clear hk3 c1 f1
      obtain ⟨c, hc⟩ : ∃ c : Nat, c = R'.text.2.text.2.byte.1.toNat := ⟨_, rfl⟩
      rw [← hc] at hcl ⊢
      clear hc
      obtain ⟨gone, hgone⟩ : ∃ b, ((c : Int) == 1) = b := ⟨_, rfl⟩
      have f3 := Fr.set w5 w3.heap.size 2 (.bool gone)
      by_cases hbig : (1 : Int) < (c : Int)
      · have f4 := (Fr.set w5 w3.heap.size 2 (.bool gone)).trans (Fr.set (w5.setCell ⟨w3.heap.size, 2, none⟩ (.bool gone)) w3.heap.size 0 (.string ⟨#[]⟩)) fun _ _ h => h
        have HRz := Lib.hid (h3.fr f4 (fun b hb => by omega))
        have HOz := Lib.hid ((HO2.out.fr x3 (fun b hb => by have := HOL.out b hb; omega)).fr f4 (fun b hb => by have := (HO.out.lt b hb).2; omega))
        have HXz := Lib.hid ((HX2.out.trans x3 fun _ _ h => h).trans f4 fun k hk e => by omega)
        have hsz := f4.size
        clear h3 x3
        go_wp2_with (at_builtin; refine wpl_append_el _ rfl 27 201 (.tmp 36) (.tmp 38) rfl W.heap.size u4 ps ⟨⟨#[]⟩, R'.text.2.text.1, gone⟩ i1 _ 40 Tryz.underlying27 hi1 hz1 hs1 hb1 rfl (by decide) rfl (HOz.out.alloc _) ⟨w5.heap.size, 0, none⟩ 1 rfl ?_ (by have := HROOM.out.2; simp only [HBAD.out] at this; simp at this; omega) (by simp; omega) ?_)
        · intro j u hj
          have h := cells_new ((w5.setCell ⟨w3.heap.size, 2, none⟩ (.bool gone)).setCell ⟨w3.heap.size, 0, none⟩ (.string ⟨#[]⟩)) 201 #[.string ⟨#[]⟩, .string R'.text.2.text.1, .bool gone] j u hj
          simp only [World.size_setCell] at h
          exact h
        intro v1 w6 ho1 hg1 _
        have HR6 := Lib.hid ((HRz.out.kept ((Below.refl _ _).alloc (Nat.le_refl _) _)).fr (Fr.ofGrown hg1) (fun b hb e => by have := HOL.out b e.symm; omega))
        have HX6 := Lib.hid ((HXz.out.alloc _).grown hg1 fun k hk e => by have := HOL.out k e; omega)
        have HO6 := Lib.hid ho1
        clear ho1 hg1
        go_wp2
        go_roundw
        case rel => exact ⟨n - 1, ps ++ [⟨⟨#[]⟩, R'.text.2.text.1, gone⟩], R'.text.2.text.2.byte.2, by go_num, by omega, by omega, HO6.out, HR6.out, HX6.out, HFIT.out.snoc (by first | exact Nat.zero_le _ | (simp only; omega)) (by simp only; omega), by rw [List.length_append]; exact HROOM.out.two HBAD.out (by omega) (Rs.pair_less R')⟩
        case measure => simp [intOf]; omega
      · skip
        have HRz := Lib.hid (h3.fr f3 (fun b hb => by omega))
        have HOz := Lib.hid ((HO2.out.fr x3 (fun b hb => by have := HOL.out b hb; omega)).fr f3 (fun b hb => by have := (HO.out.lt b hb).2; omega))
        have HXz := Lib.hid ((HX2.out.trans x3 fun _ _ h => h).trans f3 fun k hk e => by omega)
        have hsz := f3.size
        clear h3 x3
        go_wp2_with (at_builtin; refine wpl_append_el _ rfl 27 201 (.tmp 36) (.tmp 38) rfl W.heap.size u4 ps ⟨R'.text.1, R'.text.2.text.1, gone⟩ i1 _ 40 Tryz.underlying27 hi1 hz1 hs1 hb1 rfl (by decide) rfl (HOz.out.alloc _) ⟨w5.heap.size, 0, none⟩ 1 rfl ?_ (by have := HROOM.out.2; simp only [HBAD.out] at this; simp at this; omega) (by simp; omega) ?_)
        · intro j u hj
          have h := cells_new (w5.setCell ⟨w3.heap.size, 2, none⟩ (.bool gone)) 201 #[.string R'.text.1, .string R'.text.2.text.1, .bool gone] j u hj
          simp only [World.size_setCell] at h
          exact h
        intro v1 w6 ho1 hg1 _
        have HR6 := Lib.hid ((HRz.out.kept ((Below.refl _ _).alloc (Nat.le_refl _) _)).fr (Fr.ofGrown hg1) (fun b hb e => by have := HOL.out b e.symm; omega))
        have HX6 := Lib.hid ((HXz.out.alloc _).grown hg1 fun k hk e => by have := HOL.out k e; omega)
        have HO6 := Lib.hid ho1
        clear ho1 hg1
        go_wp2
        go_roundw
        case rel => exact ⟨n - 1, ps ++ [⟨R'.text.1, R'.text.2.text.1, gone⟩], R'.text.2.text.2.byte.2, by go_num, by omega, by omega, HO6.out, HR6.out, HX6.out, HFIT.out.snoc (by first | exact Nat.zero_le _ | (simp only; omega)) (by simp only; omega), by rw [List.length_append]; exact HROOM.out.two HBAD.out (by omega) (Rs.pair_less R')⟩
        case measure => simp [intOf]; omega
    · have hpl : 8 * ps.length ≤ N + 8 := by have := hroom.2; split at this <;> omega
      have hol : ∀ b, u4.ownBlock = some b → W.heap.size ≤ b := fun b hb => (ho.lt b hb).1
      have HOL := Lib.hid hol
      have HR := Lib.hid hr
      have HO := Lib.hid ho
      have HX := Lib.hid hx
      have HFIT := Lib.hid hfit
      have hbb : 0 < n → R'.bad = true := fun h => by cases hbb : R'.bad <;> simp_all
      clear hr ho hx hfit hol hc HA XA hb hrn hn1 hn2
      by_cases hn : 0 < n
      · have hbad := hbb hn
        go_wp2_with fail
        refine (rbad_any g R' _ HR.out).mono ?_
        rintro e w2 ⟨rfl, rfl⟩
        rw [hbad]
        go_wp2_with fail
        refine (rnum_any g R' (by omega) _ HR.out).mono ?_
        rintro e wA ⟨rfl, h3, x3⟩
        have HRA := Lib.hid h3
        have HXA := Lib.hid (HX.out.trans x3 fun _ _ h => h)
        have HPA := Lib.hid (HO.out.fr x3 (fun b hb => by have := HOL.out b hb; omega))
        have hb2 := R'.num_bounds
        have hl2 := R'.num_len
        have hok2 : R'.num.2.rest.length ≤ N := by omega
        clear h3 x3 HR HX HO
        generalize R'.num.1 = m0 at *
        generalize R'.num.2 = RA at *
        clear hl2 hroom hbb
        go_wp2
        go_loopw [8, 9] (fun s8 s9 wr => ∃ (n : Int) (xs : List Ss) (R' : Rs), s9 = .int .i64 n ∧ -9223372036854775808 ≤ n ∧ n ≤ 9223372036854775807 ∧ OwnL wr W.heap.size 68 laySs s8 xs ∧ OwnL wr W.heap.size 201 layPr u4 ps ∧ Rd wr g R' ∧ Fr (· = g) W wr ∧ FitXs N xs ∧ R'.Room N xs.length) (fun _ i _ => (intOf i).toNat)
        case atStart => exact ⟨m0, [], RA, rfl, hb2.1, hb2.2, OwnL.nil _ _ _ _, HPA.out, HRA.out, HXA.out, fun p hp => by simp at hp, by omega, by simp; omega⟩
        case round =>
          obtain ⟨n2, xs, R2, rfl, hn1', hn2', ho, hpp, hr, hx, hfit, hroom⟩ := hrel
          have hRN := hroom.1
          have HOL2 := HOL
          clear HOL
          have HOL := Lib.hid (fun b hb => (ho.lt b hb).1 : ∀ b, u8.ownBlock = some b → W.heap.size ≤ b)
          have HPL := Lib.hid (fun b hb => (hpp.lt b hb).1 : ∀ b, u4.ownBlock = some b → W.heap.size ≤ b)
          have HR := Lib.hid hr
          have HO0 := Lib.hid ho
          have HP0 := Lib.hid hpp
          have HX0 := Lib.hid hx
          have HFX := Lib.hid hfit
          have HROOM := Lib.hid hroom
          clear hr ho hx hfit hroom hpp
          by_cases hc2 : 0 < n2 ∧ R2.bad = false
          · obtain ⟨hn, hbad⟩ := hc2
            go_wp2_with fail
            refine (rbad_any g R2 _ HR.out).mono ?_
            rintro e w2' ⟨rfl, rfl⟩
            have HBAD := Lib.hid hbad
            rw [hbad]
            clear hbad
            go_wp2_with fail
            refine (rnum_any g R2 (by omega) _ HR.out).mono ?_
            rintro e w3 ⟨rfl, h3, x3⟩
            have hs3 := HX0.out.size
            have hs4 := x3.size
            have ha := (Below.refl w3.heap.size w3).alloc (Nat.le_refl _) (.cells #[.int .i64 R2.num.1, .int .i64 0, .int .i64 0, .string ⟨#[]⟩] 68)
            have HR1 := Lib.hid (h3.kept ha)
            have HK1 := Lib.hid (Has.new w3 68 #[.int .i64 R2.num.1, .int .i64 0, .int .i64 0, .string ⟨#[]⟩])
            have HX1 := Lib.hid (((HX0.out.trans x3 fun _ _ h => h)).below ha (by omega))
            have HO1 := Lib.hid ((HO0.out.fr x3 (fun b hb => by have := HOL.out b hb; omega)).below ha (Nat.le_refl _))
            have HP1 := Lib.hid ((HP0.out.fr x3 (fun b hb => by have := HPL.out b hb; omega)).below ha (Nat.le_refl _))
            have HOB := Lib.hid (fun b hb => by have := (HO0.out.lt b hb).2; omega : ∀ b, u8.ownBlock = some b → b < w3.heap.size)
            have HPB := Lib.hid (fun b hb => by have := (HP0.out.lt b hb).2; omega : ∀ b, u4.ownBlock = some b → b < w3.heap.size)
            have hl1 := R2.num_len
            have hl2 := R2.num.2.num_len
            have hl3 := R2.num.2.num.2.num_len
            have hl4 := R2.num.2.num.2.num.2.text_len
            have hz4 := R2.num.2.num.2.num.2.text_size
            clear h3 x3 ha
            go_wp2_with fail
            refine (rnum_any g R2.num.2 (by omega) _ HR1.out).mono ?_
            rintro e w4 ⟨rfl, h3, x3⟩
            have hs2' := x3.size
            simp only [World.size_alloc, World.size_setCell] at hs2'
            have HR2 := Lib.hid (h3.fr (Fr.set w4 w3.heap.size 1 (.int .i64 R2.num.2.num.1)) (fun b hb => by omega))
            have hk2 := HK1.out.fr x3 (by omega)
            have HK2 := Lib.hid (hk2.set 1 (.int .i64 R2.num.2.num.1))
            have HX2 := Lib.hid ((HX1.out.trans x3 fun _ _ h => h).trans (Fr.set w4 w3.heap.size 1 (.int .i64 R2.num.2.num.1)) fun k hk e => by omega)
            have HO2 := Lib.hid ((HO1.out.fr x3 (fun b hb => by have := HOL.out b hb; omega)).fr (Fr.set w4 w3.heap.size 1 (.int .i64 R2.num.2.num.1)) (fun b hb => by have := HOB.out b hb; omega))
            have HP2 := Lib.hid ((HP1.out.fr x3 (fun b hb => by have := HPL.out b hb; omega)).fr (Fr.set w4 w3.heap.size 1 (.int .i64 R2.num.2.num.1)) (fun b hb => by have := HPB.out b hb; omega))
            have cc2 : w4.cell? ⟨w3.heap.size, 1, none⟩ = some (.int .i64 0) := hk2.cell 1
            have ff2 := hk2.frozen 1
            clear h3 x3 hk2
            go_wp2_with fail
            refine (rnum_any g R2.num.2.num.2 (by omega) _ HR2.out).mono ?_
            rintro e w5 ⟨rfl, h3, x3⟩
            have hs3' := x3.size
            simp only [World.size_alloc, World.size_setCell] at hs3'
            have HR3 := Lib.hid (h3.fr (Fr.set w5 w3.heap.size 2 (.int .i64 R2.num.2.num.2.num.1)) (fun b hb => by omega))
            have hk3 := HK2.out.fr x3 (by omega)
            have HK3 := Lib.hid (hk3.set 2 (.int .i64 R2.num.2.num.2.num.1))
            have HX3 := Lib.hid ((HX2.out.trans x3 fun _ _ h => h).trans (Fr.set w5 w3.heap.size 2 (.int .i64 R2.num.2.num.2.num.1)) fun k hk e => by omega)
            have HO3 := Lib.hid ((HO2.out.fr x3 (fun b hb => by have := HOL.out b hb; omega)).fr (Fr.set w5 w3.heap.size 2 (.int .i64 R2.num.2.num.2.num.1)) (fun b hb => by have := HOB.out b hb; omega))
            have HP3 := Lib.hid ((HP2.out.fr x3 (fun b hb => by have := HPL.out b hb; omega)).fr (Fr.set w5 w3.heap.size 2 (.int .i64 R2.num.2.num.2.num.1)) (fun b hb => by have := HPB.out b hb; omega))
            have cc3 : w5.cell? ⟨w3.heap.size, 2, none⟩ = some (.int .i64 0) := hk3.cell 2
            have ff3 := hk3.frozen 2
            clear h3 x3 hk3 cc2 ff2
            go_wp2_with fail
            refine (rtext_any g R2.num.2.num.2.num.2 (by omega) _ HR3.out).mono ?_
            rintro e w6 ⟨rfl, h3, x3⟩
            have hs4' := x3.size
            simp only [World.size_alloc, World.size_setCell] at hs4'
            have HR4 := Lib.hid (h3.fr (Fr.set w6 w3.heap.size 3 (.string R2.num.2.num.2.num.2.text.1)) (fun b hb => by omega))
            have hk4 := HK3.out.fr x3 (by omega)
            have HK4 := Lib.hid (hk4.set 3 (.string R2.num.2.num.2.num.2.text.1))
            have HX4 := Lib.hid ((HX3.out.trans x3 fun _ _ h => h).trans (Fr.set w6 w3.heap.size 3 (.string R2.num.2.num.2.num.2.text.1)) fun k hk e => by omega)
            have HO4 := Lib.hid ((HO3.out.fr x3 (fun b hb => by have := HOL.out b hb; omega)).fr (Fr.set w6 w3.heap.size 3 (.string R2.num.2.num.2.num.2.text.1)) (fun b hb => by have := HOB.out b hb; omega))
            have HP4 := Lib.hid ((HP3.out.fr x3 (fun b hb => by have := HPL.out b hb; omega)).fr (Fr.set w6 w3.heap.size 3 (.string R2.num.2.num.2.num.2.text.1)) (fun b hb => by have := HPB.out b hb; omega))
            have cc4 : w6.cell? ⟨w3.heap.size, 3, none⟩ = some (.string ⟨#[]⟩) := hk4.cell 3
            have ff4 := hk4.frozen 3
            have d0 : w6.cell? ⟨w3.heap.size, 0, none⟩ = some (.int .i64 R2.num.1) := hk4.cell 0
            have d1 : w6.cell? ⟨w3.heap.size, 1, none⟩ = some (.int .i64 R2.num.2.num.1) := hk4.cell 1
            have d2 : w6.cell? ⟨w3.heap.size, 2, none⟩ = some (.int .i64 R2.num.2.num.2.num.1) := hk4.cell 2
            clear h3 x3 hk4 cc3 ff3
            go_wp2_with (at_builtin; refine wpl_append_el _ rfl 28 68 (.tmp 65) (.tmp 67) rfl W.heap.size u8 xs ⟨R2.num.1, R2.num.2.num.1, R2.num.2.num.2.num.1, R2.num.2.num.2.num.2.text.1⟩ i2 _ 40 Tryz.underlying28 hi2 hz2 hs2 hb2' rfl (by decide) rfl (HO4.out.alloc _) ⟨w6.heap.size, 0, none⟩ 1 rfl ?_ (by have := HROOM.out.2; simp only [HBAD.out] at this; simp at this; omega) (by simp; omega) ?_)
            · intro j u hj
              have h := cells_new (w6.setCell ⟨w3.heap.size, 3, none⟩ (.string R2.num.2.num.2.num.2.text.1)) 68 #[.int .i64 R2.num.1, .int .i64 R2.num.2.num.1, .int .i64 R2.num.2.num.2.num.1, .string R2.num.2.num.2.num.2.text.1] j u hj
              simp only [World.size_setCell] at h
              exact h
            intro v1 w7 ho1 hg1 _
            have hap := own_apart (HP4.out) (HO4.out) (by decide)
            have HR6 := Lib.hid ((HR4.out.kept ((Below.refl _ _).alloc (Nat.le_refl _) _)).fr (Fr.ofGrown hg1) (fun b hb e => by have := HOL.out b e.symm; omega))
            have HX6 := Lib.hid ((HX4.out.alloc _).grown hg1 fun k hk e => by have := HOL.out k e; omega)
            have HP6 := Lib.hid ((HP4.out.alloc _).fr (Fr.ofGrown hg1) (fun b hb e => hap b hb e))
            have HO6 := Lib.hid ho1
            clear ho1 hg1 hap
            go_wp2
            go_roundw
            case rel => exact ⟨n2 - 1, xs ++ [⟨R2.num.1, R2.num.2.num.1, R2.num.2.num.2.num.1, R2.num.2.num.2.num.2.text.1⟩], R2.num.2.num.2.num.2.text.2, by go_num, by omega, by omega, HO6.out, HP6.out, HR6.out, HX6.out, HFX.out.snoc (by simp only; omega), by rw [List.length_append]; exact HROOM.out.two HBAD.out (by omega) (Rs.sess_less R2)⟩
            case measure => simp [intOf]; omega
          · have hxl : 8 * xs.length ≤ N + 8 := by have := HROOM.out.2; split at this <;> omega
            by_cases hn : 0 < n2
            · have hbad : R2.bad = true := by cases hbb : R2.bad <;> simp_all
              go_wp2_with fail
              refine (rbad_any g R2 _ HR.out).mono ?_
              rintro e w2' ⟨rfl, rfl⟩
              rw [hbad]
              go_wp2
              go_ret2
              exact ⟨u4, u8, ps, xs, R2, rfl, HP0.out, HO0.out, HR.out, HX0.out, HFIT.out, HFX.out, hpl, hxl, hRN⟩
            · go_wp2
              go_ret2
              exact ⟨u4, u8, ps, xs, R2, rfl, HP0.out, HO0.out, HR.out, HX0.out, HFIT.out, HFX.out, hpl, hxl, hRN⟩
      · go_wp2_with fail
        refine (rnum_any g R' (by omega) _ HR.out).mono ?_
        rintro e wA ⟨rfl, h3, x3⟩
        have HRA := Lib.hid h3
        have HXA := Lib.hid (HX.out.trans x3 fun _ _ h => h)
        have HPA := Lib.hid (HO.out.fr x3 (fun b hb => by have := HOL.out b hb; omega))
        have hb2 := R'.num_bounds
        have hl2 := R'.num_len
        have hok2 : R'.num.2.rest.length ≤ N := by omega
        clear h3 x3 HR HX HO
        generalize R'.num.1 = m0 at *
        generalize R'.num.2 = RA at *
        clear hl2 hroom hbb
        go_wp2
        go_loopw [8, 9] (fun s8 s9 wr => ∃ (n : Int) (xs : List Ss) (R' : Rs), s9 = .int .i64 n ∧ -9223372036854775808 ≤ n ∧ n ≤ 9223372036854775807 ∧ OwnL wr W.heap.size 68 laySs s8 xs ∧ OwnL wr W.heap.size 201 layPr u4 ps ∧ Rd wr g R' ∧ Fr (· = g) W wr ∧ FitXs N xs ∧ R'.Room N xs.length) (fun _ i _ => (intOf i).toNat)
        case atStart => exact ⟨m0, [], RA, rfl, hb2.1, hb2.2, OwnL.nil _ _ _ _, HPA.out, HRA.out, HXA.out, fun p hp => by simp at hp, by omega, by simp; omega⟩
        case round =>
          obtain ⟨n2, xs, R2, rfl, hn1', hn2', ho, hpp, hr, hx, hfit, hroom⟩ := hrel
          have hRN := hroom.1
          have HOL2 := HOL
          clear HOL
          have HOL := Lib.hid (fun b hb => (ho.lt b hb).1 : ∀ b, u8.ownBlock = some b → W.heap.size ≤ b)
          have HPL := Lib.hid (fun b hb => (hpp.lt b hb).1 : ∀ b, u4.ownBlock = some b → W.heap.size ≤ b)
          have HR := Lib.hid hr
          have HO0 := Lib.hid ho
          have HP0 := Lib.hid hpp
          have HX0 := Lib.hid hx
          have HFX := Lib.hid hfit
          have HROOM := Lib.hid hroom
          clear hr ho hx hfit hroom hpp
          by_cases hc2 : 0 < n2 ∧ R2.bad = false
          · obtain ⟨hn, hbad⟩ := hc2
            go_wp2_with fail
            refine (rbad_any g R2 _ HR.out).mono ?_
            rintro e w2' ⟨rfl, rfl⟩
            have HBAD := Lib.hid hbad
            rw [hbad]
            clear hbad
            go_wp2_with fail
            refine (rnum_any g R2 (by omega) _ HR.out).mono ?_
            rintro e w3 ⟨rfl, h3, x3⟩
            have hs3 := HX0.out.size
            have hs4 := x3.size
            have ha := (Below.refl w3.heap.size w3).alloc (Nat.le_refl _) (.cells #[.int .i64 R2.num.1, .int .i64 0, .int .i64 0, .string ⟨#[]⟩] 68)
            have HR1 := Lib.hid (h3.kept ha)
            have HK1 := Lib.hid (Has.new w3 68 #[.int .i64 R2.num.1, .int .i64 0, .int .i64 0, .string ⟨#[]⟩])
            have HX1 := Lib.hid (((HX0.out.trans x3 fun _ _ h => h)).below ha (by omega))
            have HO1 := Lib.hid ((HO0.out.fr x3 (fun b hb => by have := HOL.out b hb; omega)).below ha (Nat.le_refl _))
            have HP1 := Lib.hid ((HP0.out.fr x3 (fun b hb => by have := HPL.out b hb; omega)).below ha (Nat.le_refl _))
            have HOB := Lib.hid (fun b hb => by have := (HO0.out.lt b hb).2; omega : ∀ b, u8.ownBlock = some b → b < w3.heap.size)
            have HPB := Lib.hid (fun b hb => by have := (HP0.out.lt b hb).2; omega : ∀ b, u4.ownBlock = some b → b < w3.heap.size)
            have hl1 := R2.num_len
            have hl2 := R2.num.2.num_len
            have hl3 := R2.num.2.num.2.num_len
            have hl4 := R2.num.2.num.2.num.2.text_len
            have hz4 := R2.num.2.num.2.num.2.text_size
            clear h3 x3 ha
            go_wp2_with fail
            refine (rnum_any g R2.num.2 (by omega) _ HR1.out).mono ?_
            rintro e w4 ⟨rfl, h3, x3⟩
            have hs2' := x3.size
            simp only [World.size_alloc, World.size_setCell] at hs2'
            have HR2 := Lib.hid (h3.fr (Fr.set w4 w3.heap.size 1 (.int .i64 R2.num.2.num.1)) (fun b hb => by omega))
            have hk2 := HK1.out.fr x3 (by omega)
            have HK2 := Lib.hid (hk2.set 1 (.int .i64 R2.num.2.num.1))
            have HX2 := Lib.hid ((HX1.out.trans x3 fun _ _ h => h).trans (Fr.set w4 w3.heap.size 1 (.int .i64 R2.num.2.num.1)) fun k hk e => by omega)
            have HO2 := Lib.hid ((HO1.out.fr x3 (fun b hb => by have := HOL.out b hb; omega)).fr (Fr.set w4 w3.heap.size 1 (.int .i64 R2.num.2.num.1)) (fun b hb => by have := HOB.out b hb; omega))
            have HP2 := Lib.hid ((HP1.out.fr x3 (fun b hb => by have := HPL.out b hb; omega)).fr (Fr.set w4 w3.heap.size 1 (.int .i64 R2.num.2.num.1)) (fun b hb => by have := HPB.out b hb; omega))
            have cc2 : w4.cell? ⟨w3.heap.size, 1, none⟩ = some (.int .i64 0) := hk2.cell 1
            have ff2 := hk2.frozen 1
            clear h3 x3 hk2
            go_wp2_with fail
            refine (rnum_any g R2.num.2.num.2 (by omega) _ HR2.out).mono ?_
            rintro e w5 ⟨rfl, h3, x3⟩
            have hs3' := x3.size
            simp only [World.size_alloc, World.size_setCell] at hs3'
            have HR3 := Lib.hid (h3.fr (Fr.set w5 w3.heap.size 2 (.int .i64 R2.num.2.num.2.num.1)) (fun b hb => by omega))
            have hk3 := HK2.out.fr x3 (by omega)
            have HK3 := Lib.hid (hk3.set 2 (.int .i64 R2.num.2.num.2.num.1))
            have HX3 := Lib.hid ((HX2.out.trans x3 fun _ _ h => h).trans (Fr.set w5 w3.heap.size 2 (.int .i64 R2.num.2.num.2.num.1)) fun k hk e => by omega)
            have HO3 := Lib.hid ((HO2.out.fr x3 (fun b hb => by have := HOL.out b hb; omega)).fr (Fr.set w5 w3.heap.size 2 (.int .i64 R2.num.2.num.2.num.1)) (fun b hb => by have := HOB.out b hb; omega))
            have HP3 := Lib.hid ((HP2.out.fr x3 (fun b hb => by have := HPL.out b hb; omega)).fr (Fr.set w5 w3.heap.size 2 (.int .i64 R2.num.2.num.2.num.1)) (fun b hb => by have := HPB.out b hb; omega))
            have cc3 : w5.cell? ⟨w3.heap.size, 2, none⟩ = some (.int .i64 0) := hk3.cell 2
            have ff3 := hk3.frozen 2
            clear h3 x3 hk3 cc2 ff2
            go_wp2_with fail
            refine (rtext_any g R2.num.2.num.2.num.2 (by omega) _ HR3.out).mono ?_
            rintro e w6 ⟨rfl, h3, x3⟩
            have hs4' := x3.size
            simp only [World.size_alloc, World.size_setCell] at hs4'
            have HR4 := Lib.hid (h3.fr (Fr.set w6 w3.heap.size 3 (.string R2.num.2.num.2.num.2.text.1)) (fun b hb => by omega))
            have hk4 := HK3.out.fr x3 (by omega)
            have HK4 := Lib.hid (hk4.set 3 (.string R2.num.2.num.2.num.2.text.1))
            have HX4 := Lib.hid ((HX3.out.trans x3 fun _ _ h => h).trans (Fr.set w6 w3.heap.size 3 (.string R2.num.2.num.2.num.2.text.1)) fun k hk e => by omega)
            have HO4 := Lib.hid ((HO3.out.fr x3 (fun b hb => by have := HOL.out b hb; omega)).fr (Fr.set w6 w3.heap.size 3 (.string R2.num.2.num.2.num.2.text.1)) (fun b hb => by have := HOB.out b hb; omega))
            have HP4 := Lib.hid ((HP3.out.fr x3 (fun b hb => by have := HPL.out b hb; omega)).fr (Fr.set w6 w3.heap.size 3 (.string R2.num.2.num.2.num.2.text.1)) (fun b hb => by have := HPB.out b hb; omega))
            have cc4 : w6.cell? ⟨w3.heap.size, 3, none⟩ = some (.string ⟨#[]⟩) := hk4.cell 3
            have ff4 := hk4.frozen 3
            have d0 : w6.cell? ⟨w3.heap.size, 0, none⟩ = some (.int .i64 R2.num.1) := hk4.cell 0
            have d1 : w6.cell? ⟨w3.heap.size, 1, none⟩ = some (.int .i64 R2.num.2.num.1) := hk4.cell 1
            have d2 : w6.cell? ⟨w3.heap.size, 2, none⟩ = some (.int .i64 R2.num.2.num.2.num.1) := hk4.cell 2
            clear h3 x3 hk4 cc3 ff3
            go_wp2_with (at_builtin; refine wpl_append_el _ rfl 28 68 (.tmp 65) (.tmp 67) rfl W.heap.size u8 xs ⟨R2.num.1, R2.num.2.num.1, R2.num.2.num.2.num.1, R2.num.2.num.2.num.2.text.1⟩ i2 _ 40 Tryz.underlying28 hi2 hz2 hs2 hb2' rfl (by decide) rfl (HO4.out.alloc _) ⟨w6.heap.size, 0, none⟩ 1 rfl ?_ (by have := HROOM.out.2; simp only [HBAD.out] at this; simp at this; omega) (by simp; omega) ?_)
            · intro j u hj
              have h := cells_new (w6.setCell ⟨w3.heap.size, 3, none⟩ (.string R2.num.2.num.2.num.2.text.1)) 68 #[.int .i64 R2.num.1, .int .i64 R2.num.2.num.1, .int .i64 R2.num.2.num.2.num.1, .string R2.num.2.num.2.num.2.text.1] j u hj
              simp only [World.size_setCell] at h
              exact h
            intro v1 w7 ho1 hg1 _
            have hap := own_apart (HP4.out) (HO4.out) (by decide)
            have HR6 := Lib.hid ((HR4.out.kept ((Below.refl _ _).alloc (Nat.le_refl _) _)).fr (Fr.ofGrown hg1) (fun b hb e => by have := HOL.out b e.symm; omega))
            have HX6 := Lib.hid ((HX4.out.alloc _).grown hg1 fun k hk e => by have := HOL.out k e; omega)
            have HP6 := Lib.hid ((HP4.out.alloc _).fr (Fr.ofGrown hg1) (fun b hb e => hap b hb e))
            have HO6 := Lib.hid ho1
            clear ho1 hg1 hap
            go_wp2
            go_roundw
            case rel => exact ⟨n2 - 1, xs ++ [⟨R2.num.1, R2.num.2.num.1, R2.num.2.num.2.num.1, R2.num.2.num.2.num.2.text.1⟩], R2.num.2.num.2.num.2.text.2, by go_num, by omega, by omega, HO6.out, HP6.out, HR6.out, HX6.out, HFX.out.snoc (by simp only; omega), by rw [List.length_append]; exact HROOM.out.two HBAD.out (by omega) (Rs.sess_less R2)⟩
            case measure => simp [intOf]; omega
          · have hxl : 8 * xs.length ≤ N + 8 := by have := HROOM.out.2; split at this <;> omega
            by_cases hn : 0 < n2
            · have hbad : R2.bad = true := by cases hbb : R2.bad <;> simp_all
              go_wp2_with fail
              refine (rbad_any g R2 _ HR.out).mono ?_
              rintro e w2' ⟨rfl, rfl⟩
              rw [hbad]
              go_wp2
              go_ret2
              exact ⟨u4, u8, ps, xs, R2, rfl, HP0.out, HO0.out, HR.out, HX0.out, HFIT.out, HFX.out, hpl, hxl, hRN⟩
            · go_wp2
              go_ret2
              exact ⟨u4, u8, ps, xs, R2, rfl, HP0.out, HO0.out, HR.out, HX0.out, HFIT.out, HFX.out, hpl, hxl, hRN⟩
end Go.Proofs.YtjkkclfndlfjhaaGreatDoor
