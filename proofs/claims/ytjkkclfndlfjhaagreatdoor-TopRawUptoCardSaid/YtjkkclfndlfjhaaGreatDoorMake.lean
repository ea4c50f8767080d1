/- Contract of frame.number: it returns the number in the first four bytes; it only reads. -/
import Derived.Test.YtjkkclfndlfjhaaGreatDoorApp
import Derived.Test.YtjkkclfndlfjhaaGreatDoorCrc
set_option linter.all false
namespace Go.Proofs.YtjkkclfndlfjhaaGreatDoor
open Go.RowKit Crc Frm

theorem wraps_i64 (n : Int) (h0 : 0 ≤ n) (h1 : n < 2 ^ 63) : IntKind.i64.wrap n = n := by rw [IntKind.wrap_i64]; omega

/-- Or of parts that do not overlap. -/
theorem or_join (i : Nat) (x y : Int) (hx0 : 0 ≤ x) (hx : x % 2 ^ i = 0) (hx1 : x < 2 ^ 63) (hy0 : 0 ≤ y) (hy : y < 2 ^ i) (hy1 : y < 2 ^ 63) : bits .or .i64 x y = x + y :=
  bits_join .i64 63 (by decide) wraps_i64 i x y hx0 hx hx1 hy0 hy hy1

set_option maxHeartbeats 400000 in
theorem number_some (b off cap : Nat) (bs : List UInt8) (h4 : 4 ≤ bs.length) (hl : bs.length ≤ 281474976710656) (w : World)
    (hcell : ∀ i c, bs[i]? = some c → w.cell? ⟨b, off + i, none⟩ = some (.int .u8 (c.toNat : Int))) :
    Calls Tryz.prog 101 #[.slice (some ⟨b, off, none⟩) bs.length cap] w fun e w' => e = .returned (.int .i64 ((num bs : Nat) : Int)) ∧ ∃ n, w' = w.drewN n := by
  obtain ⟨c0, h0⟩ : ∃ c, bs[0]? = some c := ⟨_, List.getElem?_eq_getElem (by omega)⟩
  obtain ⟨c1, h1⟩ : ∃ c, bs[1]? = some c := ⟨_, List.getElem?_eq_getElem (by omega)⟩
  obtain ⟨c2, h2⟩ : ∃ c, bs[2]? = some c := ⟨_, List.getElem?_eq_getElem (by omega)⟩
  obtain ⟨c3, h3⟩ : ∃ c, bs[3]? = some c := ⟨_, List.getElem?_eq_getElem (by omega)⟩
  have e0 := hcell 0 c0 h0
  have e1 := hcell 1 c1 h1
  have e2 := hcell 2 c2 h2
  have e3 := hcell 3 c3 h3
  have hn : num bs = c0.toNat * 16777216 + c1.toNat * 65536 + c2.toNat * 256 + c3.toNat := by
    unfold num; rw [h0, h1, h2, h3]; rfl
  have HN := Lib.hid hn
  have b0 := c0.toNat_lt
  have b1 := c1.toNat_lt
  have b2 := c2.toNat_lt
  have b3 := c3.toNat_lt
  clear hn h0 h1 h2 h3 hcell
  have l0 : (0 : Int) < (bs.length : Int) := by omega
  have l1 : (1 : Int) < (bs.length : Int) := by omega
  have l2 : (2 : Int) < (bs.length : Int) := by omega
  have l3 : (3 : Int) < (bs.length : Int) := by omega
  rw [Nat.add_zero] at e0
  go_enter Tryz.func101, Tryz.ntmps101
  go_wp2
  go_quiet (fail)
  go_wp2
  go_ret
  refine ⟨?_, ⟨_, rfl⟩⟩
  refine ret_int ?_
  rw [or_join 24 ((c0.toNat : Int) * 16777216) ((c1.toNat : Int) * 65536) (by omega) (by omega) (by omega) (by omega) (by omega) (by omega),
    or_join 16 ((c0.toNat : Int) * 16777216 + (c1.toNat : Int) * 65536) ((c2.toNat : Int) * 256) (by omega) (by omega) (by omega) (by omega) (by omega) (by omega),
    or_join 8 ((c0.toNat : Int) * 16777216 + (c1.toNat : Int) * 65536 + (c2.toNat : Int) * 256) (c3.toNat : Int) (by omega) (by omega) (by omega) (by omega) (by omega) (by omega), HN.out]
  omega

/-- THE NUMBER OF FOUR BYTES. -/
theorem number_any (v : Value) (bs : List UInt8) (h4 : 4 ≤ bs.length) (hl : bs.length ≤ 281474976710656) (w : World) (hv : IsBytes w v bs) :
    Calls Tryz.prog 101 #[v] w fun e w' => e = .returned (.int .i64 ((num bs : Nat) : Int)) ∧ ∃ n, w' = w.drewN n := by
  obtain ⟨A, cap, rfl, _, _, hr⟩ := hv
  obtain ⟨b, off, rfl, hcell⟩ := hr (by omega)
  exact number_some b off cap bs h4 hl w hcell
end Go.Proofs.YtjkkclfndlfjhaaGreatDoor
/- Contracts of frame.Make and of the law's form: the frame of bytes; too many bytes have none. -/
namespace Go.Proofs.YtjkkclfndlfjhaaGreatDoor
open Go.RowKit Crc Frm

set_option maxHeartbeats 400000 in
theorem make_big (v : Value) (bs : List UInt8) (hbig : 16384 < bs.length) (hl : bs.length ≤ 281474976710656) (w : World) (hv : IsBytes w v bs) :
    Calls Tryz.prog 14 #[v] w fun e w' => e = .returned (.tuple #[.slice none 0 0, .int .i64 4]) ∧ w = w' := by
  obtain ⟨A, cap, rfl, -, -, -⟩ := hv
  go_enter Tryz.func14, Tryz.ntmps14
  go_wp2
  go_ret2
  exact ⟨rfl, rfl⟩

/-- The eight bytes ahead of a frame's. -/
def headCells (n s : Nat) : Array Value := #[.int .u8 ((n : Int) / 16777216), .int .u8 ((n : Int) / 65536), .int .u8 ((n : Int) / 256), .int .u8 ((n : Int) % 256),
  .int .u8 ((s : Int) / 16777216), .int .u8 ((s : Int) / 65536 % 256), .int .u8 ((s : Int) / 256 % 256), .int .u8 ((s : Int) % 256)]
theorem headCells_eq (n s : Nat) (hn : n ≤ 16384) (hs : s < 4294967296) : headCells n s = (cellsOf (be4 n ++ be4 s)).toArray := by
  simp only [headCells, be4, cellsOf, List.cons_append, List.nil_append, List.map_cons, List.map_nil, UInt8.toNat_ofNat']
  simp only [Array.mk.injEq, List.cons.injEq, Value.int.injEq, true_and, and_true]
  refine ⟨?_, ?_, ?_, ?_, ?_, ?_, ?_, ?_⟩ <;> omega
theorem owns_head (w : World) (n s : Nat) (hn : n ≤ 16384) (hs : s < 4294967296) :
    Owns (w.alloc (.cells (headCells n s) 5)) w.heap.size (.slice (some ⟨w.heap.size, 0, none⟩) 8 8) (be4 n ++ be4 s) := by
  have h := World.ownsRow_lit (e := 5) (size := 1) (base := w.heap.size) w (headCells n s) 8 (Nat.le_refl _) (by decide) rfl
  rw [headCells_eq n s hn hs] at h ⊢
  exact h

/-- One byte in a block of its own. -/
theorem one_new (w : World) (n : Int) (c : UInt8) (h : n = (c.toNat : Int)) : IsBytes (w.alloc (.cells #[.int .u8 n] 5)) (.slice (some ⟨w.heap.size, 0, none⟩) 1 1) [c] := by
  subst h
  exact isBytes_new w [c] 5 (0, 0) (by simp [maxLen])

/-- What Make leaves: a frame in memory of the call's own. -/
def Framed (w : World) (bs : List UInt8) (e : Ending) (w' : World) : Prop := ∃ v, e = .returned (.tuple #[v, .int .i64 0]) ∧ Owns w' w.heap.size v (frame bs) ∧ Below w.heap.size w w'

set_option maxHeartbeats 400000 in
theorem make_any (v : Value) (bs : List UInt8) (hs : bs.length ≤ 16384) (w : World) (hv : IsBytes w v bs) :
    Calls Tryz.prog 14 #[v] w (Framed w bs) := by
  have HV := Lib.hid hv
  obtain ⟨A, cap, rfl, -, -, -⟩ := hv
  go_enter Tryz.func14, Tryz.ntmps14
  go_wp2_with fail
  refine (csum_any _ bs (by omega) _ HV.out).mono ?_
  rintro e w1 ⟨rfl, hb1⟩
  have hcl := crc_lt bs
  obtain ⟨s, hs'⟩ : ∃ s, s = crc bs := ⟨_, rfl⟩
  have hss : sum 3988292384 bs = s := hs'.symm
  rw [hss]
  rw [← hs'] at hcl
  have HS := Lib.hid hs'
  clear hs' hss
  have hh := owns_head w1 bs.length s hs hcl
  have hbh : Below w.heap.size w (w1.alloc (.cells (headCells bs.length s) 5)) := hb1.alloc hb1.size _
  unfold headCells at hh hbh
  have hvh := HV.out.below hbh
  have HH := Lib.hid hh
  have HVH := Lib.hid hvh
  have HBH := Lib.hid hbh
  have hsz := hb1.size
  clear hh hvh hbh hb1
  go_wp2_with (at_builtin; refine wpl_append_bytes _ rfl (.tmp 37) (.tmp 38) rfl w1.heap.size _ _ rfl HH.out _ bs rfl HVH.out (by simp [be4]; omega) (by simp) ?_)
  intro v1 w2 ho1 hg1 hat1
  have hb2 := below_append HBH.out HH.out hsz hg1 (by simp; omega)
  have HO1 := Lib.hid ho1
  have HB2 := Lib.hid hb2
  have hsz2 : w1.heap.size ≤ w2.heap.size := by have := hg1.size; simp at this; omega
  clear ho1 hb2 hg1 hat1 HH HVH HBH
  go_wp2_with (at_builtin; refine wpl_append_bytes _ rfl (.tmp 39) (.tmp 40) rfl w1.heap.size v1 _ rfl (HO1.out.alloc _) _ [229] rfl (one_new w2 229 229 rfl) (by simp [be4]; omega) (by simp; omega) ?_)
  intro v2 w3 ho2 hg2 hat2
  have hb3 := below_append (HB2.out.alloc HB2.out.size _) (HO1.out.alloc _) hsz hg2 (by have := HB2.out.size; simp; omega)
  have hf : (be4 bs.length ++ (be4 s ++ bs)) ++ [229] = frame bs := by
    unfold frame
    rw [← HS.out]
    simp
  have ho3 : Owns w3 w.heap.size v2 (frame bs) := by
    rw [← hf]
    refine ⟨ho2.1, ?_⟩
    rcases ho2.2 with h | ⟨g, cap, cur, e1, e2, e3⟩
    · exact .inl h
    · exact .inr ⟨g, cap, cur, e1, by omega, e3⟩
  go_wp2
  go_ret2
  exact ⟨v2, rfl, ho3, hb3⟩
end Go.Proofs.YtjkkclfndlfjhaaGreatDoor
