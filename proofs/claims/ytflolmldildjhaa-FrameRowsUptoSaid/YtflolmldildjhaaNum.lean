/- Contract of frame.number: it returns the number in the first four bytes; it only reads. -/
import Derived.Test.YtflolmldildjhaaApp
import Derived.Test.YtflolmldildjhaaFrm
namespace Go.Proofs.Ytflolmldildjhaa
open Go.RowKit Crc Frm

theorem wraps_i64 (n : Int) (h0 : 0 ≤ n) (h1 : n < 2 ^ 63) : IntKind.i64.wrap n = n := by rw [IntKind.wrap_i64]; omega

/-- Or of parts that do not overlap. -/
theorem or_join (i : Nat) (x y : Int) (hx0 : 0 ≤ x) (hx : x % 2 ^ i = 0) (hx1 : x < 2 ^ 63) (hy0 : 0 ≤ y) (hy : y < 2 ^ i) (hy1 : y < 2 ^ 63) : bits .or .i64 x y = x + y :=
  bits_join .i64 63 (by decide) wraps_i64 i x y hx0 hx hx1 hy0 hy hy1

set_option maxHeartbeats 400000 in
theorem number_some (b off cap : Nat) (bs : List UInt8) (h4 : 4 ≤ bs.length) (hl : bs.length ≤ 281474976710656) (w : World)
    (hcell : ∀ i c, bs[i]? = some c → w.cell? ⟨b, off + i, none⟩ = some (.int .u8 (c.toNat : Int))) :
    Calls Try.prog 33 #[.slice (some ⟨b, off, none⟩) bs.length cap] w fun e w' => e = .returned (.int .i64 ((num bs : Nat) : Int)) ∧ ∃ n, w' = w.drewN n := by
  obtain ⟨c0, h0⟩ : ∃ c, bs[0]? = some c := ⟨_, List.getElem?_eq_getElem (by omega)⟩
  obtain ⟨c1, h1⟩ : ∃ c, bs[1]? = some c := ⟨_, List.getElem?_eq_getElem (by omega)⟩
  obtain ⟨c2, h2⟩ : ∃ c, bs[2]? = some c := ⟨_, List.getElem?_eq_getElem (by omega)⟩
  obtain ⟨c3, h3⟩ : ∃ c, bs[3]? = some c := ⟨_, List.getElem?_eq_getElem (by omega)⟩
  have e0 := hcell 0 c0 h0
  have e1 := hcell 1 c1 h1
  have e2 := hcell 2 c2 h2
  have e3 := hcell 3 c3 h3
  have hn : num bs = c0.toNat * 16777216 + c1.toNat * 65536 + c2.toNat * 256 + c3.toNat := by
    unfold num; rw [h0, h1, h2, h3]; rfl
  have HN := Lib.hid hn
  have b0 := c0.toNat_lt
  have b1 := c1.toNat_lt
  have b2 := c2.toNat_lt
  have b3 := c3.toNat_lt
  clear hn h0 h1 h2 h3 hcell
  have l0 : (0 : Int) < (bs.length : Int) := by omega
  have l1 : (1 : Int) < (bs.length : Int) := by omega
  have l2 : (2 : Int) < (bs.length : Int) := by omega
  have l3 : (3 : Int) < (bs.length : Int) := by omega
  rw [Nat.add_zero] at e0
  go_enter Try.func33, Try.ntmps33
  go_wp2
  go_quiet (fail)
  go_wp2
  go_ret
  refine ⟨?_, ⟨_, rfl⟩⟩
  refine ret_int ?_
  rw [or_join 24 ((c0.toNat : Int) * 16777216) ((c1.toNat : Int) * 65536) (by omega) (by omega) (by omega) (by omega) (by omega) (by omega),
    or_join 16 ((c0.toNat : Int) * 16777216 + (c1.toNat : Int) * 65536) ((c2.toNat : Int) * 256) (by omega) (by omega) (by omega) (by omega) (by omega) (by omega),
    or_join 8 ((c0.toNat : Int) * 16777216 + (c1.toNat : Int) * 65536 + (c2.toNat : Int) * 256) (c3.toNat : Int) (by omega) (by omega) (by omega) (by omega) (by omega) (by omega), HN.out]
  omega

/-- THE NUMBER OF FOUR BYTES. -/
theorem number_any (v : Value) (bs : List UInt8) (h4 : 4 ≤ bs.length) (hl : bs.length ≤ 281474976710656) (w : World) (hv : IsBytes w v bs) :
    Calls Try.prog 33 #[v] w fun e w' => e = .returned (.int .i64 ((num bs : Nat) : Int)) ∧ ∃ n, w' = w.drewN n := by
  obtain ⟨A, cap, rfl, _, _, hr⟩ := hv
  obtain ⟨b, off, rfl, hcell⟩ := hr (by omega)
  exact number_some b off cap bs h4 hl w hcell
end Go.Proofs.Ytflolmldildjhaa
