/- Contract of the law's form: the frame of bytes, as a string. -/
import Derived.Test.YtflolmldildjhaaMake
import Derived.Laws.BytesArg
namespace Go.Proofs.Ytflolmldildjhaa
open Go.RowKit Crc Frm

/-- Bytes as a string. -/
def strOf (bs : List UInt8) : ByteArray := ⟨bs.toArray⟩
theorem size_strOf (bs : List UInt8) : (strOf bs).size = bs.length := by simp [strOf, ByteArray.size]
theorem strOf_append (xs ys : List UInt8) : strOf xs ++ strOf ys = strOf (xs ++ ys) := by
  rw [strOf, strOf, strOf, ByteArray.mk_append_mk]

theorem length_be4' (n : Nat) : (be4 n).length = 4 := rfl
attribute [local go_sem] size_strOf strOf_append length_be4'

/-- The conversion of bytes to a string. -/
theorem run_conv (w : World) (v : Value) (bs : List UInt8) (hv : IsBytes w v bs) : (convert 29 9 v).run Try.prog w = .ok (.string (strOf bs)) w := by
  obtain ⟨A, cap, rfl, _, _, hr⟩ := hv
  rw [run_convert_bytes_string w 29 9 5 A bs.length cap Try.underlying29 Try.underlying5 Try.underlying9]
  rcases Nat.eq_zero_or_pos bs.length with h0 | h0
  · have : bs = [] := List.eq_nil_of_length_eq_zero h0
    subst this
    cases A with
    | none => simp [Conv.bytesToString]; rfl
    | some a => simp [Conv.bytesToString, loadCells, loadCellsFrom]; rfl
  · obtain ⟨b, off, rfl, hcell⟩ := hr h0
    have := run_convert_bytes_arg (P := Try.prog) w 29 5 Try.underlying29 Try.underlying5 b off bs.length cap (bs.map fun c => (c.toNat : Int)) (by simp) (fun i hi => by
      rw [hcell i _ (List.getElem?_eq_getElem hi)]
      simp [List.getD, hi]) 9 Try.underlying9
    rw [run_convert_bytes_string w 29 9 5 _ bs.length cap Try.underlying29 Try.underlying5 Try.underlying9] at this
    rw [this]
    congr 2
    unfold strOfNums strOf
    congr 1
    congr 1
    rw [List.map_map]
    apply List.ext_getElem?
    intro i
    rw [List.getElem?_map]
    cases bs[i]? with
    | none => rfl
    | some c => simp

set_option maxHeartbeats 400000 in
theorem form_any (v : Value) (bs : List UInt8) (hs : bs.length ≤ 16384) (w : World) (hv : IsBytes w v bs) :
    Calls Try.prog 26 #[v] w fun e w' => e = .returned (.string (strOf (frame bs))) ∧ Below w.heap.size w w' := by
  have HV := Lib.hid hv
  obtain ⟨A, cap, rfl, -, -, -⟩ := hv
  go_enter Try.func26, Try.ntmps26
  go_wp2_with fail
  refine (csum_any _ bs (by omega) _ HV.out).mono ?_
  rintro e w1 ⟨rfl, hb1⟩
  have hcl := crc_lt bs
  obtain ⟨s, hs'⟩ : ∃ s, s = crc bs := ⟨_, rfl⟩
  have hss : sum 3988292384 bs = s := hs'.symm
  rw [hss]
  rw [← hs'] at hcl
  have HS := Lib.hid hs'
  clear hs' hss
  have hh := (owns_head w1 bs.length s hs hcl).bytes
  have hbh : Below w.heap.size w (w1.alloc (.cells (headCells bs.length s) 5)) := hb1.alloc hb1.size _
  unfold headCells at hh hbh
  have hvh := HV.out.below hbh
  have hc1 := run_conv _ _ _ hh
  have hc2 := run_conv _ _ _ hvh
  clear hh hvh
  have HBH := Lib.hid hbh
  clear hbh hb1
  go_wp2
  go_ret
  refine ⟨?_, HBH.out⟩
  have e : strOf (be4 bs.length ++ (be4 s ++ bs)) ++ { data := #[229] } = strOf (frame bs) := by
    have := strOf_append (be4 bs.length ++ (be4 s ++ bs)) [229]
    unfold frame
    rw [← HS.out]
    simpa [strOf] using this
  show Ending.returned (Value.string _) = _
  rw [e]

end Go.Proofs.Ytflolmldildjhaa
