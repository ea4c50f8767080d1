/- Contract of frame.One: what bytes begin with, how long it is, what is wrong. -/
import Derived.Test.YtjkkclfndlfjhaaGreatDoorMake
import Derived.Deep.RegionWith
set_option linter.all false
namespace Go.Proofs.YtjkkclfndlfjhaaGreatDoor
open Go.RowKit Crc Frm

/-- A part of a slice of bytes. -/
theorem sub_bytes {w : World} {b off : Nat} {bs : List UInt8} (hcell : ∀ i c, bs[i]? = some c → w.cell? ⟨b, off + i, none⟩ = some (.int .u8 (c.toNat : Int)))
    (lo n cap : Nat) (h : lo + n ≤ bs.length) (hc : n ≤ cap) (hm : cap ≤ maxLen) : IsBytes w (.slice (some ⟨b, off + lo, none⟩) n cap) ((bs.drop lo).take n) := by
  have hl : ((bs.drop lo).take n).length = n := by rw [List.length_take, List.length_drop]; omega
  refine ⟨some ⟨b, off + lo, none⟩, cap, by rw [hl], by omega, hm, fun _ => ⟨b, off + lo, rfl, fun i c hi => ?_⟩⟩
  rw [Nat.add_assoc]
  apply hcell
  have hin : i < n := by
    have := (List.getElem?_eq_some_iff.1 hi).1
    omega
  rw [List.getElem?_take_of_lt hin, List.getElem?_drop] at hi
  exact hi

/-- What One leaves. -/
def OneLeft (w : World) (bs : List UInt8) (e : Ending) (w' : World) : Prop :=
  ∃ v, e = .returned (.tuple #[v, .int .i64 (((one bs).2.1 : Nat) : Int), .int .i64 (((one bs).2.2 : Nat) : Int)]) ∧ Owns w' w.heap.size v (one bs).1 ∧ Below w.heap.size w w'

set_option maxHeartbeats 400000 in
theorem one_short (v : Value) (bs : List UInt8) (h8 : bs.length < 8) (w : World) (hv : IsBytes w v bs) : Calls Tryz.prog 48 #[v] w (OneLeft w bs) := by
  have hone : one bs = ([], 0, 3) := by unfold one; rw [if_pos h8]
  have HO := Lib.hid hone
  clear hone
  obtain ⟨A, cap, rfl, -, -, -⟩ := hv
  have l8 : (bs.length : Int) < 8 := by omega
  go_enter Tryz.func48, Tryz.ntmps48
  go_wp2
  go_ret3
  refine ⟨.slice none 0 0, ?_, ?_, Below.refl _ _⟩
  · rw [HO.out]; rfl
  · rw [HO.out]; exact Owns.nil _ _

set_option maxHeartbeats 800000 in
theorem one_some (b off cap : Nat) (bs : List UInt8) (h8 : 8 ≤ bs.length) (hl : bs.length ≤ 281474976710656) (hlc : bs.length ≤ cap) (hcm : cap ≤ maxLen) (w : World)
    (hcell : ∀ i c, bs[i]? = some c → w.cell? ⟨b, off + i, none⟩ = some (.int .u8 (c.toNat : Int))) : Calls Tryz.prog 48 #[.slice (some ⟨b, off, none⟩) bs.length cap] w (OneLeft w bs) := by
  have hv : IsBytes w (.slice (some ⟨b, off, none⟩) bs.length cap) bs := ⟨_, _, rfl, hlc, hcm, fun _ => ⟨_, _, rfl, hcell⟩⟩
  have HV := Lib.hid hv
  have HC := Lib.hid hcell
  clear hv hcell
  have hnl := num_lt bs
  obtain ⟨n, hn⟩ : ∃ n, n = num bs := ⟨_, rfl⟩
  have HN := Lib.hid hn
  rw [← hn] at hnl
  clear hn
  have l8 : ¬ (bs.length : Int) < 8 := by omega
  go_enter Tryz.func48, Tryz.ntmps48
  go_wp2_with fail
  refine (number_any _ bs (by omega) hl _ HV.out).mono ?_
  rintro e w1 ⟨rfl, nq, rfl⟩
  rw [← HN.out]
  by_cases h2 : 16384 < n
  · have hone : Hid (one bs = ([], 0, 1)) := by unfold one; rw [← HN.out, if_neg (by omega), if_pos h2]; rfl
    go_wp2
    go_ret3
    exact ⟨.slice none 0 0, by rw [hone.out]; rfl, by rw [hone.out]; exact Owns.nil _ _, below_drewN (Below.refl _ _) _⟩
  by_cases h3 : bs.length < n + 9
  · have hone : Hid (one bs = ([], 0, 3)) := by unfold one; rw [← HN.out, if_neg (by omega), if_neg h2, if_pos h3]; rfl
    go_wp2
    go_ret3
    exact ⟨.slice none 0 0, by rw [hone.out]; rfl, by rw [hone.out]; exact Owns.nil _ _, below_drewN (Below.refl _ _) _⟩
  obtain ⟨c, hc⟩ : ∃ c, bs[n + 8]? = some c := ⟨_, List.getElem?_eq_getElem (by omega)⟩
  have hcc := HC.out _ _ hc
  have hcc' : w.cell? ⟨b, off + (8 + n), none⟩ = some (.int .u8 (c.toNat : Int)) := by rw [show 8 + n = n + 8 by omega]; exact hcc
  clear hcc
  have hc8 := c.toNat_lt
  have HCC := Lib.hid hc
  clear hc
  by_cases h4 : c ≠ 229
  · have hone : Hid (one bs = ([], 0, 1)) := by unfold one; rw [← HN.out, if_neg (by omega), if_neg h2, if_neg h3, HCC.out, Option.getD_some, if_pos h4]; rfl
    have hb4 : ((c.toNat : Int) == 229) = false := by
      rw [beq_eq_false_iff_ne]
      intro h
      apply h4
      apply UInt8.toNat_inj.1
      have : c.toNat = 229 := by omega
      rw [this]; rfl
    go_wp2
    go_ret3
    exact ⟨.slice none 0 0, by rw [hone.out]; rfl, by rw [hone.out]; exact Owns.nil _ _, below_drewN (Below.refl _ _) _⟩
  have h4' : c = 229 := by simpa using h4
  subst h4'
  have h9 : n + 9 ≤ bs.length := by omega
  have hcap8 : ¬ cap = 8 := by omega
  have hcap4 : ¬ cap = 4 := by omega
  have hs1 := sub_bytes HC.out 8 n (cap - 8) (by omega) (by omega) (by omega)
  have hs2 := sub_bytes HC.out 4 (bs.length - 4) (cap - 4) (by omega) (by omega) (by omega)
  have e2 : (bs.drop 4).take (bs.length - 4) = bs.drop 4 := List.take_of_length_le (by rw [List.length_drop]; omega)
  rw [e2] at hs2
  have HS1 := Lib.hid hs1
  have HS2 := Lib.hid hs2
  clear hs1 hs2 e2
  go_wp2
  have q1 : IntKind.i64.wrap (8 + (n : Int)) = 8 + (n : Int) := IntWalk.i64_in _ (by omega)
  have q2 : (0 : Int) ≤ 8 + (n : Int) := by omega
  have q3 : (8 : Int) + (n : Int) ≤ (cap : Int) := by omega
  have q4 : (8 + (n : Int)).toNat = 8 + n := by omega
  have q5 : (8 : Int) ≤ 8 + (n : Int) := by omega
  have q6 : (4 : Int) ≤ (bs.length : Int) := by omega
  have q7 : 8 + n - 8 = n := by omega
  have hzl : sum 3988292384 ((bs.drop 8).take n) < 4294967296 := crc_lt _
  have q8 : IntKind.i64.wrap ((sum 3988292384 ((bs.drop 8).take n) : Nat) : Int) = ((sum 3988292384 ((bs.drop 8).take n) : Nat) : Int) := IntWalk.i64_in _ (by omega)
  go_region_with (first
    | (go_at_call 49; refine (csum_any _ ((bs.drop 8).take n) ?_ _ ?_).mono ?_; (rw [List.length_take]; omega); exact HS1.out; rintro e w2 ⟨rfl, hb2'⟩; have hb2 : Below w.heap.size w w2 := ⟨hb2'.os, hb2'.tape, hb2'.output, hb2'.size, hb2'.block⟩; clear hb2')
    | (go_at_call 101; refine (number_any _ (bs.drop 4) ?_ ?_ _ ?_).mono ?_; (rw [List.length_drop]; omega); (rw [List.length_drop]; omega); exact HS2.out.below hb2; rintro e w3 ⟨rfl, nr, rfl⟩))
  have HB := Lib.hid hb2
  have hs3 : IsBytes (w2.drewN nr) (.slice (some ⟨b, off + 8, none⟩) n (cap - 8)) ((bs.drop 8).take n) := HS1.out.below (below_drewN hb2 nr)
  have HS3 := Lib.hid hs3
  have hsz := hb2.size
  have hlt8 : ((bs.drop 8).take n).length = n := by rw [List.length_take, List.length_drop]; omega
  have HL := Lib.hid hlt8
  clear hs3 hb2 hlt8 HS1 HS2
  go_wp2_with (at_builtin; refine wpl_append_bytes _ rfl (.const (.slice none 0 0)) (.tmp 42) rfl w.heap.size (.slice none 0 0) [] rfl (Owns.nil _ _) _ ((bs.drop 8).take n) rfl HS3.out (by rw [HL.out]; simp; omega) (by simp; omega) ?_)
  · have h5 : ((sum 3988292384 ((bs.drop 8).take n) : Nat) : Int) != ((num (bs.drop 4) : Nat) : Int) := by assumption
    have hone : one bs = ([], 0, 2) := by
      have h6 : crc ((bs.drop 8).take n) ≠ num (bs.drop 4) := by
        intro h
        rw [show sum 3988292384 ((bs.drop 8).take n) = crc ((bs.drop 8).take n) from rfl, h] at h5
        simp at h5
      unfold one
      rw [← HN.out, if_neg (by omega), if_neg h2, if_neg h3, HCC.out, Option.getD_some, if_neg (by simp), if_pos h6]
    go_ret3
    exact ⟨.slice none 0 0, by rw [hone]; rfl, by rw [hone]; exact Owns.nil _ _, below_drewN HB.out _⟩
  · intro v1 w3 ho hg _
    have h5 : (((sum 3988292384 ((bs.drop 8).take n) : Nat) : Int) != ((num (bs.drop 4) : Nat) : Int)) = false := by assumption
    have hone : Hid (one bs = ((bs.drop 8).take n, n + 9, 0)) := by
      have h6 : crc ((bs.drop 8).take n) = num (bs.drop 4) := by
        simp only [bne_eq_false_iff_eq] at h5
        show sum 3988292384 ((bs.drop 8).take n) = _
        omega
      unfold one
      rw [← HN.out, if_neg (by omega), if_neg h2, if_neg h3, HCC.out, Option.getD_some, if_neg (by simp), if_neg (by rw [h6]; simp)]
      rfl
    have hb3 := below_append (below_drewN HB.out nr) (Owns.nil (w2.drewN nr) w.heap.size) (Nat.le_refl _) hg (by simp; omega)
    have HO := Lib.hid ho
    clear ho hg h5
    go_wp2
    go_ret3
    refine ⟨v1, ?_, ?_, hb3⟩
    · rw [hone.out]
      show Ending.returned (.tuple #[v1, .int .i64 (8 + (n : Int) + 1), .int .i64 0]) = _
      rw [show (8 + (n : Int) + 1) = ((n + 9 : Nat) : Int) by omega]
      rfl
    · rw [hone.out]
      exact HO.out

/-- ONE: what bytes begin with. -/
theorem one_any (v : Value) (bs : List UInt8) (hl : bs.length ≤ 281474976710656) (w : World) (hv : IsBytes w v bs) : Calls Tryz.prog 48 #[v] w (OneLeft w bs) := by
  rcases Nat.lt_or_ge bs.length 8 with h | h
  · exact one_short v bs h w hv
  · obtain ⟨A, cap, rfl, hlc, hcm, hr⟩ := hv
    obtain ⟨b, off, rfl, hcell⟩ := hr (by omega)
    exact one_some b off cap bs h hl hlc hcm w hcell

end Go.Proofs.YtjkkclfndlfjhaaGreatDoor
