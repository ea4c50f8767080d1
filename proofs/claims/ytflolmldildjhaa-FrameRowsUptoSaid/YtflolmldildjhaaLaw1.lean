/- Contract of the law's one: what bytes begin with, as the document says. -/
import Derived.Test.YtflolmldildjhaaAwake3
import Derived.Lib.QuietBelow
namespace Go.Proofs.Ytflolmldildjhaa
open Go.RowKit Crc Frm

theorem toList_strOf (bs : List UInt8) : (strOf bs).toList = bs := by rw [ByteArray.toList_eq]; rfl

/-- The law's test of the sum is the document's. -/
theorem form_test (b : List UInt8) (h8 : ¬ b.length < 8) (h2 : ¬ 16384 < num b) (h3 : ¬ b.length < num b + 9) (h4 : b[num b + 8]? = some 229) :
    frame ((b.drop 8).take (num b)) = b.take (num b + 9) ↔ crc ((b.drop 8).take (num b)) = num (b.drop 4) := by
  have hl : ((b.drop 8).take (num b)).length = num b := by rw [List.length_take, List.length_drop]; omega
  have hone : ∀ h : crc ((b.drop 8).take (num b)) = num (b.drop 4), one b = ((b.drop 8).take (num b), num b + 9, 0) := by
    intro h
    unfold one
    rw [if_neg h8, if_neg h2, if_neg h3, h4, Option.getD_some, if_neg (by simp), if_neg (by rw [h]; simp)]
  constructor
  · intro h
    by_cases hc : crc ((b.drop 8).take (num b)) = num (b.drop 4)
    · exact hc
    · exfalso
      have e1 : one b = ([], 0, 2) := by
        unfold one
        rw [if_neg h8, if_neg h2, if_neg h3, h4, Option.getD_some, if_neg (by simp), if_pos hc]
      have e2 := one_frame ((b.drop 8).take (num b)) (b.drop (num b + 9)) (by rw [hl]; omega)
      rw [h, List.take_append_drop, e1] at e2
      have := congrArg (fun t => t.2.2) e2
      cases this
  · intro h
    have e1 := hone h
    have e2 := one_ok (b := b) (by rw [e1])
    rw [e1] at e2
    have e3 := e2.2.2
    have : b.take (num b + 9) = (frame ((b.drop 8).take (num b)) ++ b.drop (num b + 9)).take (num b + 9) := by rw [← e3]
    rw [this, List.take_left' (by rw [length_frame, hl])]

/-- What the law's one leaves. -/
def LawLeft (w : World) (bs : List UInt8) (e : Ending) (w' : World) : Prop :=
  ∃ v, e = .returned (.tuple #[v, .int .i64 (((one bs).2.1 : Nat) : Int), .int .i64 (((one bs).2.2 : Nat) : Int)]) ∧ IsBytes w' v (one bs).1 ∧ Below w.heap.size w w'

theorem isBytes_nil (w : World) : IsBytes w (.slice none 0 0) [] := (Owns.nil w 0).bytes

set_option maxHeartbeats 400000 in
theorem law_short (v : Value) (bs : List UInt8) (h8 : bs.length < 8) (w : World) (hv : IsBytes w v bs) : Calls Try.prog 28 #[v] w (LawLeft w bs) := by
  have hone : one bs = ([], 0, 3) := by unfold one; rw [if_pos h8]
  have HO := Lib.hid hone
  clear hone
  obtain ⟨A, cap, rfl, -, -, -⟩ := hv
  have l8 : (bs.length : Int) < 8 := by omega
  go_enter Try.func28, Try.ntmps28
  go_wp2
  go_ret3
  exact ⟨.slice none 0 0, by rw [HO.out]; rfl, by rw [HO.out]; exact isBytes_nil _, Below.refl _ _⟩

set_option maxHeartbeats 800000 in
theorem law_some (b off cap : Nat) (bs : List UInt8) (h8 : 8 ≤ bs.length) (hl : bs.length ≤ 281474976710656) (hlc : bs.length ≤ cap) (hcm : cap ≤ maxLen) (w : World)
    (hcell : ∀ i c, bs[i]? = some c → w.cell? ⟨b, off + i, none⟩ = some (.int .u8 (c.toNat : Int))) : Calls Try.prog 28 #[.slice (some ⟨b, off, none⟩) bs.length cap] w (LawLeft w bs) := by
  have hv : IsBytes w (.slice (some ⟨b, off, none⟩) bs.length cap) bs := ⟨_, _, rfl, hlc, hcm, fun _ => ⟨_, _, rfl, hcell⟩⟩
  have HV := Lib.hid hv
  have HC := Lib.hid hcell
  obtain ⟨c0, h0⟩ : ∃ c, bs[0]? = some c := ⟨_, List.getElem?_eq_getElem (by omega)⟩
  obtain ⟨c1, h1⟩ : ∃ c, bs[1]? = some c := ⟨_, List.getElem?_eq_getElem (by omega)⟩
  obtain ⟨c2, h2⟩ : ∃ c, bs[2]? = some c := ⟨_, List.getElem?_eq_getElem (by omega)⟩
  obtain ⟨c3, h3⟩ : ∃ c, bs[3]? = some c := ⟨_, List.getElem?_eq_getElem (by omega)⟩
  have e0 := hcell 0 c0 h0
  have e1 := hcell 1 c1 h1
  have e2 := hcell 2 c2 h2
  have e3 := hcell 3 c3 h3
  rw [Nat.add_zero] at e0
  have hn : num bs = c0.toNat * 16777216 + c1.toNat * 65536 + c2.toNat * 256 + c3.toNat := by
    unfold num; rw [h0, h1, h2, h3]; rfl
  have b0 := c0.toNat_lt
  have b1 := c1.toNat_lt
  have b2 := c2.toNat_lt
  have b3 := c3.toNat_lt
  have hnl := num_lt bs
  obtain ⟨n, hn'⟩ : ∃ n, n = num bs := ⟨_, rfl⟩
  have hsum : ((c0.toNat : Int) * 16777216 + (c1.toNat : Int) * 65536 + (c2.toNat : Int) * 256 + (c3.toNat : Int)) = (n : Int) := by omega
  have HN := Lib.hid hn'
  rw [← hn'] at hnl
  clear hn hn' hv hcell h0 h1 h2 h3
  have l0 : (0 : Int) < (bs.length : Int) := by omega
  have l1 : (1 : Int) < (bs.length : Int) := by omega
  have l2 : (2 : Int) < (bs.length : Int) := by omega
  have l3 : (3 : Int) < (bs.length : Int) := by omega
  have l8 : ¬ (bs.length : Int) < 8 := by omega
  go_enter Try.func28, Try.ntmps28
  go_wp2
  go_quiet (fail)
  clear hsum e0 e1 e2 e3 b0 b1 b2 b3 l0 l1 l2 l3
  by_cases h2 : 16384 < n
  · have hone : Hid (one bs = ([], 0, 1)) := by unfold one; rw [← HN.out, if_neg (by omega), if_pos h2]; rfl
    go_wp2
    go_ret3
    exact ⟨.slice none 0 0, by rw [hone.out]; rfl, by rw [hone.out]; exact isBytes_nil _, below_drewN (Below.refl _ _) _⟩
  by_cases h3 : bs.length < n + 9
  · have hone : Hid (one bs = ([], 0, 3)) := by unfold one; rw [← HN.out, if_neg (by omega), if_neg h2, if_pos h3]; rfl
    go_wp2
    go_ret3
    exact ⟨.slice none 0 0, by rw [hone.out]; rfl, by rw [hone.out]; exact isBytes_nil _, below_drewN (Below.refl _ _) _⟩
  obtain ⟨c, hc⟩ : ∃ c, bs[n + 8]? = some c := ⟨_, List.getElem?_eq_getElem (by omega)⟩
  have hcc := HC.out _ _ hc
  have hc8 := c.toNat_lt
  have HCC := Lib.hid hc
  clear hc
  by_cases h4 : c ≠ 229
  · have hone : Hid (one bs = ([], 0, 1)) := by unfold one; rw [← HN.out, if_neg (by omega), if_neg h2, if_neg h3, HCC.out, Option.getD_some, if_pos h4]; rfl
    have hb4 : ((c.toNat : Int) == 229) = false := by
      rw [beq_eq_false_iff_ne]
      intro h
      apply h4
      apply UInt8.toNat_inj.1
      have : c.toNat = 229 := by omega
      rw [this]; rfl
    go_wp2
    go_ret3
    exact ⟨.slice none 0 0, by rw [hone.out]; rfl, by rw [hone.out]; exact isBytes_nil _, below_drewN (Below.refl _ _) _⟩
  have h4' : c = 229 := by simpa using h4
  subst h4'
  have h9 : n + 9 ≤ bs.length := by omega
  have hcap8 : ¬ cap = 8 := by omega
  have hcap0 : ¬ cap = 0 := by omega
  have hs1 := sub_bytes HC.out 8 n (cap - 8) (by omega) (by omega) (by omega)
  have hs2 := HV.out.take (n + 9) h9
  have hpl : ((frame ((bs.drop 8).take n)) == bs.take (n + 9)) = decide (crc ((bs.drop 8).take n) = num (bs.drop 4)) := by
    have := form_test bs (by omega) (by rw [← HN.out]; exact h2) (by rw [← HN.out]; exact h3) (by rw [← HN.out]; exact HCC.out)
    rw [← HN.out] at this
    rw [Bool.eq_iff_iff]
    simpa using this
  have hlt8 : ((bs.drop 8).take n).length = n := by rw [List.length_take, List.length_drop]; omega
  obtain ⟨p, hp⟩ : ∃ p, p = (bs.drop 8).take n := ⟨_, rfl⟩
  have HP := Lib.hid hp
  rw [← hp] at hs1 hpl hlt8
  obtain ⟨fp, hfp⟩ : ∃ fp, fp = frame p := ⟨_, rfl⟩
  obtain ⟨q, hq⟩ : ∃ q, q = bs.take (n + 9) := ⟨_, rfl⟩
  have CF : ∀ (d : Nat) (os : Array Obj), Calls Try.prog 26 #[.slice (some ⟨b, off + 8, none⟩) n (cap - 8)] (Go.Sort.grow (redrawn (w.drewN nq) d) os) fun e w'' => e = .returned (.string (strOf fp)) ∧ ∃ r : Regrown, w'' = Go.Sort.grow (redrawn (w.drewN nq) r.d) r.os :=
    fun d os => Calls.regrown_of (by rw [hfp]; exact form_any _ p (by omega) _ (hs1.below ((below_drewN (Below.refl w.heap.size w) nq).trans (below_regrown (w.drewN nq) d os))))
  have kq : ∀ (d : Nat) (os : Array Obj), (convert 29 9 (.slice (some ⟨b, off, none⟩) (n + 9) cap)).run Try.prog (Go.Sort.grow (redrawn (w.drewN nq) d) os) = .ok (.string (strOf q)) (Go.Sort.grow (redrawn (w.drewN nq) d) os) :=
    fun d os => by rw [hq]; exact run_conv _ _ _ (hs2.below ((below_drewN (Below.refl w.heap.size w) nq).trans (below_regrown (w.drewN nq) d os)))
  rw [← hfp, ← hq] at hpl
  have t1 := toList_strOf fp
  have t2 := toList_strOf q
  have HPL := Lib.hid hpl
  have HS1 := Lib.hid hs1
  have CFH := Lib.hid CF
  have HLT := Lib.hid hlt8
  clear hpl hs1 hs2 CF hp hfp hq hlt8
  by_cases h5 : crc p = num (bs.drop 4)
  · have hone : Hid (one bs = (p, n + 9, 0)) := by
      have h6 := HP.out ▸ h5
      unfold one
      rw [← HN.out, if_neg (by omega), if_neg h2, if_neg h3, HCC.out, Option.getD_some, if_neg (by simp), ← HP.out, if_neg (by rw [h5]; simp)]
      rfl
    have hb5 : (fp == q) = true := by rw [HPL.out]; simpa using h5
    have hb6 : (fp != q) = false := by simpa using hb5
    clear h5
    go_wp2
    refine wp_region_quiet_below (by kernel_rfl) (by kernel_rfl) ?_
    repeat (first | go_big_quiet_step ((go_at_call 26; exact CFH.out _ _)) | quiet_step ((go_at_call 26; exact CFH.out _ _)))
    refine wpQuiet_nil ?_
    intro _ hw'
    obtain ⟨pq, hw''⟩ := hw'
    subst hw''
    obtain ⟨w2, hw2⟩ : ∃ w2, w2 = Go.Sort.grow (redrawn (w.drewN nq) pq.d) pq.os := ⟨_, rfl⟩
    have hb2 : Below w.heap.size w w2 := by rw [hw2]; exact (below_drewN (Below.refl w.heap.size w) nq).trans (below_regrown (w.drewN nq) pq.d pq.os)
    rw [← hw2]
    clear hw2 kq CFH t1 t2
    go_wp2
    go_ret3
    refine ⟨.slice (some ⟨b, off + 8, none⟩) n (cap - 8), ?_, ?_, hb2⟩
    · rw [hone.out]
      show Ending.returned (.tuple #[.slice (some ⟨b, off + 8, none⟩) (n + 8 - 8) (cap - 8), .int .i64 ((n : Int) + 9), .int .i64 0]) = _
      rw [show n + 8 - 8 = n by omega, show ((n : Int) + 9) = ((n + 9 : Nat) : Int) by omega]
      rfl
    · rw [hone.out]; exact HS1.out.below hb2
  · have hone : Hid (one bs = ([], 0, 2)) := by
      unfold one
      rw [← HN.out, if_neg (by omega), if_neg h2, if_neg h3, HCC.out, Option.getD_some, if_neg (by simp), ← HP.out, if_pos h5]
      rfl
    have hb5 : (fp == q) = false := by rw [HPL.out]; simpa using h5
    have hb6 : (fp != q) = true := by rw [bne, hb5]; rfl
    clear h5
    go_wp2
    refine wp_region_quiet_below (by kernel_rfl) (by kernel_rfl) ?_
    repeat (first | go_big_quiet_step ((go_at_call 26; exact CFH.out _ _)) | quiet_step ((go_at_call 26; exact CFH.out _ _)))
    refine wpQuiet_nil ?_
    intro _ hw'
    obtain ⟨pq, hw''⟩ := hw'
    subst hw''
    obtain ⟨w2, hw2⟩ : ∃ w2, w2 = Go.Sort.grow (redrawn (w.drewN nq) pq.d) pq.os := ⟨_, rfl⟩
    have hb2 : Below w.heap.size w w2 := by rw [hw2]; exact (below_drewN (Below.refl w.heap.size w) nq).trans (below_regrown (w.drewN nq) pq.d pq.os)
    rw [← hw2]
    clear hw2 kq CFH t1 t2
    go_wp2
    go_ret3
    exact ⟨.slice none 0 0, by rw [hone.out]; rfl, by rw [hone.out]; exact isBytes_nil _, hb2⟩

/-- THE LAW's ONE. -/
theorem law_any (v : Value) (bs : List UInt8) (hl : bs.length ≤ 281474976710656) (w : World) (hv : IsBytes w v bs) : Calls Try.prog 28 #[v] w (LawLeft w bs) := by
  rcases Nat.lt_or_ge bs.length 8 with h | h
  · exact law_short v bs h w hv
  · obtain ⟨A, cap, rfl, hlc, hcm, hr⟩ := hv
    obtain ⟨b, off, rfl, hcell⟩ := hr (by omega)
    exact law_some b off cap bs h hl hlc hcm w hcell

end Go.Proofs.Ytflolmldildjhaa
