/- The functions whose contracts are taken: the sum, the copy of a map. -/
import Derived.Test.YtjkkclfndlfjhaaGreatDoorEvP2
import Derived.Test.YtjkkclfndlfjhaaGreatDoorShf
import Derived.Test.YtjkkclfndlfjhaaGreatDoorSum
import Derived.Shelf.SlMaps.Clone
import Derived.Ground.SlmcProg
set_option linter.all false
set_option linter.unusedSimpArgs false
namespace Go.Proofs.YtjkkclfndlfjhaaGreatDoor.Ev
open Go Go.RowKit

section
variable {n0 : Nat} {w0 : World} {g : Gh} {S : St} {w w' : World}
/-- What lies below stays: so does all that is known. -/
theorem Sim.wide (h : Sim n0 w0 g S w) (hb : Below w.heap.size w w') : Sim n0 w0 g S w' ∧ Keep g S.heap w g w' := by
  have hsz := hb.size
  have hn := h.n0
  refine ⟨⟨h.below.trans (hb.mono hn), fun b o hg => (h.heap b o hg).keep (Le.refl g) id (fun _ _ h _ => h) fun B hB => hb.block B ?_, h.inj, h.apart, fun b B hB => ?_, fun B A hA => ?_, h.hlt, by omega⟩,
    ⟨hsz, Le.refl g, fun _ _ h => .inl h, fun _ A h => .inl ⟨A, h⟩, fun B hB _ _ => hb.block B hB⟩⟩
  · rcases hB with h1 | ⟨A, h1, _⟩
    · exact (h.vlt _ _ h1).2.2
    · exact (h.alt _ _ h1).2.2.1
  · have := h.vlt b B hB; exact ⟨this.1, this.2.1, by omega⟩
  · have := h.alt B A hA; exact ⟨this.1, this.2.1, by omega, this.2.2.2⟩
theorem Sim.wide_post (h : Sim n0 w0 g S w) (hb : Below w.heap.size w w') {v : TV} {V : Value} (hr : RT g v V) : Post n0 w0 g S w v S V w' :=
  let ⟨h1, h2⟩ := h.wide hb
  ⟨g, h1, h2, hr, Nat.le_refl _, Names.refl S, GN.refl g S⟩

/-- A new array, somewhere behind what there was. -/
theorem Sim.newArr (h : Sim n0 w0 g S w) (hb : Below w.heap.size w w') {X : Nat} (hX : w.heap.size ≤ X) {e : Nat} {cs : List CV} {C : List Value} {el : TypeId} (hO : w'.heap[X]? = some (.cells C.toArray el (0, 0)))
    (h1 : cs.length ≤ C.length) (h4 : ∀ (i : Nat) (v : CV), cs[i]? = some v → ∃ V : Value, C[i]? = some V ∧ RC g v V) :
    Sim n0 w0 (g.setArr X ⟨S.next, 0, cs.length, e, C.length⟩) (S.new (.arr e cs)) w' ∧ Keep g S.heap w (g.setArr X ⟨S.next, 0, cs.length, e, C.length⟩) w' := by
  have hXs : X < w'.heap.size := by
    rcases Nat.lt_or_ge X w'.heap.size with h | h
    · exact h
    · rw [Array.getElem?_eq_none h] at hO; cases hO
  have hvb : g.var S.next = none := by
    cases hv : g.var S.next with
    | none => rfl
    | some B => have := (h.vlt _ _ hv).1; omega
  have hnew : g.arr X = none := by
    cases hA : g.arr X with
    | none => rfl
    | some A => have := (h.alt _ _ hA).2.2.1; omega
  have hle : Le g (g.setArr X ⟨S.next, 0, cs.length, e, C.length⟩) := Le.setArr fun A0 h0 => by rw [hnew] at h0; cases h0
  have harr : ∀ Y A', (g.setArr X ⟨S.next, 0, cs.length, e, C.length⟩).arr Y = some A' → (Y = X ∧ A' = ⟨S.next, 0, cs.length, e, C.length⟩) ∨ (Y ≠ X ∧ g.arr Y = some A') := fun Y A' hA => by
    change (if Y = X then some _ else g.arr Y) = some A' at hA
    split at hA
    · rename_i e; cases hA; exact .inl ⟨e, rfl⟩
    · rename_i e; exact .inr ⟨e, hA⟩
  have hsz := hb.size
  have hn := h.n0
  have hN : ∀ Y A', (g.setArr X ⟨S.next, 0, cs.length, e, C.length⟩).arr Y = some A' → A'.b = S.next → Y = X ∧ A' = ⟨S.next, 0, cs.length, e, C.length⟩ := fun Y A' hA hb => by
    rcases harr Y A' hA with h1 | ⟨_, h1⟩
    · exact h1
    · have := (h.alt _ _ h1).1; omega
  refine ⟨⟨h.below.trans (hb.mono hn), fun c o'' hc => ?_, h.inj, fun x Y hx => ?_, fun x Y hx => ?_, fun Y A' hA => ?_, fun c o'' hc => ?_, by omega⟩, ⟨by omega, hle, fun x Y hx => .inl hx, fun Y A' hA => ?_, fun k hk _ _ => hb.block k hk⟩⟩
  · change (S.heap.set S.next (.arr e cs)).get c = some o'' at hc
    rw [Tr.get_set] at hc
    split at hc
    · rename_i ec; subst ec; cases hc
      refine ⟨hvb, fun Y A' hA hb => ?_⟩
      obtain ⟨rfl, rfl⟩ := hN Y A' hA hb
      exact ⟨rfl, Nat.le_refl _, C, el, hO, rfl, by show cs.length ≤ 0 + C.length; omega, fun i v _ hi2 hv => by
        obtain ⟨V, hV, hr⟩ := h4 i v hv
        exact ⟨V, hV, hr.mono hle⟩⟩
    · rename_i ec
      refine (h.heap c o'' hc).keep hle id (fun Y A' hA hb' => ?_) fun Y hY => hb.block Y ?_
      · rcases harr Y A' hA with ⟨_, rfl⟩ | ⟨_, hA'⟩
        · exact absurd hb'.symm ec
        · exact hA'
      · rcases hY with hY | ⟨A', hA', _⟩
        · exact (h.vlt _ _ hY).2.2
        · exact (h.alt _ _ hA').2.2.1
  · show (if Y = X then some _ else g.arr Y) = none
    rw [if_neg (fun e => by have := (h.vlt _ _ hx).2.2; omega)]
    exact h.apart _ _ hx
  · have := h.vlt _ _ hx; exact ⟨Nat.lt_succ_of_lt this.1, this.2.1, by omega⟩
  · rcases harr Y A' hA with ⟨rfl, rfl⟩ | ⟨_, hA'⟩
    · exact ⟨Nat.lt_succ_self _, by omega, hXs, hvb, Nat.zero_le _⟩
    · obtain ⟨h5, h6, h7, h8, h9⟩ := h.alt Y A' hA'
      exact ⟨Nat.lt_succ_of_lt h5, h6, by omega, h8, h9⟩
  · change (S.heap.set S.next (.arr e cs)).get c = some o'' at hc
    rw [Tr.get_set] at hc
    split at hc
    · rename_i e; subst e; exact Nat.lt_succ_self _
    · exact Nat.lt_succ_of_lt (h.hlt c o'' hc)
  · rcases harr Y A' hA with ⟨rfl, rfl⟩ | ⟨_, hA'⟩
    · exact .inr hX
    · exact .inl ⟨A', hA'⟩
end
end Go.Proofs.YtjkkclfndlfjhaaGreatDoor.Ev

namespace Go.Proofs.YtjkkclfndlfjhaaGreatDoor
open Go Go.RowKit Ev Crc

-- THE SUM

theorem crcBit_eq (n : Nat) : crcBit n = Crc.step 3988292384 n := by
  unfold crcBit Crc.step
  cases h : Nat.beq (n % 2) 1 with
  | true => rw [if_pos (Nat.eq_of_beq_eq_true h)]; rfl
  | false => rw [if_neg (Nat.ne_of_beq_eq_false h)]
theorem crcByte_eq (n c : Nat) (hc : c < 256) : crcByte n c = Crc.upd 3988292384 n c := by
  rw [upd_eq _ _ _ hc]
  simp only [crcByte, crcBit_eq, steps]
  rfl
theorem crcGo_eq : ∀ (l : List Nat) (n : Nat), (∀ x ∈ l, x < 256) → crcGo l n = fold 3988292384 n (l.map UInt8.ofNat)
  | [], n, _ => rfl
  | c :: l, n, h => by
    have hc := h c (List.mem_cons_self ..)
    show crcGo l (crcByte n c) = fold 3988292384 (Crc.upd 3988292384 n (UInt8.ofNat c).toNat) (l.map UInt8.ofNat)
    have e : (UInt8.ofNat c).toNat = c := by simp [UInt8.toNat_ofNat', Nat.mod_eq_of_lt hc]
    rw [e, crcByte_eq n c hc]
    exact crcGo_eq l _ fun x hx => h x (List.mem_cons_of_mem _ hx)
theorem crcA_eq (l : List Nat) (h : ∀ x ∈ l, x < 256) : crcA l = sum 3988292384 (l.map UInt8.ofNat) := by
  unfold crcA sum
  rw [crcGo_eq l _ h]
  exact Nat.xor_comm _ _

/-- A slice of bytes, of whatever capacity. -/
def IsBytesC (w : World) (v : Value) (bs : List UInt8) : Prop :=
  ∃ (A : Option Addr) (cap : Nat), v = .slice A bs.length cap ∧ 
    (0 < bs.length → ∃ b off, A = some ⟨b, off, none⟩ ∧ ∀ i c, bs[i]? = some c → w.cell? ⟨b, off + i, none⟩ = some (.int .u8 (c.toNat : Int)))
theorem IsBytesC.below {w w' : World} {v : Value} {bs : List UInt8} (h : IsBytesC w v bs) (hb : Below w.heap.size w w') : IsBytesC w' v bs := by
  obtain ⟨A, cap, hv, hr⟩ := h
  refine ⟨A, cap, hv, fun hp => ?_⟩
  obtain ⟨b, off, hA, hcell⟩ := hr hp
  exact ⟨b, off, hA, fun i c hi => cell_later hb (hcell i c hi)⟩
theorem tsum_anyC (p : Nat) (hp : p < 4294967296) (g : Nat) (v : Value) (bs : List UInt8) (hlen : bs.length ≤ 281474976710656) (w : World) (ht : IsTab w p g) (hv : IsBytesC w v bs) :
    Calls Tryz.prog 103 #[.pointer (some ⟨g, 0, none⟩), v] w fun e w' => e = .returned (.int .u32 ((sum p bs : Nat) : Int)) ∧ w = w' := by
  obtain ⟨A, cap, rfl, hr⟩ := hv
  cases bs with
  | nil => exact tsum_none p g A cap w
  | cons c cs =>
    obtain ⟨b, off, rfl, hcell⟩ := hr (by simp)
    exact tsum_some p hp g b off cap (c :: cs) hlen w ht hcell
set_option maxRecDepth 100000 in
set_option maxHeartbeats 400000 in
theorem csum_anyC (v : Value) (bs : List UInt8) (hlen : bs.length ≤ 281474976710656) (w : World) (hv : IsBytesC w v bs) :
    Calls Tryz.prog 49 #[v] w fun e w' => e = .returned (.int .u32 ((sum 3988292384 bs : Nat) : Int)) ∧ Below w.heap.size w w' := by
  have hz := (zero_of_info info25).1
  go_enter Tryz.func49, Tryz.ntmps49
  go_wp2_with fail
  refine (of_any 3988292384 (by decide) _).mono ?_
  rintro e w1 ⟨rfl, hb1⟩
  have hg := heap_alloc_last w1 (.cells (tabTo 0 0) 228)
  have hr := setRow_heap (w1.alloc (.cells (tabTo 0 0) 228)) w1.heap.size _ (tab 3988292384) 228 _ hg
  have HR := Lib.hid hr
  clear hr
  go_wp2_with (refine wpList_store_row rfl 228 _ _ rfl w1.heap.size (tab 3988292384) rfl rfl 228 _ hg (by rw [size_tab]; exact size25) (by rw [size_tab, size_tabTo]) (one_tabTo _ _) ?_)
  refine (tsum_anyC 3988292384 (by decide) w1.heap.size v bs hlen _ (isTab_of_row HR.out) ?_).mono ?_
  · exact hv.below (below_row ((hb1).alloc hb1.size _) hb1.size _)
  rintro e w2 ⟨rfl, rfl⟩
  go_wp2
  go_ret
  exact ⟨rfl, below_row ((hb1).alloc hb1.size _) hb1.size _⟩

theorem sumOf_sound {g : Gh} {H : Tr AB} {w : World} (hs : HS g H w) {x : CV} {l : List Nat} (h : sumOf H x = some l) {V : Value} (hV : RC g x V) : IsBytesC w V (l.map UInt8.ofNat) ∧ ∀ y ∈ l, y < 256 := by
  unfold sumOf at h
  split at h
  · cases h
    obtain rfl : V = _ := hV
    exact ⟨⟨none, 0, rfl, fun h => by simp at h⟩, fun y hy => by cases hy⟩
  · rename_i b o n e clip
    replace h := sel_true h; obtain ⟨he, h⟩ := h
    replace h := bnd_some h; obtain ⟨cs, hcs, h⟩ := h
    obtain ⟨a, cap, rfl, hsl⟩ := hV
    obtain rfl := Nat.eq_of_beq_eq_true he
    have hcs : readSl H b o (n * 1) = some cs := by rw [Nat.mul_one]; exact hcs
    obtain ⟨⟨L, hF, hc⟩, hn⟩ := hs.lies_sl hcs hsl
    obtain ⟨rfl, hall⟩ := bytes_cells hF (mapO_some h)
    have hlen : (l.map UInt8.ofNat).length = n := by
      have := hF.length
      rw [List.length_map] at this ⊢
      omega
    refine ⟨⟨some a, cap, by rw [hlen], fun _ => ⟨a.block, a.off, ?_, fun i c hi => ?_⟩⟩, hall⟩
    · obtain ⟨ab, ao, asp⟩ := a
      obtain rfl : asp = none := hsl.1
      rfl
    · rw [← add_plain hsl.1]
      rw [List.getElem?_map] at hi
      cases hli : l[i]? with
      | none => rw [hli] at hi; cases hi
      | some y =>
        rw [hli] at hi
        cases hi
        refine hc i _ ?_
        rw [List.getElem?_map, hli, ofNat_toNat (hall y (List.mem_of_getElem? hli))]
        rfl
  · cases h

-- THE COPY OF A MAP
theorem clone_any (b : Nat) (es : Array MapEntry) (clock : Nat) (w : World) (hb : w.heap[b]? = some (.map es clock)) :
    Calls Tryz.prog 208 #[.map (some b)] w fun e w' => e = .returned (.map (some w.heap.size)) ∧ w' = w.alloc (.map es clock) :=
  AnyW.maps_Clone Tryz.cloneA b es clock w hb

end Go.Proofs.YtjkkclfndlfjhaaGreatDoor
