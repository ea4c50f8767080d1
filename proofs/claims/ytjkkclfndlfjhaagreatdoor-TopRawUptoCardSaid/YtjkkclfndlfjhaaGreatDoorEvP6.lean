/- The names of the files: the keys of a map, sorted. -/
import Derived.Test.YtjkkclfndlfjhaaGreatDoorEvP4
import Derived.Shelf.SlIter.Nil
import Derived.Shelf.SortM.Plain
import Derived.Shelf.SortM.SortNone
import Derived.Ground.GgzProg
import Derived.Ground.SlgmProg
set_option linter.all false
set_option linter.unusedSimpArgs false
namespace Go.Proofs.YtjkkclfndlfjhaaGreatDoor
open Go Go.RowKit Go.Maps Go.Sort Go.Shelf


theorem sortsA (m : Nat) : AnyZ.SortsIn Tryz.prog Tryz.sortedA_ren Fence.wide m :=
  ⟨fun blk off cap ss W hH hblk hsz => callsIn_wide.2 (AnyM.slices_Sort_string Tryz.sortA blk off cap ss W hH hblk hsz),
   fun p cap W => callsIn_wide.2 (AnyM.slices_Sort_string_none Tryz.sortA p cap W)⟩

set_option maxHeartbeats 2000000 in
theorem names_owns {H : Type} (db dof b nn : Nat) (D0 : DataW H) (R : Value → Option (DataW H × List MemPlace)) (w : World) (hd : w.cell? ⟨db, dof, none⟩ = some (.map (some b))) (hown : w.ownsMap Tryz.prog 9 R b nn D0) (hmax : Maps.size D0 ≤ maxLen) (hbytes : Maps.size D0 * 16 ≤ 140737488355328) :
    Calls Tryz.prog 142 #[.pointer (some ⟨db, dof, none⟩)] w fun e w' => ∃ (v : Value) (ss : List (List UInt8)), e = .returned v ∧ ss.Perm (strKeys D0) ∧
      w'.ownsRow w.heap.size 9 1 v ss.length ((ss.mergeSort (fun x y => decide (x ≤ y))).map encStr) ∧ (v = .slice none 0 0 ↔ ss = []) ∧ Below w.heap.size w w' := by
  refine (callsIn_wide (n := 6)).1 ?_
  have hbl := hown.lt
  have hseq : SeqGives Fence.wide 2 Tryz.prog 255 #[.pointer (some ⟨w.heap.size, 0, none⟩)] encStr (fun ss => ss.Perm (strKeys D0)) (Maps.size D0) (w.alloc (.cells #[.map (some b)] 261)) :=
    AnyZ.keys_gives (ρ := Tryz.keysA_ren) { Tryz.keysA with } Fence.wide _ trivial rfl (by omega) w.heap.size b nn D0 _ (by simp) (by simp) (by
      obtain ⟨es, clock, hb, Ft, hs, hD⟩ := hown
      exact ⟨es, clock, (Below.heap_alloc _ _ b hbl).trans hb, Ft, hs, hD⟩)
  have cK : ∀ mb W, CallsIn Fence.wide 5 Tryz.prog 203 #[.map mb] W fun e w' => e = .returned (.func (.func 255) #[] #[.pointer (some ⟨W.heap.size, 0, none⟩)]) ∧ w' = W.alloc (.cells #[.map mb] 261) := fun mb W => AnyZ.keys_in Tryz.keysA Fence.wide 5 trivial rfl mb W
  have cS := AnyZ.sorted_in Tryz.sortedA Fence.wide 5 trivial trivial trivial trivial rfl (by omega) (sortsA _) (enters_of Tryz.func254 (by kernel_rfl) rfl) 255 #[.pointer (some ⟨w.heap.size, 0, none⟩)] trivial (enters_of Tryz.func255 (by kernel_rfl) rfl) _ _ hmax hbytes _ hseq
  change CallsIn _ _ Tryz.prog 202 _ _ _ at cS
  have hfK : Fence.wide.fn 203 := trivial
  have hfS : Fence.wide.fn 202 := trivial
  refine callsIn_of_wp Tryz.func142 rfl trivial ?_ rfl
  simp only [Tryz.ntmps142, List.size_toArray, List.length_cons, List.length_nil, Nat.reduceAdd, Nat.reduceSub, Array.replicate_succ, Array.replicate_zero, List.push_toArray, List.append_toArray, List.nil_append, List.cons_append]
  gi_wp2_with (first
    | (gi_at_call 203; refine (cK _ _).mono ?_; rintro e w' ⟨rfl, rfl⟩)
    | (gi_at_call 202; refine cS.mono ?_; rintro e w' ⟨v, ss, rfl, hS, hrow, hnil, hb⟩))
  go_ret
  exact ⟨v, ss, rfl, hS, ownsRow_base_a hrow (by simp), hnil, ((Below.refl _ w).alloc (Nat.le_refl _) _).trans (hb.mono (by simp))⟩

theorem strKeys_read {H : Type} {P : Program} {R : Value → Option (DataW H × List MemPlace)} : ∀ {es : List MapEntry} {ks : List (List UInt8)}, es.map (·.key) = ks.map encStr → (∀ x ∈ es, ∃ y, Go.WideElems.rd P 9 R x = some y ∧ ∀ k, x.key = encStr k → y.1 = .string k) →
    (es.map (Go.WideElems.rg P 9 R)).map (fun p => strOf p.1) = ks
  | [], [], _, _ => rfl
  | [], _ :: _, h, _ => by simp at h
  | _ :: _, [], h, _ => by simp at h
  | e :: es, k :: ks, h, hr => by
    simp only [List.map_cons, List.cons.injEq] at h
    obtain ⟨y, hy, hk⟩ := hr e (List.mem_cons_self ..)
    rw [List.map_cons, List.map_cons, strKeys_read h.2 fun x hx => hr x (List.mem_cons_of_mem _ hx)]
    rw [Go.WideElems.rg_of hy, hk k h.1]
    rfl

theorem names_any (db dof bm : Nat) (es : List MapEntry) (ks : List (List UInt8)) (clock : Nat) (w : World) (hd : w.cell? ⟨db, dof, none⟩ = some (.map (some bm))) (hb : w.heap[bm]? = some (.map es.toArray clock)) (hold : ∀ x ∈ es, x.born < clock) (hnd : (es.map (·.born)).Nodup)
    (hk : es.map (·.key) = ks.map encStr) (hkn : ks.Nodup) (hlen : ∀ k ∈ ks, k.length ≤ 1000) (hn : es.length ≤ 1000) :
    Calls Tryz.prog 142 #[.pointer (some ⟨db, dof, none⟩)] w fun e w' => ∃ (v : Value) (ss : List (List UInt8)), e = .returned v ∧ ss.Perm ks ∧
      w'.ownsRow w.heap.size 9 1 v ss.length ((ss.mergeSort (fun x y => decide (x ≤ y))).map encStr) ∧ (v = .slice none 0 0 ↔ ss = []) ∧ Below w.heap.size w w' := by
  have hrd : ∀ x ∈ es, ∃ y : Lit × DataW Unit, Go.WideElems.rd Tryz.prog 9 (fun _ => some (.nil, [])) x = some y ∧ ∀ k, x.key = encStr k → y.1 = .string k := fun x hx => by
    have : x.key ∈ ks.map encStr := hk ▸ List.mem_map_of_mem hx
    obtain ⟨k, hkm, hke⟩ := List.mem_map.1 this
    have hl := hlen k hkm
    have hko : keyOf Tryz.prog 9 x.key = some (.string k) := by
      rw [← hke]
      have hm : k.length ≤ maxLen := Nat.le_trans hl (by decide)
      exact Go.WideMaps.keyOf_string_mk Tryz.underlying9 (s := ⟨k.toArray⟩) (by simpa [ByteArray.size] using hm)
    refine ⟨(.string k, .nil), by simp [Go.WideElems.rd, hko], fun k' hk' => ?_⟩
    rw [← hke] at hk'
    rw [encStr_inj hk']
  have hfit : Go.WideElems.Fit Tryz.prog 9 (fun _ => some ((.nil : DataW Unit), [])) es.toArray clock :=
    ⟨by simp; exact Nat.le_trans hn (by decide), ⟨by simpa using hold, by simpa using hnd, by
      show (List.map _ es).Nodup
      rw [hk]
      exact List.pairwise_map.2 (hkn.imp fun h h' => h (encStr_inj h'))⟩, fun x hx => by
      obtain ⟨y, hy, _⟩ := hrd x (by simpa using hx)
      exact ⟨y, hy⟩⟩
  have hown : w.ownsMap Tryz.prog 9 (fun _ => some ((.nil : DataW Unit), [])) bm es.length _ := ⟨es.toArray, clock, hb, hfit, by simp, rfl⟩
  have hsize : Maps.size (DataW.map ((es.toArray.toList.map (Go.WideElems.rg Tryz.prog 9 (fun _ => some ((.nil : DataW Unit), [])))).foldr DataW.insert [])) = es.length := by
    show ((es.toArray.toList.map _).foldr DataW.insert []).length = _
    rw [Go.length_sorted]; simp
  refine (names_owns db dof bm es.length _ _ w hd hown (by rw [hsize]; exact Nat.le_trans hn (by decide)) (by rw [hsize]; omega)).mono ?_
  rintro e w' ⟨v, ss, rfl, hp, h⟩
  refine ⟨v, ss, rfl, hp.trans ?_, h⟩
  have h1 := (Go.WideShapes.sorted_perm (es.map (Go.WideElems.rg Tryz.prog 9 (fun _ => some ((.nil : DataW Unit), []))))).map (fun p => strOf p.1)
  rw [strKeys_read hk hrd] at h1
  exact h1

end Go.Proofs.YtjkkclfndlfjhaaGreatDoor
/- The functions whose contracts are taken answer as the evaluator has it. -/
set_option linter.unusedSimpArgs false
namespace Go.Proofs.YtjkkclfndlfjhaaGreatDoor
open Go Go.RowKit Ev

theorem enters {f : Nat} {fn : Func} {c : Code} (hf : Tryz.prog.funcs[f]? = some fn) (hn : fn.name ≠ "runtime.NumGoroutine") (hb : fn.body = some c) (A : Array Value) : ∀ w, (callFunc f A).run Tryz.prog w = .ok (.enter f A) w := fun w => run_callFunc hf hn hb A w

abbrev Taken (n0 : Nat) (w0 : World) (f : Nat) (p : List TV → St → Option (TV × St)) : Prop :=
  ∀ {g : Gh} {S : St} {w : World} {args : List TV} {S' : St} {v : TV} {A : List Value}, Sim n0 w0 g S w → p args S = some (v, S') → F2 (RT g) args A →
    Calls Tryz.prog f A.toArray w fun e w' => ∃ V, e = .returned V ∧ Post n0 w0 g S w v S' V w'

theorem sum_ok {n0 : Nat} {w0 : World} : Taken n0 w0 49 pSum := by
  intro g S w args S' v A hS h hA
  unfold pSum at h
  split at h
  · rename_i x
    obtain ⟨V, m, rfl, hV, hm⟩ := F2.inv hA
    obtain rfl := F2.inv_nil hm
    replace h := bnd_some h; obtain ⟨l, hl, h⟩ := h
    replace h := sel_true h; obtain ⟨hn, h⟩ := h
    cases h
    obtain ⟨h1, h2⟩ := sumOf_sound hS.heap hl hV
    have hn := Nat.le_of_ble_eq_true hn
    rw [lenR_eq] at hn
    refine (csum_anyC V _ (by rw [List.length_map]; omega) w h1).mono ?_
    rintro e w' ⟨rfl, hb⟩
    refine ⟨_, rfl, hS.wide_post hb ?_⟩
    show Value.int .u32 _ = Value.int .u32 _
    rw [crcA_eq l h2]
    rfl
  · cases h

theorem mapOf_m {H : Tr AB} {k : Nat} {es : List (CV × CV)} (h : mapOf H (.m k) = some es) : H.get k = some (.map es) := by
  change (match H.get k with | some (.map es) => some es | _ => none) = some es at h
  split at h
  · rename_i es' hH; cases h; exact hH
  · cases h
theorem isTrue_some {r : Option (TV × St)} (h : isTrue r = true) : ∃ S', r = some (.a (.c (.b true)), S') := by
  unfold isTrue at h
  split at h
  · exact ⟨_, rfl⟩
  · cases h

theorem clone_ok {n0 : Nat} {w0 : World} : Taken n0 w0 208 pClone := by
  intro g S w args S' v A hS h hA
  unfold pClone at h
  split at h
  · rename_i id
    obtain ⟨V, m, rfl, hV, hm⟩ := F2.inv hA
    obtain rfl := F2.inv_nil hm
    replace h := bnd_some h; obtain ⟨es, hes, h⟩ := h
    cases h
    obtain ⟨bm, rfl, hbm⟩ := hV
    obtain ⟨B, O, hB, hO, hRO⟩ := hS.heap _ _ (mapOf_m hes)
    rw [hbm] at hB; cases hB
    obtain ⟨E, clock, rfl, hF, h1, h2⟩ := hRO
    refine (clone_any bm E.toArray clock w hO).mono ?_
    rintro e w' ⟨rfl, rfl⟩
    have hvn : g.var S.next = none := by
      cases hv : g.var S.next with
      | none => rfl
      | some B => have := (hS.vlt _ _ hv).1; omega
    obtain ⟨g', h1, h2, h3, h4, h5⟩ := hS.made (b := .map es) (m := .map) (O := .map E.toArray clock) ⟨E, clock, rfl, hF, h1, h2⟩ (nm := S.next) (N := S.next + 1) hvn (fun B A hA e => by have := (hS.alt _ _ hA).1; omega) (by omega) (by omega) (Grew.alloc w _)
    exact ⟨_, rfl, g', h1, h2, h3, Nat.le_succ _, Names.set (.inr (Nat.le_refl _)), fun x X hx => (h4 x X hx).imp (fun h => h) fun e => by omega, fun X A hA => (h5 X A hA).imp (fun h => h) fun e => .inl (by omega)⟩
  · cases h

/-- What lies behind a disk's pointer: its map. -/
theorem mapAt_sound {n0 : Nat} {w0 : World} {g : Gh} {S : St} {w : World} (hS : Sim n0 w0 g S w) {d off : Nat} {es : List (CV × CV)} (h : mapAt S.heap d off = some es) {V : Value} (hV : RC g (.p d off) V) :
    ∃ db dof bm E clock, V = .pointer (some ⟨db, dof, none⟩) ∧ w.cell? ⟨db, dof, none⟩ = some (.map (some bm)) ∧ w.heap[bm]? = some (.map (List.toArray E) clock) ∧ F2 (fun p (e : MapEntry) => RC g p.1 e.key ∧ RC g p.2 e.val) es E ∧ (∀ e ∈ E, e.born < clock) ∧ (E.map (·.born)).Nodup := by
  unfold mapAt at h
  split at h
  · rename_i id hr
    obtain ⟨a, rfl, ha⟩ := hV
    obtain ⟨⟨L, hF, hc⟩, _⟩ := hS.heap.lies_row hr ha
    obtain ⟨V, m, rfl, hV, hm⟩ := F2.inv hF
    obtain ⟨bm, rfl, hbm⟩ := hV
    have hc0 := hc 0 _ rfl
    rw [add_plain ha.1] at hc0
    obtain ⟨B, O, hB, hO, hRO⟩ := hS.heap _ _ (mapOf_m h)
    rw [hbm] at hB; cases hB
    obtain ⟨E, clock, rfl, hF, h1, h2⟩ := hRO
    refine ⟨a.block, a.off, bm, E, clock, ?_, hc0, hO, hF, h1, List.pairwise_map.2 h2⟩
    obtain ⟨ab, ao, asp⟩ := a
    obtain rfl : asp = none := ha.1
    rfl
  · cases h

theorem used_files {n0 : Nat} {w0 : World} {g : Gh} {S : St} {w : World} (hS : Sim n0 w0 g S w) : ∀ {es : List (CV × CV)} {E : List MapEntry} {n : Nat}, usedS S.heap es = some n → F2 (fun p (e : MapEntry) => RC g p.1 e.key ∧ RC g p.2 e.val) es E → (∀ x ∈ E, FileE w x) ∧ totE w E = n
  | [], E, n, h, hF => by
    cases h
    obtain rfl := F2.inv_nil hF
    exact ⟨fun x hx => (by cases hx), rfl⟩
  | (c, d) :: es, E, n, h, hF => by
    cases d <;> try cases h
    rename_i blk off
    obtain ⟨e, E, rfl, ⟨hk0, hv⟩, hF'⟩ := F2.inv hF
    replace h : bnd (readRow S.heap blk off 1) (fun c => bnd (usedS S.heap es) fun n => match c with
      | [.ns] => some n
      | [.sl _ _ k _ _] => some (Nat.add k n)
      | _ => none) = some n := h
    replace h := bnd_some h; obtain ⟨r, hr, h⟩ := h
    replace h := bnd_some h; obtain ⟨m, hm, h⟩ := h
    obtain ⟨h1, h2⟩ := used_files hS hm hF'
    obtain ⟨a, hva, ha⟩ := hv
    obtain ⟨⟨L, hFL, hc⟩, _⟩ := hS.heap.lies_row hr ha
    obtain ⟨ab, ao, asp⟩ := a
    obtain rfl : asp = none := ha.1
    have tot : totE w (e :: E) = lenE w e + totE w E := rfl
    split at h
    · cases h
      obtain ⟨V, _, rfl, hV, _⟩ := F2.inv hFL
      obtain rfl : V = _ := hV
      have hc0 := hc 0 _ rfl
      rw [add_plain rfl] at hc0
      change w.cell? ⟨ab, ao, none⟩ = _ at hc0
      have hf : FileE w e := ⟨ab, ao, none, 0, 0, hva, hc0⟩
      refine ⟨fun x hx => (List.mem_cons.1 hx).elim (fun e' => e' ▸ hf) (h1 x), ?_⟩
      rw [tot, h2]
      unfold lenE
      rw [hva]
      simp only [hc0]
      omega
    · cases h
      obtain ⟨V, _, rfl, hV, _⟩ := F2.inv hFL
      obtain ⟨ad, cap, rfl, hsl⟩ := hV
      have hc0 := hc 0 _ rfl
      rw [add_plain rfl] at hc0
      change w.cell? ⟨ab, ao, none⟩ = _ at hc0
      have hf : FileE w e := ⟨ab, ao, some ad, _, cap, hva, hc0⟩
      refine ⟨fun x hx => (List.mem_cons.1 hx).elim (fun e' => e' ▸ hf) (h1 x), ?_⟩
      rw [tot, h2]
      unfold lenE
      rw [hva]
      simp only [hc0]
      rfl
    · cases h

theorem used_ok {n0 : Nat} {w0 : World} : Taken n0 w0 270 pUsed := by
  intro g S w args S' v A hS h hA
  unfold pUsed at h
  split at h
  · rename_i d off
    obtain ⟨V, m, rfl, hV, hm⟩ := F2.inv hA
    obtain rfl := F2.inv_nil hm
    replace h := bnd_some h; obtain ⟨es, hes, h⟩ := h
    replace h := bnd_some h; obtain ⟨n, hn, h⟩ := h
    replace h := sel_true h; obtain ⟨hle, h⟩ := h
    cases h
    obtain ⟨db, dof, bm, E, clock, rfl, hd, hb, hF, h1, h2⟩ := mapAt_sound hS hes hV
    obtain ⟨h3, h4⟩ := used_files hS hn hF
    refine (used_any db dof bm E clock w hd hb h1 h2 h3 (by rw [h4]; exact Nat.le_of_ble_eq_true hle)).mono ?_
    rintro e w' ⟨rfl, hb⟩
    refine ⟨_, rfl, hS.wide_post hb ?_⟩
    show Value.int .i64 _ = Value.int .i64 _
    rw [h4]
    rfl
  · cases h

-- THE NAMES

def toB (k : List Nat) : List UInt8 := k.map UInt8.ofNat
theorem toB_inj {a b : List Nat} (ha : ∀ x ∈ a, x < 256) (hb : ∀ x ∈ b, x < 256) (h : toB a = toB b) : a = b := baOf_inj ha hb (by unfold baOf; unfold toB at h; rw [h])
theorem ltL_lt : ∀ {a b : List Nat}, (∀ x ∈ a, x < 256) → (∀ x ∈ b, x < 256) → ltL a b = true → toB a < toB b
  | _, [], _, _, h => by cases ‹List Nat› <;> cases h
  | [], y :: b, _, _, _ => List.nil_lt_cons ..
  | x :: a, y :: b, ha, hb, h => by
    have hx := ha x (List.mem_cons_self ..)
    have hy := hb y (List.mem_cons_self ..)
    have e : ∀ n, n < 256 → (UInt8.ofNat n).toNat = n := fun n hn => by simp [UInt8.toNat_ofNat', Nat.mod_eq_of_lt hn]
    show UInt8.ofNat x :: toB a < UInt8.ofNat y :: toB b
    rw [List.cons_lt_cons_iff]
    unfold ltL at h
    split at h
    · rename_i hlt
      left
      rw [UInt8.lt_iff_toNat_lt, e x hx, e y hy]
      exact blt_true hlt
    · split at h
      · rename_i heq
        right
        rw [Nat.eq_of_beq_eq_true heq]
        exact ⟨rfl, ltL_lt (fun z hz => ha z (List.mem_cons_of_mem _ hz)) (fun z hz => hb z (List.mem_cons_of_mem _ hz)) h⟩
      · cases h

def Up (l : List (List Nat)) : Prop := l.Pairwise fun a b => toB a < toB b
theorem insS_some {x : List Nat} (hx : ∀ y ∈ x, y < 256) : ∀ {l r : List (List Nat)}, insS x l = some r → (∀ k ∈ l, ∀ y ∈ k, y < 256) → Up l → r.Perm (x :: l) ∧ Up r
  | [], r, h, _, _ => by cases h; exact ⟨.refl _, List.pairwise_singleton ..⟩
  | y :: l, r, h, hb, hu => by
    have hy := hb y (List.mem_cons_self ..)
    have hu2 := List.pairwise_cons.1 hu
    unfold insS at h
    split at h
    · rename_i hlt
      replace h := bnd_some h; obtain ⟨m, hm, h⟩ := h
      cases h
      obtain ⟨h1, h2⟩ := insS_some hx hm (fun k hk => hb k (List.mem_cons_of_mem _ hk)) hu2.2
      refine ⟨(h1.cons y).trans (.swap ..), List.pairwise_cons.2 ⟨fun z hz => ?_, h2⟩⟩
      rcases List.mem_cons.1 (h1.mem_iff.1 hz) with rfl | hz
      · exact ltL_lt hy hx hlt
      · exact hu2.1 z hz
    · split at h
      · rename_i hlt
        cases h
        have hxy := ltL_lt hx hy hlt
        refine ⟨.refl _, List.pairwise_cons.2 ⟨fun z hz => ?_, hu⟩⟩
        rcases List.mem_cons.1 hz with rfl | hz
        · exact hxy
        · exact List.lt_trans hxy (hu2.1 z hz)
      · cases h
theorem keysS_some {g : Gh} : ∀ {es : List (CV × CV)} {E : List MapEntry} {l : List (List Nat)}, keysS es = some l → F2 (fun p (e : MapEntry) => RC g p.1 e.key ∧ RC g p.2 e.val) es E →
    ∃ K : List (List Nat), l.Perm K ∧ Up l ∧ (∀ k ∈ K, (∀ y ∈ k, y < 256) ∧ k.length ≤ 1000) ∧ E.map (·.key) = (K.map toB).map encStr
  | [], E, l, h, hF => by
    cases h
    obtain rfl := F2.inv_nil hF
    exact ⟨[], .refl _, List.Pairwise.nil, fun k hk => (by cases hk), rfl⟩
  | (c, d) :: es, E, l, h, hF => by
    cases c <;> try cases h
    rename_i k
    obtain ⟨e, E, rfl, ⟨hv, hv0⟩, hF'⟩ := F2.inv hF
    replace h : sel (Nat.ble (lenR k) 1000) (bnd (keysS es) fun l => insS k l) none = some l := h
    replace h := sel_true h; obtain ⟨hlen, h⟩ := h
    replace h := bnd_some h; obtain ⟨m, hm, h⟩ := h
    obtain ⟨K, h1, h2, h3, h4⟩ := keysS_some hm hF'
    obtain ⟨hk, hkb⟩ := hv
    obtain ⟨h5, h6⟩ := insS_some hkb h (fun z hz => (h3 z (h1.mem_iff.1 hz)).1) h2
    have hlen := Nat.le_of_ble_eq_true hlen
    rw [lenR_eq] at hlen
    refine ⟨k :: K, h5.trans (h1.cons k), h6, fun z hz => (List.mem_cons.1 hz).elim (fun e => e ▸ ⟨hkb, hlen⟩) (h3 z), ?_⟩
    rw [List.map_cons, List.map_cons, List.map_cons, h4, hk]
    rfl

theorem names_ok {n0 : Nat} {w0 : World} : Taken n0 w0 142 pNames := by
  intro g S w args S' v A hS h hA
  unfold pNames at h
  split at h
  · rename_i d off
    obtain ⟨V, m, rfl, hV, hm⟩ := F2.inv hA
    obtain rfl := F2.inv_nil hm
    replace h := bnd_some h; obtain ⟨es, hes, h⟩ := h
    replace h := sel_true h; obtain ⟨hle, h⟩ := h
    replace h := bnd_some h; obtain ⟨l, hl, h⟩ := h
    obtain ⟨db, dof, bm, E, clock, rfl, hd, hb, hF, h1, h2⟩ := mapAt_sound hS hes hV
    obtain ⟨K, hp, hu, hK, hkey⟩ := keysS_some hl hF
    have hle := Nat.le_of_ble_eq_true hle
    rw [lenR_eq, hF.length] at hle
    have hl256 : ∀ k ∈ l, ∀ y ∈ k, y < 256 := fun k hk => (hK k (hp.mem_iff.1 hk)).1
    have hpm : (l.map toB).Perm (K.map toB) := hp.map _
    have hnd : (K.map toB).Nodup := by
      refine hpm.nodup_iff.1 (List.pairwise_map.2 (hu.imp fun {a b} hab e => ?_))
      rw [e] at hab
      exact List.lt_irrefl _ hab
    refine (names_any db dof bm E (K.map toB) clock w hd hb h1 h2 hkey hnd (fun k hk => ?_) hle).mono ?_
    · obtain ⟨z, hz, rfl⟩ := List.mem_map.1 hk
      simpa [toB] using (hK z hz).2
    rintro e w' ⟨V, ss, rfl, hss, hrow, hnil, hbel⟩
    have hsl : ss.Perm (l.map toB) := hss.trans hpm.symm
    have hsorted : ss.mergeSort (fun x y => decide (x ≤ y)) = l.map toB := by
      have e1 := mergeSort_of_perm hsl
      refine e1.trans (List.mergeSort_of_pairwise (List.pairwise_map.2 (hu.imp fun {a b} hab => ?_)))
      simp only [leB, decide_eq_true_eq]
      exact List.le_of_lt hab
    rw [hsorted] at hrow
    split at h
    · cases h
      obtain rfl : ss = [] := hsl.eq_nil
      obtain rfl := hnil.2 rfl
      exact ⟨_, rfl, hS.wide_post hbel rfl⟩
    · cases h
      rename_i l' hne
      have hssl : ss.length = l.length := by rw [hsl.length_eq, List.length_map]
      obtain ⟨hxl, hcase⟩ := hrow
      rcases hcase with ⟨rfl, h0⟩ | ⟨gB, cap, cur, rfl, hgB, hO, hnc, _, hcs, htake⟩
      · exfalso
        rw [hssl] at h0
        exact hne (List.length_eq_zero_iff.1 h0)
      · have hC : w'.heap[gB]? = some (.cells cur.toList.toArray 9 (0, 0)) := by rw [Array.toArray_toList]; exact hO
        obtain ⟨s1, s2⟩ := hS.newArr hbel hgB (e := 1) (cs := l.map CV.s) hC (by rw [List.length_map, Array.length_toList (xs := cur)]; omega) (fun i c hc => by
          rw [List.getElem?_map] at hc
          cases hli : l[i]? with
          | none => rw [hli] at hc; cases hc
          | some k =>
            rw [hli] at hc
            cases hc
            refine ⟨.string (baOf k), ?_, rfl, hl256 k (List.mem_of_getElem? hli)⟩
            have hil := (List.getElem?_eq_some_iff.1 hli).1
            have e2 : (cur.toList.take (ss.length * 1))[i]? = some (.string (baOf k)) := by
              rw [htake, List.getElem?_map, List.getElem?_map, hli]
              rfl
            rw [List.getElem?_take, if_pos (by rw [hssl]; omega)] at e2
            exact e2)
        refine ⟨_, rfl, _, s1, s2, ⟨⟨gB, 0, none⟩, cap, by rw [lenR_eq, hssl], rfl, by rw [lenR_eq]; omega, fun h => (by cases h), .inr ⟨_, if_pos rfl, rfl, rfl, rfl, ?_, ?_⟩⟩, Nat.le_succ _, Names.set (.inr (Nat.le_refl _)), GN.arr (.inl (Nat.le_refl _))⟩
        · show 0 + lenR l * 1 ≤ (l.map CV.s).length
          rw [lenR_eq, List.length_map]; omega
        · show 0 + cap * 1 ≤ cur.toList.length
          rw [Array.length_toList]; omega
  · cases h

theorem primOK {n0 : Nat} {w0 : World} : PrimOK Tryz.prog n0 w0 prims := by
  intro f p g S w args S' v A hp hS h hA
  unfold prims at hp
  split at hp
  · rename_i hf
    cases hp
    obtain rfl := Nat.eq_of_beq_eq_true hf
    exact ⟨enters Tryz.func49 (by decide) rfl _, sum_ok hS h hA⟩
  · split at hp
    · rename_i hf
      cases hp
      obtain rfl := Nat.eq_of_beq_eq_true hf
      exact ⟨enters Tryz.func142 (by decide) rfl _, names_ok hS h hA⟩
    · split at hp
      · rename_i hf
        cases hp
        obtain rfl := Nat.eq_of_beq_eq_true hf
        exact ⟨enters Tryz.func270 (by decide) rfl _, used_ok hS h hA⟩
      · split at hp
        · rename_i hf
          cases hp
          obtain rfl := Nat.eq_of_beq_eq_true hf
          exact ⟨enters Tryz.func208 (by decide) rfl _, clone_ok hS h hA⟩
        · cases hp

theorem recOK {n0 : Nat} {w0 : World} (fuel : Nat) : RecOK Tryz.prog n0 w0 (evRec tyTab.get fnTab.get keepOf prims fuel) :=
  rec_sound (fun _ hrec => draw_ok mixed hrec tyAll cmpAll) tyAll cmpAll fnOK primOK fuel

/-- awake tells true, wherever it is called. -/
theorem awake_true (w : World) : Calls Tryz.prog 5 #[] w fun e w' => e = .returned (.bool true) ∧ Below w.heap.size w w' := by
  obtain ⟨S', hr⟩ := isTrue_some awake_run
  have hS : Sim w.heap.size w ⟨fun _ => none, fun _ => none⟩ { heap := .e, next := 0 } w :=
    ⟨Below.refl _ w, fun b o h => (by cases h), fun _ _ _ h => (by cases h), fun _ _ h => (by cases h), fun _ _ h => (by cases h), fun _ _ h => (by cases h), fun _ _ h => (by cases h), Nat.le_refl _⟩
  have := ((recOK 3000).call hS hr .nil).2
  refine this.mono ?_
  rintro e w' ⟨V, rfl, g', h1, _, h3, _⟩
  obtain rfl : V = .bool true := h3
  exact ⟨rfl, h1.below⟩

end Go.Proofs.YtjkkclfndlfjhaaGreatDoor
