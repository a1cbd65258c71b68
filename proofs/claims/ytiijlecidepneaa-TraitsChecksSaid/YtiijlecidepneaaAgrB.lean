/-
  The walks of the closures of traits.agrees, of slices.EqualFunc with them, and of recompileref09.SameList.
  Conditions: the arguments read as types.
  Signatures in memory, and the walk of traits.agrees.
  Conditions: the arguments read as a tree of a function, a signature and a type.
-/
import Derived.Test.YtiijlecidepneaaRfE
import Derived.Test.YtiijlecidepneaaPutN
import Derived.Test.YtiijlecidepneaaRefSame
import Derived.Test.YtiijlecidepneaaBmix
namespace Go.Proofs.Ytiijlecidepneaa
section
open Go.RowKit
set_option maxHeartbeats 4000000 in
set_option maxRecDepth 100000 in
theorem sameList_any (xs1 cs : List Ty) (A B : Option Addr) (c c' : Nat) (vs vs' : List (Value × Value)) (w : World) (hA : Tys w (Lt w.heap.size) A xs1 vs) (hB : Tys w (Lt w.heap.size) B cs vs') (ha : xs1.length ≤ 3518437208883) (hb : cs.length ≤ 3518437208883) (hc : xs1.length ≤ c ∧ c ≤ maxLen) (hc' : cs.length ≤ c' ∧ c' ≤ maxLen) :
    Calls Try.prog 22 #[.slice A xs1.length c, .slice B cs.length c'] w (Says (xs1 = cs) w) := by
  have hs := refSame_any (.mk [] xs1) (.mk [] cs) _ _ _ _ w (hA.close (n := []) (by simp) ha hc) (hB.close (n := []) (by simp) hb hc')
  have HS := Lib.hid hs
  clear hs hA hB ha hb hc hc'
  generalize xs1.length = l1 at *
  generalize cs.length = l2 at *
  go_enter Try.func22, Try.ntmps22
  go_wp2_with fail
  refine HS.out.mono ?_
  rintro e w1 ⟨r, rfl, hr, hb⟩
  go_wp2
  go_ret
  exact ⟨r, rfl, hr.trans ⟨fun h => (Ty.mk.inj h).2, fun h => by rw [h]⟩, hb⟩

theorem set_pair {w : World} {b : Nat} {T : TypeId} {c0 c1 : Value} (h : w.heap[b]? = some (.cells #[c0, c1] T (0, 0))) (v0 v1 : Value) :
    ((w.setCell ⟨b, 0, none⟩ v0).setCell ⟨b, 1, none⟩ v1).heap[b]? = some (.cells #[v0, v1] T (0, 0)) ∧ Kp (fun y => y = b) w ((w.setCell ⟨b, 0, none⟩ v0).setCell ⟨b, 1, none⟩ v1) :=
  ⟨set_one (o := 1) (v := v1) (cs' := #[v0, v1]) (set_one (o := 0) (v := v0) (cs' := #[v0, c1]) h rfl) rfl, (Kp.setCell (M := fun y => y = b) (o := 0) (Kp.refl _ w) (fun _ => rfl) v0).setCell (o := 1) (fun _ => rfl) v1⟩
/-- A type with another one in the place of $Self. -/
def selfPut (s t : Ty) : Ty := putN [[83, 101, 108, 102]] [s] t
/-- The type of Self lies at block sb. -/
structure SelfAt (sb : Nat) (s : Ty) (w : World) : Prop where
  ex : ∃ (u : List UInt8) (v : Option Addr × Nat × Nat), w.heap[sb]? = some (.cells #[sv u, .slice v.1 v.2.1 v.2.2] 35 (0, 0)) ∧ TyIs w (Lt w.heap.size) s (sv u) (.slice v.1 v.2.1 v.2.2)
theorem SelfAt.below {sb : Nat} {s : Ty} {w w' : World} (h : SelfAt sb s w) (hb : Below w.heap.size w w') : SelfAt sb s w' := by
  obtain ⟨u, v, h1, h2⟩ := h.ex
  exact ⟨u, v, (hb.block _ (lt_of_heap h1)).trans h1, h2.now (Nat.le_refl _) hb⟩
abbrev putV (sb : Nat) : Value := .func (.func 31) #[] #[.pointer (some ⟨sb, 0, none⟩)]
set_option maxHeartbeats 1600000 in
set_option maxRecDepth 100000 in
theorem selfPut_any (sb : Nat) (s t : Ty) (u v : Value) (w : World) (hs : SelfAt sb s w) (ht : TyIs w (Lt w.heap.size) t u v) : Calls Try.prog 31 #[.agg #[u, v], .pointer (some ⟨sb, 0, none⟩)] w (MadeTy (selfPut s t) w) := by
  obtain ⟨su, sv1, hsb, hst⟩ := hs.ex
  have hlt := lt_of_heap hsb
  obtain ⟨u, v, rfl, rfl⟩ := ht.shape
  obtain ⟨w2, hw2⟩ : ∃ w2, w2 = (w.alloc (.cells #[sv u, .slice v.1 v.2.1 v.2.2] 35)).alloc (.cells #[.string ⟨#[]⟩, .slice none 0 0] 35) := ⟨_, rfl⟩
  have hb2 : Below w.heap.size w w2 := by rw [hw2]; exact ((Below.refl _ _).alloc (Nat.le_refl _) _).alloc (by simp) _
  obtain ⟨w4, hw4⟩ : ∃ w4, w4 = (w2.alloc (.cells #[.string ⟨#[83, 101, 108, 102]⟩] 9)).alloc (.cells #[sv su, .slice sv1.1 sv1.2.1 sv1.2.2] 35) := ⟨_, rfl⟩
  have hy2 : w2.heap[w.heap.size + 1]? = some (.cells #[.string ⟨#[]⟩, .slice none 0 0] 35 (0, 0)) := by rw [hw2]; exact (alloc2 w _ _).2
  have hs2 : w2.heap.size = w.heap.size + 1 + 1 := by rw [hw2]; simp
  have hb4 : Below w2.heap.size w2 w4 := by rw [hw4]; exact ((Below.refl _ _).alloc (Nat.le_refl _) _).alloc (by simp) _
  have hx4 := (alloc2 w2 (.cells #[.string ⟨#[83, 101, 108, 102]⟩] 9) (.cells #[sv su, .slice sv1.1 sv1.2.1 sv1.2.2] 35))
  rw [← hw4] at hx4
  have HW2 := Lib.hid hw2
  have HW4 := Lib.hid hw4
  have HB2 := Lib.hid hb2
  have HB4 := Lib.hid (hb2.trans (hb4.mono hb2.size))
  have HY4 := Lib.hid ((hb4.block _ (lt_of_heap hy2)).trans hy2)
  have HST := Lib.hid hst
  have HTY := Lib.hid ht
  have c0 : w.cell? ⟨sb, 0, none⟩ = some (sv su) := (Lib.cell_of_heap hsb 0).trans rfl
  have c1 : w.cell? ⟨sb, 1, none⟩ = some (.slice sv1.1 sv1.2.1 sv1.2.2) := (Lib.cell_of_heap hsb 1).trans rfl
  have HX4 := Lib.hid hx4
  have hb3 : Below w.heap.size w (((w.alloc (.cells #[sv u, .slice v.1 v.2.1 v.2.2] 35)).alloc (.cells #[.string ⟨#[]⟩, .slice none 0 0] 35)).alloc (.cells #[.string ⟨#[83, 101, 108, 102]⟩] 9)) := by rw [← hw2]; exact hb2.alloc hb2.size _
  have d0 := (hb3.cell (p := ⟨sb, 0, none⟩) hlt).trans c0
  have d1 := (hb3.cell (p := ⟨sb, 1, none⟩) hlt).trans c1
  have HS2 := Lib.hid hs2
  clear hb3 hw2 hw4 hb4 hx4 hy2 hst hs2 ht hsb hs
  go_enter Try.func31, Try.ntmps31
  go_wp2_with fail
  rw [← HW2.out, ← HW4.out]
  have hx4 := HX4.out
  rw [HS2.out] at hx4
  have hsz4 : w4.heap.size = w.heap.size + 1 + 1 + 1 + 1 := by rw [HW4.out]; simp [HS2.out]
  have hrow : Row w4 (Lt w4.heap.size) (some ⟨w.heap.size + 1 + 1, 0, none⟩) ([[83, 101, 108, 102]].map sv) := row_heap hx4.1 rfl (lt_of_heap hx4.1)
  have htys : Tys w4 (Lt w4.heap.size) (some ⟨w.heap.size + 1 + 1 + 1, 0, none⟩) [s] [(sv su, .slice sv1.1 sv1.2.1 sv1.2.2)] := ⟨rfl, row_heap hx4.2 rfl (lt_of_heap hx4.2), fun i t p ht hp => by
    rcases i with _ | i
    · simp at ht hp
      subst ht hp
      exact HST.out.now (Nat.le_refl _) HB4.out
    · simp at ht⟩
  have HPUT := Lib.hid (putN_any [[83, 101, 108, 102]] [s] (by simp) t _ _ _ _ 1 1 _ w4 (HTY.out.now (Nat.le_refl _) HB4.out) hrow htys)
  clear hx4 hrow htys c0 c1 d0 d1
  refine HPUT.out.mono ?_
  rintro e w5 ⟨u1, v1, rfl, hT1, hb5⟩
  obtain ⟨u1, v1, rfl, rfl⟩ := hT1.shape
  have hy5 := (hb5.block _ (lt_of_heap HY4.out)).trans HY4.out
  have z0 : w5.cell? ⟨w.heap.size + 1, 0, none⟩ = some (.string ⟨#[]⟩) := (Lib.cell_of_heap hy5 0).trans rfl
  have z1 : w5.cell? ⟨w.heap.size + 1, 1, none⟩ = some (.slice none 0 0) := (Lib.cell_of_heap hy5 1).trans rfl
  have f0 := Lib.frozen_of_heap hy5 0
  have f1 := Lib.frozen_of_heap hy5 1
  have HY5 := Lib.hid hy5
  have HT1 := Lib.hid hT1
  have HB5 := Lib.hid hb5
  have HSZ4 := Lib.hid hsz4
  clear hy5 hT1 hb5 hsz4 HPUT
  go_wp2_with fail
  obtain ⟨w6, hw6⟩ : ∃ w6, w6 = ((w5.setCell ⟨w.heap.size + 1, 0, none⟩ (sv u1)).setCell ⟨w.heap.size + 1, 1, none⟩ (.slice v1.1 v1.2.1 v1.2.2)) := ⟨_, rfl⟩
  have hz6 := set_pair HY5.out (sv u1) (.slice v1.1 v1.2.1 v1.2.2)
  rw [← hw6] at hz6
  have HW6 := Lib.hid hw6
  have hsz4 := HSZ4.out
  have hs5 := HB5.out.size
  have hs6 := hz6.2.size
  have hb6 : Below w.heap.size w w6 := kp_below (HB4.out.trans (HB5.out.mono HB4.out.size)) hz6.2 fun y e => by omega
  have HRES : Hid (MadeTy (selfPut s t) w (.returned (.agg #[sv u1, .slice v1.1 v1.2.1 v1.2.2])) w6) := Lib.hid ⟨_, _, rfl, (HT1.out.keep (w' := w6) (hz6.2.kept fun y hy => ⟨hy.2, fun e => by have := hy.1; omega⟩)).more fun y hy => ⟨by have := hy.1; omega, by have := hy.2; omega⟩, hb6⟩
  have q0 : w6.cell? ⟨w.heap.size + 1, 0, none⟩ = some (sv u1) := (Lib.cell_of_heap hz6.1 0).trans rfl
  have q1 : w6.cell? ⟨w.heap.size + 1, 1, none⟩ = some (.slice v1.1 v1.2.1 v1.2.2) := (Lib.cell_of_heap hz6.1 1).trans rfl
  rw [← HW6.out]
  refine bodyPost_ret (v := .agg #[sv u1, .slice v1.1 v1.2.1 v1.2.2]) ?_ rfl HRES.out
  clear HRES HW6 hz6 hw6 hb6
  simp [results, Try.results31, go_sem, q0, q1]

/-- The function that puts, at block pb. -/
abbrev eqV (pb : Nat) : Value := .func (.func 35) #[] #[.pointer (some ⟨pb, 0, none⟩)]
set_option maxHeartbeats 1600000 in
set_option maxRecDepth 100000 in
theorem eqPut_any (sb pb : Nat) (s a b : Ty) (u v u' v' : Value) (w : World) (hp : w.cell? ⟨pb, 0, none⟩ = some (putV sb)) (hs : SelfAt sb s w) (ha : TyIs w (Lt w.heap.size) a u v) (hb : TyIs w (Lt w.heap.size) b u' v') : Calls Try.prog 35 #[.agg #[u, v], .agg #[u', v'], .pointer (some ⟨pb, 0, none⟩)] w (Says (a = selfPut s b) w) := by
  obtain ⟨u, v, rfl, rfl⟩ := ha.shape
  obtain ⟨u', v', rfl, rfl⟩ := hb.shape
  have hlt := World.block_lt_of_cell? w _ hp
  obtain ⟨w2, hw2⟩ : ∃ w2, w2 = (w.alloc (.cells #[sv u, .slice v.1 v.2.1 v.2.2] 35)).alloc (.cells #[sv u', .slice v'.1 v'.2.1 v'.2.2] 35) := ⟨_, rfl⟩
  have hb2 : Below w.heap.size w w2 := by rw [hw2]; exact ((Below.refl _ _).alloc (Nat.le_refl _) _).alloc (by simp) _
  have hx2 := alloc2 w (.cells #[sv u, .slice v.1 v.2.1 v.2.2] 35) (.cells #[sv u', .slice v'.1 v'.2.1 v'.2.2] 35)
  rw [← hw2] at hx2
  have hp2 := (hb2.cell (p := ⟨pb, 0, none⟩) hlt).trans hp
  have HW2 := Lib.hid hw2
  have HB2 := Lib.hid hb2
  have HX2 := Lib.hid hx2
  have HSA := Lib.hid (fun u hu => (hs.below (w' := u) hu))
  have HTA := Lib.hid (fun u hu => ha.now (w' := u) (Nat.le_refl _) hu)
  have HTB := Lib.hid (fun u hu => hb.now (w' := u) (Nat.le_refl _) hu)
  have HP2 := Lib.hid hp2
  clear hw2 hb2 hx2 hp2 hs ha hb hp
  go_enter Try.func35, Try.ntmps35
  go_wp2_with fail
  rw [← HW2.out]
  have HC : Hid (∀ z, Below w2.heap.size w2 z → AtCells [(⟨w.heap.size, 0, none⟩, sv u), (⟨w.heap.size, 1, none⟩, .slice v.1 v.2.1 v.2.2), (⟨w.heap.size + 1, 0, none⟩, sv u'), (⟨w.heap.size + 1, 1, none⟩, .slice v'.1 v'.2.1 v'.2.2), (⟨pb, 0, none⟩, putV sb)] z) := Lib.hid fun z hz => AtCells.below hz ⟨(Lib.cell_of_heap HX2.out.1 0).trans rfl, (Lib.cell_of_heap HX2.out.1 1).trans rfl, (Lib.cell_of_heap HX2.out.2 0).trans rfl, (Lib.cell_of_heap HX2.out.2 1).trans rfl, HP2.out, trivial⟩
  refine wp_region_mix (AtCells [(⟨w.heap.size, 0, none⟩, sv u), (⟨w.heap.size, 1, none⟩, .slice v.1 v.2.1 v.2.2), (⟨w.heap.size + 1, 0, none⟩, sv u'), (⟨w.heap.size + 1, 1, none⟩, .slice v'.1 v'.2.1 v'.2.2), (⟨pb, 0, none⟩, putV sb)]) [(true, 0), (true, 1), (true, 2), (false, 3), (false, 4)] [5] (by kernel_rfl) (by kernel_rfl) ?sm ?hm
  case sm => exact HC.out _ (Below.refl _ w2).drew
  case hm =>
  simp only [mixAt, List.filterMap_cons, List.filterMap_nil, List.getElem?_toArray, List.getElem?_cons_succ, List.getElem?_cons_zero, Option.map_some]
  refine wpMix_load ?vma0 rfl (fun w' hS => ?yma0) ?kma0
  case yma0 =>
    obtain ⟨g0, g1, g2, g3, g4, _⟩ := hS
    go_simp
    try rfl
  case kma0 =>
  go_simp
  refine wpMix_load ?vma1 rfl (fun w' hS => ?yma1) ?kma1
  case yma1 =>
    obtain ⟨g0, g1, g2, g3, g4, _⟩ := hS
    go_simp
    try rfl
  case kma1 =>
  go_simp
  refine wpMix_load ?vma2 rfl (fun w' hS => ?yma2) ?kma2
  case yma2 =>
    obtain ⟨g0, g1, g2, g3, g4, _⟩ := hS
    go_simp
    try rfl
  case kma2 =>
  go_simp
  have hb3 : Below w2.heap.size w2 w2.drew := (Below.refl _ w2).drew
  obtain ⟨w3, hw3⟩ : ∃ w3, w3 = w2.drew := ⟨_, rfl⟩
  rw [← hw3] at hb3 ⊢
  clear hw3
  have HB3 := Lib.hid hb3
  have HB03 := Lib.hid (HB2.out.trans (hb3.mono HB2.out.size))
  clear hb3
  refine wpMix_keep rfl ?_
  go_wp2_with fail
  refine (selfPut_any sb s b _ _ w3 (HSA.out _ HB03.out) (HTB.out _ HB03.out)).mono ?_
  rintro e w4 ⟨u1, v1, rfl, hT1, hb4⟩
  obtain ⟨u1, v1, rfl, rfl⟩ := hT1.shape
  have HB4 := Lib.hid (HB3.out.trans (hb4.mono HB3.out.size))
  have HT1 := Lib.hid (hT1.more (S' := Lt w4.heap.size) fun y hy => hy.2)
  clear hT1 hb4
  refine ⟨HC.out _ HB4.out, ?_⟩
  have HB04 := Lib.hid (HB2.out.trans (HB4.out.mono HB2.out.size))
  refine wpMix_keep rfl ?_
  go_wp2_with fail
  refine (same_any a _ _ _ _ _ w4 (HTA.out _ HB04.out) HT1.out).mono ?_
  rintro e w5 ⟨r, rfl, hr, hb5⟩
  have HB5 := Lib.hid (HB4.out.trans (hb5.mono HB4.out.size))
  have HRES : Hid (Says (a = selfPut s b) w (.returned (.bool r)) w5) := Lib.hid ⟨r, rfl, hr, HB2.out.trans (HB5.out.mono HB2.out.size)⟩
  clear hr hb5
  refine ⟨HC.out _ HB5.out, ?_⟩
  refine wpMix_nil ?_
  simp only [opsAt, List.filterMap_cons, List.filterMap_nil, List.getElem?_toArray, List.getElem?_cons_succ, List.getElem?_cons_zero]
  go_wp2_with fail
  refine NoPanic.normal ?_
  go_wp2
  go_ret
  exact HRES.out
set_option maxHeartbeats 4000000 in
set_option maxRecDepth 100000 in
theorem equalPut_any (sb pb : Nat) (s : Ty) (ks ls : List Ty) (A A' : Option Addr) (c c' : Nat) (vs vs' : List (Value × Value)) (w : World) (hp : w.cell? ⟨pb, 0, none⟩ = some (putV sb)) (hs : SelfAt sb s w) (h : Tys w (Lt w.heap.size) A ks vs) (h' : Tys w (Lt w.heap.size) A' ls vs') (hz : ks.length ≤ 3518437208883) :
    Calls Try.prog 34 #[.slice A ks.length c, .slice A' ls.length c', eqV pb] w (Says (ks = ls.map (selfPut s)) w) := by
  have hlt := World.block_lt_of_cell? w _ hp
  by_cases hnn : ks.length = ls.length
  · rw [← hnn]
    obtain ⟨n, hln⟩ : ∃ n, n = ks.length := ⟨_, rfl⟩
    rw [← hln]
    have HN := Lib.hid hnn
    have HL := Lib.hid hln
    have hn : n ≤ 3518437208883 := by omega
    have HP := Lib.hid fun (z : World) (hz : Below w.heap.size w z) => (hz.cell (p := ⟨pb, 0, none⟩) hlt).trans hp
    have HSA := Lib.hid fun (z : World) (hz : Below w.heap.size w z) => hs.below hz
    clear hnn hln hz hp hs
    go_enter Try.func34, Try.ntmps34
    go_wp2
    go_loopw [17] (fun i wr => ∃ k : Nat, k ≤ n ∧ i = .int .i64 k ∧ ks.take k = (ls.map (selfPut s)).take k ∧ Below w.heap.size w wr) (fun i _ => n - (intOf i).toNat)
    case atStart => exact ⟨0, Nat.zero_le _, rfl, rfl, Below.refl _ _⟩
    case round =>
      obtain ⟨k, hk, rfl, hx, hb⟩ := hrel
      have HX := Lib.hid hx
      clear hx
      have hsz := hb.size
      by_cases hlt : k < n
      · have hki : k < ks.length := by rw [← HL.out]; exact hlt
        have hki' : k < ls.length := by rw [← HN.out, ← HL.out]; exact hlt
        obtain ⟨ad, u, v, rfl, hS, e0, e1, hty⟩ := (h.now (Nat.le_refl _) hb).at_ (List.getElem?_eq_getElem hki)
        obtain ⟨ad', u', v', rfl, hS', e0', e1', hty'⟩ := (h'.now (Nat.le_refl _) hb).at_ (List.getElem?_eq_getElem hki')
        obtain ⟨u, v, rfl, rfl⟩ := hty.shape
        obtain ⟨u', v', rfl, rfl⟩ := hty'.shape
        have g0 : (wr.alloc (.cells #[.string (bs u), .slice v.1 v.2.1 v.2.2] 35)).cell? (ad'.add (k * 2)) = some (sv u') := (World.cell?_of_block (heap_alloc_old _ _ (by rw [blkAdd]; exact hS'))).trans e0'
        have g1 : (wr.alloc (.cells #[.string (bs u), .slice v.1 v.2.1 v.2.2] 35)).cell? ⟨(ad'.add (k * 2)).block, (ad'.add (k * 2)).off + 1, none⟩ = some (.slice v'.1 v'.2.1 v'.2.2) := (cellAlloc (by rw [blkAdd]; exact hS')).trans e1'
        have hb2 : Below wr.heap.size wr ((wr.alloc (.cells #[.string (bs u), .slice v.1 v.2.1 v.2.2] 35)).alloc (.cells #[.string (bs u'), .slice v'.1 v'.2.1 v'.2.2] 35)) := ((Below.refl _ _).alloc (Nat.le_refl _) _).alloc (by simp) _
        have hb02 := hb.trans (hb2.mono hsz)
        have hs1 : ks.take (k + 1) = ks.take k ++ [ks[k]] := List.take_succ_eq_append_getElem hki
        have hs2 : (ls.map (selfPut s)).take (k + 1) = (ls.map (selfPut s)).take k ++ [selfPut s ls[k]] := by rw [List.take_succ_eq_append_getElem (by rw [List.length_map]; exact hki'), List.getElem_map]
        have HS1 := Lib.hid hs1
        have HS2 := Lib.hid hs2
        clear hs1 hs2
        go_wp2_with fail
        refine (eqPut_any sb pb s ks[k] ls[k] _ _ _ _ _ (HP.out _ hb02) (HSA.out _ hb02) (hty.now (Nat.le_refl _) hb2) (hty'.now (Nat.le_refl _) hb2)).mono ?_
        rintro e w1 ⟨r, rfl, hr, hb1⟩
        have hb3 : Below w.heap.size w w1 := hb.trans ((hb2.trans (hb1.mono (by simp; omega))).mono hsz)
        have HR := Lib.hid hr
        clear hr
        cases r with
        | true =>
          have he := HR.out.1 rfl
          have HE := Lib.hid he
          clear he
          go_wp2
          go_roundw
          case rel => exact ⟨k + 1, by omega, by go_num, by rw [HS1.out, HS2.out, HX.out, HE.out], hb3⟩
          case measure => simp [intOf]; omega
        | false =>
          go_wp2
          go_ret
          refine ⟨false, rfl, ⟨(fun h => by cases h), fun h => ?_⟩, hb3⟩
          have : ks[k] = selfPut s ls[k] := by
            have e := congrArg (fun l => l[k]?) h
            simp only [List.getElem?_eq_getElem hki, List.getElem?_map, List.getElem?_eq_getElem hki', Option.map_some] at e
            exact Option.some.inj e
          exact HR.out.2 this
      · have hkn : k = n := by omega
        have HK := Lib.hid hkn
        clear hkn
        have hg : ¬ k < n := hlt
        go_wp2
        go_ret
        refine ⟨true, rfl, ⟨fun _ => ?_, fun _ => rfl⟩, hb⟩
        have := HX.out
        rw [HK.out, List.take_of_length_le (by rw [HL.out]; exact Nat.le_refl _), List.take_of_length_le (by rw [List.length_map, HL.out, HN.out]; exact Nat.le_refl _)] at this
        exact this
  · have e1 : ((ks.length : Int) == (ls.length : Int)) = false := by simp; omega
    have e2 : ((ks.length : Int) != (ls.length : Int)) = true := by simp; omega
    go_enter Try.func34, Try.ntmps34
    go_wp2
    go_ret
    exact ⟨false, rfl, by simp; intro e; exact hnn (by rw [e, List.length_map]), Below.refl _ _⟩
end

section
open Go.RowKit
/-- What a signature's cells hold. -/
structure SV where
  k : Int
  P : Option Addr × Nat × Nat
  N : Option Addr × Nat × Nat
  A : Option Addr × Nat × Nat
  u : List UInt8
  v : Option Addr × Nat × Nat
  tr : List UInt8
abbrev SV.cells (q : SV) : List Value := [.int .i64 q.k, .slice q.P.1 q.P.2.1 q.P.2.2, .slice q.N.1 q.N.2.1 q.N.2.2, .slice q.A.1 q.A.2.1 q.A.2.2, sv q.u, .slice q.v.1 q.v.2.1 q.v.2.2, sv q.tr]
abbrev SV.val (q : SV) : Value := .agg #[.int .i64 q.k, .slice q.P.1 q.P.2.1 q.P.2.2, .slice q.N.1 q.N.2.1 q.N.2.2, .slice q.A.1 q.A.2.1 q.A.2.2, sv q.u, .slice q.v.1 q.v.2.1 q.v.2.2, sv q.tr]
/-- A signature's arguments and result. -/
abbrev Sg := List Ty × Ty
structure SgIs (w : World) (S : Nat → Prop) (g : Sg) (q : SV) : Prop where
  len : q.A.2.1 = g.1.length
  cap : g.1.length ≤ q.A.2.2 ∧ q.A.2.2 ≤ maxLen
  few : g.1.length ≤ 3518437208883
  args : ∃ vs, Tys w S q.A.1 g.1 vs
  res : TyIs w S g.2 (sv q.u) (.slice q.v.1 q.v.2.1 q.v.2.2)
theorem SgIs.keep {w w' : World} {S : Nat → Prop} {g : Sg} {q : SV} (h : SgIs w S g q) (hk : Kept S w w') : SgIs w' S g q := ⟨h.len, h.cap, h.few, h.args.imp fun _ h => h.keep hk, h.res.keep hk⟩
theorem SgIs.more {w : World} {S S' : Nat → Prop} {g : Sg} {q : SV} (h : SgIs w S g q) (hS : ∀ b, S b → S' b) : SgIs w S' g q := ⟨h.len, h.cap, h.few, h.args.imp fun _ h => h.more hS, h.res.more hS⟩
theorem SgIs.now {w w' : World} {g : Sg} {q : SV} (h : SgIs w (Lt w.heap.size) g q) (hb : Below w.heap.size w w') : SgIs w' (Lt w'.heap.size) g q := (h.keep (kept_below hb)).more fun _ h => Nat.lt_of_lt_of_le h hb.size
/-- A function is a method for a type. -/
def Meth (f : Tr) (g : Sg) (s : Ty) : Prop := argTT (kidT f 1) = g.1.map (selfPut s) ∧ tyOf (kidT f 2) = selfPut s g.2
theorem SV.of_res {ts : List Ty} {r : Ty} {w : World} {e : Ending} {w' : World} (h : SgRes ts r w e w') : ∃ q : SV, e = .returned q.val ∧ SgIs w' (Lt w'.heap.size) (ts, r) q ∧ Below w.heap.size w w' := by
  obtain ⟨pv, A, c, vs, u, v, rfl, h1, h2, h3, h4, h5, h6⟩ := h
  obtain ⟨u, v, rfl, rfl⟩ := h5.shape
  exact ⟨⟨2, pv, (none, 0, 0), (A, ts.length, c), u, v, []⟩, rfl, ⟨rfl, ⟨h2, h3⟩, h4, ⟨vs, h1.more fun _ hy => hy.2⟩, h5.more fun _ hy => hy.2⟩, h6⟩

set_option maxHeartbeats 1600000 in
set_option maxRecDepth 100000 in
theorem agrees_any (x : List UInt8) (A : Option Addr) (a : Int) (n c : Nat) (ks : List Tr) (g : Sg) (q : SV) (s : Ty) (su : List UInt8) (ss : Option Addr × Nat × Nat) (w : World) (h : TrIs w (Lt w.heap.size) (.mk 4 x a ks) (.slice A n c)) (hg : SgIs w (Lt w.heap.size) g q) (hs : TyIs w (Lt w.heap.size) s (sv su) (.slice ss.1 ss.2.1 ss.2.2)) :
    Calls Try.prog 18 #[.agg #[.int .i64 4, sv x, .int .i64 a, .slice A n c], q.val, .agg #[sv su, .slice ss.1 ss.2.1 ss.2.2]] w (Says (Meth (.mk 4 x a ks) g s) w) := by
  obtain ⟨⟨qk, qP, qN, qA, qu, qv, qt⟩, rfl⟩ : ∃ q', q' = q := ⟨_, rfl⟩
  have hgl := hg.len
  dsimp only [SV.val] at hgl ⊢
  obtain ⟨QA, ql, qc⟩ := qA
  simp only at hgl
  obtain ⟨w3, hw3⟩ : ∃ w3, w3 = ((w.alloc (.cells #[.int .i64 4, sv x, .int .i64 a, .slice A n c] 25)).alloc (.cells #[.int .i64 qk, .slice qP.1 qP.2.1 qP.2.2, .slice qN.1 qN.2.1 qN.2.2, .slice QA ql qc, sv qu, .slice qv.1 qv.2.1 qv.2.2, sv qt] 39)).alloc (.cells #[sv su, .slice ss.1 ss.2.1 ss.2.2] 35) := ⟨_, rfl⟩
  obtain ⟨hx3, hy3, hz3, hb3⟩ := three_blocks w (.cells #[.int .i64 4, sv x, .int .i64 a, .slice A n c] 25) (.cells #[.int .i64 qk, .slice qP.1 qP.2.1 qP.2.2, .slice qN.1 qN.2.1 qN.2.2, .slice QA ql qc, sv qu, .slice qv.1 qv.2.1 qv.2.2, sv qt] 39) (.cells #[sv su, .slice ss.1 ss.2.1 ss.2.2] 35)
  rw [← hw3] at hx3 hy3 hz3 hb3
  have HW3 := Lib.hid hw3
  have HX3 := Lib.hid hx3
  have HY3 := Lib.hid hy3
  have HZ3 := Lib.hid hz3
  have HB3 := Lib.hid hb3
  have HGL := Lib.hid hgl
  clear hw3 hx3 hy3 hz3 hb3 hgl
  have hst : ∀ (a : Addr) (w : World) (c : Array Value), (store a (.func (.func 31) #[] c) .plain).run Try.prog w = stored Try.prog w a (.func (.func 31) #[] c) .plain := fun a w c => run_store _ w a _ _ rfl
  go_enter Try.func18, Try.ntmps18
  go_wp2_with fail
  rw [← HW3.out]
  obtain ⟨w4, hw4⟩ : ∃ w4, w4 = w3.alloc (.cells #[putV (w.heap.size + 1 + 1)] 50) := ⟨_, rfl⟩
  have hb34 : Below w3.heap.size w3 w4 := by rw [hw4]; exact (Below.refl _ _).alloc (Nat.le_refl _) _
  have hs3 : w3.heap.size = w.heap.size + 1 + 1 + 1 := by rw [HW3.out]; simp
  have hq4 : w4.heap[w.heap.size + 1 + 1 + 1]? = some (.cells #[putV (w.heap.size + 1 + 1)] 50 (0, 0)) := by rw [hw4, ← hs3]; exact alloc1 _ _
  have HB4 := Lib.hid (HB3.out.trans (hb34.mono HB3.out.size))
  have HY4 := Lib.hid ((hb34.block _ (lt_of_heap HY3.out)).trans HY3.out)
  have HZ4 := Lib.hid ((hb34.block _ (lt_of_heap HZ3.out)).trans HZ3.out)
  have HQ4 := Lib.hid hq4
  rw [← hw4]
  clear hw4 hb34 hs3 hq4 hst HY3 HZ3 HX3 HW3
  refine (sgof_any x A a n c ks w4 (h.under HB4.out) []).mono ?_
  intro e w5 hof
  obtain ⟨⟨ok, oP, oN, ⟨OA, ol, oc⟩, ou, oo, ot⟩, rfl, ho, hb5⟩ := SV.of_res hof
  have hol := ho.len
  simp only at hol
  have HY5 := Lib.hid ((hb5.block _ (lt_of_heap HY4.out)).trans HY4.out)
  have HZ5 := Lib.hid ((hb5.block _ (lt_of_heap HZ4.out)).trans HZ4.out)
  have HQ5 := Lib.hid ((hb5.block _ (lt_of_heap HQ4.out)).trans HQ4.out)
  have HB5 := Lib.hid (HB4.out.trans (hb5.mono HB4.out.size))
  have HO := Lib.hid ho
  have HOL := Lib.hid hol
  clear hof hb5 ho hol HY4 HZ4 HQ4
  dsimp only [SV.val]
  go_wp2_with fail
  obtain ⟨w6, hw6⟩ : ∃ w6, w6 = w5.alloc (.cells #[.int .i64 ok, .slice oP.1 oP.2.1 oP.2.2, .slice oN.1 oN.2.1 oN.2.2, .slice OA ol oc, sv ou, .slice oo.1 oo.2.1 oo.2.2, sv ot] 39) := ⟨_, rfl⟩
  have hb56 : Below w5.heap.size w5 w6 := by rw [hw6]; exact (Below.refl _ _).alloc (Nat.le_refl _) _
  have hx6 : w6.heap[w5.heap.size]? = some (.cells #[.int .i64 ok, .slice oP.1 oP.2.1 oP.2.2, .slice oN.1 oN.2.1 oN.2.2, .slice OA ol oc, sv ou, .slice oo.1 oo.2.1 oo.2.2, sv ot] 39 (0, 0)) := by rw [hw6]; exact alloc1 _ _
  have HY6 := Lib.hid ((hb56.block _ (lt_of_heap HY5.out)).trans HY5.out)
  have HZ6 := Lib.hid ((hb56.block _ (lt_of_heap HZ5.out)).trans HZ5.out)
  have HQ6 := Lib.hid ((hb56.block _ (lt_of_heap HQ5.out)).trans HQ5.out)
  have HB6 := Lib.hid (HB5.out.trans (hb56.mono HB5.out.size))
  have HX6 := Lib.hid hx6
  have HO6 := Lib.hid (HO.out.now hb56)
  rw [← hw6]
  clear hw6 hb56 hx6 HY5 HZ5 HQ5
  have HC : Hid (∀ z, Below w6.heap.size w6 z → AtCells [(⟨w5.heap.size, 3, none⟩, .slice OA ol oc), (⟨w5.heap.size, 4, none⟩, sv ou), (⟨w5.heap.size, 5, none⟩, .slice oo.1 oo.2.1 oo.2.2), (⟨w.heap.size + 1, 3, none⟩, .slice QA ql qc), (⟨w.heap.size + 1, 4, none⟩, sv qu), (⟨w.heap.size + 1, 5, none⟩, .slice qv.1 qv.2.1 qv.2.2), (⟨w.heap.size + 1 + 1 + 1, 0, none⟩, putV (w.heap.size + 1 + 1))] z) := Lib.hid fun z hz => AtCells.below hz ⟨(Lib.cell_of_heap HX6.out 3).trans rfl, (Lib.cell_of_heap HX6.out 4).trans rfl, (Lib.cell_of_heap HX6.out 5).trans rfl, (Lib.cell_of_heap HY6.out 3).trans rfl, (Lib.cell_of_heap HY6.out 4).trans rfl, (Lib.cell_of_heap HY6.out 5).trans rfl, (Lib.cell_of_heap HQ6.out 0).trans rfl, trivial⟩
  have HSA : Hid (SelfAt (w.heap.size + 1 + 1) s w6) := Lib.hid ⟨su, ss, HZ6.out, hs.now (Nat.le_refl _) HB6.out⟩
  have hgw := hg.now HB6.out
  have HEQ : Hid (∀ z, Below w6.heap.size w6 z → Calls Try.prog 34 #[.slice OA ol oc, .slice QA ql qc, eqV (w.heap.size + 1 + 1 + 1)] z (Says (argTT (kidT (.mk 4 x a ks) 1) = g.1.map (selfPut s)) z)) := Lib.hid fun z hz => by
    obtain ⟨vs, hv⟩ := HO6.out.args
    obtain ⟨vs', hv'⟩ := hgw.args
    rw [HOL.out, HGL.out]
    exact equalPut_any (w.heap.size + 1 + 1) (w.heap.size + 1 + 1 + 1) s _ _ OA QA oc qc vs vs' z (HC.out z hz).2.2.2.2.2.2.1 (HSA.out.below hz) (hv.now (Nat.le_refl _) hz) (hv'.now (Nat.le_refl _) hz) HO6.out.few
  have HPT : Hid (∀ z, Below w6.heap.size w6 z → Calls Try.prog 31 #[.agg #[sv qu, .slice qv.1 qv.2.1 qv.2.2], .pointer (some ⟨w.heap.size + 1 + 1, 0, none⟩)] z (MadeTy (selfPut s g.2) z)) := Lib.hid fun z hz => selfPut_any (w.heap.size + 1 + 1) s g.2 _ _ z (HSA.out.below hz) (hgw.res.now (Nat.le_refl _) hz)
  have HSM : Hid (∀ z, Below w6.heap.size w6 z → ∀ u v, TyIs z (Lt z.heap.size) (selfPut s g.2) u v → Calls Try.prog 28 #[.agg #[sv ou, .slice oo.1 oo.2.1 oo.2.2], .agg #[u, v]] z (Says (tyOf (kidT (.mk 4 x a ks) 2) = selfPut s g.2) z)) := Lib.hid fun z hz u v huv => same_any _ _ _ _ _ _ z (HO6.out.res.now (Nat.le_refl _) hz) huv
  have HB6' := HB6
  clear hg hs h hgw HSA HO HO6 HOL HGL HX6 HY6 HZ6 HQ6 HB3 HB4 HB5
  by_cases hP : argTT (kidT (.mk 4 x a ks) 1) = g.1.map (selfPut s)
  · refine wp_region_mix (AtCells [(⟨w5.heap.size, 3, none⟩, .slice OA ol oc), (⟨w5.heap.size, 4, none⟩, sv ou), (⟨w5.heap.size, 5, none⟩, .slice oo.1 oo.2.1 oo.2.2), (⟨w.heap.size + 1, 3, none⟩, .slice QA ql qc), (⟨w.heap.size + 1, 4, none⟩, sv qu), (⟨w.heap.size + 1, 5, none⟩, .slice qv.1 qv.2.1 qv.2.2), (⟨w.heap.size + 1 + 1 + 1, 0, none⟩, putV (w.heap.size + 1 + 1))]) [(true, 0), (true, 1), (true, 2), (true, 3), (true, 4), (false, 5), (true, 6), (true, 7), (true, 8), (true, 9), (true, 10), (true, 11), (false, 12), (false, 13), (true, 14)] [15] (by kernel_rfl) (by kernel_rfl) ?sm ?hm
    case sm => exact HC.out _ (Below.refl _ w6).drew
    case hm =>
    simp only [mixAt, List.filterMap_cons, List.filterMap_nil, List.getElem?_toArray, List.getElem?_cons_succ, List.getElem?_cons_zero, Option.map_some]
    refine wpMix_load ?vma0 rfl (fun w' hS => ?yma0) ?kma0
    case yma0 =>
      obtain ⟨g0, g1, g2, g3, g4, g5, g6, _⟩ := hS
      go_simp
      try rfl
    case kma0 =>
    go_simp
    refine wpMix_load ?vma1 rfl (fun w' hS => ?yma1) ?kma1
    case yma1 =>
      obtain ⟨g0, g1, g2, g3, g4, g5, g6, _⟩ := hS
      go_simp
      try rfl
    case kma1 =>
    go_simp
    refine wpMix_load ?vma2 rfl (fun w' hS => ?yma2) ?kma2
    case yma2 =>
      obtain ⟨g0, g1, g2, g3, g4, g5, g6, _⟩ := hS
      go_simp
      try rfl
    case kma2 =>
    go_simp
    refine wpMix_load ?vma3 rfl (fun w' hS => ?yma3) ?kma3
    case yma3 =>
      obtain ⟨g0, g1, g2, g3, g4, g5, g6, _⟩ := hS
      go_simp
      try rfl
    case kma3 =>
    go_simp
    refine wpMix_load ?vma4 rfl (fun w' hS => ?yma4) ?kma4
    case yma4 =>
      obtain ⟨g0, g1, g2, g3, g4, g5, g6, _⟩ := hS
      go_simp
      try rfl
    case kma4 =>
    go_simp
    have hb7 : Below w6.heap.size w6 w6.drew := (Below.refl _ w6).drew
    obtain ⟨w7, hw7⟩ : ∃ w7, w7 = w6.drew := ⟨_, rfl⟩
    rw [← hw7] at hb7 ⊢
    clear hw7
    refine wpMix_keep rfl ?_
    go_wp2_with fail
    refine (HEQ.out w7 hb7).mono ?_
    rintro e w8 ⟨r, rfl, hr, hb8⟩
    obtain rfl : r = true := hr.2 hP
    have hb68 := hb7.trans (hb8.mono hb7.size)
    clear hr hb8
    refine ⟨HC.out _ hb68, ?_⟩
    refine wpMix_load ?vmb6 rfl (fun w' hS => ?ymb6) ?kmb6
    case ymb6 =>
      obtain ⟨g0, g1, g2, g3, g4, g5, g6, _⟩ := hS
      go_simp
      try rfl
    case kmb6 =>
    go_simp
    refine wpMix_load ?vmb7 rfl (fun w' hS => ?ymb7) ?kmb7
    case ymb7 =>
      obtain ⟨g0, g1, g2, g3, g4, g5, g6, _⟩ := hS
      go_simp
      try rfl
    case kmb7 =>
    go_simp
    refine wpMix_load ?vmb8 rfl (fun w' hS => ?ymb8) ?kmb8
    case ymb8 =>
      obtain ⟨g0, g1, g2, g3, g4, g5, g6, _⟩ := hS
      go_simp
      try rfl
    case kmb8 =>
    go_simp
    refine wpMix_load ?vmb9 rfl (fun w' hS => ?ymb9) ?kmb9
    case ymb9 =>
      obtain ⟨g0, g1, g2, g3, g4, g5, g6, _⟩ := hS
      go_simp
      try rfl
    case kmb9 =>
    go_simp
    refine wpMix_load ?vmb10 rfl (fun w' hS => ?ymb10) ?kmb10
    case ymb10 =>
      obtain ⟨g0, g1, g2, g3, g4, g5, g6, _⟩ := hS
      go_simp
      try rfl
    case kmb10 =>
    go_simp
    refine wpMix_load ?vmb11 rfl (fun w' hS => ?ymb11) ?kmb11
    case ymb11 =>
      obtain ⟨g0, g1, g2, g3, g4, g5, g6, _⟩ := hS
      go_simp
      try rfl
    case kmb11 =>
    go_simp
    refine wpMix_keep rfl ?_
    go_wp2_with fail
    refine (HPT.out w8 hb68).mono ?_
    rintro e w9 ⟨u1, v1, rfl, hT1, hb9⟩
    obtain ⟨u1, v1, rfl, rfl⟩ := hT1.shape
    have hb69 := hb68.trans (hb9.mono hb68.size)
    have HT1 := Lib.hid (hT1.more (S' := Lt w9.heap.size) fun y hy => hy.2)
    clear hT1 hb9
    refine ⟨HC.out _ hb69, ?_⟩
    refine wpMix_keep rfl ?_
    go_wp2_with fail
    refine (HSM.out w9 hb69 _ _ HT1.out).mono ?_
    rintro e w10 ⟨r, rfl, hr, hb10⟩
    have hb610 := hb69.trans (hb10.mono hb69.size)
    have HRES : Hid (Says (Meth (.mk 4 x a ks) g s) w (.returned (.bool r)) w10) := Lib.hid ⟨r, rfl, hr.trans ⟨fun h => ⟨hP, h⟩, fun h => h.2⟩, HB6.out.trans (hb610.mono HB6.out.size)⟩
    clear hr hb10
    refine ⟨HC.out _ hb610, ?_⟩
    refine wpMix_load ?vmc14 rfl (fun w' hS => ?ymc14) ?kmc14
    case ymc14 =>
      obtain ⟨g0, g1, g2, g3, g4, g5, g6, _⟩ := hS
      go_simp
      try rfl
    case kmc14 =>
    go_simp
    refine wpMix_nil ?_
    simp only [opsAt, List.filterMap_cons, List.filterMap_nil, List.getElem?_toArray, List.getElem?_cons_succ, List.getElem?_cons_zero]
    go_wp2_with fail
    refine NoPanic.normal ?_
    go_wp2
    go_ret
    exact HRES.out
  · refine wp_region_mix (AtCells [(⟨w5.heap.size, 3, none⟩, .slice OA ol oc), (⟨w5.heap.size, 4, none⟩, sv ou), (⟨w5.heap.size, 5, none⟩, .slice oo.1 oo.2.1 oo.2.2), (⟨w.heap.size + 1, 3, none⟩, .slice QA ql qc), (⟨w.heap.size + 1, 4, none⟩, sv qu), (⟨w.heap.size + 1, 5, none⟩, .slice qv.1 qv.2.1 qv.2.2), (⟨w.heap.size + 1 + 1 + 1, 0, none⟩, putV (w.heap.size + 1 + 1))]) [(true, 0), (true, 1), (true, 2), (true, 3), (true, 4), (false, 5), (true, 6), (true, 7), (true, 8), (true, 9), (true, 10), (true, 11), (true, 12), (true, 13), (true, 14)] [15] (by kernel_rfl) (by kernel_rfl) ?sn ?hn
    case sn => exact HC.out _ (Below.refl _ w6).drew
    case hn =>
    simp only [mixAt, List.filterMap_cons, List.filterMap_nil, List.getElem?_toArray, List.getElem?_cons_succ, List.getElem?_cons_zero, Option.map_some]
    refine wpMix_load ?vna0 rfl (fun w' hS => ?yna0) ?kna0
    case yna0 =>
      obtain ⟨g0, g1, g2, g3, g4, g5, g6, _⟩ := hS
      go_simp
      try rfl
    case kna0 =>
    go_simp
    refine wpMix_load ?vna1 rfl (fun w' hS => ?yna1) ?kna1
    case yna1 =>
      obtain ⟨g0, g1, g2, g3, g4, g5, g6, _⟩ := hS
      go_simp
      try rfl
    case kna1 =>
    go_simp
    refine wpMix_load ?vna2 rfl (fun w' hS => ?yna2) ?kna2
    case yna2 =>
      obtain ⟨g0, g1, g2, g3, g4, g5, g6, _⟩ := hS
      go_simp
      try rfl
    case kna2 =>
    go_simp
    refine wpMix_load ?vna3 rfl (fun w' hS => ?yna3) ?kna3
    case yna3 =>
      obtain ⟨g0, g1, g2, g3, g4, g5, g6, _⟩ := hS
      go_simp
      try rfl
    case kna3 =>
    go_simp
    refine wpMix_load ?vna4 rfl (fun w' hS => ?yna4) ?kna4
    case yna4 =>
      obtain ⟨g0, g1, g2, g3, g4, g5, g6, _⟩ := hS
      go_simp
      try rfl
    case kna4 =>
    go_simp
    have hb7 : Below w6.heap.size w6 w6.drew := (Below.refl _ w6).drew
    obtain ⟨w7, hw7⟩ : ∃ w7, w7 = w6.drew := ⟨_, rfl⟩
    rw [← hw7] at hb7 ⊢
    clear hw7
    refine wpMix_keep rfl ?_
    go_wp2_with fail
    refine (HEQ.out w7 hb7).mono ?_
    rintro e w8 ⟨r, rfl, hr, hb8⟩
    obtain rfl : r = false := by cases r; rfl; exact absurd (hr.1 rfl) hP
    have hb68 := hb7.trans (hb8.mono hb7.size)
    have HRES : Hid (Says (Meth (.mk 4 x a ks) g s) w (.returned (.bool false)) w8) := Lib.hid ⟨false, rfl, ⟨(fun h => by cases h), fun h => absurd h.1 hP⟩, HB6.out.trans (hb68.mono HB6.out.size)⟩
    clear hr hb8
    refine ⟨HC.out _ hb68, ?_⟩
    refine wpMix_load ?vnb6 rfl (fun w' hS => ?ynb6) ?knb6
    case ynb6 =>
      obtain ⟨g0, g1, g2, g3, g4, g5, g6, _⟩ := hS
      go_simp
      try rfl
    case knb6 =>
    go_simp
    refine wpMix_skip rfl ?_
    go_simp
    refine wpMix_skip rfl ?_
    go_simp
    refine wpMix_skip rfl ?_
    go_simp
    refine wpMix_skip rfl ?_
    go_simp
    refine wpMix_skip rfl ?_
    go_simp
    refine wpMix_skip rfl ?_
    go_simp
    refine wpMix_skip rfl ?_
    go_simp
    refine wpMix_load ?vnc14 rfl (fun w' hS => ?ync14) ?knc14
    case ync14 =>
      obtain ⟨g0, g1, g2, g3, g4, g5, g6, _⟩ := hS
      go_simp
      try rfl
    case knc14 =>
    go_simp
    refine wpMix_nil ?_
    simp only [opsAt, List.filterMap_cons, List.filterMap_nil, List.getElem?_toArray, List.getElem?_cons_succ, List.getElem?_cons_zero]
    go_wp2_with fail
    refine NoPanic.normal ?_
    go_wp2
    go_ret
    exact HRES.out
end
end Go.Proofs.Ytiijlecidepneaa
