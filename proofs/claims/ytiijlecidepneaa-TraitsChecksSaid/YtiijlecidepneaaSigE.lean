/-
  The walk of signature.Of at a function.
  Conditions: the argument reads as a tree of that kind.
-/
import Derived.Test.YtiijlecidepneaaSigD
namespace Go.Proofs.Ytiijlecidepneaa
open Go.RowKit

/-- The types of the arguments of a function's tree. -/
def argTT (t : Tr) : List Ty := (t.kids.filter fun p => decide (p.kind = 13)).map fun p => tyOf (kidT p 0)
theorem argT_TT (ps : List (Tr × Value)) (t : Tr) (h : t.kids = ps.map (·.1)) : argT ps = argTT t := by
  unfold argT argK argTT
  rw [h, List.filter_map, List.map_map]
  rfl
/-- The signature of a function was returned: its arguments' types and its result. -/
def SgRes (ts : List Ty) (r : Ty) (w : World) (e : Ending) (w' : World) : Prop :=
  ∃ (pv : Option Addr × Nat × Nat) (A : Option Addr) (c : Nat) (vs : List (Value × Value)) (u v : Value), e = .returned (.agg #[.int .i64 2, .slice pv.1 pv.2.1 pv.2.2, .slice none 0 0, .slice A ts.length c, u, v, .string ⟨#[]⟩]) ∧
    Tys w' (Fr w.heap.size w'.heap.size) A ts vs ∧ ts.length ≤ c ∧ c ≤ maxLen ∧ ts.length ≤ 3518437208883 ∧ TyIs w' (Fr w.heap.size w'.heap.size) r u v ∧ Below w.heap.size w w'
theorem set_one {w : World} {b o : Nat} {T : TypeId} {cs cs' : Array Value} {v : Value} (h : w.heap[b]? = some (.cells cs T (0, 0))) (hc : cs.setIfInBounds o v = cs') : (w.setCell ⟨b, o, none⟩ v).heap[b]? = some (.cells cs' T (0, 0)) := by
  rw [← hc]
  exact setCell_heap h
/-- A signature is written cell by cell. -/
theorem set_seven {w : World} {b : Nat} {T : TypeId} {c0 c1 c2 c3 c4 c5 c6 : Value} (h : w.heap[b]? = some (.cells #[c0, c1, c2, c3, c4, c5, c6] T (0, 0))) (v0 v1 v2 v3 v4 v5 v6 : Value) :
    ((((((((w.setCell ⟨b, 0, none⟩ v0).setCell ⟨b, 1, none⟩ v1).setCell ⟨b, 2, none⟩ v2).setCell ⟨b, 3, none⟩ v3).setCell ⟨b, 4, none⟩ v4).setCell ⟨b, 5, none⟩ v5).setCell ⟨b, 6, none⟩ v6).heap[b]? = some (.cells #[v0, v1, v2, v3, v4, v5, v6] T (0, 0))) ∧
    Kp (fun y => y = b) w (((((((w.setCell ⟨b, 0, none⟩ v0).setCell ⟨b, 1, none⟩ v1).setCell ⟨b, 2, none⟩ v2).setCell ⟨b, 3, none⟩ v3).setCell ⟨b, 4, none⟩ v4).setCell ⟨b, 5, none⟩ v5).setCell ⟨b, 6, none⟩ v6) := by
  have h0 := set_one (o := 0) (v := v0) (cs' := #[v0, c1, c2, c3, c4, c5, c6]) h rfl
  have h1 := set_one (o := 1) (v := v1) (cs' := #[v0, v1, c2, c3, c4, c5, c6]) h0 rfl
  have h2 := set_one (o := 2) (v := v2) (cs' := #[v0, v1, v2, c3, c4, c5, c6]) h1 rfl
  have h3 := set_one (o := 3) (v := v3) (cs' := #[v0, v1, v2, v3, c4, c5, c6]) h2 rfl
  have h4 := set_one (o := 4) (v := v4) (cs' := #[v0, v1, v2, v3, v4, c5, c6]) h3 rfl
  have h5 := set_one (o := 5) (v := v5) (cs' := #[v0, v1, v2, v3, v4, v5, c6]) h4 rfl
  have h6 := set_one (o := 6) (v := v6) (cs' := #[v0, v1, v2, v3, v4, v5, v6]) h5 rfl
  refine ⟨h6, ?_⟩
  have k0 := Kp.setCell (M := fun y => y = b) (o := 0) (Kp.refl _ w) (fun _ => rfl) v0
  have k1 := k0.setCell (o := 1) (fun _ => rfl) v1
  have k2 := k1.setCell (o := 2) (fun _ => rfl) v2
  have k3 := k2.setCell (o := 3) (fun _ => rfl) v3
  have k4 := k3.setCell (o := 4) (fun _ => rfl) v4
  have k5 := k4.setCell (o := 5) (fun _ => rfl) v5
  exact k5.setCell (o := 6) (fun _ => rfl) v6
set_option maxHeartbeats 1600000 in
set_option maxRecDepth 100000 in
theorem sgof_any (x : List UInt8) (A : Option Addr) (a : Int) (n c : Nat) (ks : List Tr) (w : World) (h : TrIs w (Lt w.heap.size) (.mk 4 x a ks) (.slice A n c)) (d : List UInt8) : Calls Try.prog 33 #[sv d, .agg #[.int .i64 4, sv x, .int .i64 a, .slice A n c]] w (SgRes (argTT (kidT (.mk 4 x a ks) 1)) (tyOf (kidT (.mk 4 x a ks) 2)) w) := by
  obtain ⟨w2, hw2⟩ : ∃ w2, w2 = (w.alloc (.cells #[.int .i64 4, sv x, .int .i64 a, .slice A n c] 25)).alloc (.cells #[.int .i64 0, .slice none 0 0, .slice none 0 0, .slice none 0 0, .string ⟨#[]⟩, .slice none 0 0, .string ⟨#[]⟩] 39) := ⟨_, rfl⟩
  have hb2 : Below w.heap.size w w2 := by rw [hw2]; exact ((Below.refl _ _).alloc (Nat.le_refl _) _).alloc (by simp) _
  have hx2 : w2.heap[w.heap.size]? = some (.cells #[.int .i64 4, sv x, .int .i64 a, .slice A n c] 25 (0, 0)) := by rw [hw2]; exact (alloc2 w _ _).1
  have hy2 : w2.heap[w.heap.size + 1]? = some (.cells #[.int .i64 0, .slice none 0 0, .slice none 0 0, .slice none 0 0, .string ⟨#[]⟩, .slice none 0 0, .string ⟨#[]⟩] 39 (0, 0)) := by rw [hw2]; exact (alloc2 w _ _).2
  have HW2 := Lib.hid hw2
  have HB2 := Lib.hid hb2
  have HX2 := Lib.hid hx2
  have HY2 := Lib.hid hy2
  clear hw2 hb2 hx2 hy2
  go_enter Try.func33, Try.ntmps33
  go_wp2_with fail
  rw [← HW2.out]
  refine (kid_any (.mk 4 x a ks, .slice A n c) 1 w2 (by omega) (h.under HB2.out)).mono ?_
  rintro e w3 ⟨⟨kt, kv⟩, rfl, hkt, hki, hb3⟩
  simp only at hkt hki
  subst hkt
  obtain ⟨KA, kc, kq, rfl, hkids, _, _, _, hkz, hkc, hkm, _, hkT⟩ := hki.open_
  have HARG := Lib.hid (args_any (kidT (.mk 4 x a ks) 1) KA kc kq w3 hkz hkT)
  have HTT := Lib.hid (argT_TT kq _ hkids)
  have HB3 := Lib.hid (HB2.out.trans (hb3.mono HB2.out.size))
  have hx3 := (hb3.block _ (lt_of_heap HX2.out)).trans HX2.out
  have hy3 := (hb3.block _ (lt_of_heap HY2.out)).trans HY2.out
  have HX3 := Lib.hid hx3
  have HLT := Lib.hid (lt_of_heap hy3)
  have HY3 := Lib.hid hy3
  clear hki hkids hkc hkm hkT hb3 hx3 hy3 HX2 HY2
  dsimp only [trV]
  go_wp2_with fail
  refine HARG.out.mono ?_
  rintro e w4 ⟨nv, tv, vs, rfl, hS, hb4⟩
  rw [HTT.out] at hS
  obtain ⟨NA, nc, rfl, _⟩ := own_slice hS.names
  obtain ⟨TA, tc, rfl, _⟩ := own_slice hS.own
  have hx4 := (hb4.block _ (lt_of_heap HX3.out)).trans HX3.out
  have hy4 := (hb4.block _ (lt_of_heap HY3.out)).trans HY3.out
  have hlen : (argTT (kidT (.mk 4 x a ks) 1)).length ≤ 3518437208883 := by rw [← HTT.out]; unfold argT; rw [List.length_map]; exact Nat.le_trans (List.length_filter_le _ _) hkz
  have hle := own_le hS.own
  obtain ⟨n1, hn1⟩ : ∃ n, n = (argN kq).length := ⟨_, rfl⟩
  obtain ⟨n2, hn2⟩ : ∃ n, n = (argTT (kidT (.mk 4 x a ks) 1)).length := ⟨_, rfl⟩
  have HTS : Hid (Tys w4 (Fr w3.heap.size w4.heap.size) TA (argTT (kidT (.mk 4 x a ks) 1)) vs) := Lib.hid ⟨hS.len, Row.ofOwn hS.own fun g _ h1 h2 => ⟨h1, h2⟩, fun i t p ht hp => (hS.each i t p ht hp).more fun y hy => ⟨hy.1, hy.2.1⟩⟩
  have HB4 := Lib.hid (HB3.out.trans (hb4.mono HB3.out.size))
  have HX4 := Lib.hid hx4
  have HY4 := Lib.hid hy4
  have HLE := Lib.hid (And.intro hlen hle)
  rw [← hn2]
  rw [← hn1]
  have HN2 := Lib.hid hn2
  clear hS hb4 hx4 hy4 HX3 HY3 hlen hle hn1 hn2 HARG
  go_wp2_with fail
  have HC : Hid (∀ u, Below w4.heap.size w4 u → AtCells [(⟨w.heap.size, 0, none⟩, .int .i64 4), (⟨w.heap.size, 1, none⟩, sv x), (⟨w.heap.size, 2, none⟩, .int .i64 a), (⟨w.heap.size, 3, none⟩, .slice A n c)] u) := Lib.hid fun u hu => by
    have hxu := (hu.block _ (lt_of_heap HX4.out)).trans HX4.out
    exact ⟨(Lib.cell_of_heap hxu 0).trans rfl, (Lib.cell_of_heap hxu 1).trans rfl, (Lib.cell_of_heap hxu 2).trans rfl, (Lib.cell_of_heap hxu 3).trans rfl, trivial⟩
  refine wp_region_mix (AtCells [(⟨w.heap.size, 0, none⟩, .int .i64 4), (⟨w.heap.size, 1, none⟩, sv x), (⟨w.heap.size, 2, none⟩, .int .i64 a), (⟨w.heap.size, 3, none⟩, .slice A n c)]) [(true, 0), (true, 3), (true, 4), (false, 1), (false, 2), (false, 5), (false, 6)] [7, 8] (by kernel_rfl) (by kernel_rfl) ?sm ?hm
  case sm => exact HC.out _ (Below.refl _ w4).drew
  case hm =>
  simp only [mixAt, List.filterMap_cons, List.filterMap_nil, List.getElem?_toArray, List.getElem?_cons_succ, List.getElem?_cons_zero, Option.map_some]
  refine wpMix_load ?vma0 rfl (fun w' hS => ?yma0) ?kma0
  case yma0 =>
    obtain ⟨g0, g1, g2, g3, _⟩ := hS
    go_simp
    try rfl
  case kma0 =>
  go_simp
  refine wpMix_load ?vma1 rfl (fun w' hS => ?yma1) ?kma1
  case yma1 =>
    obtain ⟨g0, g1, g2, g3, _⟩ := hS
    go_simp
    try rfl
  case kma1 =>
  go_simp
  refine wpMix_load ?vma2 rfl (fun w' hS => ?yma2) ?kma2
  case yma2 =>
    obtain ⟨g0, g1, g2, g3, _⟩ := hS
    go_simp
    try rfl
  case kma2 =>
  go_simp
  obtain ⟨w5, hw5⟩ : ∃ w5, w5 = w4.drew := ⟨_, rfl⟩
  have hb5 : Below w4.heap.size w4 w5 := by rw [hw5]; exact (Below.refl _ _).drew
  rw [← hw5]
  clear hw5
  have HB5 := Lib.hid hb5
  clear hb5
  refine wpMix_keep rfl ?_
  go_wp2_with fail
  have HK0 := Lib.hid (kid_any (.mk 4 x a ks, .slice A n c) 0 w5 (by omega) (h.under (HB4.out.trans (HB5.out.mono HB4.out.size))))
  refine HK0.out.mono ?_
  rintro e w6 ⟨⟨kt, kv⟩, rfl, hkt, hki, hb6⟩
  simp only at hkt hki
  subst hkt
  obtain ⟨KA, kc, kq, rfl, _, _, _, _, hkz, _, _, _, hkT⟩ := hki.open_
  have HPRM := Lib.hid (params_any (kidT (.mk 4 x a ks) 0) KA kc kq w6 hkz hkT)
  have HB6 := Lib.hid (HB5.out.trans (hb6.mono HB5.out.size))
  clear hki hkz hkT hb6 HK0
  dsimp only [trV]
  refine ⟨HC.out _ HB6.out, ?_⟩
  refine wpMix_keep rfl ?_
  go_wp2_with fail
  refine HPRM.out.mono ?_
  rintro e w7 ⟨pv, rfl, hprm, hb7⟩
  obtain ⟨PA, pc, rfl, _⟩ := own_slice hprm
  obtain ⟨n3, hn3⟩ : ∃ n, n = (prmOf kq).length := ⟨_, rfl⟩
  rw [← hn3]
  have HB7 := Lib.hid (HB6.out.trans (hb7.mono HB6.out.size))
  clear hprm hn3 hb7 HPRM
  refine ⟨HC.out _ HB7.out, ?_⟩
  refine wpMix_keep rfl ?_
  go_wp2_with fail
  have HK2 := Lib.hid (kid_any (.mk 4 x a ks, .slice A n c) 2 w7 (by omega) (h.under (HB4.out.trans (HB7.out.mono HB4.out.size))))
  refine HK2.out.mono ?_
  rintro e w8 ⟨⟨kt, kv⟩, rfl, hkt, hki, hb8⟩
  simp only at hkt hki
  subst hkt
  have HTY := Lib.hid (typ_any (kidT (.mk 4 x a ks) 2) kv w8 hki)
  have HB8 := Lib.hid (HB7.out.trans (hb8.mono HB7.out.size))
  obtain ⟨KB, kd, kr, rfl, _⟩ := hki.open_
  clear hki hb8 HK2
  dsimp only [trV] at HTY ⊢
  refine ⟨HC.out _ HB8.out, ?_⟩
  refine wpMix_keep rfl ?_
  go_wp2_with fail
  refine HTY.out.mono ?_
  rintro e w9 ⟨u1, v1, rfl, hT1, hb9⟩
  obtain ⟨u1, v1, rfl, rfl⟩ := hT1.shape
  have HB9 := Lib.hid (HB8.out.trans (hb9.mono HB8.out.size))
  have HT1 := Lib.hid hT1
  have hs9 := HB8.out.size
  have HFR := Lib.hid (fun y (hy : Fr w8.heap.size w9.heap.size y) => (⟨Nat.le_trans (HB4.out.trans (HB8.out.mono HB4.out.size)).size hy.1, hy.2⟩ : Fr w.heap.size w9.heap.size y))
  clear hT1 hb9 HTY hs9
  refine ⟨HC.out _ HB9.out, ?_⟩
  refine wpMix_nil ?_
  simp only [opsAt, List.filterMap_cons, List.filterMap_nil, List.getElem?_toArray, List.getElem?_cons_succ, List.getElem?_cons_zero]
  have hy9 := (HB9.out.block _ (lt_of_heap HY4.out)).trans HY4.out
  have p0 : w9.cell? ⟨w.heap.size + 1, 0, none⟩ = some (.int .i64 0) := (Lib.cell_of_heap hy9 0).trans rfl
  have p1 : w9.cell? ⟨w.heap.size + 1, 1, none⟩ = some (.slice none 0 0) := (Lib.cell_of_heap hy9 1).trans rfl
  have p2 : w9.cell? ⟨w.heap.size + 1, 2, none⟩ = some (.slice none 0 0) := (Lib.cell_of_heap hy9 2).trans rfl
  have p3 : w9.cell? ⟨w.heap.size + 1, 3, none⟩ = some (.slice none 0 0) := (Lib.cell_of_heap hy9 3).trans rfl
  have p4 : w9.cell? ⟨w.heap.size + 1, 4, none⟩ = some (.string ⟨#[]⟩) := (Lib.cell_of_heap hy9 4).trans rfl
  have p5 : w9.cell? ⟨w.heap.size + 1, 5, none⟩ = some (.slice none 0 0) := (Lib.cell_of_heap hy9 5).trans rfl
  have p6 : w9.cell? ⟨w.heap.size + 1, 6, none⟩ = some (.string ⟨#[]⟩) := (Lib.cell_of_heap hy9 6).trans rfl
  have f0 := Lib.frozen_of_heap hy9 0
  have f1 := Lib.frozen_of_heap hy9 1
  have f2 := Lib.frozen_of_heap hy9 2
  have f3 := Lib.frozen_of_heap hy9 3
  have f4 := Lib.frozen_of_heap hy9 4
  have f5 := Lib.frozen_of_heap hy9 5
  have f6 := Lib.frozen_of_heap hy9 6
  have HY9 := Lib.hid hy9
  clear hy9
  go_wp2_with fail
  refine NoPanic.normal ?_
  go_wp2_with fail
  obtain ⟨wz, hwz⟩ : ∃ wz, wz = (((((((w9.setCell ⟨w.heap.size + 1, 0, none⟩ (.int .i64 2)).setCell ⟨w.heap.size + 1, 1, none⟩ (.slice PA n3 pc)).setCell ⟨w.heap.size + 1, 2, none⟩ (.slice none 0 0)).setCell ⟨w.heap.size + 1, 3, none⟩ (.slice TA n2 tc)).setCell ⟨w.heap.size + 1, 4, none⟩ (sv u1)).setCell ⟨w.heap.size + 1, 5, none⟩ (.slice v1.1 v1.2.1 v1.2.2)).setCell ⟨w.heap.size + 1, 6, none⟩ (.string ⟨#[]⟩)) := ⟨_, rfl⟩
  obtain ⟨hz, hkz⟩ := set_seven HY9.out (.int .i64 2) (.slice PA n3 pc) (.slice none 0 0) (.slice TA n2 tc) (sv u1) (.slice v1.1 v1.2.1 v1.2.2) (.string ⟨#[]⟩)
  have HHW := Lib.hid hwz
  rw [← hwz] at hz hkz
  clear hwz p0 p1 p2 p3 p4 p5 p6 f0 f1 f2 f3 f4 f5 f6
  have hsz := hkz.size
  have hb49 := (HB9.out : Below w4.heap.size w4 w9)
  have hsd := HB3.out.size
  have hs4 := HB4.out.size
  have hbz : Below w.heap.size w wz := kp_below (HB4.out.trans (HB9.out.mono HB4.out.size)) hkz fun y e => by omega
  have hlt : w.heap.size + 1 < w3.heap.size := HLT.out
  have hl4 := lt_of_heap HY4.out
  have hts := (HTS.out.keep (kept_below hb49 |>.sub fun y hy => hy.2)).keep (S := Fr w3.heap.size w4.heap.size) (hkz.kept fun y hy => ⟨Nat.lt_of_lt_of_le hy.2 hb49.size, fun e => by have := hy.1; omega⟩)
  have htr := HT1.out.keep (w' := wz) (hkz.kept fun y hy => ⟨hy.2, fun e => by have := hy.1; have := HB8.out.size; omega⟩)
  have HRES : Hid (SgRes (argTT (kidT (.mk 4 x a ks) 1)) (tyOf (kidT (.mk 4 x a ks) 2)) w (.returned (.agg #[.int .i64 2, .slice PA n3 pc, .slice none 0 0, .slice TA n2 tc, sv u1, .slice v1.1 v1.2.1 v1.2.2, .string ⟨#[]⟩])) wz) := Lib.hid (by
    refine ⟨(PA, n3, pc), TA, tc, vs, sv u1, .slice v1.1 v1.2.1 v1.2.2, by rw [← HN2.out], ?_, ?_, HLE.out.2.2, HLE.out.1, ?_, hbz⟩
    · exact hts.more fun y hy => ⟨by have := hy.1; omega, by have := hy.2; have := hb49.size; omega⟩
    · exact HLE.out.2.1
    · exact htr.more fun y hy => ⟨by have := hy.1; have := HB8.out.size; omega, by have := hy.2; omega⟩)
  have q0 : wz.cell? ⟨w.heap.size + 1, 0, none⟩ = some (.int .i64 2) := (Lib.cell_of_heap hz 0).trans rfl
  have q1 : wz.cell? ⟨w.heap.size + 1, 1, none⟩ = some (.slice PA n3 pc) := (Lib.cell_of_heap hz 1).trans rfl
  have q2 : wz.cell? ⟨w.heap.size + 1, 2, none⟩ = some (.slice none 0 0) := (Lib.cell_of_heap hz 2).trans rfl
  have q3 : wz.cell? ⟨w.heap.size + 1, 3, none⟩ = some (.slice TA n2 tc) := (Lib.cell_of_heap hz 3).trans rfl
  have q4 : wz.cell? ⟨w.heap.size + 1, 4, none⟩ = some (sv u1) := (Lib.cell_of_heap hz 4).trans rfl
  have q5 : wz.cell? ⟨w.heap.size + 1, 5, none⟩ = some (.slice v1.1 v1.2.1 v1.2.2) := (Lib.cell_of_heap hz 5).trans rfl
  have q6 : wz.cell? ⟨w.heap.size + 1, 6, none⟩ = some (.string ⟨#[]⟩) := (Lib.cell_of_heap hz 6).trans rfl
  rw [← HHW.out]
  refine bodyPost_ret (v := .agg #[.int .i64 2, .slice PA n3 pc, .slice none 0 0, .slice TA n2 tc, sv u1, .slice v1.1 v1.2.1 v1.2.2, .string ⟨#[]⟩]) ?_ rfl HRES.out
  clear HRES HHW hz hkz htr hts hbz
  simp [results, Try.results33, go_sem, q0, q1, q2, q3, q4, q5, q6]
end Go.Proofs.Ytiijlecidepneaa
