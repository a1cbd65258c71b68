/-
  The walk of recompileref11.Of at a function.
  Conditions: the argument reads as a tree of that kind.
-/
import Derived.Test.YtiijlecidepneaaSigE
import Derived.Test.YtiijlecidepneaaRfC
import Derived.Test.YtiijlecidepneaaRfD
namespace Go.Proofs.Ytiijlecidepneaa
open Go.RowKit

theorem three_blocks (w : World) (o1 o2 o3 : Obj) : (((w.alloc o1).alloc o2).alloc o3).heap[w.heap.size]? = some o1 ∧ (((w.alloc o1).alloc o2).alloc o3).heap[w.heap.size + 1]? = some o2 ∧ (((w.alloc o1).alloc o2).alloc o3).heap[w.heap.size + 1 + 1]? = some o3 ∧ Below w.heap.size w (((w.alloc o1).alloc o2).alloc o3) := by
  have hb : Below ((w.alloc o1).alloc o2).heap.size ((w.alloc o1).alloc o2) (((w.alloc o1).alloc o2).alloc o3) := (Below.refl _ _).alloc (Nat.le_refl _) _
  have hb1 : Below w.heap.size w ((w.alloc o1).alloc o2) := ((Below.refl _ _).alloc (Nat.le_refl _) _).alloc (by simp) _
  have hs : ((w.alloc o1).alloc o2).heap.size = w.heap.size + 1 + 1 := by simp
  obtain ⟨h1, h2⟩ := alloc2 w o1 o2
  refine ⟨(hb.block _ (by omega)).trans h1, (hb.block _ (by omega)).trans h2, ?_, hb1.alloc hb1.size _⟩
  have := alloc1 ((w.alloc o1).alloc o2) o3
  rwa [hs] at this
set_option maxHeartbeats 1600000 in
set_option maxRecDepth 100000 in
theorem rof_any (x : List UInt8) (A : Option Addr) (a : Int) (n c : Nat) (ks : List Tr) (w : World) (h : TrIs w (Lt w.heap.size) (.mk 4 x a ks) (.slice A n c)) (d : List UInt8) : Calls Try.prog 20 #[sv d, .agg #[.int .i64 4, sv x, .int .i64 a, .slice A n c]] w (SgRes (argTT (kidT (.mk 4 x a ks) 1)) (tyOf (kidT (.mk 4 x a ks) 2)) w) := by
  obtain ⟨w2, hw2⟩ : ∃ w2, w2 = ((w.alloc (.cells #[.int .i64 4, sv x, .int .i64 a, .slice A n c] 25)).alloc (.cells #[.int .i64 0, .slice none 0 0, .slice none 0 0, .slice none 0 0, .string ⟨#[]⟩, .slice none 0 0, .string ⟨#[]⟩] 39)).alloc (.cells #[.int .i64 0, .slice none 0 0, .slice none 0 0, .slice none 0 0, .string ⟨#[]⟩, .slice none 0 0, .string ⟨#[]⟩] 39) := ⟨_, rfl⟩
  obtain ⟨hx2, hy2, hz2, hb2⟩ := three_blocks w (.cells #[.int .i64 4, sv x, .int .i64 a, .slice A n c] 25) (.cells #[.int .i64 0, .slice none 0 0, .slice none 0 0, .slice none 0 0, .string ⟨#[]⟩, .slice none 0 0, .string ⟨#[]⟩] 39) (.cells #[.int .i64 0, .slice none 0 0, .slice none 0 0, .slice none 0 0, .string ⟨#[]⟩, .slice none 0 0, .string ⟨#[]⟩] 39)
  rw [← hw2] at hx2 hy2 hz2 hb2
  have HW2 := Lib.hid hw2
  have HB2 := Lib.hid hb2
  have HX2 := Lib.hid hx2
  have HY2 := Lib.hid hy2
  have HZ2 := Lib.hid hz2
  clear hw2 hb2 hx2 hy2 hz2
  go_enter Try.func20, Try.ntmps20
  go_wp2_with fail
  rw [← HW2.out]
  refine (rkid_any (.mk 4 x a ks, .slice A n c) 0 w2 (by omega) (h.under HB2.out)).mono ?_
  rintro e w3 ⟨⟨kt, kv⟩, rfl, hkt, hki, hb3⟩
  simp only at hkt hki
  subst hkt
  obtain ⟨KA, kc, kq, rfl, _, _, _, _, hkz, _, _, _, hkT⟩ := hki.open_
  have HPRM := Lib.hid (rparams_any (kidT (.mk 4 x a ks) 0) KA kc kq w3 hkz hkT)
  have HB3 := Lib.hid (HB2.out.trans (hb3.mono HB2.out.size))
  have HX3 := Lib.hid ((hb3.block _ (lt_of_heap HX2.out)).trans HX2.out)
  have HY3 := Lib.hid ((hb3.block _ (lt_of_heap HY2.out)).trans HY2.out)
  have HZ3 := Lib.hid ((hb3.block _ (lt_of_heap HZ2.out)).trans HZ2.out)
  clear hki hkT hb3 hkz HX2 HY2 HZ2
  dsimp only [trV]
  go_wp2_with fail
  refine HPRM.out.mono ?_
  rintro e w4 ⟨pv, rfl, hprm, hb4⟩
  obtain ⟨PA, pc, rfl, _⟩ := own_slice hprm
  obtain ⟨n3, hn3⟩ : ∃ n, n = (prmOf kq).length := ⟨_, rfl⟩
  rw [← hn3]
  have HB4 := Lib.hid (HB3.out.trans (hb4.mono HB3.out.size))
  have HX4 := Lib.hid ((hb4.block _ (lt_of_heap HX3.out)).trans HX3.out)
  have HY4 := Lib.hid ((hb4.block _ (lt_of_heap HY3.out)).trans HY3.out)
  have hz4 := ((hb4.block _ (lt_of_heap HZ3.out)).trans HZ3.out)
  have x0 : w4.cell? ⟨w.heap.size, 0, none⟩ = some (.int .i64 4) := (Lib.cell_of_heap HX4.out 0).trans rfl
  have x1 : w4.cell? ⟨w.heap.size, 1, none⟩ = some (sv x) := (Lib.cell_of_heap HX4.out 1).trans rfl
  have x2 : w4.cell? ⟨w.heap.size, 2, none⟩ = some (.int .i64 a) := (Lib.cell_of_heap HX4.out 2).trans rfl
  have x3 : w4.cell? ⟨w.heap.size, 3, none⟩ = some (.slice A n c) := (Lib.cell_of_heap HX4.out 3).trans rfl
  have z0 : w4.cell? ⟨w.heap.size + 1 + 1, 0, none⟩ = some (.int .i64 0) := (Lib.cell_of_heap hz4 0).trans rfl
  have z1 : w4.cell? ⟨w.heap.size + 1 + 1, 1, none⟩ = some (.slice none 0 0) := (Lib.cell_of_heap hz4 1).trans rfl
  have f0 := Lib.frozen_of_heap hz4 0
  have f1 := Lib.frozen_of_heap hz4 1
  have HZ4 := Lib.hid hz4
  clear hz4 HX3 HY3 HZ3 hprm hn3 hb4 HPRM
  go_wp2_with fail
  obtain ⟨w5, hw5⟩ : ∃ w5, w5 = ((w4.setCell ⟨w.heap.size + 1 + 1, 0, none⟩ (.int .i64 2)).setCell ⟨w.heap.size + 1 + 1, 1, none⟩ (.slice PA n3 pc)) := ⟨_, rfl⟩
  have hz5 := set_one (o := 1) (v := .slice PA n3 pc) (cs' := #[.int .i64 2, .slice PA n3 pc, .slice none 0 0, .slice none 0 0, .string ⟨#[]⟩, .slice none 0 0, .string ⟨#[]⟩]) (set_one (o := 0) (v := .int .i64 2) (cs' := #[.int .i64 2, .slice none 0 0, .slice none 0 0, .slice none 0 0, .string ⟨#[]⟩, .slice none 0 0, .string ⟨#[]⟩]) HZ4.out rfl) rfl
  have hk45 : Kp (fun y => y = w.heap.size + 1 + 1) w4 ((w4.setCell ⟨w.heap.size + 1 + 1, 0, none⟩ (.int .i64 2)).setCell ⟨w.heap.size + 1 + 1, 1, none⟩ (.slice PA n3 pc)) := (Kp.setCell (M := fun y => y = w.heap.size + 1 + 1) (o := 0) (Kp.refl _ w4) (fun _ => rfl) _).setCell (o := 1) (fun _ => rfl) _
  rw [← hw5] at hz5 hk45 ⊢
  have hb5 : Below w.heap.size w w5 := kp_below HB4.out hk45 fun y e => by omega
  have hx5 := (hk45.block _ (lt_of_heap HX4.out) (by omega)).trans HX4.out
  have hy5 := (hk45.block _ (lt_of_heap HY4.out) (by omega)).trans HY4.out
  have HB5 := Lib.hid hb5
  have HX5 := Lib.hid hx5
  have HY5 := Lib.hid hy5
  have HZ5 := Lib.hid hz5
  clear hw5 hk45 hb5 hx5 hy5 hz5 x0 x1 x2 x3 z0 z1 f0 f1 HX4 HY4 HZ4
  refine (rkid_any (.mk 4 x a ks, .slice A n c) 1 w5 (by omega) (h.under HB5.out)).mono ?_
  rintro e w6 ⟨⟨kt, kv⟩, rfl, hkt, hki, hb6⟩
  simp only at hkt hki
  subst hkt
  obtain ⟨KB, kd, kr, rfl, hkids, _, _, _, hkz, _, _, _, hkT⟩ := hki.open_
  have HARG := Lib.hid (rargs_any (kidT (.mk 4 x a ks) 1) KB kd kr w6 hkz hkT)
  have HTT := Lib.hid (argT_TT kr _ hkids)
  have HB6 := Lib.hid (HB5.out.trans (hb6.mono HB5.out.size))
  have HX6 := Lib.hid ((hb6.block _ (lt_of_heap HX5.out)).trans HX5.out)
  have HY6 := Lib.hid ((hb6.block _ (lt_of_heap HY5.out)).trans HY5.out)
  have HZ6 := Lib.hid ((hb6.block _ (lt_of_heap HZ5.out)).trans HZ5.out)
  clear hki hkT hb6 hkids HX5 HY5 HZ5
  dsimp only [trV]
  go_wp2_with fail
  refine HARG.out.mono ?_
  rintro e w7 ⟨nv, tv, vs, rfl, hS, hb7⟩
  rw [HTT.out] at hS
  obtain ⟨NA, nc, rfl, _⟩ := own_slice hS.names
  obtain ⟨TA, tc, rfl, _⟩ := own_slice hS.own
  have hlen : (argTT (kidT (.mk 4 x a ks) 1)).length ≤ 3518437208883 := by rw [← HTT.out]; unfold argT; rw [List.length_map]; exact Nat.le_trans (List.length_filter_le _ _) hkz
  have hle := own_le hS.own
  obtain ⟨n1, hn1⟩ : ∃ n, n = (argN kr).length := ⟨_, rfl⟩
  obtain ⟨n2, hn2⟩ : ∃ n, n = (argTT (kidT (.mk 4 x a ks) 1)).length := ⟨_, rfl⟩
  have HTS : Hid (Tys w7 (Fr w6.heap.size w7.heap.size) TA (argTT (kidT (.mk 4 x a ks) 1)) vs) := Lib.hid ⟨hS.len, Row.ofOwn hS.own fun g _ h1 h2 => ⟨h1, h2⟩, fun i t p ht hp => (hS.each i t p ht hp).more fun y hy => ⟨hy.1, hy.2.1⟩⟩
  have HLT := Lib.hid (lt_of_heap HZ6.out)
  have HB7 := Lib.hid (HB6.out.trans (hb7.mono HB6.out.size))
  have HX7 := Lib.hid ((hb7.block _ (lt_of_heap HX6.out)).trans HX6.out)
  have HY7 := Lib.hid ((hb7.block _ (lt_of_heap HY6.out)).trans HY6.out)
  have hz7 := ((hb7.block _ (lt_of_heap HZ6.out)).trans HZ6.out)
  have HLE := Lib.hid (And.intro hlen hle)
  rw [← hn2]
  rw [← hn1]
  have HN2 := Lib.hid hn2
  have x0 : w7.cell? ⟨w.heap.size, 0, none⟩ = some (.int .i64 4) := (Lib.cell_of_heap HX7.out 0).trans rfl
  have x1 : w7.cell? ⟨w.heap.size, 1, none⟩ = some (sv x) := (Lib.cell_of_heap HX7.out 1).trans rfl
  have x2 : w7.cell? ⟨w.heap.size, 2, none⟩ = some (.int .i64 a) := (Lib.cell_of_heap HX7.out 2).trans rfl
  have x3 : w7.cell? ⟨w.heap.size, 3, none⟩ = some (.slice A n c) := (Lib.cell_of_heap HX7.out 3).trans rfl
  have z3 : w7.cell? ⟨w.heap.size + 1 + 1, 3, none⟩ = some (.slice none 0 0) := (Lib.cell_of_heap hz7 3).trans rfl
  have f3 := Lib.frozen_of_heap hz7 3
  have HZ7 := Lib.hid hz7
  have HB67 := Lib.hid hb7
  clear hS hlen hle hn1 hn2 hz7 hb7 hkz HX6 HY6 HZ6 HARG
  go_wp2_with fail
  obtain ⟨w8, hw8⟩ : ∃ w8, w8 = w7.setCell ⟨w.heap.size + 1 + 1, 3, none⟩ (.slice TA n2 tc) := ⟨_, rfl⟩
  have hz8 := set_one (o := 3) (v := .slice TA n2 tc) (cs' := #[.int .i64 2, .slice PA n3 pc, .slice none 0 0, .slice TA n2 tc, .string ⟨#[]⟩, .slice none 0 0, .string ⟨#[]⟩]) HZ7.out rfl
  have hk78 : Kp (fun y => y = w.heap.size + 1 + 1) w7 (w7.setCell ⟨w.heap.size + 1 + 1, 3, none⟩ (.slice TA n2 tc)) := (Kp.setCell (M := fun y => y = w.heap.size + 1 + 1) (o := 3) (Kp.refl _ w7) (fun _ => rfl) _)
  rw [← hw8] at hz8 hk78 ⊢
  have hlt := HLT.out
  have HTS8 := Lib.hid (HTS.out.keep (hk78.kept fun y hy => ⟨hy.2, fun e => by have := hy.1; omega⟩))
  have HB8 : Hid (Below w.heap.size w w8) := Lib.hid (kp_below HB7.out hk78 fun y e => by omega)
  have HX8 := Lib.hid ((hk78.block _ (lt_of_heap HX7.out) (by omega)).trans HX7.out)
  have HY8 := Lib.hid ((hk78.block _ (lt_of_heap HY7.out) (by omega)).trans HY7.out)
  have HZ8 := Lib.hid hz8
  have HS8 := Lib.hid hk78.size
  clear hw8 hk78 hz8 hlt x0 x1 x2 x3 z3 f3 HX7 HY7 HZ7
  refine (rkid_any (.mk 4 x a ks, .slice A n c) 2 w8 (by omega) (h.under HB8.out)).mono ?_
  rintro e w9 ⟨⟨kt, kv⟩, rfl, hkt, hki, hb9⟩
  simp only at hkt hki
  subst hkt
  have HTY := Lib.hid (rtyp_any (kidT (.mk 4 x a ks) 2) kv w9 hki)
  obtain ⟨KC, ke, ks1, rfl, _⟩ := hki.open_
  have HB89 := Lib.hid hb9
  clear hki hb9
  dsimp only [trV] at HTY ⊢
  go_wp2_with fail
  refine HTY.out.mono ?_
  rintro e w10 ⟨u1, v1, rfl, hT1, hb10⟩
  obtain ⟨u1, v1, rfl, rfl⟩ := hT1.shape
  have hb810 := HB89.out.trans (hb10.mono HB89.out.size)
  have HS10 := Lib.hid (And.intro HB89.out.size hb10.size)
  have HY10 := Lib.hid ((hb810.block _ (lt_of_heap HY8.out)).trans HY8.out)
  have hz10 := ((hb810.block _ (lt_of_heap HZ8.out)).trans HZ8.out)
  have hy10 := HY10.out
  have HB810 := Lib.hid hb810
  have HT1 := Lib.hid hT1
  have g0 : w10.cell? ⟨w.heap.size + 1, 0, none⟩ = some (.int .i64 0) := (Lib.cell_of_heap hy10 0).trans rfl
  have g1 : w10.cell? ⟨w.heap.size + 1, 1, none⟩ = some (.slice none 0 0) := (Lib.cell_of_heap hy10 1).trans rfl
  have g2 : w10.cell? ⟨w.heap.size + 1, 2, none⟩ = some (.slice none 0 0) := (Lib.cell_of_heap hy10 2).trans rfl
  have g3 : w10.cell? ⟨w.heap.size + 1, 3, none⟩ = some (.slice none 0 0) := (Lib.cell_of_heap hy10 3).trans rfl
  have g4 : w10.cell? ⟨w.heap.size + 1, 4, none⟩ = some (.string ⟨#[]⟩) := (Lib.cell_of_heap hy10 4).trans rfl
  have g5 : w10.cell? ⟨w.heap.size + 1, 5, none⟩ = some (.slice none 0 0) := (Lib.cell_of_heap hy10 5).trans rfl
  have g6 : w10.cell? ⟨w.heap.size + 1, 6, none⟩ = some (.string ⟨#[]⟩) := (Lib.cell_of_heap hy10 6).trans rfl
  have f0 := Lib.frozen_of_heap hy10 0
  have f1 := Lib.frozen_of_heap hy10 1
  have f2 := Lib.frozen_of_heap hy10 2
  have f3 := Lib.frozen_of_heap hy10 3
  have f4 := Lib.frozen_of_heap hy10 4
  have f5 := Lib.frozen_of_heap hy10 5
  have f6 := Lib.frozen_of_heap hy10 6
  have z0 : w10.cell? ⟨w.heap.size + 1 + 1, 0, none⟩ = some (.int .i64 2) := (Lib.cell_of_heap hz10 0).trans rfl
  have z1 : w10.cell? ⟨w.heap.size + 1 + 1, 1, none⟩ = some (.slice PA n3 pc) := (Lib.cell_of_heap hz10 1).trans rfl
  have z2 : w10.cell? ⟨w.heap.size + 1 + 1, 2, none⟩ = some (.slice none 0 0) := (Lib.cell_of_heap hz10 2).trans rfl
  have z3 : w10.cell? ⟨w.heap.size + 1 + 1, 3, none⟩ = some (.slice TA n2 tc) := (Lib.cell_of_heap hz10 3).trans rfl
  have z4 : w10.cell? ⟨w.heap.size + 1 + 1, 4, none⟩ = some (.string ⟨#[]⟩) := (Lib.cell_of_heap hz10 4).trans rfl
  have z5 : w10.cell? ⟨w.heap.size + 1 + 1, 5, none⟩ = some (.slice none 0 0) := (Lib.cell_of_heap hz10 5).trans rfl
  have z6 : w10.cell? ⟨w.heap.size + 1 + 1, 6, none⟩ = some (.string ⟨#[]⟩) := (Lib.cell_of_heap hz10 6).trans rfl
  have e4 := Lib.frozen_of_heap hz10 4
  have e5 := Lib.frozen_of_heap hz10 5
  have HZ10 := Lib.hid hz10
  clear hb810 hz10 hy10 hT1 hb10 HTY HX8 HY8 HZ8
  go_wp2_with fail
  obtain ⟨wy, hwy⟩ : ∃ wy, wy = (w10.setCell ⟨w.heap.size + 1 + 1, 4, none⟩ (sv u1)).setCell ⟨w.heap.size + 1 + 1, 5, none⟩ (.slice v1.1 v1.2.1 v1.2.2) := ⟨_, rfl⟩
  have hky : Kp (fun y => y = w.heap.size + 1 + 1) w10 wy := by
    rw [hwy]
    exact (Kp.setCell (M := fun y => y = w.heap.size + 1 + 1) (o := 4) (Kp.refl _ w10) (fun _ => rfl) _).setCell (o := 5) (fun _ => rfl) _
  have hyy := (hky.block _ (lt_of_heap HY10.out) (by omega)).trans HY10.out
  obtain ⟨wz, hwz⟩ : ∃ wz, wz = (((((((wy.setCell ⟨w.heap.size + 1, 0, none⟩ (.int .i64 2)).setCell ⟨w.heap.size + 1, 1, none⟩ (.slice PA n3 pc)).setCell ⟨w.heap.size + 1, 2, none⟩ (.slice none 0 0)).setCell ⟨w.heap.size + 1, 3, none⟩ (.slice TA n2 tc)).setCell ⟨w.heap.size + 1, 4, none⟩ (sv u1)).setCell ⟨w.heap.size + 1, 5, none⟩ (.slice v1.1 v1.2.1 v1.2.2)).setCell ⟨w.heap.size + 1, 6, none⟩ (.string ⟨#[]⟩)) := ⟨_, rfl⟩
  obtain ⟨hz, hkz0⟩ := set_seven hyy (.int .i64 2) (.slice PA n3 pc) (.slice none 0 0) (.slice TA n2 tc) (sv u1) (.slice v1.1 v1.2.1 v1.2.2) (.string ⟨#[]⟩)
  have HHW := Lib.hid hwz
  have HHY := Lib.hid hwy
  rw [← hwz] at hz hkz0
  have hkz : Kp (fun y => y = w.heap.size + 1 ∨ y = w.heap.size + 1 + 1) w10 wz := (hky.more fun _ _ e => .inr e).trans hkz0 fun _ _ e => .inl e
  clear hwz hwy z0 z1 z2 z3 z4 z5 z6 g0 g1 g2 g3 g4 g5 g6 f0 f1 f2 f3 f4 f5 f6 e4 e5 hky hyy hkz0
  have hb810 := HB810.out
  have hlt := HLT.out
  have hs67 := HB67.out.size
  have hs8 := HS8.out
  obtain ⟨hs9, hs10⟩ := HS10.out
  have hsz := hkz.size
  have hbz : Below w.heap.size w wz := kp_below (HB8.out.trans (hb810.mono HB8.out.size)) hkz fun y e => by omega
  have hts := (HTS8.out.keep (kept_below hb810 |>.sub fun y hy => Nat.lt_of_lt_of_le hy.2 hs8)).keep (S := Fr w6.heap.size w7.heap.size) (hkz.kept fun y hy => ⟨by have := hy.2; have := hb810.size; omega, fun e => by have := hy.1; omega⟩)
  have htr := HT1.out.keep (w' := wz) (hkz.kept fun y hy => ⟨hy.2, fun e => by have := hy.1; omega⟩)
  have HRES : Hid (SgRes (argTT (kidT (.mk 4 x a ks) 1)) (tyOf (kidT (.mk 4 x a ks) 2)) w (.returned (.agg #[.int .i64 2, .slice PA n3 pc, .slice none 0 0, .slice TA n2 tc, sv u1, .slice v1.1 v1.2.1 v1.2.2, .string ⟨#[]⟩])) wz) := Lib.hid (by
    refine ⟨(PA, n3, pc), TA, tc, vs, sv u1, .slice v1.1 v1.2.1 v1.2.2, by rw [← HN2.out], ?_, ?_, HLE.out.2.2, HLE.out.1, ?_, hbz⟩
    · exact hts.more fun y hy => ⟨by have := hy.1; omega, by have := hy.2; have := hb810.size; omega⟩
    · exact HLE.out.2.1
    · exact htr.more fun y hy => ⟨by have := hy.1; omega, by have := hy.2; omega⟩)
  have q0 : wz.cell? ⟨w.heap.size + 1, 0, none⟩ = some (.int .i64 2) := (Lib.cell_of_heap hz 0).trans rfl
  have q1 : wz.cell? ⟨w.heap.size + 1, 1, none⟩ = some (.slice PA n3 pc) := (Lib.cell_of_heap hz 1).trans rfl
  have q2 : wz.cell? ⟨w.heap.size + 1, 2, none⟩ = some (.slice none 0 0) := (Lib.cell_of_heap hz 2).trans rfl
  have q3 : wz.cell? ⟨w.heap.size + 1, 3, none⟩ = some (.slice TA n2 tc) := (Lib.cell_of_heap hz 3).trans rfl
  have q4 : wz.cell? ⟨w.heap.size + 1, 4, none⟩ = some (sv u1) := (Lib.cell_of_heap hz 4).trans rfl
  have q5 : wz.cell? ⟨w.heap.size + 1, 5, none⟩ = some (.slice v1.1 v1.2.1 v1.2.2) := (Lib.cell_of_heap hz 5).trans rfl
  have q6 : wz.cell? ⟨w.heap.size + 1, 6, none⟩ = some (.string ⟨#[]⟩) := (Lib.cell_of_heap hz 6).trans rfl
  rw [← HHY.out, ← HHW.out]
  refine bodyPost_ret (v := .agg #[.int .i64 2, .slice PA n3 pc, .slice none 0 0, .slice TA n2 tc, sv u1, .slice v1.1 v1.2.1 v1.2.2, .string ⟨#[]⟩]) ?_ rfl HRES.out
  clear HRES HHW HHY hz hkz htr hts hbz
  simp [results, Try.results20, go_sem, q0, q1, q2, q3, q4, q5, q6]
end Go.Proofs.Ytiijlecidepneaa
