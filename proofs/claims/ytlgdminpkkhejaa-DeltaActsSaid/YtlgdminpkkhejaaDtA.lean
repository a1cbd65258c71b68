/-
  The walks of delta.Apply and delta.Empty.
  Conditions: the messages and the difference lie in memory; there are at most 10^5 in each list.
-/
import Derived.Test.YtlgdminpkkhejaaDtF
namespace Go.Proofs.Ytlgdminpkkhejaa
open Go.RowKit

set_option maxHeartbeats 1000000 in
set_option maxRecDepth 100000 in
theorem empty_any (S : Nat → Prop) (d : Dl) (v : Value) (w : World) (h : DlV w S v d) (hl : d.gone.length ≤ 1000000 ∧ d.come.length ≤ 1000000 ∧ d.moved.length ≤ 1000000) :
    Calls Try.prog 20 #[v] w fun e w' => e = .returned (.bool (decide (d.gone.length + d.come.length + d.moved.length = 0))) ∧ Below w.heap.size w w' := by
  obtain ⟨A1, A2, A3, c1, c2, c3, rfl, _⟩ := h
  obtain ⟨a, ha⟩ : ∃ a, a = d.gone.length := ⟨_, rfl⟩
  obtain ⟨b, hb⟩ : ∃ b, b = d.come.length := ⟨_, rfl⟩
  obtain ⟨c, hc⟩ : ∃ c, c = d.moved.length := ⟨_, rfl⟩
  rw [← ha, ← hb, ← hc] at hl ⊢
  have hbw : Below w.heap.size w (w.alloc (.cells #[.slice A1 a c1, .slice A2 b c2, .slice A3 c c3] 25)) := (Below.refl _ _).alloc (Nat.le_refl _) _
  have HBW := Lib.hid hbw
  have HQ : Hid (((a : Int) + (b : Int) + (c : Int) == 0) = decide (a + b + c = 0)) := Lib.hid (by
    by_cases h : a + b + c = 0
    · rw [decide_eq_true h]; simp; omega
    · rw [decide_eq_false h]; simp; omega)
  clear ha hb hc hbw
  go_enter Try.func20, Try.ntmps20
  go_wp2
  go_ret
  refine ⟨?_, HBW.out⟩
  simp
  rw [HQ.out]
  by_cases h1 : a = 0 <;> by_cases h2 : b = 0 <;> by_cases h3 : c = 0 <;> simp [h1, h2, h3]
/-- What Apply hands back. -/
def ApRes (r : Option (List Msg)) (w : World) (e : Ending) (w' : World) : Prop :=
  (∃ v l, r = some l ∧ e = .returned (.tuple #[v, .int .i64 0]) ∧ w'.ownsRow w.heap.size 40 3 v l.length (flt msC l) ∧ Below w.heap.size w w') ∨ (r = none ∧ e = .returned (.tuple #[.slice none 0 0, .int .i64 49]) ∧ Below w.heap.size w w')
theorem mv_box {w : World} {b : Nat} {x : Mv} {T : TypeId} {cs : Array Value} (h : w.heap[b]? = some (.cells cs T (0, 0))) (hc : cs = (mvC x).toArray) : MvAt w ⟨b, 0, none⟩ x := by
  subst hc
  exact ⟨(Lib.cell_of_heap h _).trans rfl, (Lib.cell_of_heap h _).trans rfl, (Lib.cell_of_heap h _).trans rfl, (Lib.cell_of_heap h _).trans rfl, (Lib.cell_of_heap h _).trans rfl⟩
set_option maxHeartbeats 3200000 in
set_option maxRecDepth 100000 in
theorem apply_any (old : List Msg) (d : Dl) (v : Value) (A : Option Addr) (c : Nat) (w : World) (hl : old.length ≤ 100000) (hc : A = none → c = 0) (h : Row w (Lt w.heap.size) A (flt msC old)) (hD : DlV w (Lt w.heap.size) v d) (hdl : d.gone.length ≤ 100000 ∧ d.come.length ≤ 100000 ∧ d.moved.length ≤ 100000) :
    Calls Try.prog 18 #[.slice A old.length c, v] w (ApRes (applyM old d) w) := by
  obtain ⟨A1, A2, A3, c1, c2, c3, rfl, hn1, hn2, hc1, hc2, hc3, hr1, hr2, hr3⟩ := hD
  obtain ⟨w0, hw0⟩ : ∃ w0, w0 = w.alloc (.cells #[.slice A1 d.gone.length c1, .slice A2 d.come.length c2, .slice A3 d.moved.length c3] 25) := ⟨_, rfl⟩
  have hb0 : Below w.heap.size w w0 := by rw [hw0]; exact (Below.refl _ _).alloc (Nat.le_refl _) _
  have hx0 : w0.heap[w.heap.size]? = some (.cells #[.slice A1 d.gone.length c1, .slice A2 d.come.length c2, .slice A3 d.moved.length c3] 25 (0, 0)) := by rw [hw0]; exact alloc1 _ _
  obtain ⟨a, ha⟩ : ∃ a, a = d.gone.length := ⟨_, rfl⟩
  obtain ⟨b, hb⟩ : ∃ b, b = d.come.length := ⟨_, rfl⟩
  obtain ⟨m, hm⟩ : ∃ m, m = d.moved.length := ⟨_, rfl⟩
  obtain ⟨n, hn⟩ : ∃ n, n = old.length := ⟨_, rfl⟩
  have HR := Lib.hid (h.below hb0)
  have HR1 := Lib.hid (hr1.below hb0)
  have HR2 := Lib.hid (hr2.below hb0)
  have HR3 := Lib.hid (hr3.below hb0)
  rw [← ha, ← hb, ← hm] at hdl hw0 hx0 ⊢
  rw [← ha] at hc1
  rw [← hb] at hc2
  rw [← hn] at hl ⊢
  have HA := Lib.hid ha
  have HBB := Lib.hid hb
  have HM := Lib.hid hm
  have HN := Lib.hid hn
  have HW0 := Lib.hid hw0
  have HX0 := Lib.hid hx0
  have HB0 := Lib.hid hb0
  have HCC := Lib.hid (And.intro hc (And.intro hn1 hn2))
  have hol := lt_of_heap hx0
  obtain ⟨i0, hi, hz0, hz1, hz2⟩ := info_parts infoMs
  clear ha hb hm hn hw0 hx0 hb0 h hr1 hr2 hr3 hc hn1 hn2 hc1 hc2 hc3
  go_enter Try.func18, Try.ntmps18
  go_wp2_with fail
  rw [← HW0.out]
  have HCL : Hid (AtCells [(⟨w.heap.size, 0, none⟩, .slice A1 a c1), (⟨w.heap.size, 1, none⟩, .slice A2 b c2)] w0) := Lib.hid ⟨(Lib.cell_of_heap HX0.out _).trans rfl, (Lib.cell_of_heap HX0.out _).trans rfl, trivial⟩
  refine wp_region_held' (AtCells [(⟨w.heap.size, 0, none⟩, .slice A1 a c1), (⟨w.heap.size, 1, none⟩, .slice A2 b c2)]) [] [0, 1, 3, 4] [2, 5] [6, 7] (by kernel_rfl) (by kernel_rfl) ?s0 ?h0
  case s0 => exact HCL.out.below (Below.refl _ w0).drew
  case h0 =>
  simp only [opsAt, List.filterMap_cons, List.filterMap_nil, List.getElem?_toArray, List.getElem?_cons_succ, List.getElem?_cons_zero]
  refine wpFloat_nil ?_
  refine wpLoad_step ?va0 rfl (fun w' hS => ?ya0) ?ka0
  case ya0 =>
    obtain ⟨g0, g1, _⟩ := hS
    go_simp
    try rfl
  case ka0 =>
  go_simp
  refine wpLoad_step ?va1 rfl (fun w' hS => ?ya1) ?ka1
  case ya1 =>
    obtain ⟨g0, g1, _⟩ := hS
    go_simp
    try rfl
  case ka1 =>
  go_simp
  refine wpLoad_step ?va2 rfl (fun w' hS => ?ya2) ?ka2
  case ya2 =>
    obtain ⟨g0, g1, _⟩ := hS
    go_simp
    try rfl
  case ka2 =>
  go_simp
  refine wpLoad_step ?va3 rfl (fun w' hS => ?ya3) ?ka3
  case ya3 =>
    obtain ⟨g0, g1, _⟩ := hS
    go_simp
    try rfl
  case ka3 =>
  go_simp
  refine wpLoad_nil ?_
  refine wpKeep_step rfl ?_
  go_simp
  have hcl1 := clone_any (Lt w0.heap.size) d.gone A1 c1 w0.drew (by rw [← HA.out]; omega) HCC.out.2.1 HR1.out
  rw [← HA.out] at hcl1
  refine hcl1.mono ?_
  clear hcl1
  rintro e w1 ⟨v1, rfl, hown1, hb1⟩
  rw [← HA.out] at hown1
  obtain ⟨GA, gc, rfl, _⟩ := own_slice hown1
  have hb1 : Below w0.heap.size w0 w1 := (Below.refl _ w0).drew.trans hb1
  refine ⟨HCL.out.below hb1, ?_⟩
  refine wpKeep_step rfl ?_
  go_simp
  have hcl2 := clone_any (Lt w1.heap.size) d.come A2 c2 w1 (by rw [← HBB.out]; omega) HCC.out.2.2 (HR2.out.below hb1)
  rw [← HBB.out] at hcl2
  refine hcl2.mono ?_
  clear hcl2
  rintro e w2 ⟨v2, rfl, hown2, hb2⟩
  rw [← HBB.out] at hown2
  obtain ⟨CA, cc, rfl, _⟩ := own_slice hown2
  have hb02 := hb1.trans (hb2.mono hb1.size)
  refine ⟨HCL.out.below hb02, ?_⟩
  have hown1 : w1.ownsRow w0.heap.size 40 3 (.slice GA a gc) a (flt msC d.gone) := hown1
  have HO1 := Lib.hid ((Kp.ofBelow (M := fun _ => False) hb2).own hown1 fun _ _ e => e)
  have HO2 := Lib.hid (ownMono hown2 hb1.size)
  have HNE : Hid (∀ g, (Value.slice GA a gc).ownBlock = some g → (Value.slice CA b cc).ownBlock ≠ some g) := Lib.hid fun g e1 e2 => by
    have h1 := (hown1.lt g e1).2
    have h2 := (hown2.lt g e2).1
    omega
  have HB2 := Lib.hid hb02
  clear hown1 hown2 hb1 hb2 hb02
  refine wpKeep_nil ?_
  go_wp2
  refine NoPanic.normal ?_
  have HX2 := Lib.hid ((HB2.out.block _ (lt_of_heap HX0.out)).trans HX0.out)
  have x2 : w2.cell? ⟨w.heap.size, 2, none⟩ = some (.slice A3 m c3) := (Lib.cell_of_heap HX2.out _).trans rfl
  go_wp2_with fail
  go_loopw [6, 7, 21] (fun av cv i wr => ∃ k : Nat, k ≤ m ∧ i = .int .i64 k ∧ Below w0.heap.size w0 wr ∧ wr.ownsRow w0.heap.size 40 3 av (a + k) (flt msC (d.gone ++ (d.moved.take k).map srcOf)) ∧ wr.ownsRow w0.heap.size 40 3 cv (b + k) (flt msC (d.come ++ (d.moved.take k).map (·.2.2))) ∧ ∀ g, av.ownBlock = some g → cv.ownBlock ≠ some g) (fun _ _ i _ => m - (intOf i).toNat)
  case atStart => exact ⟨0, by omega, rfl, HB2.out, by simpa using HO1.out, by simpa using HO2.out, HNE.out⟩
  case round =>
    obtain ⟨k, hkm, rfl, hB, hoa, hoc, hne⟩ := hrel
    obtain ⟨GA', gc', rfl, _⟩ := own_slice hoa
    obtain ⟨CA', cc', rfl, hcn⟩ := own_slice hoc
    have hbs := hB.size
    by_cases hlt : k < m
    · obtain ⟨x, hx⟩ : ∃ x, d.moved[k]? = some x := ⟨_, List.getElem?_eq_getElem (by rw [← HM.out]; exact hlt)⟩
      obtain ⟨ad, hA, _, a0, a1, a2, a3, a4⟩ := mv_at (HR3.out.below hB) hx
      have hik : (0 : Int) ≤ (k : Int) ∧ (k : Int) < (m : Int) := ⟨by omega, by omega⟩
      have HTK : Hid (d.moved.take (k + 1) = d.moved.take k ++ [x]) := Lib.hid (take_snoc hx)
      have hbw := (Below.refl wr.heap.size wr).alloc (Nat.le_refl _) (.cells #[.int .i64 x.1, .int .i64 x.2.1, .int .i64 x.2.2.1, .int .i64 x.2.2.2.1, sv x.2.2.2.2] 42)
      have hxw := alloc1 wr (.cells #[.int .i64 x.1, .int .i64 x.2.1, .int .i64 x.2.2.1, .int .i64 x.2.2.2.1, sv x.2.2.2.2] 42)
      obtain ⟨ws, hws⟩ : ∃ ws, ws = wr.alloc (.cells #[.int .i64 x.1, .int .i64 x.2.1, .int .i64 x.2.2.1, .int .i64 x.2.2.2.1, sv x.2.2.2.2] 42) := ⟨_, rfl⟩
      rw [← hws] at hbw hxw
      have hss : ws.heap.size = wr.heap.size + 1 := by rw [hws]; simp
      have hks : Kp (fun _ => False) wr ws := Kp.ofBelow hbw
      have hoa1 := (hks.own hoa fun _ _ e => e).alloc (.cells #[.int .i64 x.1, .int .i64 x.2.2.2.1, sv x.2.2.2.2] 40)
      have hnew := World.news_of_block (cs := #[.int .i64 x.1, .int .i64 x.2.2.2.1, sv x.2.2.2.2]) (alloc1 ws (.cells #[.int .i64 x.1, .int .i64 x.2.2.2.1, sv x.2.2.2.2] 40))
      rw [hss] at hnew
      rw [hws] at hoa1 hnew
      have HOA := Lib.hid hoa1
      have HNEW := Lib.hid hnew
      have HOC := Lib.hid (hks.own hoc fun _ _ e => e)
      have HOAW := Lib.hid hoa
      have HOCW := Lib.hid hoc
      have HNE2 := Lib.hid hne
      have HXW := Lib.hid hxw
      have HWS := Lib.hid hws
      have HSS := Lib.hid hss
      have HBS := Lib.hid (hB.trans (hbw.mono hbs))
      have HBW := Lib.hid hbw
      rw [hA]
      have HAD := Lib.hid hA
      clear hx hA hB hoa hoc hne hbw hxw hws hks hoa1 hnew hcn hss x2
      go_wp2_with (at_builtin; go_loud (refine wpList_append_lies _ rfl _ _ 22 rfl w0.heap.size 40 i0 _ 3 32 Try.underlying22 hi hz0 hz1 hz2 rfl (by omega) (.slice GA' (a + k) gc') (a + k) (flt msC (d.gone ++ (d.moved.take k).map srcOf)) rfl HOA.out ⟨wr.heap.size + 1, 0, none⟩ 1 1 [.int .i64 x.1, .int .i64 x.2.2.2.1, sv x.2.2.2.2] rfl rfl HNEW.out ?d2 (by omega) ?d3 ?d4 ?d5 _ rfl ?_))
      case d2 => exact ⟨rfl, rfl, rfl⟩
      case d3 => unfold maxLen; omega
      case d4 => omega
      case d5 => have := HSS.out; first | omega | (simp; omega)
      intro vg vcap w10 hown10 hgr hat _
      have hk10 : Kp (fun y => (Value.slice GA' (a + k) gc').ownBlock = some y) ws w10 := by
        rw [HWS.out]
        exact ((Kp.refl _ _).alloc (.cells #[.int .i64 x.1, .int .i64 x.2.2.2.1, sv x.2.2.2.2] 40)).grown hgr fun r hr _ => hr
      have hx10 := hk10.heap HXW.out fun e => by have := (HOAW.out.lt _ e).2; omega
      obtain ⟨_, _, m2, m3, m4⟩ := mv_box hx10 rfl
      have hoc10 := hk10.own HOC.out fun g hg e => HNE2.out g e hg
      have hoc1 := hoc10.alloc (.cells #[.int .i64 x.2.2.1, .int .i64 x.2.2.2.1, sv x.2.2.2.2] 40)
      have hnew := World.news_of_block (cs := #[.int .i64 x.2.2.1, .int .i64 x.2.2.2.1, sv x.2.2.2.2]) (alloc1 w10 (.cells #[.int .i64 x.2.2.1, .int .i64 x.2.2.2.1, sv x.2.2.2.2] 40))
      have HOC1 := Lib.hid hoc1
      have HNEWB := Lib.hid hnew
      have HA10 := Lib.hid hown10
      have HAT := Lib.hid hat
      have hs10 := hk10.size
      have HK10 := Lib.hid hk10
      have hss := HSS.out
      clear hown10 hgr hat hk10 hx10 hoc10 hoc1 hnew HOA HNEW
      clear hss
      go_wp2_with (at_builtin; go_loud (refine wpList_append_lies _ rfl _ _ 22 rfl w0.heap.size 40 i0 _ 3 32 Try.underlying22 hi hz0 hz1 hz2 rfl (by omega) (.slice CA' (b + k) cc') (b + k) (flt msC (d.come ++ (d.moved.take k).map (·.2.2))) rfl HOC1.out ⟨w10.heap.size, 0, none⟩ 1 1 [.int .i64 x.2.2.1, .int .i64 x.2.2.2.1, sv x.2.2.2.2] rfl rfl HNEWB.out ?e2 (by omega) ?e3 ?e4 ?e5 _ rfl ?_))
      case e2 => exact ⟨rfl, rfl, rfl⟩
      case e3 => unfold maxLen; omega
      case e4 => omega
      case e5 => have := HSS.out; simp; omega
      intro vh vdap w11 hown11 hgr hat _
      have hss := HSS.out
      have hk11 : Kp (fun y => (Value.slice CA' (b + k) cc').ownBlock = some y) w10 w11 := ((Kp.refl _ _).alloc (.cells #[.int .i64 x.2.2.1, .int .i64 x.2.2.2.1, sv x.2.2.2.2] 40)).grown hgr fun r hr _ => hr
      have hca := HOCW.out.lt
      have haa := HOAW.out.lt
      have hoaN := hk11.own HA10.out fun g hg e => by
        have hg : some vg = some g := hg
        rcases HAT.out with h | h
        · exact HNE2.out g (h.trans hg) e
        · have := (hca g e).2
          have := Option.some.inj hg
          omega
      have hneN : ∀ g, (Value.slice (some ⟨vg, 0, none⟩) (a + k + 1) vcap).ownBlock = some g → (Value.slice (some ⟨vh, 0, none⟩) (b + k + 1) vdap).ownBlock ≠ some g := fun g e1 e2 => by
        have e1 : some vg = some g := e1
        have e2 : some vh = some g := e2
        have := Option.some.inj e1
        have := Option.some.inj e2
        rcases HAT.out with h | h
        · rcases hat with h2 | h2
          · exact HNE2.out g (h.trans e1) (h2.trans e2)
          · have := (haa vg h).2; omega
        · rcases hat with h2 | h2
          · have := (hca vh h2).2; omega
          · have := (HA10.out.lt vg rfl).2; omega
      have HBN : Hid (Below w0.heap.size w0 w11) := Lib.hid (kp_below (kp_below HBS.out HK10.out fun y e => (haa y e).1) hk11 fun y e => (hca y e).1)
      have e1 : d.gone ++ (d.moved.take (k + 1)).map srcOf = d.gone ++ (d.moved.take k).map srcOf ++ [srcOf x] := by rw [HTK.out, List.map_append, List.append_assoc]; rfl
      have e2 : d.come ++ (d.moved.take (k + 1)).map (·.2.2) = d.come ++ (d.moved.take k).map (·.2.2) ++ [x.2.2] := by rw [HTK.out, List.map_append, List.append_assoc]; rfl
      have HREL : Hid (w11.ownsRow w0.heap.size 40 3 (.slice (some ⟨vg, 0, none⟩) (a + k + 1) vcap) (a + (k + 1)) (flt msC (d.gone ++ (d.moved.take (k + 1)).map srcOf)) ∧ w11.ownsRow w0.heap.size 40 3 (.slice (some ⟨vh, 0, none⟩) (b + k + 1) vdap) (b + (k + 1)) (flt msC (d.come ++ (d.moved.take (k + 1)).map (·.2.2)))) := Lib.hid ⟨by rw [e1, flt_append, flt_one, List.map_take]; exact hoaN, by rw [e2, flt_append, flt_one, List.map_take]; exact hown11⟩
      have HNEN := Lib.hid hneN
      clear hown11 hgr hat hk11 hca haa hoaN hneN e1 e2 HOC1 HNEWB HA10 HAT HK10 m2 m3 m4 a0 a1 a2 a3 a4 hss
      go_wp2_with fail
      try rw [← HAD.out]
      first | go_roundw | refine ⟨?rel, ?measure⟩
      case rel => exact ⟨k + 1, by omega, by go_num, HBN.out, HREL.out.1, HREL.out.2, HNEN.out⟩
      case measure => simp [intOf]; omega
    · obtain rfl : k = m := by omega
      have htk : d.moved.take k = d.moved := List.take_of_length_le (by rw [← HM.out]; omega)
      rw [htk] at hoa hoc
      have HSO := Lib.hid (sorted_any (Lt wr.heap.size) old A c wr (by rw [← HN.out]; omega) HCC.out.1 (HR.out.below hB))
      rw [← HN.out] at HSO
      have HOA := Lib.hid hoa
      have HOC := Lib.hid hoc
      have HBR := Lib.hid hB
      have HCN := Lib.hid hcn
      clear hoa hoc hB hcn htk hne x2 hlt hkm
      go_wp2_with fail
      refine HSO.out.mono ?_
      rintro e w20 ⟨v20, rfl, hown20, hb20⟩
      obtain ⟨SA, sc, rfl, _⟩ := own_slice hown20
      have hoa20 := (Kp.ofBelow (M := fun _ => False) hb20).own HOA.out fun _ _ e => e
      have hoc20 := (Kp.ofBelow (M := fun _ => False) hb20).own HOC.out fun _ _ e => e
      have hal : (awayM d).length = a + k := by unfold awayM; rw [List.length_append, List.length_map, ← HA.out, ← HM.out]
      have hwo := without_any (Lt w20.heap.size) (Lt w20.heap.size) (srtM old) (awayM d) SA GA' sc gc' w20 (fun _ h => h) (fun _ h => h) (by rw [srtM_len, ← HN.out]; omega) (by rw [hal]; omega) (Row.ofOwn hown20 fun _ _ _ h => h) (Row.ofOwn hoa20 fun _ _ _ h => h)
      have hdif : (wgo (srtM old) fun m => (awayM d).count m) = dif (srtM old) (awayM d) := wgo_is (srtM_srt old)
      unfold WoRes at hwo
      rw [hdif, srtM_len, hal, ← HN.out] at hwo
      have hln := dif_len (awayM d) (srtM old)
      rw [srtM_len, hal, ← HN.out] at hln
      have hms : (((a + k : Nat) : Int) + ((dif (srtM old) (awayM d)).length : Int) - (n : Int)) = (miss (srtM old) (awayM d) : Int) := by omega
      rw [hms] at hwo
      have hmz : miss (srtM old) (awayM d) ≤ 200000 := by have := miss_le (awayM d) (srtM old); rw [hal] at this; omega
      obtain ⟨z, hz⟩ : ∃ z, z = miss (srtM old) (awayM d) := ⟨_, rfl⟩
      rw [← hz] at hwo hmz
      have HZ := Lib.hid hz
      have HWO := Lib.hid hwo
      have HOC20 := Lib.hid hoc20
      have HB20 := Lib.hid (HBR.out.trans (hb20.mono HBR.out.size))
      have HLN := Lib.hid hln
      rw [srtM_len, ← HN.out]
      clear hown20 hb20 hoa20 hoc20 hal hwo hdif hln hms hz HSO HOA HOC
      go_wp2_with fail
      refine HWO.out.mono ?_
      rintro e w21 ⟨v21, rfl, hown21, hb21⟩
      obtain ⟨DA, dc, rfl, hdn⟩ := own_slice hown21
      obtain ⟨y, hy⟩ : ∃ y, y = (dif (srtM old) (awayM d)).length := ⟨_, rfl⟩
      rw [← hy] at hown21 ⊢
      have hyb : y ≤ 100000 := by rw [hy]; have := (dif_sub (awayM d) (srtM old)).length_le; rw [srtM_len, ← HN.out] at this; omega
      have HY := Lib.hid hy
      have hbw := HB0.out.trans (HB20.out.mono HB0.out.size)
      have HBW := Lib.hid (hbw.trans (hb21.mono hbw.size))
      have HO21 := Lib.hid hown21
      have HOC21 := Lib.hid ((Kp.ofBelow (M := fun _ => False) hb21).own HOC20.out fun _ _ e => e)
      have hs21 := hb21.size
      have hs20 := HB20.out.size
      have hs0 := HB0.out.size
      clear hown21 hb21 hy hbw hdn
      by_cases hz0' : z = 0
      · have hq : decide ((0 : Int) < (z : Int)) = false := by simp; omega
        have hq2 : decide (0 < z) = false := by simp; omega
        have hq3 : ¬ 0 < z := by omega
        have HMZ : Hid (miss (srtM old) (awayM d) = 0) := Lib.hid (by rw [← HZ.out]; exact hz0')
        clear hz0'
        go_wp2_with (at_builtin; go_loud (refine wpList_append_row rfl _ _ 22 rfl w20.heap.size 40 i0 _ 3 32 Try.underlying22 hi hz0 hz1 hz2 rfl (by omega) (.slice DA y dc) y (flt msC (dif (srtM old) (awayM d))) rfl HO21.out (Lt w21.heap.size) CA' (b + k) cc' (flt msC (moreM d)) rfl ?g1 ?g2 (flt_one' msC_one _) (by unfold maxLen; omega) (by omega) (by omega) ?_))
        case g1 => rw [flt_length msC_len]; unfold moreM; rw [List.length_append, List.length_map, ← HBB.out, ← HM.out]
        case g2 => exact Row.ofOwn HOC21.out fun _ _ _ h => h
        intro v22 w22 hown22 hg22 _
        have hlt21 := HO21.out.lt
        have hk22 : Kp (fun y => w20.heap.size ≤ y) w21 w22 := (Kp.refl _ _).grown hg22 (fun r hr _ => (hlt21 r hr).1)
        obtain ⟨EA, ec, rfl, hen⟩ := own_slice hown22
        have hel : (dif (srtM old) (awayM d) ++ moreM d).length = y + (b + k) := by rw [List.length_append, ← HY.out]; unfold moreM; rw [List.length_append, List.length_map, ← HBB.out, ← HM.out]
        have hrow := Row.ofOwn (S := Lt w22.heap.size) hown22 fun _ _ _ h => h
        rw [← flt_append] at hrow
        have HSO2 := Lib.hid (sorted_any (Lt w22.heap.size) (dif (srtM old) (awayM d) ++ moreM d) EA ec w22 (by rw [hel]; omega) hen hrow)
        rw [hel] at HSO2
        have HB22 := Lib.hid (kp_below HBW.out hk22 fun y e => by omega)
        clear hown22 hg22 hlt21 hk22 hrow hen HOC21 HO21
        go_wp2_with fail
        refine HSO2.out.mono ?_
        rintro e w23 ⟨v23, rfl, hown23, hb23⟩
        have hsz := HB22.out.size
        have HRES : Hid (ApRes (applyM old d) w (.returned (.tuple #[v23, .int .i64 0])) w23) := Lib.hid (.inl ⟨v23, _, by unfold applyM; rw [if_pos HMZ.out], rfl, ownMono hown23 hsz, HB22.out.trans (hb23.mono hsz)⟩)
        obtain ⟨FA, fc, rfl, _⟩ := own_slice hown23
        obtain ⟨yy, hyy⟩ : ∃ yy, yy = (srtM (dif (srtM old) (awayM d) ++ moreM d)).length := ⟨_, rfl⟩
        rw [← hyy] at HRES ⊢
        clear hown23 hb23 hyy HSO2
        go_wp2
        go_ret2
        exact HRES.out
      · have hq : decide ((0 : Int) < (z : Int)) = true := by simp; omega
        have hq2 : decide (0 < z) = true := by simp; omega
        have hq3 : 0 < z := by omega
        have HRES : Hid (ApRes (applyM old d) w (.returned (.tuple #[.slice none 0 0, .int .i64 49])) w21) := Lib.hid (.inr ⟨by unfold applyM; rw [if_neg (by rw [← HZ.out]; exact hz0')], rfl, HBW.out⟩)
        clear hz0'
        go_wp2
        go_ret2
        exact HRES.out
end Go.Proofs.Ytlgdminpkkhejaa
