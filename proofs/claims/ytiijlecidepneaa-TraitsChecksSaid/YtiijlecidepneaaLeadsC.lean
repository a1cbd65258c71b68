/-
  The walk of traits.Leads where an implementation is asked.
  Conditions: the arguments read as they must; at most 4000000 supers.
-/
import Derived.Test.YtiijlecidepneaaLeadsB
namespace Go.Proofs.Ytiijlecidepneaa
open Go.RowKit

theorem clone_any (hs : List Hdr) (A : Option Addr) (c : Nat) (qs : List HV) (w : World) (hh : Hds w (Lt w.heap.size) A hs qs) (hA : A = none → c = 0) :
    Calls Try.prog 45 #[.slice A hs.length c] w (ClOk hs.length qs w) := by
  rcases A with _ | ad
  · have hf : flat5 qs = [] := by
      rcases hh.row with h0 | ⟨ad, e, _⟩
      · exact h0
      · cases e
    have hq : qs = [] := by
      match qs, hf with
      | [], _ => rfl
      | _ :: _, h => simp [flat5, HV.cells] at h
    have hn : hs = [] := List.eq_nil_of_length_eq_zero (by rw [← hh.len, hq]; rfl)
    rw [hA rfl, hn, hq]
    exact clone_none w
  · exact clone_some hs ad c qs w hh

theorem selOf_some : ∀ (hs : List Hdr) (t : Ty) (k0 k : Nat) (a : List Ty), selOf hs t k0 = some (k, a) → ∃ (j : Nat) (h : Hdr), k = k0 + j ∧ hs[j]? = some h ∧ a.length = h.params.length
  | [], _, _, _, _, h => by cases h
  | x :: r, t, k0, k, a, h => by
    rw [selOf] at h
    cases hx : argsOf x t with
    | some b =>
      rw [hx] at h
      cases h
      refine ⟨0, x, rfl, rfl, ?_⟩
      unfold argsOf at hx
      split at hx
      · cases hx
        simp
      · cases hx
    | none =>
      rw [hx] at h
      obtain ⟨j, y, h1, h2, h3⟩ := selOf_some r t (k0 + 1) k a h
      exact ⟨j + 1, y, by omega, h2, h3⟩

theorem boundGoals_snoc : ∀ (ps : List (List UInt8 × List UInt8)) (ts : List Ty) (k : Nat) (p : List UInt8 × List UInt8) (t : Ty), ps[k]? = some p → ts[k]? = some t →
    boundGoals (ps.take (k + 1)) (ts.take (k + 1)) = boundGoals (ps.take k) (ts.take k) ++ (if p.2 = [] then [] else [(p.2, t)])
  | [], _, _, _, _, h, _ => by simp at h
  | _ :: _, [], _, _, _, _, h => by simp at h
  | x :: ps, y :: ts, 0, p, t, h, h2 => by
    simp at h h2
    subst h h2
    by_cases hp : x.2 = [] <;> simp [boundGoals, hp]
  | x :: ps, y :: ts, k + 1, p, t, h, h2 => by
    have := boundGoals_snoc ps ts k p t (by simpa using h) (by simpa using h2)
    simp only [List.take_succ_cons, boundGoals]
    by_cases hp : x.2 = []
    · rw [if_pos hp, if_pos hp, this]
    · rw [if_neg hp, if_neg hp, this]; rfl
theorem boundGoals_le : ∀ (ps : List (List UInt8 × List UInt8)) (ts : List Ty), (boundGoals ps ts).length ≤ ps.length
  | [], ts => by simp [boundGoals]
  | p :: ps, [] => by simp [boundGoals]
  | p :: ps, t :: ts => by
    have := boundGoals_le ps ts
    rw [boundGoals]
    split <;> simp <;> omega

theorem superGoals_snoc (s : List (List UInt8 × List UInt8)) (g : Goal) (k : Nat) (x : List UInt8 × List UInt8) (h : s[k]? = some x) : superGoals (s.take (k + 1)) g = superGoals (s.take k) g ++ (if x.1 = g.1 then [(x.2, g.2)] else []) := by
  unfold superGoals
  rw [List.take_add_one, h, List.filter_append, List.map_append]
  by_cases hx : x.1 = g.1 <;> simp [hx]
theorem superGoals_le (s : List (List UInt8 × List UInt8)) (g : Goal) : (superGoals s g).length ≤ s.length := by
  unfold superGoals
  rw [List.length_map]
  exact List.length_filter_le _ _

/-- Three cells: of a parameter or a super its second one, of a type both. -/
structure SeeA (w : World) (b : Nat) (x : Value) (p : Addr) (y z : Value) : Prop where
  h1 : w.cell? ⟨b, 1, none⟩ = some x
  h2 : w.cell? p = some y
  h3 : w.cell? ⟨p.block, p.off + 1, none⟩ = some z
def LdIs (out : List Goal) (w : World) (e : Ending) (w' : World) : Prop := LeadsRes (out, true) w e w'

set_option maxHeartbeats 8000000 in
set_option maxRecDepth 100000 in
theorem leads_main (l : List Hdr) (s : List (List UInt8 × List UInt8)) (tr : List UInt8) (ty : Ty) (LA SA : Option Addr) (lc sc : Nat) (a : Option Addr × Nat × Nat) (qs : List HV) (w : World) (hpar : (cutD ty.name).2 = false) (herr : ¬ ty.name = errName)
    (hl : Hds w (Lt w.heap.size) LA l qs) (hLA : LA = none → lc = 0) (hs : Row w (Lt w.heap.size) SA (flat2 (s.map pairV))) (hsl : s.length ≤ 4000000) (ht : TyIs w (Lt w.heap.size) ty (sv ty.name) (.slice a.1 a.2.1 a.2.2)) :
    Calls Try.prog 29 #[.slice LA l.length lc, .slice SA s.length sc, .agg #[sv tr, sv ty.name, .slice a.1 a.2.1 a.2.2]] w (LeadsRes (leadsOf l s (tr, ty)) w) := by
  obtain ⟨nm, hnm⟩ : ∃ nm, nm = ty.name := ⟨_, rfl⟩
  obtain ⟨i0, hi, hz0, hz1, hz2⟩ := info_parts infoG
  have hlead : leadsOf l s (tr, ty) = match selOf (mineOf l tr) ty 0 with
    | none => ([], false)
    | some (k, a) => (boundGoals (((mineOf l tr)[k]?.map (·.params)).getD []) a ++ superGoals s (tr, ty), true) := by
    unfold leadsOf
    simp only [hpar, herr, if_false, Bool.false_eq_true]
    rcases selOf (mineOf l tr) ty 0 with _ | ⟨k, a⟩ <;> rfl
  have hcut := cut_any ty.name
  rw [← hnm] at hcut hpar herr ht ⊢
  have hb0 : ((bs nm).toList == [101, 114, 114, 111, 114]) = false := by
    have := bytesNe herr
    rw [show (bs errName).toList = [101, 114, 114, 111, 114] from by rw [Lib.toList_data, bs_data]; decide] at this
    exact this
  obtain ⟨x, hx⟩ : ∃ x, cutD nm = (x, false) := ⟨(cutD nm).1, by rw [← hpar]⟩
  rw [hx] at hcut
  obtain ⟨ns, hns⟩ : ∃ ns, ns = s.length := ⟨_, rfl⟩
  rw [← hns] at hsl ⊢
  obtain ⟨nl, hnl⟩ : ∃ nl, nl = l.length := ⟨_, rfl⟩
  obtain ⟨W0, hW0⟩ : ∃ W0, W0 = w.alloc (.cells #[sv tr, sv nm, .slice a.1 a.2.1 a.2.2] 56) := ⟨_, rfl⟩
  have hs0 : W0.heap.size = w.heap.size + 1 := by rw [hW0]; simp
  have hbW : Below w.heap.size w W0 := by rw [hW0]; exact (Below.refl _ _).alloc (Nat.le_refl _) _
  have hB0 : W0.heap[w.heap.size]? = some (.cells #[sv tr, sv nm, .slice a.1 a.2.1 a.2.2] 56 (0, 0)) := by rw [hW0]; exact alloc1 _ _
  have hcl := clone_any l LA lc qs W0 (hl.now (Nat.le_refl _) hbW) hLA
  rw [← hnl] at hcl ⊢
  have HW0 := Lib.hid hW0
  have HCL := Lib.hid hcl
  have HC := Lib.hid hcut
  have HB0 := Lib.hid hB0
  have HLEAD := Lib.hid hlead
  have HNL := Lib.hid hnl
  have HNS := Lib.hid hns
  clear hW0 hcl hcut hpar herr hx hB0 hlead hnl hns hnm
  go_enter Try.func29, Try.ntmps29
  go_wp2_with fail
  refine (HC.out _).mono ?_
  rintro e w1 ⟨rfl, h1⟩
  rw [← h1]
  rw [show w.alloc (.cells #[.string (bs tr), .string (bs nm), .slice a.1 a.2.1 a.2.2] 56) = W0 from HW0.out.symm] at *
  clear h1
  have g0 : W0.cell? ⟨w.heap.size, 0, none⟩ = some (sv tr) := by rw [Lib.cell_of_heap HB0.out]; rfl
  have g1 : W0.cell? ⟨w.heap.size, 1, none⟩ = some (sv nm) := by rw [Lib.cell_of_heap HB0.out]; rfl
  have g2 : W0.cell? ⟨w.heap.size, 2, none⟩ = some (.slice a.1 a.2.1 a.2.2) := by rw [Lib.cell_of_heap HB0.out]; rfl
  go_wp2_with fail
  refine HCL.out.mono ?_
  rintro e w2 ⟨v, rfl, hown, hb2⟩
  go_wp2_with fail
  have hgb2 : w2.heap[w.heap.size]? = some (.cells #[sv tr, sv nm, .slice a.1 a.2.1 a.2.2] 56 (0, 0)) := (hb2.block _ (by omega)).trans HB0.out
  have hl2 : Hds w2 (Lt W0.heap.size) LA l qs := (hl.keep (kept_below (hbW.trans (hb2.mono hbW.size)))).more fun y hy => Nat.lt_of_lt_of_le hy hbW.size
  refine (delOwned l qs LA v w.heap.size W0.heap.size tr w2 hl2 hb2.size (by rw [← HNL.out]; exact hown) (by rw [Lib.cell_of_heap hgb2]; rfl) (by omega)).mono ?_
  rintro e w3 ⟨MA, mn, mc, mq, rfl, hmn, hM, hb3⟩
  have hgb3 : w3.heap[w.heap.size]? = some (.cells #[sv tr, sv nm, .slice a.1 a.2.1 a.2.2] 56 (0, 0)) := (hb3.block _ (by omega)).trans hgb2
  have hbw3 : Below w.heap.size w w3 := hbW.trans ((hb2.trans hb3).mono hbW.size)
  clear g0 g1 g2
  have g0 : w3.cell? ⟨w.heap.size, 0, none⟩ = some (sv tr) := by rw [Lib.cell_of_heap hgb3]; rfl
  have g1 : w3.cell? ⟨w.heap.size, 1, none⟩ = some (sv nm) := by rw [Lib.cell_of_heap hgb3]; rfl
  have g2 : w3.cell? ⟨w.heap.size, 2, none⟩ = some (.slice a.1 a.2.1 a.2.2) := by rw [Lib.cell_of_heap hgb3]; rfl
  have hsel := select_any (mineOf l tr) ty MA mc mq _ _ w3 hM (ht.now (Nat.le_refl _) hbw3)
  rw [← hmn] at hsel
  have HM := Lib.hid hM
  have HMN := Lib.hid hmn
  have HSEL := Lib.hid hsel
  have HGB3 := Lib.hid hgb3
  clear hgb2 hl2 hown hM hmn hsel hgb3 hb2 hb3 HCL 
  go_wp2_with fail
  refine HSEL.out.mono ?_
  intro e w4 hres
  rcases hsr : selOf (mineOf l tr) ty 0 with _ | ⟨k, ts⟩
  · rw [hsr] at hres
    obtain ⟨rfl, hb4⟩ := hres
    have HSR := Lib.hid hsr
    clear hsr
    go_wp2_with fail
    refine bodyPost_ret (v := .tuple #[.slice none 0 0, .bool false]) (by simp [results, Try.results29, go_sem]) rfl ?_
    rw [HLEAD.out, HSR.out]
    exact ⟨none, 0, 0, [], rfl, rfl, Gls.nil _ _ _, hbw3.trans (hb4.mono hbw3.size)⟩
  · rw [hsr] at hres
    obtain ⟨A, n, c, vs, rfl, hn, hT, hb4⟩ := hres
    obtain ⟨j, h, hj, hjh, hal⟩ := selOf_some _ _ _ _ _ hsr
    rw [Nat.zero_add] at hj
    subst hj
    have hlead2 : leadsOf l s (tr, ty) = (boundGoals h.params ts ++ superGoals s (tr, ty), true) := by rw [HLEAD.out, hsr]; simp [hjh]
    have hbw4 : Below w.heap.size w w4 := hbw3.trans (hb4.mono hbw3.size)
    have hM4 := HM.out.now (Nat.le_refl _) hb4
    have hkm : k < mn := by rw [HMN.out]; exact (List.getElem?_eq_some_iff.1 hjh).1
    obtain ⟨ad, q, rfl, hSad, _, m0, m1, m2, m3, m4, hHd⟩ := hM4.at_ hjh
    obtain ⟨PA, pc, hqp, hple, hpmx, hrowP⟩ := hHd.p
    have hfew := hHd.few
    rw [hqp] at m1
    obtain ⟨np, hnp⟩ : ∃ np, np = h.params.length := ⟨_, rfl⟩
    rw [← hnp] at m1 hple hfew
    have hnn : n = np := by rw [hn, hal, hnp]
    have HGB4 := Lib.hid ((hb4.block _ (by have := lt_of_heap HGB3.out; omega)).trans HGB3.out)
    have hgl := lt_of_heap HGB4.out
    have HLEAD2 := Lib.hid hlead2
    have HNP := Lib.hid hnp
    have HN := Lib.hid hn
    have HNN := Lib.hid hnn
    have HAL := Lib.hid hal
    clear hnp hqp m2 m3 m4 hsr hlead2 HSEL g0 g1 g2 hnn hal hn hjh m0 hM4
    have h34 : w3.heap.size ≤ w4.heap.size := hb4.size
    have hw3 : w.heap.size < w3.heap.size := lt_of_heap HGB3.out
    go_wp2_with fail
    go_loopw [14, 56] (fun ov i wr => ∃ k : Nat, k ≤ np ∧ i = .int .i64 k ∧ ∃ gv : List GV, GOut w3.heap.size w4.heap.size (boundGoals (h.params.take k) (ts.take k)) ov gv wr ∧ Below w4.heap.size w4 wr) (fun _ i _ => np - (intOf i).toNat)
    case atStart => exact ⟨0, Nat.zero_le _, rfl, [], GOut.nil _ _ _, Below.refl _ _⟩
    case round =>
      obtain ⟨k, hk, rfl, gv, hG, hb⟩ := hrel
      have hG := Lib.hid hG
      have hsr := hb.size
      by_cases hlt : k < np
      · have hkp : k < h.params.length := by rw [← HNP.out]; exact hlt
        have hkt : k < ts.length := by rw [HAL.out]; exact hkp
        have hkn : k < n := by rw [HNN.out]; exact hlt
        have hpk : (h.params.map pairV)[k]? = some (pairV h.params[k]) := by rw [List.getElem?_map, List.getElem?_eq_getElem hkp]; rfl
        obtain ⟨x1, x2⟩ := flat2_at _ _ _ hpk
        have hrowr := hrowP.keep (kept_below hb)
        obtain ⟨ap, rfl, hSp, e0⟩ := hrowr.at_ x1
        obtain ⟨ad', h', _, e1⟩ := hrowr.at_ x2
        obtain rfl := Option.some.inj h'
        have e1' : wr.cell? ⟨(ap.add (k * 2)).block, (ap.add (k * 2)).off + 1, none⟩ = some (sv h.params[k].2) := by rw [← addAdd] at e1; exact e1
        have e0' : wr.cell? (ap.add (k * 2)) = some (sv h.params[k].1) := e0
        obtain ⟨at_, u, v', rfl, hSt, t0, t1, hty⟩ := (hT.keep ((kept_below hb).sub fun y hy => hy.2)).at_ (List.getElem?_eq_getElem hkt)
        obtain ⟨u, v', rfl, rfl⟩ := hty.shape
        have hltt := World.block_lt_of_cell? wr _ t0
        have hbg := boundGoals_snoc h.params ts k _ _ (List.getElem?_eq_getElem hkp) (List.getElem?_eq_getElem hkt)
        have hlen := Nat.le_trans (boundGoals_le (h.params.take k) (ts.take k)) (List.length_take_le _ _)
        generalize hbx : boundGoals (h.params.take k) (ts.take k) = bx at *
        obtain ⟨nb, hnb⟩ : ∃ nb, nb = bx.length := ⟨_, rfl⟩
        rw [← hnb] at hlen
        have HNB := Lib.hid hnb
        have HBG := Lib.hid hbg
        clear e0 e1 x1 x2 hpk h' hrowr hbg hnb hbx hSp
        have hT1 : (wr.alloc (.cells #[sv h.params[k].1, sv h.params[k].2] 49)).cell? (at_.add (k * 2)) = some (sv u) := (World.cell?_of_block (heap_alloc_old wr _ hltt)).trans t0
        have hT2 : (wr.alloc (.cells #[sv h.params[k].1, sv h.params[k].2] 49)).cell? ⟨(at_.add (k * 2)).block, (at_.add (k * 2)).off + 1, none⟩ = some (.slice v'.1 v'.2.1 v'.2.2) := (cellAlloc hltt).trans t1
        have hGa := hG.out.kept ((Below.refl _ _).alloc (Nat.le_refl _) (.cells #[sv h.params[k].1, sv h.params[k].2] 49))
        have hba : Below w4.heap.size w4 (wr.alloc (.cells #[sv h.params[k].1, sv h.params[k].2] 49)) := hb.alloc hsr _
        by_cases hp0 : h.params[k].2 = []
        · have hbe : ((bs h.params[k].2).toList == []) = true := by rw [hp0]; rw [Lib.toList_data, bs_data]; rfl
          have HP0 := Lib.hid hp0
          have HGA := Lib.hid hGa
          clear hp0 hGa
          go_wp2_with fail
          go_roundw
          case rel => exact ⟨k + 1, by omega, by go_num, gv, by rw [HBG.out, if_pos HP0.out, List.append_nil]; exact HGA.out, hba⟩
          case measure => simp [intOf]; omega
        · have hbe : ((bs h.params[k].2).toList == []) = false := by
            have := bytesNe hp0
            rw [show (bs []).toList = [] from by rw [Lib.toList_data, bs_data]] at this
            exact this
          have HP0 := Lib.hid hp0
          have HGA := Lib.hid hGa
          have HTY := Lib.hid hty
          clear hp0 hGa hty
          go_wp2_with fail
          refine wp_region_held' (fun w' => SeeA w' wr.heap.size (sv h.params[k].2) (at_.add (k * 2)) (sv u) (.slice v'.1 v'.2.1 v'.2.2)) [] [0, 1, 2, 3, 4, 5, 6] [7, 8] [9, 10] (by kernel_rfl) (by kernel_rfl) ?s0a ?h0a
          case s0a => exact ⟨by simp, hT1, hT2⟩
          case h0a =>
          simp only [opsAt, List.filterMap_cons, List.filterMap_nil, List.getElem?_toArray, List.getElem?_cons_succ, List.getElem?_cons_zero]
          refine wpFloat_nil ?_
          refine wpLoad_step ?vpa0 rfl (fun w' hS => ?ypa0) ?kpa0
          case ypa0 =>
            obtain ⟨h1, h2, h3⟩ := hS
            go_simp
            try rfl
          case kpa0 =>
          go_simp
          refine wpLoad_step ?vpa1 rfl (fun w' hS => ?ypa1) ?kpa1
          case ypa1 =>
            obtain ⟨h1, h2, h3⟩ := hS
            go_simp
            try rfl
          case kpa1 =>
          go_simp
          refine wpLoad_step ?vpa2 rfl (fun w' hS => ?ypa2) ?kpa2
          case ypa2 =>
            obtain ⟨h1, h2, h3⟩ := hS
            go_simp
            try rfl
          case kpa2 =>
          go_simp
          refine wpLoad_step ?vpa3 rfl (fun w' hS => ?ypa3) ?kpa3
          case ypa3 =>
            obtain ⟨h1, h2, h3⟩ := hS
            go_simp
            try rfl
          case kpa3 =>
          go_simp
          refine wpLoad_step ?vpa4 rfl (fun w' hS => ?ypa4) ?kpa4
          case ypa4 =>
            obtain ⟨h1, h2, h3⟩ := hS
            go_simp
            try rfl
          case kpa4 =>
          go_simp
          refine wpLoad_step ?vpa5 rfl (fun w' hS => ?ypa5) ?kpa5
          case ypa5 =>
            obtain ⟨h1, h2, h3⟩ := hS
            go_simp
            try rfl
          case kpa5 =>
          go_simp
          refine wpLoad_step ?vpa6 rfl (fun w' hS => ?ypa6) ?kpa6
          case ypa6 =>
            obtain ⟨h1, h2, h3⟩ := hS
            go_simp
            try rfl
          case kpa6 =>
          go_simp
          refine wpLoad_nil ?_
          refine wpKeep_step rfl ?_
          go_simp
          refine ⟨⟨by simp, hT1, hT2⟩, ?_⟩
          refine wpKeep_step rfl ?_
          go_simp
          refine ⟨⟨by simp, (World.cell?_of_block (heap_alloc_old _ _ (by simp; omega))).trans hT1, (cellAlloc (by simp; omega)).trans hT2⟩, ?_⟩
          refine wpKeep_nil ?_
          have hG6 := HGA.out.kept (((Below.refl _ _).alloc (Nat.le_refl _) (.cells #[sv h.params[k].2, sv u, .slice v'.1 v'.2.1 v'.2.2] 56)).drew)
          have hba6 := (hba.alloc hba.size (.cells #[sv h.params[k].2, sv u, .slice v'.1 v'.2.1 v'.2.2] 56)).drew
          have hown6 := hG6.own
          rw [← HNB.out] at hown6
          have HG6 := Lib.hid hG6
          have HBA6 := Lib.hid hba6
          have hbx : Below wr.heap.size wr ((wr.alloc (.cells #[sv h.params[k].1, sv h.params[k].2] 49)).alloc (.cells #[sv h.params[k].2, sv u, .slice v'.1 v'.2.1 v'.2.2] 56)).drew := (((Below.refl _ _).alloc (Nat.le_refl _) _).alloc (by simp) _).drew
          have HBX := Lib.hid hbx
          clear hG6 hba6 hbx
          refine wpList_append_lies _ rfl _ _ 75 rfl w4.heap.size 56 i0 _ 3 56 Try.underlying75 hi hz0 hz1 hz2 rfl (by omega) _ nb (flat3 gv) rfl hown6 ⟨wr.heap.size + 1, 0, none⟩ 1 1 [sv h.params[k].2, sv u, .slice v'.1 v'.2.1 v'.2.2] ?c0a rfl ?c1a ?c2a (by omega) ?c3a ?c4a ?c5a _ rfl ?_
          case c0a => rfl
          case c1a => exact World.news_of_block (cs := #[sv h.params[k].2, sv u, .slice v'.1 v'.2.1 v'.2.2]) (alloc2 wr _ _).2
          case c2a => simp [Value.oneCell']
          case c3a => unfold maxLen; omega
          case c4a => omega
          case c5a => simp; omega
          intro g cap w7 hown7 hgrow hat _
          have HG7 : Hid (GOut w3.heap.size w4.heap.size (bx ++ [(h.params[k].2, ts[k])]) (.slice (some ⟨g, 0, none⟩) (nb + 1) cap) (gv ++ [(sv h.params[k].2, sv u, .slice v'.1 v'.2.1 v'.2.2)]) w7) := by
            have := Lib.hid (HG6.out.push (x := (h.params[k].2, ts[k])) (q := (sv h.params[k].2, sv u, .slice v'.1 v'.2.1 v'.2.2)) (w1 := w7) (g := g) (cap := cap) ⟨rfl, ?_⟩ hgrow (by rw [← HNB.out]; exact hown7) hat)
            · rw [← HNB.out] at this
              exact this
            · refine (HTY.out.keep ((kept_below HBX.out).sub fun y hy => Nat.lt_of_lt_of_le hy.2 hsr)).more fun y hy => ⟨hy.1, ?_, ?_⟩
              · have := hy.2; simp; omega
              · intro e
                have := (HG6.out.own.lt _ e.symm).1
                have := hy.2
                omega
          have hb7 : Below w4.heap.size w4 w7 := HBA6.out.grown hgrow HBA6.out.size (fun x e => (HG6.out.own.lt _ e).1)
          go_wp2
          refine NoPanic.normal ?_
          go_wp2
          go_roundw
          case rel => exact ⟨k + 1, by omega, by go_num, _, by rw [HBG.out, if_neg HP0.out]; exact HG7.out, hb7⟩
          case measure => simp [intOf]; omega
      · obtain rfl : k = np := by omega
        have hp1 : h.params.take k = h.params := List.take_of_length_le (by rw [← HNP.out]; exact Nat.le_refl _)
        have hp2 : ts.take k = ts := List.take_of_length_le (by rw [HAL.out, ← HNP.out]; exact Nat.le_refl _)
        have hg : ¬ k < k := hlt
        have hG5 := hG.out
        rw [hp1, hp2] at hG5
        have hlen := boundGoals_le h.params ts
        rw [← HNP.out] at hlen
        have hG5 := hG5.kept ((Below.refl _ _).alloc (Nat.le_refl _) (.cells #[] 9))
        have HG5 := Lib.hid hG5
        have hb5 : Below w4.heap.size w4 (wr.alloc (.cells #[] 9)) := hb.alloc hsr _
        generalize boundGoals h.params ts = bx at *
        obtain ⟨nb, hnb⟩ : ∃ nb, nb = bx.length := ⟨_, rfl⟩
        rw [← hnb] at hlen
        have HNB := Lib.hid hnb
        clear hnb hG5 hG hp1 hp2 hT
        go_wp2_with fail
        go_loopw [14, 78] (fun ov i wr => ∃ k : Nat, k ≤ ns ∧ i = .int .i64 k ∧ ∃ gv : List GV, GOut w3.heap.size w4.heap.size (bx ++ superGoals (s.take k) (tr, ty)) ov gv wr ∧ Below w4.heap.size w4 wr) (fun _ i _ => ns - (intOf i).toNat)
        case atStart => exact ⟨0, Nat.zero_le _, rfl, gv, by simpa [superGoals] using HG5.out, hb5⟩
        case round =>
          obtain ⟨k2, hk2, rfl, gu, hG, hbt⟩ := hrel
          have hG := Lib.hid hG
          have hst := hbt.size
          have hbwt := hbw4.trans (hbt.mono hbw4.size)
          have hgt := (hbt.block _ hgl).trans HGB4.out
          have q0 : wr.cell? ⟨w.heap.size, 0, none⟩ = some (sv tr) := by rw [Lib.cell_of_heap hgt]; rfl
          have q1 : wr.cell? ⟨w.heap.size, 1, none⟩ = some (sv nm) := by rw [Lib.cell_of_heap hgt]; rfl
          have q2 : wr.cell? ⟨w.heap.size, 2, none⟩ = some (.slice a.1 a.2.1 a.2.2) := by rw [Lib.cell_of_heap hgt]; rfl
          have hglt := lt_of_heap hgt
          clear hgt
          by_cases hlt2 : k2 < ns
          · have hks : k2 < s.length := by rw [← HNS.out]; exact hlt2
            have hpk : (s.map pairV)[k2]? = some (pairV s[k2]) := by rw [List.getElem?_map, List.getElem?_eq_getElem hks]; rfl
            obtain ⟨x1, x2⟩ := flat2_at _ _ _ hpk
            have hrowr := hs.keep (kept_below hbwt)
            obtain ⟨ap2, rfl, hSp, e0⟩ := hrowr.at_ x1
            obtain ⟨ad', h', _, e1⟩ := hrowr.at_ x2
            obtain rfl := Option.some.inj h'
            have e1' : wr.cell? ⟨(ap2.add (k2 * 2)).block, (ap2.add (k2 * 2)).off + 1, none⟩ = some (sv s[k2].2) := by rw [← addAdd] at e1; exact e1
            have e0' : wr.cell? (ap2.add (k2 * 2)) = some (sv s[k2].1) := e0
            have hsg := superGoals_snoc s (tr, ty) k2 _ (List.getElem?_eq_getElem hks)
            have hlen2 := Nat.le_trans (superGoals_le (s.take k2) (tr, ty)) (List.length_take_le _ _)
            generalize superGoals (s.take k2) (tr, ty) = sx at *
            obtain ⟨nx, hnx⟩ : ∃ nx, nx = (bx ++ sx).length := ⟨_, rfl⟩
            have hnx2 : nx ≤ 6000000 := by rw [hnx, List.length_append, ← HNB.out]; omega
            have HNX := Lib.hid hnx
            have HSG := Lib.hid hsg
            clear e0 e1 x1 x2 hpk h' hrowr hsg hnx
            have hGa := hG.out.kept ((Below.refl _ _).alloc (Nat.le_refl _) (.cells #[sv s[k2].1, sv s[k2].2] 98))
            have hba : Below w4.heap.size w4 (wr.alloc (.cells #[sv s[k2].1, sv s[k2].2] 98)) := hbt.alloc hst _
            have q0' : (wr.alloc (.cells #[sv s[k2].1, sv s[k2].2] 98)).cell? ⟨w.heap.size, 0, none⟩ = some (sv tr) := (cellAlloc hglt).trans q0
            have q1' : (wr.alloc (.cells #[sv s[k2].1, sv s[k2].2] 98)).cell? ⟨w.heap.size, 1, none⟩ = some (sv nm) := (cellAlloc hglt).trans q1
            have q2' : (wr.alloc (.cells #[sv s[k2].1, sv s[k2].2] 98)).cell? ⟨w.heap.size, 2, none⟩ = some (.slice a.1 a.2.1 a.2.2) := (cellAlloc hglt).trans q2
            by_cases hp0 : s[k2].1 = tr
            · have hbe := bytesEq hp0
              have HP0 := Lib.hid hp0
              have HGA := Lib.hid hGa
              clear hp0 hGa
              go_wp2_with fail
              refine wp_region_held' (fun w' => SeeA w' wr.heap.size (sv s[k2].2) ⟨w.heap.size, 1, none⟩ (sv nm) (.slice a.1 a.2.1 a.2.2)) [] [0, 1, 2, 3, 4, 5] [6, 7, 8] [9, 10] (by kernel_rfl) (by kernel_rfl) ?s0b ?h0b
              case s0b => exact ⟨by simp, q1', q2'⟩
              case h0b =>
              simp only [opsAt, List.filterMap_cons, List.filterMap_nil, List.getElem?_toArray, List.getElem?_cons_succ, List.getElem?_cons_zero]
              refine wpFloat_nil ?_
              refine wpLoad_step ?vpb0 rfl (fun w' hS => ?ypb0) ?kpb0
              case ypb0 =>
                obtain ⟨h1, h2, h3⟩ := hS
                go_simp
                try rfl
              case kpb0 =>
              go_simp
              refine wpLoad_step ?vpb1 rfl (fun w' hS => ?ypb1) ?kpb1
              case ypb1 =>
                obtain ⟨h1, h2, h3⟩ := hS
                go_simp
                try rfl
              case kpb1 =>
              go_simp
              refine wpLoad_step ?vpb2 rfl (fun w' hS => ?ypb2) ?kpb2
              case ypb2 =>
                obtain ⟨h1, h2, h3⟩ := hS
                go_simp
                try rfl
              case kpb2 =>
              go_simp
              refine wpLoad_step ?vpb3 rfl (fun w' hS => ?ypb3) ?kpb3
              case ypb3 =>
                obtain ⟨h1, h2, h3⟩ := hS
                go_simp
                try rfl
              case kpb3 =>
              go_simp
              refine wpLoad_step ?vpb4 rfl (fun w' hS => ?ypb4) ?kpb4
              case ypb4 =>
                obtain ⟨h1, h2, h3⟩ := hS
                go_simp
                try rfl
              case kpb4 =>
              go_simp
              refine wpLoad_step ?vpb5 rfl (fun w' hS => ?ypb5) ?kpb5
              case ypb5 =>
                obtain ⟨h1, h2, h3⟩ := hS
                go_simp
                try rfl
              case kpb5 =>
              go_simp
              refine wpLoad_nil ?_
              refine wpKeep_step rfl ?_
              go_simp
              have hbd : Below wr.heap.size wr (wr.alloc (.cells #[sv s[k2].1, sv s[k2].2] 98)).drew := ((Below.refl _ _).alloc (Nat.le_refl _) _).drew
              have hbwd := hbwt.trans (hbd.mono hbwt.size)
              refine (put_any ty _ _ _ _ _ (ht.now (Nat.le_refl _) hbwd)).mono ?_
              rintro e w6 ⟨u1, v1, rfl, hT1, hb6⟩
              obtain ⟨u1, v1, rfl, rfl⟩ := hT1.shape
              have hz6 : wr.heap.size + 1 ≤ w6.heap.size := by have := hb6.size; simpa using this
              have hc6 := (belowCell hb6).1
              have HT1 := Lib.hid hT1
              clear hT1
              refine ⟨⟨(hc6 _ _ (by simp)).trans (by simp), (hc6 _ _ (by simp; omega)).trans q1', (hc6 _ _ (by simp; omega)).trans q2'⟩, ?_⟩
              refine wpKeep_step rfl ?_
              go_simp
              refine ⟨⟨(hc6 _ _ (by simp)).trans (by simp), (hc6 _ _ (by simp; omega)).trans q1', (hc6 _ _ (by simp; omega)).trans q2'⟩, ?_⟩
              refine wpKeep_step rfl ?_
              go_simp
              refine ⟨⟨(cellAlloc (by omega)).trans ((hc6 _ _ (by simp)).trans (by simp)), (cellAlloc (b := w.heap.size) (by omega)).trans ((hc6 _ _ (by simp; omega)).trans q1'), (cellAlloc (b := w.heap.size) (by omega)).trans ((hc6 _ _ (by simp; omega)).trans q2')⟩, ?_⟩
              refine wpKeep_nil ?_
              have hbx : Below (wr.heap.size + 1) (wr.alloc (.cells #[sv s[k2].1, sv s[k2].2] 98)) (w6.alloc (.cells #[sv s[k2].2, sv u1, .slice v1.1 v1.2.1 v1.2.2] 56)) := ((((Below.refl _ _).drew).trans (hb6.mono (by simp))).alloc (by omega) _)
              have hG6 := HGA.out.kept (hbx.mono (by simp))
              have hba6 := hba.trans (hbx.mono (by omega))
              have hown6 := hG6.own
              rw [← HNX.out] at hown6
              have HG6 := Lib.hid hG6
              have HBA6 := Lib.hid hba6
              clear hG6 hba6 hbx
              refine wpList_append_lies _ rfl _ _ 75 rfl w4.heap.size 56 i0 _ 3 56 Try.underlying75 hi hz0 hz1 hz2 rfl (by omega) _ nx (flat3 gu) rfl hown6 ⟨w6.heap.size, 0, none⟩ 1 1 [sv s[k2].2, sv u1, .slice v1.1 v1.2.1 v1.2.2] ?c0b rfl ?c1b ?c2b (by omega) ?c3b ?c4b ?c5b _ rfl ?_
              case c0b => rfl
              case c1b => exact World.news_of_block (cs := #[sv s[k2].2, sv u1, .slice v1.1 v1.2.1 v1.2.2]) (alloc1 w6 _)
              case c2b => simp [Value.oneCell']
              case c3b => unfold maxLen; omega
              case c4b => omega
              case c5b => simp; omega
              intro g cap w7 hown7 hgrow hat _
              have HG7 : Hid (GOut w3.heap.size w4.heap.size ((bx ++ sx) ++ [(s[k2].2, ty)]) (.slice (some ⟨g, 0, none⟩) (nx + 1) cap) (gu ++ [(sv s[k2].2, sv u1, .slice v1.1 v1.2.1 v1.2.2)]) w7) := by
                have := Lib.hid (HG6.out.push (x := (s[k2].2, ty)) (q := (sv s[k2].2, sv u1, .slice v1.1 v1.2.1 v1.2.2)) (w1 := w7) (g := g) (cap := cap) ⟨rfl, ?_⟩ hgrow (by rw [← HNX.out]; exact hown7) hat)
                · rw [← HNX.out] at this
                  exact this
                · refine (HT1.out.keep (keptGrown (World.grownBy_alloc w6 _ none) fun x hx => ⟨hx.2, by simp⟩)).more fun y hy => ⟨?_, ?_, ?_⟩
                  · have := hy.1; simp at this; omega
                  · have := hy.2; simp; omega
                  · intro e
                    have := (HGA.out.own.lt _ e.symm).2
                    have := hy.1
                    simp at *
                    omega
              have hb7 : Below w4.heap.size w4 w7 := HBA6.out.grown hgrow HBA6.out.size (fun x e => (HG6.out.own.lt _ e).1)
              go_wp2
              refine NoPanic.normal ?_
              go_wp2
              go_roundw
              case rel => exact ⟨k2 + 1, by omega, by go_num, _, by rw [HSG.out, if_pos HP0.out, ← List.append_assoc]; exact HG7.out, hb7⟩
              case measure => simp [intOf]; omega
            · have hbe := bytesNe hp0
              have HP0 := Lib.hid hp0
              have HGA := Lib.hid hGa
              clear hp0 hGa
              go_wp2_with fail
              go_roundw
              case rel => exact ⟨k2 + 1, by omega, by go_num, gu, by rw [HSG.out, if_neg HP0.out, List.append_nil]; exact HGA.out, hba⟩
              case measure => simp [intOf]; omega
          · obtain rfl : k2 = ns := by omega
            have hp1 : s.take k2 = s := List.take_of_length_le (by rw [← HNS.out]; exact Nat.le_refl _)
            have hg2 : ¬ k2 < k2 := hlt2
            have hG5 := hG.out
            rw [hp1] at hG5
            obtain ⟨OA, oc, rfl, hO⟩ := hG5.done h34
            have HO := Lib.hid hO
            clear hG5 hO hG hp1
            go_wp2_with fail
            refine bodyPost_ret (v := .tuple #[.slice OA (bx ++ superGoals s (tr, ty)).length oc, .bool true]) (by simp [results, Try.results29, go_sem]) rfl ?_
            rw [HLEAD2.out]
            exact ⟨OA, _, oc, gu, rfl, rfl, HO.out.more fun y hy => ⟨by have := hy.1; omega, hy.2⟩, hbwt⟩
end Go.Proofs.Ytiijlecidepneaa
