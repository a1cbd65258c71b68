/-
  The walk of recompilelaw12.TraitsLeast.
  Conditions: the argument reads as a slice of ints.
-/
import Derived.Test.YtdkgdcmiopnlmaaRow
namespace Go.Proofs.Ytdkgdcmiopnlmaa
open Go.RowKit

def holdB (l : List Hdr) (s : List (List UInt8 × List UInt8)) (U : List Goal) (x : Goal) : Bool := (dfs (leadsOf l s) U.length [] x).1
theorem holdB_iff {l : List Hdr} {s : List (List UInt8 × List UInt8)} {U : List Goal} (hc : Shut (leadsOf l s) U) {x : Goal} (hx : x ∈ U) : holdB l s U x = true ↔ Hd (leadsOf l s) x := dfs_iff hc x hx

/-- What the statement looks at: implementations, supers and a goal. -/
structure Scene (l : List Hdr) (s : List (List UInt8 × List UInt8)) (g : Goal) (LA SA : Option Addr) (lc : Nat) (qs : List HV) (gb : Nat) (q : GV) (w : World) : Prop where
  hl : Hds w (Lt w.heap.size) LA l qs
  hLA : LA = none → lc = 0
  hs : Row w (Lt w.heap.size) SA (flat2 (s.map pairV))
  hg : GlIs w (Lt w.heap.size) g q
  box : BoxAt w gb q

theorem Scene.now {l : List Hdr} {s : List (List UInt8 × List UInt8)} {g : Goal} {LA SA : Option Addr} {lc : Nat} {qs : List HV} {gb : Nat} {q : GV} {w w' : World} (h : Scene l s g LA SA lc qs gb q w) (hb : Below w.heap.size w w') : Scene l s g LA SA lc qs gb q w' :=
  ⟨h.hl.now (Nat.le_refl _) hb, h.hLA, (h.hs.keep (kept_below hb)).more fun _ hy => Nat.lt_of_lt_of_le hy hb.size, (h.hg.keep (kept_below hb)).more fun _ hy => Nat.lt_of_lt_of_le hy hb.size, h.box.now hb⟩

theorem all_snoc {α : Type} (p : α → Bool) (l : List α) (k : Nat) (x : α) (h : l[k]? = some x) : (l.take (k + 1)).all p = ((l.take k).all p && p x) := by
  rw [List.take_add_one, h]
  simp

theorem Scene.holds {l : List Hdr} {s : List (List UInt8 × List UInt8)} {g x : Goal} {LA SA : Option Addr} {lc sc gb : Nat} {qs : List HV} {q p : GV} {w : World} (U : List Goal) (hU : U.length ≤ 1000000) (hc : Shut (leadsOf l s) U) (hx : x ∈ U) (hsl : s.length ≤ 1000000)
    (h : Scene l s g LA SA lc qs gb q w) (hp : GlIs w (Lt w.heap.size) x p) : Calls Try.prog 12 #[.slice LA l.length lc, .slice SA s.length sc, .agg #[p.1, p.2.1, p.2.2]] w (HoldsRes (holdB l s U x) w) :=
  holds_any l s U hU hc x hx LA SA lc sc p qs w h.hl h.hLA h.hs hsl hp

theorem flat2_one (s : List (List UInt8 × List UInt8)) : ∀ u ∈ flat2 (s.map pairV), u.oneCell' = true := by
  intro u hu
  simp only [flat2, List.mem_flatMap, List.mem_map] at hu
  obtain ⟨p, ⟨x, _, rfl⟩, hu⟩ := hu
  simp only [pairV, List.mem_cons, List.not_mem_nil, or_false] at hu
  rcases hu with rfl | rfl <;> rfl
theorem leadsOf_le (l : List Hdr) (s : List (List UInt8 × List UInt8)) (g : Goal) (hl : ∀ h ∈ l, h.params.length ≤ 2) : (leadsOf l s g).1.length ≤ 2 + s.length := by
  unfold leadsOf
  split
  · simp
  · split
    · simp
    · split
      · simp
      · rename_i k a hsel
        obtain ⟨j, hd, hk, hj, _⟩ := selOf_in _ _ _ _ _ hsel
        rw [Nat.zero_add] at hk
        subst hk
        have h1 := boundGoals_le hd.params a
        have h2 := hl hd (List.mem_filter.1 (List.mem_of_getElem? hj)).1
        have h3 : (superGoals s g).length ≤ s.length := by
          unfold superGoals
          rw [List.length_map]
          exact List.length_filter_le _ _
        rw [hj]
        simp only [Option.map_some, Option.getD_some, List.length_append]
        omega

set_option maxHeartbeats 8000000 in
theorem law_light (xs : List Int) (TA : Option Addr) (tc : Nat) (w : World) (hA : Row w (Lt w.heap.size) TA (xs.map (Value.int .i64))) (hn : xs.length ≤ 400) (hf : ∀ x ∈ xs, -9223372036854775808 ≤ x ∧ x ≤ 9223372036854775807) :
    Calls Try.prog 3 #[.slice TA xs.length tc] w fun e w' => e = .returned (.bool true) ∧ Below w.heap.size w w' := by
  have hli := light_any xs.length TA tc w
  rw [show decide (xs.length ≤ 400) = true by simpa using hn] at hli
  have hro := roll_any xs TA tc w hA hn hf
  have HLI := Lib.hid hli
  have HRO := Lib.hid hro
  clear hli hro hA hf
  go_enter Try.func3, Try.ntmps3
  go_wp2_with fail
  refine HLI.out.mono ?_
  rintro e w0 ⟨rfl, rfl⟩
  go_wp2_with fail
  refine HRO.out.mono ?_
  rintro e w1 ⟨rfl, hD1, hb1⟩
  have HD1 := Lib.hid hD1
  have HB1 := Lib.hid hb1
  have hs1 := hD1.lt
  clear hD1 hb1 HLI HRO
  go_wp2_with fail
  refine (headers_any _ xs _ HD1.out).mono ?_
  rintro e w2 ⟨hs, LA, lc, qs, rfl, hmade, hLA, hH, hD2, hK2⟩
  have hs2 := hK2.size
  have hB2 : Below w.heap.size w w2 := HB1.out.trans ⟨hK2.os, hK2.tape, hK2.output, hK2.size, fun x hx => hK2.block x (by omega) (by omega)⟩
  have HB2 := Lib.hid hB2
  have HM := Lib.hid hmade
  have HLA := Lib.hid hLA
  have HH2 := Lib.hid hH
  have HD2 := Lib.hid hD2
  clear hK2 hB2 hmade hLA hH hD2 HB1 HD1
  go_wp2_with fail
  refine (supers_any _ xs _ HD2.out).mono ?_
  rintro e w3 ⟨ss, SA, sc, rfl, hss, hSA, hS, hD3, hK3⟩
  have hs3 := hK3.size
  have HB3 := Lib.hid (HB2.out.trans ⟨hK3.os, hK3.tape, hK3.output, hK3.size, fun x hx => hK3.block x (by omega) (by omega)⟩ : Below w.heap.size w w3)
  have HH3 := Lib.hid ((HH2.out.keep (hK3.kept fun y hy => ⟨hy.2, by have := hy.1; omega⟩)).more (S' := fun y => y < w3.heap.size ∧ y ≠ w.heap.size) fun y hy => ⟨Nat.lt_of_lt_of_le hy.2 hK3.size, by have := hy.1; omega⟩)
  have HS3 := Lib.hid (hS.more (S' := fun y => y < w3.heap.size ∧ y ≠ w.heap.size) fun y hy => ⟨hy.2, by have := hy.1; omega⟩)
  have HD3 := Lib.hid hD3
  have HSS := Lib.hid hss
  clear hss hSA hS hD3 hK3 HB2 HH2 HD2
  go_wp2_with fail
  refine (of_any [[65], [66], [67]] (some ⟨w3.heap.size, 0, none⟩) 3 w.heap.size xs _ (by decide) (by decide) (HD3.out.below ((Below.refl _ _).alloc (Nat.le_refl _) _)) (row_lit w3 #[.string ⟨#[65]⟩, .string ⟨#[66]⟩, .string ⟨#[67]⟩] _ [[65], [66], [67]] rfl w.heap.size (by omega))).mono ?_
  rintro e w4 ⟨tr, htr, rfl, hD4, hK4⟩
  have hK04 : Kp (fun y => y = w.heap.size) w3 w4 := ((Kp.refl _ _).alloc _).one hK4
  have hs4 := hK04.size
  have HB4 := Lib.hid (HB3.out.trans ⟨hK04.os, hK04.tape, hK04.output, hK04.size, fun x hx => hK04.block x (by omega) (by omega)⟩ : Below w.heap.size w w4)
  have HH4 := Lib.hid ((HH3.out.keep (hK04.kept fun y hy => hy)).more (S' := fun y => y < w4.heap.size ∧ y ≠ w.heap.size) fun y hy => ⟨Nat.lt_of_lt_of_le hy.1 hK04.size, hy.2⟩)
  have HS4 := Lib.hid ((HS3.out.keep (hK04.kept fun y hy => hy)).more (S' := fun y => y < w4.heap.size ∧ y ≠ w.heap.size) fun y hy => ⟨Nat.lt_of_lt_of_le hy.1 hK04.size, hy.2⟩)
  have HD4 := Lib.hid hD4
  clear hK04 hD4 hK4 htr HB3 HH3 HS3 HD3
  go_wp2_with fail
  refine (plain_any w.heap.size xs 2 2 false w4 rfl (by decide) HD4.out).mono ?_
  rintro e w5 ⟨t, u, v, rfl, hP, hT, hD5, hK5⟩
  obtain ⟨un, va, rfl, rfl⟩ := hT.shape
  have hs5 := hK5.size
  have HB5 := Lib.hid (HB4.out.trans ⟨hK5.os, hK5.tape, hK5.output, hK5.size, fun x hx => hK5.block x (by omega) (by omega)⟩ : Below w.heap.size w w5)
  have HH5 := Lib.hid ((HH4.out.keep (hK5.kept fun y hy => hy)).more (S' := Lt w5.heap.size) fun y hy => Nat.lt_of_lt_of_le hy.1 hK5.size)
  have HS5 := Lib.hid ((HS4.out.keep (hK5.kept fun y hy => hy)).more (S' := Lt w5.heap.size) fun y hy => Nat.lt_of_lt_of_le hy.1 hK5.size)
  have HT5 := Lib.hid (hT.more (S' := Lt w5.heap.size) fun y hy => hy.2)
  have HP := Lib.hid hP
  clear hP hT hD5 hK5 HB4 HH4 HS4 HD4
  go_wp2_with fail
  have hun : un = t.name := by
    obtain ⟨_, _, _, e, _⟩ := HT5.out.open_
    exact bs_inj (by injection e)
  have HUN := Lib.hid hun
  clear hun
  have hx : ∃ w6 : World, w6 = w5.alloc (.cells #[sv tr, sv un, .slice va.1 va.2.1 va.2.2] 37) := ⟨_, rfl⟩
  obtain ⟨w6, hw6⟩ := hx
  have hb6 : Below w5.heap.size w5 w6 := by rw [hw6]; exact (Below.refl _ _).alloc (Nat.le_refl _) _
  have hG6 : w6.heap[w5.heap.size]? = some (.cells #[sv tr, sv un, .slice va.1 va.2.1 va.2.2] 37 (0, 0)) := by rw [hw6]; exact alloc1 _ _
  rw [← hw6]
  clear hw6
  have HSC := Lib.hid (⟨HH5.out.now (Nat.le_refl _) hb6, HLA.out, (HS5.out.keep (kept_below hb6)).more fun _ hy => Nat.lt_of_lt_of_le hy hb6.size, ⟨rfl, HT5.out.now (Nat.le_refl _) hb6⟩, hG6⟩ : Scene hs ss (tr, t) LA SA lc qs w5.heap.size (sv tr, sv un, .slice va.1 va.2.1 va.2.2) w6)
  have HB6 := Lib.hid (HB5.out.trans (hb6.mono HB5.out.size))
  obtain ⟨U, hUe⟩ : ∃ U, U = goalsIn hs ss (tr, t) := ⟨_, rfl⟩
  have HUF : Hid (U.length ≤ 1000000) := Lib.hid (by
    rw [hUe, goalsIn_length]
    have h1 : (traitsIn hs ss (tr, t)).length ≤ 16 := by
      have hbl : ∀ L : List Hdr, (∀ h ∈ L, h.params.length ≤ 2) → (L.flatMap fun h => h.params.map (·.2)).length ≤ 2 * L.length := by
        intro L hL
        induction L with
        | nil => simp
        | cons a r ih =>
          have := ih fun h hh => hL h (by simp [hh])
          have h2 := hL a (by simp)
          simp only [List.flatMap_cons, List.length_append, List.length_map, List.length_cons]
          omega
      have := hbl hs fun h hh => (HM.out.2 h hh).2
      have := HM.out.1
      have := HSS.out
      simp only [traitsIn, List.length_cons, List.length_append, List.length_map]
      omega
    have h2 : t.size + 1 ≤ 8 := HP.out.1
    exact Nat.le_trans (Nat.mul_le_mul h1 h2) (by decide))
  have HUS : Hid (Shut (leadsOf hs ss) U) := Lib.hid (by rw [hUe]; exact shut_goalsIn _ _ _)
  have HUG : Hid ((tr, t) ∈ U) := Lib.hid (by rw [hUe]; exact self_goalsIn _ _ _)
  have HUL : Hid (Shut (leadsOf hs (ss ++ [(tr, tr)])) U) := Lib.hid (by
    intro x hx y hy
    have h1 := shut_goalsIn hs (ss ++ [(tr, tr)]) (tr, t) x (mem_goalsIn.2 (by
      rw [hUe] at hx
      obtain ⟨h1, h2⟩ := mem_goalsIn.1 hx
      refine ⟨?_, h2⟩
      simp only [traitsIn, List.mem_cons, List.mem_append, List.map_append] at h1 ⊢
      rcases h1 with h | h | h
      · exact .inl h
      · exact .inr (.inl h)
      · exact .inr (.inr (.inl h)))) y hy
    obtain ⟨h1, h2⟩ := mem_goalsIn.1 h1
    rw [hUe]
    refine mem_goalsIn.2 ⟨?_, h2⟩
    simp only [traitsIn, List.mem_cons, List.mem_append, List.map_append, List.map_cons, List.map_nil, List.not_mem_nil, or_false] at h1 ⊢
    rcases h1 with h | h | h | h
    · exact .inl h
    · exact .inr (.inl h)
    · exact .inr (.inr h)
    · exact .inl h)
  clear hUe hb6 hG6 HB5 HH5 HS5 HT5 HLA
  refine (leads_any hs ss (tr, t) LA SA lc sc (sv tr, sv un, .slice va.1 va.2.1 va.2.2) qs w6 HSC.out.hl HSC.out.hLA HSC.out.hs (Nat.le_trans HSS.out (by decide)) HSC.out.hg).mono ?_
  rintro e w7 ⟨A7, n, c7, vs7, rfl, hn7, hG7, hb7⟩
  obtain ⟨gs, hgs⟩ : ∃ gs, gs = (leadsOf hs ss (tr, t)).1 := ⟨_, rfl⟩
  obtain ⟨st, hst⟩ : ∃ st, st = (leadsOf hs ss (tr, t)).2 := ⟨_, rfl⟩
  rw [← hgs] at hn7 hG7
  rw [← hst]
  have HGS := Lib.hid hgs
  have HST := Lib.hid hst
  have HN7 := Lib.hid hn7
  have HG7 := Lib.hid (hG7.more (S' := Lt w7.heap.size) fun y hy => hy.2)
  have HSC7 := Lib.hid (HSC.out.now hb7)
  have HB7 := Lib.hid (HB6.out.trans (hb7.mono HB6.out.size))
  have hnb : n ≤ 1000000 := by
    have := leadsOf_le hs ss (tr, t) fun h hh => (HM.out.2 h hh).2
    have := HSS.out
    rw [hn7, hgs]
    omega
  clear hgs hst hn7 hG7 hb7 HSC HB6
  go_wp2_with fail
  go_loopw [9, 10] (fun al i wr => ∃ (k : Nat) (b : Bool), k ≤ n ∧ i = .int .i64 k ∧ al = .bool b ∧ b = (st && (gs.take k).all (holdB hs ss U)) ∧ Below w7.heap.size w7 wr) (fun _ i _ => n - (intOf i).toNat)
  case atStart => exact ⟨0, st, Nat.zero_le _, rfl, rfl, by simp, Below.refl _ _⟩
  case round =>
    obtain ⟨k, b, hk, rfl, rfl, hbx, hb⟩ := hrel
    have HBX := Lib.hid hbx
    have HB := Lib.hid hb
    clear hbx hb
    by_cases hlt : k < n
    · have hkg : k < gs.length := by rw [← HN7.out]; exact hlt
      obtain ⟨ad, q, rfl, hS, _, e0, e1, e2, hGl⟩ := (HG7.out.now (Nat.le_refl _) HB.out).at_ (List.getElem?_eq_getElem hkg)
      obtain ⟨q1, q2, q3⟩ := q
      have hq1 := hGl.t
      obtain ⟨m8, a8, hq2, hq3⟩ := hGl.ty.shape
      simp only at hq1 hq2 hq3 e0 e1 e2
      subst hq1 hq2 hq3
      have HGL := Lib.hid hGl
      have HSN : Hid ((gs.take (k + 1)).all (holdB hs ss U) = ((gs.take k).all (holdB hs ss U) && holdB hs ss U gs[k])) := Lib.hid (all_snoc _ _ _ _ (List.getElem?_eq_getElem hkg))
      clear hGl
      cases b with
      | false =>
        go_wp2_with fail
        go_roundw
        case rel => exact ⟨k + 1, false, by omega, by go_num, rfl, by rw [HSN.out, ← Bool.and_assoc, ← HBX.out]; rfl, HB.out⟩
        case measure => simp [intOf]; omega
      | true =>
        go_wp2_with fail
        have hgk : gs[k] ∈ U := HUS.out _ HUG.out _ (by rw [← HGS.out]; exact List.getElem_mem hkg)
        refine (Scene.holds U HUF.out HUS.out hgk (Nat.le_trans HSS.out (by decide)) (HSC7.out.now HB.out) HGL.out).mono ?_
        rintro e w8 ⟨rfl, hb8⟩
        have HB8 := Lib.hid (HB.out.trans (hb8.mono HB.out.size))
        clear hb8 e0 e1 e2
        go_wp2_with fail
        go_roundw
        case rel => exact ⟨k + 1, holdB hs ss U gs[k], by omega, by go_num, rfl, by rw [HSN.out, ← Bool.and_assoc, ← HBX.out]; rfl, HB8.out⟩
        case measure => simp [intOf]; omega
    · obtain rfl : k = n := by omega
      have hbh : b = holdB hs ss U (tr, t) := by
        have h1 := HBX.out
        rw [List.take_of_length_le (by rw [← HN7.out]; exact Nat.le_refl _)] at h1
        rw [h1, Bool.eq_iff_iff, holdB_iff HUS.out HUG.out, hd_iff, ← HST.out, ← HGS.out, Bool.and_eq_true, List.all_eq_true]
        exact ⟨fun h => ⟨h.1, fun x hx => (holdB_iff HUS.out (HUS.out _ HUG.out _ (by rw [← HGS.out]; exact hx))).1 (h.2 x hx)⟩, fun h => ⟨h.1, fun x hx => (holdB_iff HUS.out (HUS.out _ HUG.out _ (by rw [← HGS.out]; exact hx))).2 (h.2 x hx)⟩⟩
      have HBH := Lib.hid hbh
      clear hbh
      have hbox := (HSC7.out.now HB.out).box
      have c0 : wr.cell? ⟨w5.heap.size, 0, none⟩ = some (sv tr) := (Lib.cell_of_heap hbox _).trans rfl
      have c1 : wr.cell? ⟨w5.heap.size, 1, none⟩ = some (sv un) := (Lib.cell_of_heap hbox _).trans rfl
      have c2 : wr.cell? ⟨w5.heap.size, 2, none⟩ = some (.slice va.1 va.2.1 va.2.2) := (Lib.cell_of_heap hbox _).trans rfl
      clear hbox
      go_wp2_with fail
      refine (Scene.holds U HUF.out HUS.out HUG.out (Nat.le_trans HSS.out (by decide)) (HSC7.out.now HB.out) (HSC7.out.now HB.out).hg).mono ?_
      rw [← HBH.out]
      rintro e w9 ⟨rfl, hb9⟩
      have HB9 := Lib.hid (HB.out.trans (hb9.mono HB.out.size))
      clear hb9 c0 c1 c2
      go_wp2_with fail
      refine (awake_any _).mono ?_
      rintro e w10 ⟨rfl, hb10⟩
      have hB10 := HB9.out.trans (hb10.mono HB9.out.size)
      have HSC10 := Lib.hid (HSC7.out.now hB10)
      have HB10 := Lib.hid (HB7.out.trans (hB10.mono HB7.out.size))
      clear hb10 hB10
      have hbox := HSC10.out.box
      have c0 : w10.cell? ⟨w5.heap.size, 0, none⟩ = some (sv tr) := (Lib.cell_of_heap hbox _).trans rfl
      clear hbox
      obtain ⟨i0, hi, hz0, hz1, hz2⟩ := info_parts infoSup
      cases b with
      | false =>
        go_wp2_with fail
        refine wp_region_two (fun w' => w'.cell? ⟨w5.heap.size, 0, none⟩ = some (sv tr)) [0, 2, 3, 4, 5, 6] 1 7 [8, 9] (by kernel_rfl) (by kernel_rfl) ?s0f ?h0f
        case s0f => exact c0
        case h0f =>
          simp only [opsAt, List.filterMap_cons, List.filterMap_nil, List.getElem?_toArray, List.getElem?_cons_succ, List.getElem?_cons_zero]
          refine wpLoad_step ?v0f rfl (fun w' hS => ?y0f) ?k0f
          case y0f => go_simp; rfl
          case k0f =>
          go_simp
          refine wpLoad_step ?v1f rfl (fun w' hS => ?y1f) ?k1f
          case y1f => go_simp; rfl
          case k1f =>
          go_simp
          refine wpLoad_step ?v2f rfl (fun w' hS => ?y2f) ?k2f
          case y2f => go_simp; rfl
          case k2f =>
          go_simp
          refine wpLoad_step ?v3f rfl (fun w' hS => ?y3f) ?k3f
          case y3f => go_simp; rfl
          case k3f =>
          go_simp
          refine wpLoad_step ?v4f rfl (fun w' hS => ?y4f) ?k4f
          case y4f => go_simp; rfl
          case k4f =>
          go_simp
          refine wpLoad_step ?v5f rfl (fun w' hS => ?y5f) ?k5f
          case y5f => go_simp; rfl
          case k5f =>
          go_simp
          refine wpLoad_nil ?_
          have hbd : Below w10.heap.size w10 w10.drew := (Below.refl _ _).drew
          refine ⟨?_, ?_⟩
          · skip
            refine wpKeep_step rfl ?_
            refine wp_append_row _ _ 29 rfl w10.heap.size 43 i0 _ 2 32 Try.underlying29 hi hz0 hz1 hz2 rfl (by omega) _ 0 [] rfl (World.ownsRow_nil _ _ _ _) (Lt w10.heap.size) SA ss.length sc (flat2 (ss.map pairV)) rfl ?a1f ?a2f ?a3f ?a4f ?a5f (Nat.le_refl _) ?_
            case a1f => rw [flat2_length, List.length_map]
            case a2f => exact HSC10.out.hs.keep fun _ _ => rfl
            case a3f => exact flat2_one _
            case a4f => have := HSS.out; unfold maxLen; omega
            case a5f => have := HSS.out; omega
            intro v1 w11 hown1 hg1 hat1
            have hb11 : Below w10.heap.size w10 w11 := hbd.grown hg1 (Nat.le_refl _) (fun x e => by cases e)
            have c11 : w11.cell? ⟨w5.heap.size, 0, none⟩ = some (sv tr) := (Lib.cell_of_heap (HSC10.out.now hb11).box _).trans rfl
            refine ⟨c11, ?_⟩
            have hlt11 : w5.heap.size < w11.heap.size := lt_of_heap (HSC10.out.now hb11).box
            have hs11 := hb11.size
            simp only [Nat.zero_add, List.nil_append] at hown1
            have HO11 := Lib.hid hown1
            clear hown1 hg1 hat1
            refine wpKeep_step rfl ?_
            go_simp
            refine wpKeep_nil ?_
            refine wpList_append_lies _ rfl _ _ 29 rfl w10.heap.size 43 i0 _ 2 32 Try.underlying29 hi hz0 hz1 hz2 rfl (by omega) _ ss.length (flat2 (ss.map pairV)) rfl (HO11.out.alloc _) ⟨w11.heap.size, 0, none⟩ 1 1 [sv tr, sv tr] rfl rfl ?b1f ?b2f (by omega) ?b3f ?b4f ?b5f _ rfl ?_
            case b1f => exact World.news_of_block (cs := #[sv tr, sv tr]) (alloc1 w11 _)
            case b2f => simp [Value.oneCell']
            case b3f => have := HSS.out; unfold maxLen; omega
            case b4f => have := HSS.out; omega
            case b5f => simp; omega
            intro gx capx wx hownx hgx _ _
            have hbx : Below w10.heap.size w10 wx := (hb11.alloc hs11 _).grown hgx (by simp; omega) (fun x e => (HO11.out.lt _ e).1)
            have hownx : wx.ownsRow w10.heap.size 43 2 (.slice (some ⟨gx, 0, none⟩) (ss.length + 1) capx) (ss.length + 1) (flat2 ((ss ++ [(tr, tr)]).map pairV)) := by rw [List.map_append, flat2_append]; exact hownx
            clear hgx hb11 c11 hlt11 hs11 HO11
            have HSW := Lib.hid (HSC10.out.now hbx)
            have HBW := Lib.hid (HB10.out.trans (hbx.mono HB10.out.size))
            have HRX := Lib.hid (Row.ofOwn hownx (S := Lt wx.heap.size) fun g _ _ h2 => h2)
            have hbox := HSW.out.box
            have c0 : wx.cell? ⟨w5.heap.size, 0, none⟩ = some (sv tr) := (Lib.cell_of_heap hbox _).trans rfl
            have c1 : wx.cell? ⟨w5.heap.size, 1, none⟩ = some (sv un) := (Lib.cell_of_heap hbox _).trans rfl
            have c2 : wx.cell? ⟨w5.heap.size, 2, none⟩ = some (.slice va.1 va.2.1 va.2.2) := (Lib.cell_of_heap hbox _).trans rfl
            have HSL : Hid (Scene hs (ss ++ [(tr, tr)]) (tr, t) LA (some ⟨gx, 0, none⟩) lc qs w5.heap.size (sv tr, sv un, .slice va.1 va.2.1 va.2.2) wx) := Lib.hid ⟨HSW.out.hl, HSW.out.hLA, HRX.out, HSW.out.hg, HSW.out.box⟩
            have HLL := Lib.hid (show (ss ++ [(tr, tr)]).length ≤ 1000000 by have := HSS.out; simp; omega)
            have hlen : (ss ++ [(tr, tr)]).length = ss.length + 1 := by simp
            have HLEN := Lib.hid hlen
            clear hbox hownx hbx hlen
            go_wp2
            refine NoPanic.normal ?_
            by_cases he : un = errName
            · subst he
              have hbe : ((bs errName).toList == [101, 114, 114, 111, 114]) = true := by rw [Lib.toList_data, bs_data]; decide
              have hbn : ((bs errName).toList != [101, 114, 114, 111, 114]) = false := by rw [Lib.toList_data, bs_data]; decide
              go_wp2
              go_ret
              exact ⟨rfl, HBW.out⟩
            · have hne : un ≠ [] := by rw [HUN.out]; exact HP.out.2
              have hbe : ((bs un).toList == [101, 114, 114, 111, 114]) = false := by rw [Lib.toList_data, bs_data]; simpa [errName] using he
              have hbn : ((bs un).toList != [101, 114, 114, 111, 114]) = true := by rw [Lib.toList_data, bs_data]; simpa [errName] using he
              have HE := Lib.hid he
              obtain ⟨ch, r, rfl⟩ : ∃ ch r, un = ch :: r := by
                cases un with
                | nil => exact absurd rfl hne
                | cons ch r => exact ⟨ch, r, rfl⟩
              have hget : (bs (ch :: r)).size = r.length + 1 := by rw [bs_size]; rfl
              have HL : Hid (ch ≠ 36 → holdB hs (ss ++ [(tr, tr)]) U (tr, t) = false) := Lib.hid fun h36 => by
                rw [← Bool.not_eq_true, holdB_iff HUL.out HUG.out]
                refine loop_no (g := (tr, t)) ?_ ?_
                · show (cutD t.name).2 = false
                  rw [← HUN.out]
                  simp [cutD, h36]
                · show t.name ≠ errName
                  rw [← HUN.out]
                  exact HE.out
              clear he hne
              go_wp2_with fail
              · go_ret
                exact ⟨rfl, HBW.out⟩
              · have hx : ¬ (((ch.toNat : Nat) : Int) = 36) := by assumption
                have h36 : ch ≠ 36 := by
                  rintro rfl
                  exact hx (by decide)
                have hho := Scene.holds U HUF.out HUL.out HUG.out HLL.out HSL.out HSW.out.hg (sc := capx)
                rw [HL.out h36, HLEN.out] at hho
                clear hx
                refine hho.mono ?_
                clear hho
                rintro e wy ⟨rfl, hby⟩
                have HBY := Lib.hid (HBW.out.trans (hby.mono HBW.out.size))
                clear hby c0 c1 c2
                go_wp2
                go_ret
                exact ⟨rfl, HBY.out⟩
          · skip
            refine wpKeep_step rfl ?_
            go_simp
            have hb11 : Below w10.heap.size w10 (w10.alloc (.cells #[sv tr, sv tr] 43)).drew := ((Below.refl _ _).alloc (Nat.le_refl _) _).drew
            refine ⟨(Lib.cell_of_heap (HSC10.out.now hb11).box _).trans rfl, ?_⟩
            refine wpKeep_step rfl ?_
            refine wp_append_row _ _ 29 rfl w10.heap.size 43 i0 _ 2 32 Try.underlying29 hi hz0 hz1 hz2 rfl (by omega) _ 0 [] rfl (World.ownsRow_nil _ _ _ _) (Lt w10.heap.size) SA ss.length sc (flat2 (ss.map pairV)) rfl ?d1f ?d2f ?d3f ?d4f ?d5f (by simp) ?_
            case d1f => rw [flat2_length, List.length_map]
            case d2f => exact HSC10.out.hs.keep (kept_below hb11)
            case d3f => exact flat2_one _
            case d4f => have := HSS.out; unfold maxLen; omega
            case d5f => have := HSS.out; omega
            intro v1 w11 hown1 hg1 hat1
            have hb12 := hb11.grown hg1 (by simp) (fun x e => by cases e)
            have hs12 := hb12.size
            have hB12 : w11.heap[w10.heap.size]? = some (.cells #[sv tr, sv tr] 43 (0, 0)) := (hg1.block _ (by simp) (fun e => by cases e)).trans (alloc1 w10 _)
            refine ⟨(Lib.cell_of_heap (HSC10.out.now hb12).box _).trans rfl, ?_⟩
            simp only [Nat.zero_add, List.nil_append] at hown1
            have HO11 := Lib.hid hown1
            clear hown1 hg1 hat1
            refine wpKeep_nil ?_
            refine wpList_append_lies _ rfl _ _ 29 rfl w10.heap.size 43 i0 _ 2 32 Try.underlying29 hi hz0 hz1 hz2 rfl (by omega) _ ss.length (flat2 (ss.map pairV)) rfl HO11.out ⟨w10.heap.size, 0, none⟩ 1 1 [sv tr, sv tr] rfl rfl ?e1f ?e2f (by omega) ?e3f ?e4f ?e5f _ rfl ?_
            case e1f => exact World.news_of_block (cs := #[sv tr, sv tr]) hB12
            case e2f => simp [Value.oneCell']
            case e3f => have := HSS.out; unfold maxLen; omega
            case e4f => have := HSS.out; omega
            case e5f => exact hs12
            intro gx capx wx hownx hgx _ _
            have hbx : Below w10.heap.size w10 wx := hb12.grown hgx hs12 (fun x e => (HO11.out.lt _ e).1)
            have hownx : wx.ownsRow w10.heap.size 43 2 (.slice (some ⟨gx, 0, none⟩) (ss.length + 1) capx) (ss.length + 1) (flat2 ((ss ++ [(tr, tr)]).map pairV)) := by rw [List.map_append, flat2_append]; exact hownx
            clear hgx hb11 hb12 hs12 hB12 HO11
            have HSW := Lib.hid (HSC10.out.now hbx)
            have HBW := Lib.hid (HB10.out.trans (hbx.mono HB10.out.size))
            have HRX := Lib.hid (Row.ofOwn hownx (S := Lt wx.heap.size) fun g _ _ h2 => h2)
            have hbox := HSW.out.box
            have c0 : wx.cell? ⟨w5.heap.size, 0, none⟩ = some (sv tr) := (Lib.cell_of_heap hbox _).trans rfl
            have c1 : wx.cell? ⟨w5.heap.size, 1, none⟩ = some (sv un) := (Lib.cell_of_heap hbox _).trans rfl
            have c2 : wx.cell? ⟨w5.heap.size, 2, none⟩ = some (.slice va.1 va.2.1 va.2.2) := (Lib.cell_of_heap hbox _).trans rfl
            have HSL : Hid (Scene hs (ss ++ [(tr, tr)]) (tr, t) LA (some ⟨gx, 0, none⟩) lc qs w5.heap.size (sv tr, sv un, .slice va.1 va.2.1 va.2.2) wx) := Lib.hid ⟨HSW.out.hl, HSW.out.hLA, HRX.out, HSW.out.hg, HSW.out.box⟩
            have HLL := Lib.hid (show (ss ++ [(tr, tr)]).length ≤ 1000000 by have := HSS.out; simp; omega)
            have hlen : (ss ++ [(tr, tr)]).length = ss.length + 1 := by simp
            have HLEN := Lib.hid hlen
            clear hbox hownx hbx hlen
            go_wp2
            refine NoPanic.normal ?_
            by_cases he : un = errName
            · subst he
              have hbe : ((bs errName).toList == [101, 114, 114, 111, 114]) = true := by rw [Lib.toList_data, bs_data]; decide
              have hbn : ((bs errName).toList != [101, 114, 114, 111, 114]) = false := by rw [Lib.toList_data, bs_data]; decide
              go_wp2
              go_ret
              exact ⟨rfl, HBW.out⟩
            · have hne : un ≠ [] := by rw [HUN.out]; exact HP.out.2
              have hbe : ((bs un).toList == [101, 114, 114, 111, 114]) = false := by rw [Lib.toList_data, bs_data]; simpa [errName] using he
              have hbn : ((bs un).toList != [101, 114, 114, 111, 114]) = true := by rw [Lib.toList_data, bs_data]; simpa [errName] using he
              have HE := Lib.hid he
              obtain ⟨ch, r, rfl⟩ : ∃ ch r, un = ch :: r := by
                cases un with
                | nil => exact absurd rfl hne
                | cons ch r => exact ⟨ch, r, rfl⟩
              have hget : (bs (ch :: r)).size = r.length + 1 := by rw [bs_size]; rfl
              have HL : Hid (ch ≠ 36 → holdB hs (ss ++ [(tr, tr)]) U (tr, t) = false) := Lib.hid fun h36 => by
                rw [← Bool.not_eq_true, holdB_iff HUL.out HUG.out]
                refine loop_no (g := (tr, t)) ?_ ?_
                · show (cutD t.name).2 = false
                  rw [← HUN.out]
                  simp [cutD, h36]
                · show t.name ≠ errName
                  rw [← HUN.out]
                  exact HE.out
              clear he hne
              go_wp2_with fail
              · go_ret
                exact ⟨rfl, HBW.out⟩
              · have hx : ¬ (((ch.toNat : Nat) : Int) = 36) := by assumption
                have h36 : ch ≠ 36 := by
                  rintro rfl
                  exact hx (by decide)
                have hho := Scene.holds U HUF.out HUL.out HUG.out HLL.out HSL.out HSW.out.hg (sc := capx)
                rw [HL.out h36, HLEN.out] at hho
                clear hx
                refine hho.mono ?_
                clear hho
                rintro e wy ⟨rfl, hby⟩
                have HBY := Lib.hid (HBW.out.trans (hby.mono HBW.out.size))
                clear hby c0 c1 c2
                go_wp2
                go_ret
                exact ⟨rfl, HBY.out⟩
      | true =>
        go_wp2_with fail
        refine wp_region_two (fun w' => w'.cell? ⟨w5.heap.size, 0, none⟩ = some (sv tr)) [0, 2, 3, 4, 5, 6] 1 7 [8, 9] (by kernel_rfl) (by kernel_rfl) ?s0t ?h0t
        case s0t => exact c0
        case h0t =>
          simp only [opsAt, List.filterMap_cons, List.filterMap_nil, List.getElem?_toArray, List.getElem?_cons_succ, List.getElem?_cons_zero]
          refine wpLoad_step ?v0t rfl (fun w' hS => ?y0t) ?k0t
          case y0t => go_simp; rfl
          case k0t =>
          go_simp
          refine wpLoad_step ?v1t rfl (fun w' hS => ?y1t) ?k1t
          case y1t => go_simp; rfl
          case k1t =>
          go_simp
          refine wpLoad_step ?v2t rfl (fun w' hS => ?y2t) ?k2t
          case y2t => go_simp; rfl
          case k2t =>
          go_simp
          refine wpLoad_step ?v3t rfl (fun w' hS => ?y3t) ?k3t
          case y3t => go_simp; rfl
          case k3t =>
          go_simp
          refine wpLoad_step ?v4t rfl (fun w' hS => ?y4t) ?k4t
          case y4t => go_simp; rfl
          case k4t =>
          go_simp
          refine wpLoad_step ?v5t rfl (fun w' hS => ?y5t) ?k5t
          case y5t => go_simp; rfl
          case k5t =>
          go_simp
          refine wpLoad_nil ?_
          have hbd : Below w10.heap.size w10 w10.drew := (Below.refl _ _).drew
          refine ⟨?_, ?_⟩
          · skip
            refine wpKeep_step rfl ?_
            refine wp_append_row _ _ 29 rfl w10.heap.size 43 i0 _ 2 32 Try.underlying29 hi hz0 hz1 hz2 rfl (by omega) _ 0 [] rfl (World.ownsRow_nil _ _ _ _) (Lt w10.heap.size) SA ss.length sc (flat2 (ss.map pairV)) rfl ?a1t ?a2t ?a3t ?a4t ?a5t (Nat.le_refl _) ?_
            case a1t => rw [flat2_length, List.length_map]
            case a2t => exact HSC10.out.hs.keep fun _ _ => rfl
            case a3t => exact flat2_one _
            case a4t => have := HSS.out; unfold maxLen; omega
            case a5t => have := HSS.out; omega
            intro v1 w11 hown1 hg1 hat1
            have hb11 : Below w10.heap.size w10 w11 := hbd.grown hg1 (Nat.le_refl _) (fun x e => by cases e)
            have c11 : w11.cell? ⟨w5.heap.size, 0, none⟩ = some (sv tr) := (Lib.cell_of_heap (HSC10.out.now hb11).box _).trans rfl
            refine ⟨c11, ?_⟩
            have hlt11 : w5.heap.size < w11.heap.size := lt_of_heap (HSC10.out.now hb11).box
            have hs11 := hb11.size
            simp only [Nat.zero_add, List.nil_append] at hown1
            have HO11 := Lib.hid hown1
            clear hown1 hg1 hat1
            refine wpKeep_step rfl ?_
            go_simp
            refine wpKeep_nil ?_
            refine wpList_append_lies _ rfl _ _ 29 rfl w10.heap.size 43 i0 _ 2 32 Try.underlying29 hi hz0 hz1 hz2 rfl (by omega) _ ss.length (flat2 (ss.map pairV)) rfl (HO11.out.alloc _) ⟨w11.heap.size, 0, none⟩ 1 1 [sv tr, sv tr] rfl rfl ?b1t ?b2t (by omega) ?b3t ?b4t ?b5t _ rfl ?_
            case b1t => exact World.news_of_block (cs := #[sv tr, sv tr]) (alloc1 w11 _)
            case b2t => simp [Value.oneCell']
            case b3t => have := HSS.out; unfold maxLen; omega
            case b4t => have := HSS.out; omega
            case b5t => simp; omega
            intro gx capx wx hownx hgx _ _
            have hbx : Below w10.heap.size w10 wx := (hb11.alloc hs11 _).grown hgx (by simp; omega) (fun x e => (HO11.out.lt _ e).1)
            have hownx : wx.ownsRow w10.heap.size 43 2 (.slice (some ⟨gx, 0, none⟩) (ss.length + 1) capx) (ss.length + 1) (flat2 ((ss ++ [(tr, tr)]).map pairV)) := by rw [List.map_append, flat2_append]; exact hownx
            clear hgx hb11 c11 hlt11 hs11 HO11
            have HSW := Lib.hid (HSC10.out.now hbx)
            have HBW := Lib.hid (HB10.out.trans (hbx.mono HB10.out.size))
            have HRX := Lib.hid (Row.ofOwn hownx (S := Lt wx.heap.size) fun g _ _ h2 => h2)
            have hbox := HSW.out.box
            have c0 : wx.cell? ⟨w5.heap.size, 0, none⟩ = some (sv tr) := (Lib.cell_of_heap hbox _).trans rfl
            have c1 : wx.cell? ⟨w5.heap.size, 1, none⟩ = some (sv un) := (Lib.cell_of_heap hbox _).trans rfl
            have c2 : wx.cell? ⟨w5.heap.size, 2, none⟩ = some (.slice va.1 va.2.1 va.2.2) := (Lib.cell_of_heap hbox _).trans rfl
            have HSL : Hid (Scene hs (ss ++ [(tr, tr)]) (tr, t) LA (some ⟨gx, 0, none⟩) lc qs w5.heap.size (sv tr, sv un, .slice va.1 va.2.1 va.2.2) wx) := Lib.hid ⟨HSW.out.hl, HSW.out.hLA, HRX.out, HSW.out.hg, HSW.out.box⟩
            have HLL := Lib.hid (show (ss ++ [(tr, tr)]).length ≤ 1000000 by have := HSS.out; simp; omega)
            have hlen : (ss ++ [(tr, tr)]).length = ss.length + 1 := by simp
            have HLEN := Lib.hid hlen
            clear hbox hownx hbx hlen
            go_wp2
            refine NoPanic.normal ?_
            by_cases he : un = errName
            · subst he
              have hbe : ((bs errName).toList == [101, 114, 114, 111, 114]) = true := by rw [Lib.toList_data, bs_data]; decide
              have hbn : ((bs errName).toList != [101, 114, 114, 111, 114]) = false := by rw [Lib.toList_data, bs_data]; decide
              go_wp2
              go_ret
              exact ⟨rfl, HBW.out⟩
            · have hne : un ≠ [] := by rw [HUN.out]; exact HP.out.2
              have hbe : ((bs un).toList == [101, 114, 114, 111, 114]) = false := by rw [Lib.toList_data, bs_data]; simpa [errName] using he
              have hbn : ((bs un).toList != [101, 114, 114, 111, 114]) = true := by rw [Lib.toList_data, bs_data]; simpa [errName] using he
              have HE := Lib.hid he
              obtain ⟨ch, r, rfl⟩ : ∃ ch r, un = ch :: r := by
                cases un with
                | nil => exact absurd rfl hne
                | cons ch r => exact ⟨ch, r, rfl⟩
              have hget : (bs (ch :: r)).size = r.length + 1 := by rw [bs_size]; rfl
              have HL : Hid (ch ≠ 36 → holdB hs (ss ++ [(tr, tr)]) U (tr, t) = false) := Lib.hid fun h36 => by
                rw [← Bool.not_eq_true, holdB_iff HUL.out HUG.out]
                refine loop_no (g := (tr, t)) ?_ ?_
                · show (cutD t.name).2 = false
                  rw [← HUN.out]
                  simp [cutD, h36]
                · show t.name ≠ errName
                  rw [← HUN.out]
                  exact HE.out
              clear he hne
              go_wp2_with fail
              · go_ret
                exact ⟨rfl, HBW.out⟩
              · have hx : ¬ (((ch.toNat : Nat) : Int) = 36) := by assumption
                have h36 : ch ≠ 36 := by
                  rintro rfl
                  exact hx (by decide)
                have hho := Scene.holds U HUF.out HUL.out HUG.out HLL.out HSL.out HSW.out.hg (sc := capx)
                rw [HL.out h36, HLEN.out] at hho
                clear hx
                refine hho.mono ?_
                clear hho
                rintro e wy ⟨rfl, hby⟩
                have HBY := Lib.hid (HBW.out.trans (hby.mono HBW.out.size))
                clear hby c0 c1 c2
                go_wp2
                go_ret
                exact ⟨rfl, HBY.out⟩
          · skip
            refine wpKeep_step rfl ?_
            go_simp
            have hb11 : Below w10.heap.size w10 (w10.alloc (.cells #[sv tr, sv tr] 43)).drew := ((Below.refl _ _).alloc (Nat.le_refl _) _).drew
            refine ⟨(Lib.cell_of_heap (HSC10.out.now hb11).box _).trans rfl, ?_⟩
            refine wpKeep_step rfl ?_
            refine wp_append_row _ _ 29 rfl w10.heap.size 43 i0 _ 2 32 Try.underlying29 hi hz0 hz1 hz2 rfl (by omega) _ 0 [] rfl (World.ownsRow_nil _ _ _ _) (Lt w10.heap.size) SA ss.length sc (flat2 (ss.map pairV)) rfl ?d1t ?d2t ?d3t ?d4t ?d5t (by simp) ?_
            case d1t => rw [flat2_length, List.length_map]
            case d2t => exact HSC10.out.hs.keep (kept_below hb11)
            case d3t => exact flat2_one _
            case d4t => have := HSS.out; unfold maxLen; omega
            case d5t => have := HSS.out; omega
            intro v1 w11 hown1 hg1 hat1
            have hb12 := hb11.grown hg1 (by simp) (fun x e => by cases e)
            have hs12 := hb12.size
            have hB12 : w11.heap[w10.heap.size]? = some (.cells #[sv tr, sv tr] 43 (0, 0)) := (hg1.block _ (by simp) (fun e => by cases e)).trans (alloc1 w10 _)
            refine ⟨(Lib.cell_of_heap (HSC10.out.now hb12).box _).trans rfl, ?_⟩
            simp only [Nat.zero_add, List.nil_append] at hown1
            have HO11 := Lib.hid hown1
            clear hown1 hg1 hat1
            refine wpKeep_nil ?_
            refine wpList_append_lies _ rfl _ _ 29 rfl w10.heap.size 43 i0 _ 2 32 Try.underlying29 hi hz0 hz1 hz2 rfl (by omega) _ ss.length (flat2 (ss.map pairV)) rfl HO11.out ⟨w10.heap.size, 0, none⟩ 1 1 [sv tr, sv tr] rfl rfl ?e1t ?e2t (by omega) ?e3t ?e4t ?e5t _ rfl ?_
            case e1t => exact World.news_of_block (cs := #[sv tr, sv tr]) hB12
            case e2t => simp [Value.oneCell']
            case e3t => have := HSS.out; unfold maxLen; omega
            case e4t => have := HSS.out; omega
            case e5t => exact hs12
            intro gx capx wx hownx hgx _ _
            have hbx : Below w10.heap.size w10 wx := hb12.grown hgx hs12 (fun x e => (HO11.out.lt _ e).1)
            have hownx : wx.ownsRow w10.heap.size 43 2 (.slice (some ⟨gx, 0, none⟩) (ss.length + 1) capx) (ss.length + 1) (flat2 ((ss ++ [(tr, tr)]).map pairV)) := by rw [List.map_append, flat2_append]; exact hownx
            clear hgx hb11 hb12 hs12 hB12 HO11
            have HSW := Lib.hid (HSC10.out.now hbx)
            have HBW := Lib.hid (HB10.out.trans (hbx.mono HB10.out.size))
            have HRX := Lib.hid (Row.ofOwn hownx (S := Lt wx.heap.size) fun g _ _ h2 => h2)
            have hbox := HSW.out.box
            have c0 : wx.cell? ⟨w5.heap.size, 0, none⟩ = some (sv tr) := (Lib.cell_of_heap hbox _).trans rfl
            have c1 : wx.cell? ⟨w5.heap.size, 1, none⟩ = some (sv un) := (Lib.cell_of_heap hbox _).trans rfl
            have c2 : wx.cell? ⟨w5.heap.size, 2, none⟩ = some (.slice va.1 va.2.1 va.2.2) := (Lib.cell_of_heap hbox _).trans rfl
            have HSL : Hid (Scene hs (ss ++ [(tr, tr)]) (tr, t) LA (some ⟨gx, 0, none⟩) lc qs w5.heap.size (sv tr, sv un, .slice va.1 va.2.1 va.2.2) wx) := Lib.hid ⟨HSW.out.hl, HSW.out.hLA, HRX.out, HSW.out.hg, HSW.out.box⟩
            have HLL := Lib.hid (show (ss ++ [(tr, tr)]).length ≤ 1000000 by have := HSS.out; simp; omega)
            have hlen : (ss ++ [(tr, tr)]).length = ss.length + 1 := by simp
            have HLEN := Lib.hid hlen
            clear hbox hownx hbx hlen
            go_wp2
            refine NoPanic.normal ?_
            by_cases he : un = errName
            · subst he
              have hbe : ((bs errName).toList == [101, 114, 114, 111, 114]) = true := by rw [Lib.toList_data, bs_data]; decide
              have hbn : ((bs errName).toList != [101, 114, 114, 111, 114]) = false := by rw [Lib.toList_data, bs_data]; decide
              go_wp2
              go_ret
              exact ⟨rfl, HBW.out⟩
            · have hne : un ≠ [] := by rw [HUN.out]; exact HP.out.2
              have hbe : ((bs un).toList == [101, 114, 114, 111, 114]) = false := by rw [Lib.toList_data, bs_data]; simpa [errName] using he
              have hbn : ((bs un).toList != [101, 114, 114, 111, 114]) = true := by rw [Lib.toList_data, bs_data]; simpa [errName] using he
              have HE := Lib.hid he
              obtain ⟨ch, r, rfl⟩ : ∃ ch r, un = ch :: r := by
                cases un with
                | nil => exact absurd rfl hne
                | cons ch r => exact ⟨ch, r, rfl⟩
              have hget : (bs (ch :: r)).size = r.length + 1 := by rw [bs_size]; rfl
              have HL : Hid (ch ≠ 36 → holdB hs (ss ++ [(tr, tr)]) U (tr, t) = false) := Lib.hid fun h36 => by
                rw [← Bool.not_eq_true, holdB_iff HUL.out HUG.out]
                refine loop_no (g := (tr, t)) ?_ ?_
                · show (cutD t.name).2 = false
                  rw [← HUN.out]
                  simp [cutD, h36]
                · show t.name ≠ errName
                  rw [← HUN.out]
                  exact HE.out
              clear he hne
              go_wp2_with fail
              · go_ret
                exact ⟨rfl, HBW.out⟩
              · have hx : ¬ (((ch.toNat : Nat) : Int) = 36) := by assumption
                have h36 : ch ≠ 36 := by
                  rintro rfl
                  exact hx (by decide)
                have hho := Scene.holds U HUF.out HUL.out HUG.out HLL.out HSL.out HSW.out.hg (sc := capx)
                rw [HL.out h36, HLEN.out] at hho
                clear hx
                refine hho.mono ?_
                clear hho
                rintro e wy ⟨rfl, hby⟩
                have HBY := Lib.hid (HBW.out.trans (hby.mono HBW.out.size))
                clear hby c0 c1 c2
                go_wp2
                go_ret
                exact ⟨rfl, HBY.out⟩
end Go.Proofs.Ytdkgdcmiopnlmaa
