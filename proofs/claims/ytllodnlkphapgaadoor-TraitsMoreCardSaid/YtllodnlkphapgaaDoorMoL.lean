/-
  The walk of recompilelaw12.TraitsMore (printed by genMore.py with head.mo.txt).
  Conditions: the numbers are ints.
-/
import Derived.Test.YtllodnlkphapgaaDoorMoP
import Derived.Test.YtllodnlkphapgaaDoorRow
import Derived.Test.YtllodnlkphapgaaDoorMix
import Derived.Test.YtllodnlkphapgaaDoorSup
import Derived.Test.YtllodnlkphapgaaDoorHdrs
import Derived.Test.YtllodnlkphapgaaDoorPlainT
import Derived.Test.YtllodnlkphapgaaDoorAwake
namespace Go.Proofs.YtllodnlkphapgaaDoor
open Go.RowKit

set_option maxHeartbeats 32000000 in
set_option maxRecDepth 100000 in
theorem more_light (xs : List Int) (turn : Int) (TA : Option Addr) (tc : Nat) (w : World) (hA : Row w (Lt w.heap.size) TA (xs.map (Value.int .i64))) (hn : xs.length ≤ 400) (hf : ∀ x ∈ xs, -9223372036854775808 ≤ x ∧ x ≤ 9223372036854775807) (ht0 : -9223372036854775808 ≤ turn) (ht1 : turn ≤ 9223372036854775807) :
    Calls Tryd.prog 4 #[.slice TA xs.length tc, .int .i64 turn] w fun e w' => e = .returned (.bool true) ∧ Below w.heap.size w w' := by
  have hli := light_any xs.length TA tc w
  rw [show decide (xs.length ≤ 400) = true by simpa using hn] at hli
  have hro := roll_any xs TA tc w hA hn hf
  have HLI := Lib.hid hli
  have HRO := Lib.hid hro
  obtain ⟨i0, hi, hz0, hz1, hz2⟩ := info_parts infoH
  clear hli hro hA hf
  generalize xs.length = nx at *
  go_enter Tryd.func4, Tryd.ntmps4
  go_wp2_with fail
  refine HLI.out.mono ?_
  rintro e w0 ⟨rfl, rfl⟩
  go_wp2_with fail
  refine HRO.out.mono ?_
  rintro e w1 ⟨rfl, hD1, hb1⟩
  have HDR := Lib.hid (headers_any _ xs _ hD1)
  have hs1 := hD1.lt
  have HB1 := Lib.hid hb1
  clear hD1 hb1 HLI HRO
  go_wp2_with fail
  refine HDR.out.mono ?_
  rintro e w2 ⟨hs, LA, lc, qs, rfl, hmade, ⟨hLA, hlc1, hlc2⟩, hH, hD2, hK2⟩
  have hs2 := hK2.size
  have HB2 : Hid (Below w.heap.size w w2) := Lib.hid (HB1.out.trans ⟨hK2.os, hK2.tape, hK2.output, hK2.size, fun x hx => hK2.block x (by omega) (by omega)⟩)
  have HM := Lib.hid hmade
  have HLA := Lib.hid hLA
  have HH2 := Lib.hid hH
  have SUP := Lib.hid (supers_any _ xs _ hD2)
  obtain ⟨n, hnn⟩ : ∃ n, n = hs.length := ⟨_, rfl⟩
  rw [← hnn] at hlc1 ⊢
  have HN := Lib.hid hnn
  clear hK2 hmade hLA hH hD2 HB1 HDR hnn
  go_wp2_with fail
  refine SUP.out.mono ?_
  rintro e w3 ⟨ss, SA, sc, rfl, hss, hSA, hS, hD3, hK3⟩
  have hs3 := hK3.size
  have HB3 := Lib.hid (HB2.out.trans ⟨hK3.os, hK3.tape, hK3.output, hK3.size, fun x hx => hK3.block x (by omega) (by omega)⟩ : Below w.heap.size w w3)
  have HH3 := Lib.hid ((HH2.out.keep (hK3.kept fun y hy => ⟨hy.2, by have := hy.1; omega⟩)).more (S' := fun y => y < w3.heap.size ∧ y ≠ w.heap.size) fun y hy => ⟨Nat.lt_of_lt_of_le hy.2 hK3.size, by have := hy.1; omega⟩)
  have HS3 := Lib.hid (hS.more (S' := fun y => y < w3.heap.size ∧ y ≠ w.heap.size) fun y hy => ⟨hy.2, by have := hy.1; omega⟩)
  have HD3 := Lib.hid hD3
  have HSS := Lib.hid hss
  obtain ⟨sn, hsn⟩ : ∃ sn, sn = ss.length := ⟨_, rfl⟩
  rw [← hsn]
  have HSN := Lib.hid hsn
  clear hss hSA hS hD3 hK3 HB2 HH2 SUP hsn
  go_wp2_with fail
  refine (of_any [[65], [66], [67]] (some ⟨w3.heap.size, 0, none⟩) 3 w.heap.size xs _ (by decide) (by decide) (HD3.out.below ((Below.refl _ _).alloc (Nat.le_refl _) _)) (row_lit w3 #[.string ⟨#[65]⟩, .string ⟨#[66]⟩, .string ⟨#[67]⟩] _ [[65], [66], [67]] rfl w.heap.size (by omega))).mono ?_
  rintro e w4 ⟨tr, htr, rfl, hD4, hK4⟩
  have hK04 : Kp (fun y => y = w.heap.size) w3 w4 := ((Kp.refl _ _).alloc _).one hK4
  have hs4 := hK04.size
  have HB4 := Lib.hid (HB3.out.trans ⟨hK04.os, hK04.tape, hK04.output, hK04.size, fun x hx => hK04.block x (by omega) (by omega)⟩ : Below w.heap.size w w4)
  have HH4 := Lib.hid ((HH3.out.keep (hK04.kept fun y hy => hy)).more (S' := fun y => y < w4.heap.size ∧ y ≠ w.heap.size) fun y hy => ⟨Nat.lt_of_lt_of_le hy.1 hK04.size, hy.2⟩)
  have HS4 := Lib.hid ((HS3.out.keep (hK04.kept fun y hy => hy)).more (S' := fun y => y < w4.heap.size ∧ y ≠ w.heap.size) fun y hy => ⟨Nat.lt_of_lt_of_le hy.1 hK04.size, hy.2⟩)
  have PLN := Lib.hid (plain_any w.heap.size xs 3 3 false w4 rfl (by decide) hD4)
  clear hK04 hD4 hK4 htr HB3 HH3 HS3 HD3
  go_wp2_with fail
  refine PLN.out.mono ?_
  rintro e w5 ⟨t, u, v, rfl, hP, hT, hD5, hK5⟩
  obtain ⟨un, va, rfl, rfl⟩ := hT.shape
  have hs5 := hK5.size
  have HB5 := Lib.hid (HB4.out.trans ⟨hK5.os, hK5.tape, hK5.output, hK5.size, fun x hx => hK5.block x (by omega) (by omega)⟩ : Below w.heap.size w w5)
  have HH5 := Lib.hid ((HH4.out.keep (hK5.kept fun y hy => hy)).more (S' := fun y => y < w5.heap.size ∧ y ≠ w.heap.size) fun y hy => ⟨Nat.lt_of_lt_of_le hy.1 hK5.size, hy.2⟩)
  have HS5 := Lib.hid ((HS4.out.keep (hK5.kept fun y hy => hy)).more (S' := fun y => y < w5.heap.size ∧ y ≠ w.heap.size) fun y hy => ⟨Nat.lt_of_lt_of_le hy.1 hK5.size, hy.2⟩)
  have HT5 := Lib.hid (hT.more (S' := fun y => y < w5.heap.size ∧ y ≠ w.heap.size) fun y hy => ⟨hy.2, by have := hy.1; omega⟩)
  have HH5L := Lib.hid (HH5.out.more (S' := Lt w5.heap.size) fun y hy => hy.1)
  have HD5 := Lib.hid hD5
  have hd5 := hD5.lt
  have HP := Lib.hid hP
  clear hP hT hD5 hK5 HB4 HH4 HS4 PLN
  have hH5' := HH5L.out.now (Nat.le_refl _) ((Below.refl w5.heap.size w5).alloc (Nat.le_refl _) (.cells #[sv tr, sv un, .slice va.1 va.2.1 va.2.2] 43))
  have HQL : Hid (qs.length = n) := Lib.hid (by rw [HN.out]; exact HH5.out.len)
  have hn6 : n ≤ 6 := by rw [HN.out]; exact HM.out.1
  have HH6' := Lib.hid hH5'
  clear hH5'
  go_wp2_with (at_builtin; refine wpList_append_row rfl _ _ 27 rfl (w5.alloc (.cells #[sv tr, sv un, .slice va.1 va.2.1 va.2.2] 43)).heap.size 38 i0 _ 5 96 Tryd.underlying27 hi hz0 hz1 hz2 rfl (by omega) _ 0 [] rfl (World.ownsRow_nil _ _ _ _) (Lt (w5.alloc (.cells #[sv tr, sv un, .slice va.1 va.2.1 va.2.2] 43)).heap.size) LA n lc (flat5 qs) rfl ?a1 ?a2 ?a3 ?a4 ?a5 (Nat.le_refl _) ?_)
  case a1 => rw [flat5_length, HQL.out]
  case a2 => exact HH6'.out.row
  case a3 => exact HH6'.out.one
  case a4 => unfold maxLen; omega
  case a5 => omega
  intro v7 w7 hown7 hg7 hat7
  have hx : ∃ w6 : World, w6 = w5.alloc (.cells #[sv tr, sv un, .slice va.1 va.2.1 va.2.2] 43) := ⟨_, rfl⟩
  obtain ⟨w6, hw6⟩ := hx
  have hb6 : Below w5.heap.size w5 w6 := by rw [hw6]; exact (Below.refl _ _).alloc (Nat.le_refl _) _
  have hG6 : w6.heap[w5.heap.size]? = some (.cells #[sv tr, sv un, .slice va.1 va.2.1 va.2.2] 43 (0, 0)) := by rw [hw6]; exact alloc1 _ _
  have e6 : w6.heap.size = w5.heap.size + 1 := by rw [hw6]; exact Array.size_push _
  rw [← e6] at hown7
  rw [← hw6] at hg7
  clear e6 hw6 hat7 HH6'
  obtain ⟨gb, hgb⟩ : ∃ gb, gb = w5.heap.size := ⟨_, rfl⟩
  rw [← hgb] at hG6 ⊢
  have HGB := Lib.hid hgb
  clear hgb
  have hk6 : Kept (fun y => y < w5.heap.size ∧ y ≠ w.heap.size) w5 w6 := (kept_below hb6).sub fun y hy => hy.1
  have HH6 := Lib.hid (HH5.out.keep hk6)
  have HS6 := Lib.hid (HS5.out.keep hk6)
  have HT6 := Lib.hid (HT5.out.keep hk6)
  have HD6 := Lib.hid (HD5.out.below hb6)
  have HB6 := Lib.hid (HB5.out.trans (hb6.mono HB5.out.size))
  have HG6 := Lib.hid hG6
  have hsz6 := hb6.size
  have hb7 : Below w6.heap.size w6 w7 := (Below.refl _ _).grown hg7 (Nat.le_refl _) (fun x e => by cases e)
  have hsz7 := hb7.size
  try simp only [Nat.zero_add, List.nil_append] at hown7
  have HH7 := Lib.hid (HH6.out.keep ((kept_below hb7).sub fun y hy => Nat.lt_of_lt_of_le hy.1 hsz6))
  have HS7 := Lib.hid (HS6.out.keep ((kept_below hb7).sub fun y hy => Nat.lt_of_lt_of_le hy.1 hsz6))
  have HT7 := Lib.hid (HT6.out.keep ((kept_below hb7).sub fun y hy => Nat.lt_of_lt_of_le hy.1 hsz6))
  have hgl : gb < w6.heap.size := lt_of_heap hG6
  have HG7 := Lib.hid ((hb7.block gb hgl).trans hG6)
  clear hb6 hk6 hG6 HB5 HH5 HS5 HT5 HD5 HH5L HH6 HS6 HT6 HG6
  have HDR2 := Lib.hid (headers_any _ xs _ (HD6.out.below hb7))
  have HOW7 := Lib.hid hown7
  have HB7 := Lib.hid hb7
  clear hown7 hg7 hb7 HD6
  go_wp2_with fail
  refine HDR2.out.mono ?_
  rintro e w8 ⟨hs', LB, lb, qs', rfl, hmade, ⟨-, hlb1, hlb2⟩, hH, hD8, hK8⟩
  have hsz8 := hK8.size
  have HBW8 : Hid (Below w.heap.size w w8) := Lib.hid ((HB6.out.trans (HB7.out.mono HB6.out.size)).trans ⟨hK8.os, hK8.tape, hK8.output, hK8.size, fun x hx => hK8.block x (by omega) (by omega)⟩)
  have hk8 : Kept (fun y => y < w5.heap.size ∧ y ≠ w.heap.size) w7 w8 := hK8.kept fun y hy => ⟨by have := hy.1; omega, hy.2⟩
  have HH8 := Lib.hid (HH7.out.keep hk8)
  have HS8 := Lib.hid (HS7.out.keep hk8)
  have HT8 := Lib.hid (HT7.out.keep hk8)
  have HG8 := Lib.hid ((hK8.block gb (by omega) (by have := HGB.out; omega)).trans HG7.out)
  have HLT7 : Hid (∀ r, v7.ownBlock = some r → w6.heap.size ≤ r ∧ r < w7.heap.size) := Lib.hid fun r hr => HOW7.out.lt _ hr
  have hown8 := hK8.own HOW7.out (fun g hg e => by have := (HOW7.out.lt _ hg).1; have := HGB.out; omega)
  have HOW8 := Lib.hid hown8
  have HHB := Lib.hid hH
  have HMB := Lib.hid hmade
  have HQL' : Hid (qs'.length = hs'.length) := Lib.hid hH.len
  obtain ⟨n', hnn⟩ : ∃ n', n' = hs'.length := ⟨_, rfl⟩
  rw [← hnn] at hlb1 ⊢
  have HNB := Lib.hid hnn
  have hn6' : n' ≤ 6 := by rw [HNB.out]; exact HMB.out.1
  clear hown8 hmade hH hD8 hK8 hk8 hnn HDR2 HOW7 HH7 HS7 HT7 HG7
  go_wp2_with (at_builtin; refine wpList_append_row rfl _ _ 27 rfl w6.heap.size 38 i0 _ 5 96 Tryd.underlying27 hi hz0 hz1 hz2 rfl (by omega) _ n (flat5 qs) rfl HOW8.out (Lt w8.heap.size) LB n' lb (flat5 qs') rfl ?a1 ?a2 ?a3 ?a4 ?a5 (Nat.le_trans hsz7 hsz8) ?_)
  case a1 => rw [flat5_length, HQL'.out, HNB.out]
  case a2 => exact (HHB.out.more (S' := Lt w8.heap.size) fun y hy => hy.2).row
  case a3 => exact HHB.out.one
  case a4 => unfold maxLen; omega
  case a5 => omega
  intro v9 wg hown9 hg9 hat9
  have hK9 : Kp (fun y => w6.heap.size ≤ y ∧ y < w7.heap.size) w8 wg := (Kp.refl _ _).grown hg9 fun r hr hrl => HLT7.out r hr
  have hsz9 := hK9.size
  have HBWG : Hid (Below w.heap.size w wg) := Lib.hid (HBW8.out.trans ⟨hK9.os, hK9.tape, hK9.output, hK9.size, fun x hx => hK9.block x (by omega) (by omega)⟩)
  have hk9 : Kept (fun y => y < w5.heap.size ∧ y ≠ w.heap.size) w8 wg := hK9.kept fun y hy => ⟨by have := hy.1; omega, fun h => by have := hy.1; have := h.1; omega⟩
  have hHg : Hds wg (Lt wg.heap.size) LA hs qs := (HH8.out.keep hk9).more fun y hy => by have := hy.1; show y < _; omega
  have hSg : Row wg (Lt wg.heap.size) SA (flat2 (ss.map pairV)) := (HS8.out.keep hk9).more fun y hy => by have := hy.1; show y < _; omega
  have hTg : TyIs wg (Lt wg.heap.size) t (sv un) (.slice va.1 va.2.1 va.2.2) := (HT8.out.keep hk9).more fun y hy => by have := hy.1; show y < _; omega
  have hHB : Hds wg (Lt wg.heap.size) LB hs' qs' := (HHB.out.keep (hK9.kept fun y hy => ⟨hy.2, fun h => by have := hy.1; have := h.2; omega⟩)).more fun y hy => by have := hy.2; show y < _; omega
  have hGg := (hK9.block gb (by omega) (fun h => by have := h.1; omega)).trans HG8.out
  obtain ⟨MA, mc, rfl, hMA⟩ := own_slice hown9
  have hHM : Hds wg (Lt wg.heap.size) MA (hs ++ hs') (qs ++ qs') := hHg.joined hHB (by rw [flat5_append]; exact Row.ofOwn hown9 fun g _ _ h2 => h2) (by rw [← HN.out, ← HNB.out]; omega)
  have HHS : Hid (∀ w', Below wg.heap.size wg w' → Hds w' (Lt w'.heap.size) LA hs qs) := Lib.hid fun w' hb => hHg.now (Nat.le_refl _) hb
  have HHM : Hid (∀ w', Below wg.heap.size wg w' → Hds w' (Lt w'.heap.size) MA (hs ++ hs') (qs ++ qs')) := Lib.hid fun w' hb => hHM.now (Nat.le_refl _) hb
  have HRS : Hid (∀ w', Below wg.heap.size wg w' → Row w' (Lt w'.heap.size) SA (flat2 (ss.map pairV))) := Lib.hid fun w' hb => (hSg.keep (kept_below hb)).more fun _ hy => Nat.lt_of_lt_of_le hy hb.size
  have HGL : Hid (∀ w', Below wg.heap.size wg w' → GlIs w' (Lt w'.heap.size) (tr, t) (sv tr, sv un, .slice va.1 va.2.1 va.2.2)) := Lib.hid fun w' hb => ⟨rfl, hTg.now (Nat.le_refl _) hb⟩
  have HGC : Hid (∀ w', Below wg.heap.size wg w' → w'.cell? ⟨gb, 0, none⟩ = some (sv tr) ∧ w'.cell? ⟨gb, 1, none⟩ = some (sv un) ∧ w'.cell? ⟨gb, 2, none⟩ = some (.slice va.1 va.2.1 va.2.2)) := Lib.hid fun w' hb => by
    have := (hb.block gb (lt_of_heap hGg)).trans hGg
    exact ⟨(Lib.cell_of_heap this _).trans rfl, (Lib.cell_of_heap this _).trans rfl, (Lib.cell_of_heap this _).trans rfl⟩
  have HPL : Hid (∀ x ∈ hs, SmallH x) := Lib.hid fun x hx => ⟨(HM.out.2 x hx).1.2.2, by have := (HM.out.2 x hx).1.1; omega⟩
  have HMA := Lib.hid hMA
  have HZ : Hid (t.size ≤ 40) := Lib.hid (by have := HP.out.1; omega)
  have HP2 : Hid (∀ h ∈ hs, h.params.length ≤ 2) := Lib.hid fun h hh => (HM.out.2 h hh).2
  obtain ⟨b1, hb1⟩ : ∃ b1, b1 = (dfs (leadsOf hs ss) (goalsIn hs ss (tr, t)).length [] (tr, t)).1 := ⟨_, rfl⟩
  have HOL : Hid (∀ w', Below wg.heap.size wg w' → Calls Tryd.prog 14 #[.slice LA n lc, .slice SA sn sc, .agg #[sv tr, sv un, .slice va.1 va.2.1 va.2.2]] w' (HoldsRes b1 w')) := Lib.hid fun w' hb => by
    have h := holds_any hs ss (goalsIn hs ss (tr, t)) (goals_few (by rw [← HN.out]; omega) HP2.out (by have := HSS.out; omega) HZ.out) (shut_goalsIn _ _ _) (tr, t) (self_goalsIn _ _ _) LA SA lc sc (sv tr, sv un, .slice va.1 va.2.1 va.2.2) qs w' (HHS.out w' hb) HLA.out (HRS.out w' hb) (by have := HSS.out; omega) (HGL.out w' hb)
    rw [← HN.out, ← HSN.out, ← hb1] at h
    exact h
  clear hK9 hk9 hHg hSg hTg hHB hGg hHM hMA hown9 hg9 hat9 HH8 HS8 HT8 HHB HG8 HBW8 HOW8 HLT7 HB6 HB7
  cases b1 with
  | true =>
    have HB1E := Lib.hid hb1.symm
    have HOM : Hid (∀ w', Below wg.heap.size wg w' → Calls Tryd.prog 14 #[.slice MA (n + n') mc, .slice SA sn sc, .agg #[sv tr, sv un, .slice va.1 va.2.1 va.2.2]] w' (HoldsRes true w')) := Lib.hid fun w' hb => by
      have h := holds_any (hs ++ hs') ss (goalsIn (hs ++ hs') ss (tr, t)) (goals_few (by rw [List.length_append, ← HN.out, ← HNB.out]; omega) (fun h hh => by
        rcases List.mem_append.1 hh with h1 | h1
        · exact HP2.out h h1
        · exact (HMB.out.2 h h1).2) (by have := HSS.out; omega) HZ.out) (shut_goalsIn _ _ _) (tr, t) (self_goalsIn _ _ _) MA SA mc sc (sv tr, sv un, .slice va.1 va.2.1 va.2.2) (qs ++ qs') w' (HHM.out w' hb) HMA.out (HRS.out w' hb) (by have := HSS.out; omega) (HGL.out w' hb)
      rw [List.length_append, ← HN.out, ← HNB.out, ← HSN.out, (holds_iff (hs ++ hs') ss (tr, t)).2 (hd_more hs' ((holds_iff hs ss (tr, t)).1 HB1E.out))] at h
      exact h
    have HON : Hid (∀ w', Below wg.heap.size wg w' → Calls Tryd.prog 14 #[.slice LA n lc, .slice none 0 0, .agg #[sv tr, sv un, .slice va.1 va.2.1 va.2.2]] w' (HoldsRes true w')) := Lib.hid fun w' hb => by
      have h := holds_any hs [] (goalsIn hs [] (tr, t)) (goals_few (by rw [← HN.out]; omega) HP2.out (by simp) HZ.out) (shut_goalsIn _ _ _) (tr, t) (self_goalsIn _ _ _) LA none lc 0 (sv tr, sv un, .slice va.1 va.2.1 va.2.2) qs w' (HHS.out w' hb) HLA.out (.inl rfl) (by simp) (HGL.out w' hb)
      rw [← HN.out, (holds_iff hs [] (tr, t)).2 (hd_less ((holds_iff hs ss (tr, t)).1 HB1E.out))] at h
      exact h
    clear hb1
    obtain ⟨c0, c1, c2⟩ := HGC.out wg (Below.refl _ _)
    go_wp2_with fail
    refine (HOL.out _ (Below.refl _ _)).mono ?_
    rintro e wa ⟨rfl, hba⟩
    clear c0 c1 c2
    have HBA := Lib.hid hba
    obtain ⟨c0, c1, c2⟩ := HGC.out wa hba
    clear hba
    go_wp2_with fail
    refine (HOM.out _ HBA.out).mono ?_
    rintro e wb ⟨rfl, hbb⟩
    clear c0 c1 c2
    have HBB := Lib.hid (HBA.out.trans (hbb.mono HBA.out.size))
    obtain ⟨c0, c1, c2⟩ := HGC.out wb HBB.out
    clear hbb
    go_wp2_with fail
    refine (HON.out _ HBB.out).mono ?_
    rintro e wh ⟨rfl, hbh⟩
    clear c0 c1 c2
    have HBH := Lib.hid (HBB.out.trans (hbh.mono HBB.out.size))
    clear hbh HOM HON HBA HBB HHM HMA
    by_cases hn0 : n = 0
    · have hz : ((n : Int) == 0) = true := by simp [hn0]
      have HBZ0 := Lib.hid (HBWG.out.trans (HBH.out.mono HBWG.out.size))
      go_wp2_with fail
      refine (awake_any _).mono ?_
      rintro e wz ⟨rfl, hbz⟩
      have HBZ := Lib.hid (HBZ0.out.trans (hbz.mono HBZ0.out.size))
      clear hbz
      go_wp2
      go_ret
      exact ⟨rfl, HBZ.out⟩
    · have hz : ((n : Int) == 0) = false := by simp [hn0]
      have OVL := overlaps_any hs LA lc qs wh (HHS.out wh HBH.out) (by rw [← HN.out]; omega) (by rw [← HN.out]; exact hlc1) HPL.out
      rw [← HN.out] at OVL
      have OVL := Lib.hid OVL
      go_wp2_with fail
      refine OVL.out.mono ?_
      rintro e wo ⟨O, OA, oc, rfl, hRO, hOl, hOv, hbo⟩
      have HBO := Lib.hid (HBH.out.trans (hbo.mono HBH.out.size))
      obtain ⟨on, hon⟩ : ∃ on, on = O.length := ⟨_, rfl⟩
      rw [← hon] at hOl ⊢
      have HON := Lib.hid hon
      have HOV := Lib.hid hOv
      clear hon hOv hRO hbo OVL
      by_cases ho0 : 0 < on
      · have hgo : decide ((on : Int) > 0) = true := by simp; omega
        have HBZ0 := Lib.hid (HBWG.out.trans (HBO.out.mono HBWG.out.size))
        go_wp2_with fail
        refine (awake_any _).mono ?_
        rintro e wz ⟨rfl, hbz⟩
        have HBZ := Lib.hid (HBZ0.out.trans (hbz.mono HBZ0.out.size))
        clear hbz
        go_wp2
        go_ret
        exact ⟨rfl, HBZ.out⟩
      · have hgo : decide ((on : Int) > 0) = false := by simp; omega
        have HALN : Hid (Alone hs) := Lib.hid (alone_of (fun x hx => (HPL.out x hx).1) fun i k x h hi hk hlt hm => by
          have h1 := HOV.out i k x h hi hk hlt hm
          have h2 : O = [] := List.eq_nil_of_length_eq_zero (by rw [← HON.out]; omega)
          rw [h2] at h1
          cases h1)
        obtain ⟨k, hk0, hkn⟩ : ∃ k : Nat, turn % (n : Int) = (k : Int) ∧ k < n := by
          have h1 := Int.emod_nonneg turn (b := (n : Int)) (by omega)
          have h2 := Int.emod_lt_of_pos turn (b := (n : Int)) (by omega)
          exact ⟨(turn % (n : Int)).toNat, by omega, by omega⟩
        have md := mod_any turn (n : Int) wo ht0 ht1 (by omega) (by omega)
        rw [hk0] at md
        have MD := Lib.hid md
        clear md hk0
        go_wp2_with fail
        refine MD.out.mono ?_
        rintro e wk ⟨rfl, rfl⟩
        obtain ⟨DA, hDA⟩ : ∃ DA, DA = (if lc = k then LA else LA.map (·.add (k * 5))) := ⟨_, rfl⟩
        have HDR : Hid (∀ w', Below wg.heap.size wg w' → Hds w' (Lt w'.heap.size) DA (hs.drop k) (qs.drop k)) := Lib.hid fun w' hb => by
          rw [hDA]
          exact (HHS.out w' hb).back k lc (by rw [← HN.out]; exact hlc1)
        have HDA := Lib.hid hDA
        have HBK := HBO
        have hik1 : (0 : Int) ≤ (k : Int) := by omega
        have hik2 : (k : Int) ≤ (n : Int) := by omega
        have hik3 : (k : Int) ≤ (lc : Int) := by omega
        clear MD hDA
        go_wp2_with fail
        refine wp_region_mix (fun w' => Below wg.heap.size wg w') [(false, 0), (true, 1), (true, 2), (true, 3), (true, 4), (true, 6), (true, 7), (true, 8), (true, 10), (true, 11), (true, 13), (true, 14), (true, 15), (false, 5), (false, 9), (false, 12), (false, 16), (true, 17), (true, 18)] [19] (by kernel_rfl) (by kernel_rfl) (HBK.out.drew) ?mt
        case mt =>
        simp only [mixAt, opsAt, List.filterMap_cons, List.filterMap_nil, List.getElem?_toArray, List.getElem?_cons_succ, List.getElem?_cons_zero, Option.map_some]
        obtain ⟨wa, hwa⟩ : ∃ wa, wa = wo.drew := ⟨_, rfl⟩
        have HBA : Hid (Below wg.heap.size wg wa) := Lib.hid (by rw [hwa]; exact HBK.out.drew)
        rw [← hwa]
        clear hwa
        refine wpMix_keep rfl ?_
        go_simp
        refine (awake_any wa).mono ?_
        rintro e wb ⟨rfl, hbb⟩
        have HBB := Lib.hid (HBA.out.trans (hbb.mono HBA.out.size))
        refine ⟨HBB.out, ?_⟩
        clear hbb
        refine wpMix_load ?vt1 rfl (fun w' hS => ?yt1) ?kt1
        case yt1 =>
          obtain ⟨h1, h2, h3⟩ := HGC.out w' hS
          go_simp
          try rfl
        case kt1 =>
        go_simp
        refine wpMix_load ?vt2 rfl (fun w' hS => ?yt2) ?kt2
        case yt2 =>
          obtain ⟨h1, h2, h3⟩ := HGC.out w' hS
          go_simp
          try rfl
        case kt2 =>
        go_simp
        refine wpMix_load ?vt3 rfl (fun w' hS => ?yt3) ?kt3
        case yt3 =>
          obtain ⟨h1, h2, h3⟩ := HGC.out w' hS
          go_simp
          try rfl
        case kt3 =>
        go_simp
        refine wpMix_load (.slice DA (n - k) (lc - k)) rfl (fun w' hS => ?yt4) ?kt4
        case yt4 =>
          obtain ⟨h1, h2, h3⟩ := HGC.out w' hS
          go_simp
          rw [HDA.out]
          try rfl
        case kt4 =>
        go_simp
        refine wpMix_load ?vt6 rfl (fun w' hS => ?yt6) ?kt6
        case yt6 =>
          obtain ⟨h1, h2, h3⟩ := HGC.out w' hS
          go_simp
          try rfl
        case kt6 =>
        go_simp
        refine wpMix_load ?vt7 rfl (fun w' hS => ?yt7) ?kt7
        case yt7 =>
          obtain ⟨h1, h2, h3⟩ := HGC.out w' hS
          go_simp
          try rfl
        case kt7 =>
        go_simp
        refine wpMix_load ?vt8 rfl (fun w' hS => ?yt8) ?kt8
        case yt8 =>
          obtain ⟨h1, h2, h3⟩ := HGC.out w' hS
          go_simp
          try rfl
        case kt8 =>
        go_simp
        refine wpMix_load ?vt10 rfl (fun w' hS => ?yt10) ?kt10
        case yt10 =>
          obtain ⟨h1, h2, h3⟩ := HGC.out w' hS
          go_simp
          try rfl
        case kt10 =>
        go_simp
        refine wpMix_load ?vt11 rfl (fun w' hS => ?yt11) ?kt11
        case yt11 =>
          obtain ⟨h1, h2, h3⟩ := HGC.out w' hS
          go_simp
          try rfl
        case kt11 =>
        go_simp
        refine wpMix_load ?vt13 rfl (fun w' hS => ?yt13) ?kt13
        case yt13 =>
          obtain ⟨h1, h2, h3⟩ := HGC.out w' hS
          go_simp
          try rfl
        case kt13 =>
        go_simp
        refine wpMix_load ?vt14 rfl (fun w' hS => ?yt14) ?kt14
        case yt14 =>
          obtain ⟨h1, h2, h3⟩ := HGC.out w' hS
          go_simp
          try rfl
        case kt14 =>
        go_simp
        refine wpMix_load ?vt15 rfl (fun w' hS => ?yt15) ?kt15
        case yt15 =>
          obtain ⟨h1, h2, h3⟩ := HGC.out w' hS
          go_simp
          try rfl
        case kt15 =>
        go_simp
        have hszb := HBB.out.size
        refine wpMix_keep rfl ?_
        refine wp_append_row _ _ 27 rfl wb.heap.size 38 i0 _ 5 96 Tryd.underlying27 hi hz0 hz1 hz2 rfl (by omega) _ 0 [] rfl (World.ownsRow_nil _ _ _ _) (Lt wb.heap.size) DA (n - k) (lc - k) (flat5 (qs.drop k)) rfl ?a1t ?a2t ?a3t ?a4t ?a5t (Nat.le_refl _) ?_
        case a1t => rw [flat5_length, List.length_drop, HQL.out]
        case a2t => exact ((HDR.out wb HBB.out)).row
        case a3t => exact (HDR.out wb HBB.out).one
        case a4t => unfold maxLen; omega
        case a5t => omega
        intro v1 wc hown1 hg1 hat1
        have hbc : Below wb.heap.size wb wc := (Below.refl _ _).grown hg1 (Nat.le_refl _) (fun x e => by cases e)
        simp only [Nat.zero_add, List.nil_append] at hown1
        have hsc := hbc.size
        have HBC := Lib.hid (HBB.out.trans (hbc.mono HBB.out.size))
        refine ⟨HBC.out, ?_⟩
        obtain ⟨A1, c1, rfl, hc11, hc12⟩ := own_shape hown1
        refine wpMix_keep rfl ?_
        refine wp_append_row _ _ 27 rfl wb.heap.size 38 i0 _ 5 96 Tryd.underlying27 hi hz0 hz1 hz2 rfl (by omega) _ (n - k) (flat5 (qs.drop k)) rfl hown1 (Lt wc.heap.size) LA k lc (flat5 (qs.take k)) rfl ?b1t ?b2t ?b3t ?b4t ?b5t hsc ?_
        case b1t => rw [flat5_length, List.length_take, HQL.out]; omega
        case b2t => exact ((HHS.out wc HBC.out).front k).row
        case b3t => exact ((HHS.out wc HBC.out).front k).one
        case b4t => unfold maxLen; omega
        case b5t => omega
        intro v2 wd hown2 hg2 hat2
        have hbd : Below wb.heap.size wb wd := hbc.grown hg2 hsc (fun x e => (hown1.lt _ e).1)
        rw [show n - k + k = n by omega] at hown2
        have HBD := Lib.hid (HBB.out.trans (hbd.mono HBB.out.size))
        refine ⟨HBD.out, ?_⟩
        obtain ⟨A2, c2, rfl, hA2⟩ := own_slice hown2
        have hHT : Hds wd (Lt wd.heap.size) A2 (hs.drop k ++ hs.take k) (qs.drop k ++ qs.take k) := (HHS.out wd HBD.out).turned k (by rw [flat5_append]; exact Row.ofOwn hown2 fun g _ _ h2 => h2)
        have HTD := holds_any (hs.drop k ++ hs.take k) ss (goalsIn (hs.drop k ++ hs.take k) ss (tr, t)) (goals_few (by simp only [List.length_append, List.length_drop, List.length_take]; have := HM.out.1; omega) (fun h hh => (HM.out.2 h (by
          rcases List.mem_append.1 hh with h1 | h1
          · exact List.mem_of_mem_drop h1
          · exact List.mem_of_mem_take h1)).2) (by have := HSS.out; omega) (by have := HP.out.1; simp only; omega)) (shut_goalsIn _ _ _) (tr, t) (self_goalsIn _ _ _) A2 SA c2 sc (sv tr, sv un, .slice va.1 va.2.1 va.2.2) _ wd hHT hA2 (HRS.out wd HBD.out) (by have := HSS.out; omega) (HGL.out wd HBD.out)
        rw [show (hs.drop k ++ hs.take k).length = n by rw [List.length_append, List.length_drop, List.length_take, ← HN.out]; omega, ← HSN.out] at HTD
        have hbt : (dfs (leadsOf (hs.drop k ++ hs.take k) ss) (goalsIn (hs.drop k ++ hs.take k) ss (tr, t)).length [] (tr, t)).1 = true := by
          have h1 := holds_iff (hs.drop k ++ hs.take k) ss (tr, t)
          rw [leads_turned HALN.out ss k] at h1 ⊢
          have h2 := holds_iff hs ss (tr, t)
          have h3 := HB1E.out
          cases hx : (dfs (leadsOf hs ss) (goalsIn (hs.drop k ++ hs.take k) ss (tr, t)).length [] (tr, t)).1 with
          | true => rfl
          | false =>
            exfalso
            have := h1.2 (h2.1 h3)
            rw [hx] at this
            cases this
        rw [hbt] at HTD
        have HTD := Lib.hid HTD
        clear hHT hbt hown1 hown2 hg1 hg2 hat1 hat2
        refine wpMix_keep rfl ?_
        go_simp
        refine HTD.out.mono ?_
        rintro e we ⟨rfl, hbe⟩
        have HBE := Lib.hid (HBD.out.trans (hbe.mono HBD.out.size))
        refine ⟨HBE.out, ?_⟩
        clear hbe HTD
        have HT5 := Lib.hid (HOL.out we HBE.out)
        refine wpMix_keep rfl ?_
        go_simp
        refine HT5.out.mono ?_
        rintro e wf ⟨rfl, hbf⟩
        have HBF := Lib.hid (HBE.out.trans (hbf.mono HBE.out.size))
        refine ⟨HBF.out, ?_⟩
        clear hbf HT5
        refine wpMix_load ?vt17 rfl (fun w' hS => ?yt17) ?kt17
        case yt17 =>
          obtain ⟨h1, h2, h3⟩ := HGC.out w' hS
          go_simp
          try rfl
        case kt17 =>
        go_simp
        refine wpMix_load ?vt18 rfl (fun w' hS => ?yt18) ?kt18
        case yt18 =>
          obtain ⟨h1, h2, h3⟩ := HGC.out w' hS
          go_simp
          try rfl
        case kt18 =>
        go_simp
        refine wpMix_nil ?_
        have HBR := Lib.hid (HBWG.out.trans (HBF.out.mono HBWG.out.size))
        go_wp2
        refine NoPanic.normal ?_
        go_wp2
        go_ret
        exact ⟨rfl, HBR.out⟩
  | false =>
    have HB1E := Lib.hid hb1.symm
    clear hb1
    obtain ⟨c0, c1, c2⟩ := HGC.out wg (Below.refl _ _)
    go_wp2_with fail
    refine (HOL.out _ (Below.refl _ _)).mono ?_
    rintro e wh ⟨rfl, hbh⟩
    clear c0 c1 c2
    have HBH := Lib.hid hbh
    clear hbh HHM HMA
    by_cases hn0 : n = 0
    · have hz : ((n : Int) == 0) = true := by simp [hn0]
      have HBZ0 := Lib.hid (HBWG.out.trans (HBH.out.mono HBWG.out.size))
      go_wp2_with fail
      refine (awake_any _).mono ?_
      rintro e wz ⟨rfl, hbz⟩
      have HBZ := Lib.hid (HBZ0.out.trans (hbz.mono HBZ0.out.size))
      clear hbz
      go_wp2
      go_ret
      exact ⟨rfl, HBZ.out⟩
    · have hz : ((n : Int) == 0) = false := by simp [hn0]
      have OVL := overlaps_any hs LA lc qs wh (HHS.out wh HBH.out) (by rw [← HN.out]; omega) (by rw [← HN.out]; exact hlc1) HPL.out
      rw [← HN.out] at OVL
      have OVL := Lib.hid OVL
      go_wp2_with fail
      refine OVL.out.mono ?_
      rintro e wo ⟨O, OA, oc, rfl, hRO, hOl, hOv, hbo⟩
      have HBO := Lib.hid (HBH.out.trans (hbo.mono HBH.out.size))
      obtain ⟨on, hon⟩ : ∃ on, on = O.length := ⟨_, rfl⟩
      rw [← hon] at hOl ⊢
      have HON := Lib.hid hon
      have HOV := Lib.hid hOv
      clear hon hOv hRO hbo OVL
      by_cases ho0 : 0 < on
      · have hgo : decide ((on : Int) > 0) = true := by simp; omega
        have HBZ0 := Lib.hid (HBWG.out.trans (HBO.out.mono HBWG.out.size))
        go_wp2_with fail
        refine (awake_any _).mono ?_
        rintro e wz ⟨rfl, hbz⟩
        have HBZ := Lib.hid (HBZ0.out.trans (hbz.mono HBZ0.out.size))
        clear hbz
        go_wp2
        go_ret
        exact ⟨rfl, HBZ.out⟩
      · have hgo : decide ((on : Int) > 0) = false := by simp; omega
        have HALN : Hid (Alone hs) := Lib.hid (alone_of (fun x hx => (HPL.out x hx).1) fun i k x h hi hk hlt hm => by
          have h1 := HOV.out i k x h hi hk hlt hm
          have h2 : O = [] := List.eq_nil_of_length_eq_zero (by rw [← HON.out]; omega)
          rw [h2] at h1
          cases h1)
        obtain ⟨k, hk0, hkn⟩ : ∃ k : Nat, turn % (n : Int) = (k : Int) ∧ k < n := by
          have h1 := Int.emod_nonneg turn (b := (n : Int)) (by omega)
          have h2 := Int.emod_lt_of_pos turn (b := (n : Int)) (by omega)
          exact ⟨(turn % (n : Int)).toNat, by omega, by omega⟩
        have md := mod_any turn (n : Int) wo ht0 ht1 (by omega) (by omega)
        rw [hk0] at md
        have MD := Lib.hid md
        clear md hk0
        go_wp2_with fail
        refine MD.out.mono ?_
        rintro e wk ⟨rfl, rfl⟩
        obtain ⟨DA, hDA⟩ : ∃ DA, DA = (if lc = k then LA else LA.map (·.add (k * 5))) := ⟨_, rfl⟩
        have HDR : Hid (∀ w', Below wg.heap.size wg w' → Hds w' (Lt w'.heap.size) DA (hs.drop k) (qs.drop k)) := Lib.hid fun w' hb => by
          rw [hDA]
          exact (HHS.out w' hb).back k lc (by rw [← HN.out]; exact hlc1)
        have HDA := Lib.hid hDA
        have HBK := HBO
        have hik1 : (0 : Int) ≤ (k : Int) := by omega
        have hik2 : (k : Int) ≤ (n : Int) := by omega
        have hik3 : (k : Int) ≤ (lc : Int) := by omega
        clear MD hDA
        go_wp2_with fail
        refine wp_region_mix (fun w' => Below wg.heap.size wg w') [(false, 0), (true, 1), (true, 2), (true, 3), (true, 4), (true, 6), (true, 7), (true, 8), (true, 10), (true, 11), (true, 13), (true, 14), (true, 15), (false, 5), (false, 9), (false, 12), (false, 16), (true, 17), (true, 18)] [19] (by kernel_rfl) (by kernel_rfl) (HBK.out.drew) ?mf
        case mf =>
        simp only [mixAt, opsAt, List.filterMap_cons, List.filterMap_nil, List.getElem?_toArray, List.getElem?_cons_succ, List.getElem?_cons_zero, Option.map_some]
        obtain ⟨wa, hwa⟩ : ∃ wa, wa = wo.drew := ⟨_, rfl⟩
        have HBA : Hid (Below wg.heap.size wg wa) := Lib.hid (by rw [hwa]; exact HBK.out.drew)
        rw [← hwa]
        clear hwa
        refine wpMix_keep rfl ?_
        go_simp
        refine (awake_any wa).mono ?_
        rintro e wb ⟨rfl, hbb⟩
        have HBB := Lib.hid (HBA.out.trans (hbb.mono HBA.out.size))
        refine ⟨HBB.out, ?_⟩
        clear hbb
        refine wpMix_load ?vf1 rfl (fun w' hS => ?yf1) ?kf1
        case yf1 =>
          obtain ⟨h1, h2, h3⟩ := HGC.out w' hS
          go_simp
          try rfl
        case kf1 =>
        go_simp
        refine wpMix_load ?vf2 rfl (fun w' hS => ?yf2) ?kf2
        case yf2 =>
          obtain ⟨h1, h2, h3⟩ := HGC.out w' hS
          go_simp
          try rfl
        case kf2 =>
        go_simp
        refine wpMix_load ?vf3 rfl (fun w' hS => ?yf3) ?kf3
        case yf3 =>
          obtain ⟨h1, h2, h3⟩ := HGC.out w' hS
          go_simp
          try rfl
        case kf3 =>
        go_simp
        refine wpMix_load (.slice DA (n - k) (lc - k)) rfl (fun w' hS => ?yf4) ?kf4
        case yf4 =>
          obtain ⟨h1, h2, h3⟩ := HGC.out w' hS
          go_simp
          rw [HDA.out]
          try rfl
        case kf4 =>
        go_simp
        refine wpMix_load ?vf6 rfl (fun w' hS => ?yf6) ?kf6
        case yf6 =>
          obtain ⟨h1, h2, h3⟩ := HGC.out w' hS
          go_simp
          try rfl
        case kf6 =>
        go_simp
        refine wpMix_load ?vf7 rfl (fun w' hS => ?yf7) ?kf7
        case yf7 =>
          obtain ⟨h1, h2, h3⟩ := HGC.out w' hS
          go_simp
          try rfl
        case kf7 =>
        go_simp
        refine wpMix_load ?vf8 rfl (fun w' hS => ?yf8) ?kf8
        case yf8 =>
          obtain ⟨h1, h2, h3⟩ := HGC.out w' hS
          go_simp
          try rfl
        case kf8 =>
        go_simp
        refine wpMix_load ?vf10 rfl (fun w' hS => ?yf10) ?kf10
        case yf10 =>
          obtain ⟨h1, h2, h3⟩ := HGC.out w' hS
          go_simp
          try rfl
        case kf10 =>
        go_simp
        refine wpMix_load ?vf11 rfl (fun w' hS => ?yf11) ?kf11
        case yf11 =>
          obtain ⟨h1, h2, h3⟩ := HGC.out w' hS
          go_simp
          try rfl
        case kf11 =>
        go_simp
        refine wpMix_load ?vf13 rfl (fun w' hS => ?yf13) ?kf13
        case yf13 =>
          obtain ⟨h1, h2, h3⟩ := HGC.out w' hS
          go_simp
          try rfl
        case kf13 =>
        go_simp
        refine wpMix_load ?vf14 rfl (fun w' hS => ?yf14) ?kf14
        case yf14 =>
          obtain ⟨h1, h2, h3⟩ := HGC.out w' hS
          go_simp
          try rfl
        case kf14 =>
        go_simp
        refine wpMix_load ?vf15 rfl (fun w' hS => ?yf15) ?kf15
        case yf15 =>
          obtain ⟨h1, h2, h3⟩ := HGC.out w' hS
          go_simp
          try rfl
        case kf15 =>
        go_simp
        have hszb := HBB.out.size
        refine wpMix_keep rfl ?_
        refine wp_append_row _ _ 27 rfl wb.heap.size 38 i0 _ 5 96 Tryd.underlying27 hi hz0 hz1 hz2 rfl (by omega) _ 0 [] rfl (World.ownsRow_nil _ _ _ _) (Lt wb.heap.size) DA (n - k) (lc - k) (flat5 (qs.drop k)) rfl ?a1f ?a2f ?a3f ?a4f ?a5f (Nat.le_refl _) ?_
        case a1f => rw [flat5_length, List.length_drop, HQL.out]
        case a2f => exact ((HDR.out wb HBB.out)).row
        case a3f => exact (HDR.out wb HBB.out).one
        case a4f => unfold maxLen; omega
        case a5f => omega
        intro v1 wc hown1 hg1 hat1
        have hbc : Below wb.heap.size wb wc := (Below.refl _ _).grown hg1 (Nat.le_refl _) (fun x e => by cases e)
        simp only [Nat.zero_add, List.nil_append] at hown1
        have hsc := hbc.size
        have HBC := Lib.hid (HBB.out.trans (hbc.mono HBB.out.size))
        refine ⟨HBC.out, ?_⟩
        obtain ⟨A1, c1, rfl, hc11, hc12⟩ := own_shape hown1
        refine wpMix_keep rfl ?_
        refine wp_append_row _ _ 27 rfl wb.heap.size 38 i0 _ 5 96 Tryd.underlying27 hi hz0 hz1 hz2 rfl (by omega) _ (n - k) (flat5 (qs.drop k)) rfl hown1 (Lt wc.heap.size) LA k lc (flat5 (qs.take k)) rfl ?b1f ?b2f ?b3f ?b4f ?b5f hsc ?_
        case b1f => rw [flat5_length, List.length_take, HQL.out]; omega
        case b2f => exact ((HHS.out wc HBC.out).front k).row
        case b3f => exact ((HHS.out wc HBC.out).front k).one
        case b4f => unfold maxLen; omega
        case b5f => omega
        intro v2 wd hown2 hg2 hat2
        have hbd : Below wb.heap.size wb wd := hbc.grown hg2 hsc (fun x e => (hown1.lt _ e).1)
        rw [show n - k + k = n by omega] at hown2
        have HBD := Lib.hid (HBB.out.trans (hbd.mono HBB.out.size))
        refine ⟨HBD.out, ?_⟩
        obtain ⟨A2, c2, rfl, hA2⟩ := own_slice hown2
        have hHT : Hds wd (Lt wd.heap.size) A2 (hs.drop k ++ hs.take k) (qs.drop k ++ qs.take k) := (HHS.out wd HBD.out).turned k (by rw [flat5_append]; exact Row.ofOwn hown2 fun g _ _ h2 => h2)
        have HTD := holds_any (hs.drop k ++ hs.take k) ss (goalsIn (hs.drop k ++ hs.take k) ss (tr, t)) (goals_few (by simp only [List.length_append, List.length_drop, List.length_take]; have := HM.out.1; omega) (fun h hh => (HM.out.2 h (by
          rcases List.mem_append.1 hh with h1 | h1
          · exact List.mem_of_mem_drop h1
          · exact List.mem_of_mem_take h1)).2) (by have := HSS.out; omega) (by have := HP.out.1; simp only; omega)) (shut_goalsIn _ _ _) (tr, t) (self_goalsIn _ _ _) A2 SA c2 sc (sv tr, sv un, .slice va.1 va.2.1 va.2.2) _ wd hHT hA2 (HRS.out wd HBD.out) (by have := HSS.out; omega) (HGL.out wd HBD.out)
        rw [show (hs.drop k ++ hs.take k).length = n by rw [List.length_append, List.length_drop, List.length_take, ← HN.out]; omega, ← HSN.out] at HTD
        have hbt : (dfs (leadsOf (hs.drop k ++ hs.take k) ss) (goalsIn (hs.drop k ++ hs.take k) ss (tr, t)).length [] (tr, t)).1 = false := by
          have h1 := holds_iff (hs.drop k ++ hs.take k) ss (tr, t)
          rw [leads_turned HALN.out ss k] at h1 ⊢
          have h2 := holds_iff hs ss (tr, t)
          have h3 := HB1E.out
          cases hx : (dfs (leadsOf hs ss) (goalsIn (hs.drop k ++ hs.take k) ss (tr, t)).length [] (tr, t)).1 with
          | false => rfl
          | true =>
            exfalso
            have := h2.2 (h1.1 hx)
            rw [h3] at this
            cases this
        rw [hbt] at HTD
        have HTD := Lib.hid HTD
        clear hHT hbt hown1 hown2 hg1 hg2 hat1 hat2
        refine wpMix_keep rfl ?_
        go_simp
        refine HTD.out.mono ?_
        rintro e we ⟨rfl, hbe⟩
        have HBE := Lib.hid (HBD.out.trans (hbe.mono HBD.out.size))
        refine ⟨HBE.out, ?_⟩
        clear hbe HTD
        have HT5 := Lib.hid (HOL.out we HBE.out)
        refine wpMix_keep rfl ?_
        go_simp
        refine HT5.out.mono ?_
        rintro e wf ⟨rfl, hbf⟩
        have HBF := Lib.hid (HBE.out.trans (hbf.mono HBE.out.size))
        refine ⟨HBF.out, ?_⟩
        clear hbf HT5
        refine wpMix_load ?vf17 rfl (fun w' hS => ?yf17) ?kf17
        case yf17 =>
          obtain ⟨h1, h2, h3⟩ := HGC.out w' hS
          go_simp
          try rfl
        case kf17 =>
        go_simp
        refine wpMix_load ?vf18 rfl (fun w' hS => ?yf18) ?kf18
        case yf18 =>
          obtain ⟨h1, h2, h3⟩ := HGC.out w' hS
          go_simp
          try rfl
        case kf18 =>
        go_simp
        refine wpMix_nil ?_
        have HBR := Lib.hid (HBWG.out.trans (HBF.out.mono HBWG.out.size))
        go_wp2
        refine NoPanic.normal ?_
        go_wp2
        go_ret
        exact ⟨rfl, HBR.out⟩
end Go.Proofs.YtllodnlkphapgaaDoor
