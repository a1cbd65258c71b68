/-
  The walk of (*unify.Solver).agree.
  Conditions: names are not empty, and no variable's or that of a variable below 100; there is a rank; there are at most 2000 pointers to types.
-/
import Derived.Test.YtndhglcdkegigaaDoorAgr
import Derived.Test.YtndhglcdkegigaaDoorSched
namespace Go.Proofs.YtndhglcdkegigaaDoor
open Go.RowKit

theorem good_lt {t : Ty} {m : Nat} (h : GoodN t.name) (hv : varOf t = some m) : m < 100 := by
  obtain ⟨n, ks⟩ := t
  cases ks with
  | nil =>
    simp only [varOf] at hv
    simp only [Ty.name] at h
    rcases h with h | ⟨j, hj, rfl⟩
    · rw [h] at hv
      cases hv
    · rw [vnum_name] at hv
      cases hv
      exact hj
  | cons a r => simp [varOf] at hv

theorem wpLoad_skip {P : Program} {ops : Array Oper} {S : World → Prop} {o : Oper} {r : List Oper} {a : Act} {K : Act → Prop} (hw : Region.wanted o (yielded ops a.tmps) = false) (h : wpLoad P ops S K r (a.put o.dst undef)) : wpLoad P ops S K (o :: r) a :=
  ⟨undef, .inr ⟨hw, rfl⟩, h⟩

set_option maxHeartbeats 16000000 in
set_option maxRecDepth 100000 in
theorem agree_any (B : Nat) (S : Nat → Prop) (Q : Ty → Prop) (hQ : DownN Q) (U : List Addr) (hU : U.length ≤ 2000) : ∀ (F N : Nat) (d : SD) (ρ : Ty → Nat) (t u : Ty) (p q : Addr) (w : World), 100 - d.G.length ≤ F → ρ t + ρ u ≤ N →
    Work w B S Q U d → Rank d.sol ρ → PtTy w S p t → PtTy w S q u → p ∈ U → q ∈ U →
    Calls Tryd.prog 62 #[.pointer (some ⟨d.sb, 0, none⟩), .pointer (some p), .pointer (some q)] w (AgreeRes B S Q U d t u w) := by
  intro F
  induction F using Nat.strongRecOn with | ind F ihF => ?_
  intro N
  induction N using Nat.strongRecOn with | ind N ihN => ?_
  intro d ρ t u p q w hF hN hw hr hp hq hpU hqU
  have IHF := Lib.hid ihF
  have IHN := Lib.hid ihN
  clear ihF ihN
  have qof : ∀ {x : Addr} {y : Ty}, x ∈ U → PtTy w S x y → Q y := fun {x y} hx hy => by
    obtain ⟨y', h1, h2⟩ := hw.un.ty x hx
    rw [hy.inj h1]
    exact h2
  have hqg : ∀ g ∈ d.G, Q g.2.2 := fun g hg => (hw.gu g hg).1
  have OU1 := Lib.hid (outer_any B S d Q hQ.toDown ρ hr p t w hw.sv hw.pl hw.hB hp (qof hpU hp) hqg)
  go_enter Tryd.func62, Tryd.ntmps62
  go_wp2_with fail
  refine OU1.out.mono ?_
  rintro e w1 ⟨p1, t1, rfl, hp1, ho1, hb1, hwh1⟩
  have hw1 := hw.below hb1
  have hk1 := hw.pl.kept (hb1.mono hw.hB)
  have OU2 := Lib.hid (outer_any B S d Q hQ.toDown ρ hr q u w1 hw1.sv hw1.pl hw1.hB (hq.keep hk1) (qof hqU hq) hqg)
  go_wp2_with fail
  refine OU2.out.mono ?_
  rintro e w2 ⟨q1, u1, rfl, hq1', ho2, hb2, hwh2⟩
  have hq1 := hq1'.keep hk1.symm
  have hb12 : Below w.heap.size w w2 := hb1.trans (hb2.mono hb1.size)
  have hw2 := hw.below hb12
  have hk2 := hw.pl.kept (hb12.mono hw.hB)
  have inU : ∀ {x y : Addr}, y ∈ U → (x = y ∨ ∃ g ∈ d.G, x = g.2.1) → x ∈ U := fun {x y} hy h => by
    rcases h with rfl | ⟨g, hg, rfl⟩
    · exact hy
    · exact (hw.gu g hg).2.2
  have hp1U := inU hpU hwh1
  have hq1U := inU hqU hwh2
  have hQ1 := qof hp1U hp1
  have hQ2 := qof hq1U hq1
  obtain ⟨A, c, hS, e0, e1, hl, hc1, hc2, harg⟩ := (hp1.keep hk2).cells
  obtain ⟨A', c', hS', e0', e1', hl', hc1', hc2', harg'⟩ := (hq1.keep hk2).cells
  have hva := variable_any p1 t1.name A t1.args.length c w2 e0 e1 (hQ.name t1 hQ1) hl
  rw [← varOf_mk, show Ty.mk t1.name t1.args = t1 from by cases t1; rfl] at hva
  have HVA := Lib.hid hva
  clear hva
  go_wp2_with fail
  refine HVA.out.mono ?_
  rintro e w3 ⟨rfl, hb3⟩
  have cc : ∀ {a : Addr} {v : Value}, S a.block → w2.cell? a = some v → w3.cell? a = some v := fun {a v} hS h => (hb3.cell (Nat.lt_of_lt_of_le (hw2.pl.lt _ hS) hw2.hB)).trans h
  have hva := variable_any q1 u1.name A' u1.args.length c' w3 (cc hS' e0') (cc (a := ⟨q1.block, q1.off + 1, none⟩) hS' e1') (hQ.name u1 hQ2) hl'
  rw [← varOf_mk, show Ty.mk u1.name u1.args = u1 from by cases u1; rfl] at hva
  have HVA2 := Lib.hid hva
  clear hva
  go_wp2_with fail
  refine HVA2.out.mono ?_
  rintro e w4 ⟨rfl, hb4⟩
  have hb24 : Below w2.heap.size w2 w4 := hb3.trans (hb4.mono hb3.size)
  have hb04 : Below w.heap.size w w4 := hb12.trans (hb24.mono hb12.size)
  have hw4 := hw.below hb04
  have hk4 := hw.pl.kept (hb04.mono hw.hB)
  have ck : ∀ {a : Addr} {v : Value}, S a.block → w2.cell? a = some v → w4.cell? a = some v := fun {a v} hS h => (hb24.cell (Nat.lt_of_lt_of_le (hw2.pl.lt _ hS) hw2.hB)).trans h
  have f0 := ck hS e0
  have f1 := ck (a := ⟨p1.block, p1.off + 1, none⟩) hS e1
  have f0' := ck hS' e0'
  have f1' := ck (a := ⟨q1.block, q1.off + 1, none⟩) hS' e1'
  have HARG := Lib.hid harg
  have HARG' := Lib.hid harg'
  have hlen : d.tr.length ≤ 1000 := by have := hw.tr; have := hw.glen; omega
  have hs1 : ∀ θ, Sat θ d.sol → sub θ t1 = sub θ t := fun θ h => ho1.sub h
  have hs2 : ∀ θ, Sat θ d.sol → sub θ u1 = sub θ u := fun θ h => ho2.sub h
  have QOF : Hid (∀ (x : Addr) (y : Ty), x ∈ U → PtTy w S x y → Q y) := Lib.hid fun _ _ => qof
  have HS1 := Lib.hid hs1
  have HS2 := Lib.hid hs2
  have HQG := Lib.hid hqg
  clear e0 e1 e0' e1' cc ck harg harg' hwh1 hwh2 hq1' qof inU hs1 hs2 hqg
  rcases hv1 : varOf t1 with _ | m
  · rcases hv2 : varOf u1 with _ | n
    · simp only [varI, Option.isSome_none]
      have hnohead : ∀ n x, ¬ Head d.sol t u n x := fun n x hx => by
        cases hx with
        | left t' u' m ht hu hm hn => rw [ht.fn ho1, hv1] at hm; cases hm
        | right t' u' n' ht hu hn hm => rw [hu.fn ho2, hv2] at hn; cases hn
      have HNH := Lib.hid hnohead
      have HV1 := Lib.hid hv1
      have HV2 := Lib.hid hv2
      have HO1 := Lib.hid ho1
      have HO2 := Lib.hid ho2
      clear hnohead hv1 hv2 ho1 ho2
      by_cases he : t1.name = brk ∨ u1.name = brk
      · have hag : Agreed B S Q U d t u w true d w4 := Agreed.same hw hr hb04 (fun _ _ _ => rfl) (fun hc _ _ => by
          rcases he with he | he
          · exact absurd he (hc t1 hQ1)
          · exact absurd he (hc u1 hQ2)) HNH.out
        have HAG := Lib.hid hag
        clear hag
        by_cases he1 : t1.name = brk
        · have hb1 : ((bs t1.name).toList == [101, 114, 114, 111, 114]) = true := by rw [Lib.toList_data, bs_data, he1]; decide
          clear he he1
          go_wp2
          go_ret
          exact ⟨true, d, rfl, HAG.out⟩
        · have hb1 : ((bs t1.name).toList == [101, 114, 114, 111, 114]) = false := by rw [Lib.toList_data, bs_data]; simpa [brk] using he1
          have hb2 : ((bs u1.name).toList == [101, 114, 114, 111, 114]) = true := by rw [Lib.toList_data, bs_data, he.resolve_left he1]; decide
          clear he he1
          go_wp2
          go_ret
          exact ⟨true, d, rfl, HAG.out⟩
      · have he1 : ((bs t1.name).toList == [101, 114, 114, 111, 114]) = false := by rw [Lib.toList_data, bs_data]; simpa [brk] using fun h => he (.inl h)
        have he2 : ((bs u1.name).toList == [101, 114, 114, 111, 114]) = false := by rw [Lib.toList_data, bs_data]; simpa [brk] using fun h => he (.inr h)
        clear he
        by_cases hnm : t1.name = u1.name
        · have hbn : ((bs t1.name).toList != (bs u1.name).toList) = false := by rw [hnm]; simp
          have HNM := Lib.hid hnm
          clear hnm
          by_cases hll : t1.args.length = u1.args.length
          · have hbl : ((t1.args.length : Int) != (u1.args.length : Int)) = false := by rw [hll]; simp
            obtain ⟨m, hm⟩ : ∃ m, m = t1.args.length := ⟨_, rfl⟩
            have hm2 : m = u1.args.length := hm.trans hll
            rw [← hm] at f1 hl hbl hc1
            rw [← hm2] at f1' hl' hbl hc1'
            have HM := Lib.hid hm
            have HM2 := Lib.hid hm2
            have HLL := Lib.hid hll
            clear hm hm2 hll
            go_wp2_with fail
            refine wp_region_held' (fun w' => w'.cell? p1 = some (sv t1.name) ∧ w'.cell? ⟨p1.block, p1.off + 1, none⟩ = some (.slice A m c) ∧ w'.cell? q1 = some (sv u1.name) ∧ w'.cell? ⟨q1.block, q1.off + 1, none⟩ = some (.slice A' m c')) [] [0, 1, 2, 3, 4, 5, 6, 7, 8, 9, 10, 11, 12, 13, 14, 15, 16, 17, 18, 19, 20] [] [21, 22] (by kernel_rfl) (by kernel_rfl) ?se ?he
            case se => exact ⟨f0, f1, f0', f1'⟩
            case he =>
              simp only [opsAt, List.filterMap_cons, List.filterMap_nil, List.getElem?_toArray, List.getElem?_cons_succ, List.getElem?_cons_zero]
              refine wpFloat_nil ?_
              refine wpLoad_step ?ve0 rfl (fun w' hS => ?ye0) ?ke0
              case ye0 =>
                obtain ⟨h1, h2, h3, h4⟩ := hS
                go_simp
                try rfl
              case ke0 =>
              go_simp
              refine wpLoad_step ?ve1 rfl (fun w' hS => ?ye1) ?ke1
              case ye1 =>
                obtain ⟨h1, h2, h3, h4⟩ := hS
                go_simp
                try rfl
              case ke1 =>
              go_simp
              refine wpLoad_step ?ve2 rfl (fun w' hS => ?ye2) ?ke2
              case ye2 =>
                obtain ⟨h1, h2, h3, h4⟩ := hS
                go_simp
                try rfl
              case ke2 =>
              go_simp
              refine wpLoad_step ?ve3 rfl (fun w' hS => ?ye3) ?ke3
              case ye3 =>
                obtain ⟨h1, h2, h3, h4⟩ := hS
                go_simp
                try rfl
              case ke3 =>
              go_simp
              refine wpLoad_step ?ve4 rfl (fun w' hS => ?ye4) ?ke4
              case ye4 =>
                obtain ⟨h1, h2, h3, h4⟩ := hS
                go_simp
                try rfl
              case ke4 =>
              go_simp
              refine wpLoad_step ?ve5 rfl (fun w' hS => ?ye5) ?ke5
              case ye5 =>
                obtain ⟨h1, h2, h3, h4⟩ := hS
                go_simp
                try rfl
              case ke5 =>
              go_simp
              refine wpLoad_step ?ve6 rfl (fun w' hS => ?ye6) ?ke6
              case ye6 =>
                obtain ⟨h1, h2, h3, h4⟩ := hS
                go_simp
                try rfl
              case ke6 =>
              go_simp
              refine wpLoad_step ?ve7 rfl (fun w' hS => ?ye7) ?ke7
              case ye7 =>
                obtain ⟨h1, h2, h3, h4⟩ := hS
                go_simp
                try rfl
              case ke7 =>
              go_simp
              refine wpLoad_step (.bool false) rfl (fun w' hS => ?ye8) ?ke8
              case ye8 =>
                obtain ⟨h1, h2, h3, h4⟩ := hS
                go_simp
                first | exact hbn | (simpa [bne] using hbn)
              case ke8 =>
              go_simp
              refine wpLoad_step ?ve9 rfl (fun w' hS => ?ye9) ?ke9
              case ye9 =>
                obtain ⟨h1, h2, h3, h4⟩ := hS
                go_simp
                try rfl
              case ke9 =>
              go_simp
              refine wpLoad_step ?ve10 rfl (fun w' hS => ?ye10) ?ke10
              case ye10 =>
                obtain ⟨h1, h2, h3, h4⟩ := hS
                go_simp
                try rfl
              case ke10 =>
              go_simp
              refine wpLoad_step ?ve11 rfl (fun w' hS => ?ye11) ?ke11
              case ye11 =>
                obtain ⟨h1, h2, h3, h4⟩ := hS
                go_simp
                try rfl
              case ke11 =>
              go_simp
              refine wpLoad_step ?ve12 rfl (fun w' hS => ?ye12) ?ke12
              case ye12 =>
                obtain ⟨h1, h2, h3, h4⟩ := hS
                go_simp
                try rfl
              case ke12 =>
              go_simp
              refine wpLoad_step ?ve13 rfl (fun w' hS => ?ye13) ?ke13
              case ye13 =>
                obtain ⟨h1, h2, h3, h4⟩ := hS
                go_simp
                try rfl
              case ke13 =>
              go_simp
              refine wpLoad_step ?ve14 rfl (fun w' hS => ?ye14) ?ke14
              case ye14 =>
                obtain ⟨h1, h2, h3, h4⟩ := hS
                go_simp
                try rfl
              case ke14 =>
              go_simp
              refine wpLoad_step ?ve15 rfl (fun w' hS => ?ye15) ?ke15
              case ye15 =>
                obtain ⟨h1, h2, h3, h4⟩ := hS
                go_simp
                try rfl
              case ke15 =>
              go_simp
              refine wpLoad_step ?ve16 rfl (fun w' hS => ?ye16) ?ke16
              case ye16 =>
                obtain ⟨h1, h2, h3, h4⟩ := hS
                go_simp
                try rfl
              case ke16 =>
              go_simp
              refine wpLoad_step ?ve17 rfl (fun w' hS => ?ye17) ?ke17
              case ye17 =>
                obtain ⟨h1, h2, h3, h4⟩ := hS
                go_simp
                try rfl
              case ke17 =>
              go_simp
              refine wpLoad_step ?ve18 rfl (fun w' hS => ?ye18) ?ke18
              case ye18 =>
                obtain ⟨h1, h2, h3, h4⟩ := hS
                go_simp
                try rfl
              case ke18 =>
              go_simp
              refine wpLoad_step ?ve19 rfl (fun w' hS => ?ye19) ?ke19
              case ye19 =>
                obtain ⟨h1, h2, h3, h4⟩ := hS
                go_simp
                try rfl
              case ke19 =>
              go_simp
              refine wpLoad_step (.bool false) rfl (fun w' hS => ?ye20) ?ke20
              case ye20 =>
                obtain ⟨h1, h2, h3, h4⟩ := hS
                go_simp
                try (first | exact hbl | (simpa [bne] using hbl))
              case ke20 =>
              go_simp
              refine wpLoad_nil ?_
              refine wpKeep_nil ?_
              go_wp2
              refine NoPanic.normal ?_
              have hb05 : Below w.heap.size w w4.drew := hb04.drew
              have g1 : w4.drew.cell? ⟨p1.block, p1.off + 1, none⟩ = some (.slice A m c) := f1
              have g1' : w4.drew.cell? ⟨q1.block, q1.off + 1, none⟩ = some (.slice A' m c') := f1'
              clear f0 f1 f0' f1' hw4 hk4 hb04 hb24 hb4 hb3
              generalize w4.drew = w5 at *
              have hw5 := hw.below hb05
              have hk5 := hw.pl.kept (hb05.mono hw.hB)
              have hsz5 := hb05.size
              have hb56 : Below w5.heap.size w5 (w5.alloc (.cells #[.pointer (some p1), .pointer (some q1)] 107)) := (Below.refl _ _).alloc (Nat.le_refl _) _
              have hb06 : Below w.heap.size w (w5.alloc (.cells #[.pointer (some p1), .pointer (some q1)] 107)) := hb05.trans (hb56.mono hsz5)
              have hw6 := hw.below hb06
              have hbox6 : (w5.alloc (.cells #[.pointer (some p1), .pointer (some q1)] 107)).heap[w5.heap.size]? = some (.cells #[.pointer (some p1), .pointer (some q1)] 107 (0, 0)) := alloc1 w5 _
              have hx6 : (w5.alloc (.cells #[.pointer (some p1), .pointer (some q1)] 107)).drew.cell? ⟨d.sb, 1, none⟩ = some (.map (some d.ab)) := (Lib.cell_of_heap hw6.sv.cells _).trans rfl
              have hx4 : (w5.alloc (.cells #[.pointer (some p1), .pointer (some q1)] 107)).drew.cell? ⟨d.sb, 4, none⟩ = some (.int .i64 d.lo) := (Lib.cell_of_heap hw6.sv.cells _).trans rfl
              have hp6 : (w5.alloc (.cells #[.pointer (some p1), .pointer (some q1)] 107)).drew.cell? ⟨w5.heap.size, 0, none⟩ = some (.pointer (some p1)) := (Lib.cell_of_heap hbox6 _).trans rfl
              have hq6 : (w5.alloc (.cells #[.pointer (some p1), .pointer (some q1)] 107)).drew.cell? ⟨w5.heap.size, 1, none⟩ = some (.pointer (some q1)) := (Lib.cell_of_heap hbox6 _).trans rfl
              have hg6 : (w5.alloc (.cells #[.pointer (some p1), .pointer (some q1)] 107)).drew.cell? ⟨p1.block, p1.off + 1, none⟩ = some (.slice A m c) := (cellAlloc (Nat.lt_of_lt_of_le (hw5.pl.lt _ hS) hw5.hB)).trans g1
              have hw6d : Work (w5.alloc (.cells #[.pointer (some p1), .pointer (some q1)] 107)).drew B S Q U d := hw6.below (Below.refl _ _).drew
              have hb6d : Below w.heap.size w (w5.alloc (.cells #[.pointer (some p1), .pointer (some q1)] 107)).drew := hb06.drew
              have hbox6d : (w5.alloc (.cells #[.pointer (some p1), .pointer (some q1)] 107)).drew.heap[w5.heap.size]? = some (.cells #[.pointer (some p1), .pointer (some q1)] 107 (0, 0)) := hbox6
              have hpb : ¬ SvM d w5.heap.size := fun e => by have := hw5.sv.under _ e; omega
              have HBOX6 := Lib.hid hbox6d
              have HW6 := Lib.hid hw6d
              have HB06 := Lib.hid hb6d
              have HPB := Lib.hid hpb
              by_cases hin : (p1, q1) ∈ d.AG
              · have hlk := hw6d.pair_yes hp1U hq1U hin
                have hag : Agreed B S Q U d t u w true d (w5.alloc (.cells #[.pointer (some p1), .pointer (some q1)] 107)).drew := Agreed.same hw hr hb6d (fun _ _ _ => rfl) (fun _ hm _ θ hθ => by
                  have := hm _ hin t1 u1 hp1 hq1 θ hθ
                  rwa [HS1.out θ hθ, HS2.out θ hθ] at this) HNH.out
                have HAG := Lib.hid hag
                clear hag hin hw6d hb6d hw6 hb06 hbox6 hbox6d hpb
                go_wp2_with fail
                refine wp_region_held' (fun w' => w'.cell? ⟨d.sb, 1, none⟩ = some (.map (some d.ab)) ∧ w'.cell? ⟨w5.heap.size, 0, none⟩ = some (.pointer (some p1)) ∧ w'.cell? ⟨w5.heap.size, 1, none⟩ = some (.pointer (some q1))) [] [0, 1, 2, 3, 4] [] [5] (by kernel_rfl) (by kernel_rfl) ?sp ?hp
                case sp => exact ⟨hx6, hp6, hq6⟩
                case hp =>
                  simp only [opsAt, List.filterMap_cons, List.filterMap_nil, List.getElem?_toArray, List.getElem?_cons_succ, List.getElem?_cons_zero]
                  refine wpFloat_nil ?_
                  refine wpLoad_step ?vp0 rfl (fun w' hS => ?yp0) ?kp0
                  case yp0 =>
                    obtain ⟨h1, h2, h3⟩ := hS
                    go_simp
                    try rfl
                  case kp0 =>
                  go_simp
                  refine wpLoad_step ?vp1 rfl (fun w' hS => ?yp1) ?kp1
                  case yp1 =>
                    obtain ⟨h1, h2, h3⟩ := hS
                    go_simp
                    try rfl
                  case kp1 =>
                  go_simp
                  refine wpLoad_step ?vp2 rfl (fun w' hS => ?yp2) ?kp2
                  case yp2 =>
                    obtain ⟨h1, h2, h3⟩ := hS
                    go_simp
                    try rfl
                  case kp2 =>
                  go_simp
                  refine wpLoad_step ?vp3 rfl (fun w' hS => ?yp3) ?kp3
                  case yp3 =>
                    obtain ⟨h1, h2, h3⟩ := hS
                    go_simp
                    try rfl
                  case kp3 =>
                  go_simp
                  refine wpLoad_step ?vp4 rfl (fun w' hS => ?yp4) ?kp4
                  case yp4 =>
                    obtain ⟨h1, h2, h3⟩ := hS
                    go_simp
                    try rfl
                  case kp4 =>
                  go_simp
                  refine wpLoad_nil ?_
                  refine wpKeep_nil ?_
                  go_wp2
                  refine NoPanic.normal ?_
                  go_wp2
                  go_ret
                  exact ⟨true, d, rfl, HAG.out⟩
              · have hlk := hw6d.pair_no hp1U hq1U hin
                have HIN := Lib.hid hin
                clear hin hw6d hb6d hw6 hb06 hbox6 hbox6d hpb
                go_wp2_with fail
                refine wp_region_held' (fun w' => w'.cell? ⟨d.sb, 1, none⟩ = some (.map (some d.ab)) ∧ w'.cell? ⟨w5.heap.size, 0, none⟩ = some (.pointer (some p1)) ∧ w'.cell? ⟨w5.heap.size, 1, none⟩ = some (.pointer (some q1))) [] [0, 1, 2, 3, 4] [] [5] (by kernel_rfl) (by kernel_rfl) ?sn ?hn
                case sn => exact ⟨hx6, hp6, hq6⟩
                case hn =>
                  simp only [opsAt, List.filterMap_cons, List.filterMap_nil, List.getElem?_toArray, List.getElem?_cons_succ, List.getElem?_cons_zero]
                  refine wpFloat_nil ?_
                  refine wpLoad_step ?vn0 rfl (fun w' hS => ?yn0) ?kn0
                  case yn0 =>
                    obtain ⟨h1, h2, h3⟩ := hS
                    go_simp
                    try rfl
                  case kn0 =>
                  go_simp
                  refine wpLoad_step ?vn1 rfl (fun w' hS => ?yn1) ?kn1
                  case yn1 =>
                    obtain ⟨h1, h2, h3⟩ := hS
                    go_simp
                    try rfl
                  case kn1 =>
                  go_simp
                  refine wpLoad_step ?vn2 rfl (fun w' hS => ?yn2) ?kn2
                  case yn2 =>
                    obtain ⟨h1, h2, h3⟩ := hS
                    go_simp
                    try rfl
                  case kn2 =>
                  go_simp
                  refine wpLoad_step ?vn3 rfl (fun w' hS => ?yn3) ?kn3
                  case yn3 =>
                    obtain ⟨h1, h2, h3⟩ := hS
                    go_simp
                    try rfl
                  case kn3 =>
                  go_simp
                  refine wpLoad_step ?vn4 rfl (fun w' hS => ?yn4) ?kn4
                  case yn4 =>
                    obtain ⟨h1, h2, h3⟩ := hS
                    go_simp
                    try rfl
                  case kn4 =>
                  go_simp
                  refine wpLoad_nil ?_
                  refine wpKeep_nil ?_
                  go_wp2
                  refine NoPanic.normal ?_
                  generalize hW6 : (w5.alloc (.cells #[.pointer (some p1), .pointer (some q1)] 107)).drew = w6 at *
                  clear hW6 hx6
                  go_wp2_with fail
                  go_loopw [115] (fun i wr => ∃ (k : Nat) (dk : SD), k ≤ m ∧ i = .int .i64 k ∧ Ran B S Q U d t1 u1 k w dk wr ∧ wr.heap[w5.heap.size]? = some (.cells #[.pointer (some p1), .pointer (some q1)] 107 (0, 0)) ∧ ¬ SvM dk w5.heap.size) (fun i _ => m - (intOf i).toNat)
                  case atStart => exact ⟨0, d, Nat.zero_le _, rfl, Ran.start hw hr HB06.out, HBOX6.out, HPB.out⟩
                  case round =>
                    obtain ⟨k, dk, hk, rfl, hran, hbx, hnb⟩ := hrel
                    have hwr := hran.work
                    have hktr : Kept S w wr := kept_kpM hw.pl hw.sv hran.kp hw.hB
                    have hkt2r : Kept S w2 wr := Kept.trans hk2.symm hktr
                    have er : wr.cell? ⟨p1.block, p1.off + 1, none⟩ = some (.slice A m c) := (hktr ⟨p1.block, p1.off + 1, none⟩ hS).trans ((hk5 ⟨p1.block, p1.off + 1, none⟩ hS).symm.trans g1)
                    have er' : wr.cell? ⟨q1.block, q1.off + 1, none⟩ = some (.slice A' m c') := (hktr ⟨q1.block, q1.off + 1, none⟩ hS').trans ((hk5 ⟨q1.block, q1.off + 1, none⟩ hS').symm.trans g1')
                    have hbd : Below wr.heap.size wr wr.drew := (Below.refl _ _).drew
                    have HRAN := Lib.hid hran
                    have HBX := Lib.hid hbx
                    have HNB := Lib.hid hnb
                    clear hran hbx hnb hp6 hq6 hg6 hx4
                    by_cases hlt : k < m
                    · have hki : k < t1.args.length := by rw [← HM.out]; exact hlt
                      have hki2 : k < u1.args.length := by rw [← HM2.out]; exact hlt
                      have ha := List.getElem?_eq_getElem hki
                      have hb := List.getElem?_eq_getElem hki2
                      obtain ⟨ad, rfl, hpa⟩ := HARG.out k _ ha
                      obtain ⟨ad', rfl, hqb⟩ := HARG'.out k _ hb
                      have hmu : ad.add (k * 2) ∈ U := hwr.un.arg p1 hp1U ad m c k er hlt
                      have hmu' : ad'.add (k * 2) ∈ U := hwr.un.arg q1 hq1U ad' m c' k er' hlt
                      generalize hta : t1.args[k] = a at ha hpa
                      generalize hub : u1.args[k] = b at hb hqb
                      have hwd := hwr.below hbd
                      have hra := hr.arg t1 a (List.mem_of_getElem? ha)
                      have hrb := hr.arg u1 b (List.mem_of_getElem? hb)
                      have hrt := HO1.out.rank hr
                      have hru := HO2.out.rank hr
                      have hpw := (hpa.keep hkt2r).keep (hwr.pl.kept (hbd.mono hwr.hB))
                      have hqw := (hqb.keep hkt2r).keep (hwr.pl.kept (hbd.mono hwr.hB))
                      have hcall : Calls Tryd.prog 62 #[.pointer (some ⟨d.sb, 0, none⟩), .pointer (some (ad.add (k * 2))), .pointer (some (ad'.add (k * 2)))] wr.drew (AgreeRes B S Q U dk a b wr.drew) := by
                        rw [← HRAN.out.next.sb]
                        obtain ⟨N1, hN1, _⟩ := HRAN.out.grow
                        have hgl := hwr.glen
                        cases N1 with
                        | nil =>
                          rw [List.append_nil] at hN1
                          have hsol : dk.sol = d.sol := by unfold SD.sol; rw [hN1]
                          exact IHN.out (ρ a + ρ b) (by omega) dk ρ a b _ _ _ (by rw [hN1]; exact hF) (Nat.le_refl _) hwd (by rw [hsol]; exact hr) hpw hqw hmu hmu'
                        | cons x N2 =>
                          obtain ⟨ρ2, hr2⟩ := HRAN.out.rank
                          have hlen2 : d.G.length < dk.G.length := by rw [hN1]; simp
                          exact IHF.out (100 - dk.G.length) (by omega) (ρ2 a + ρ2 b) dk ρ2 a b _ _ _ (Nat.le_refl _) (Nat.le_refl _) hwd hr2 hpw hqw hmu hmu'
                      have CALL := Lib.hid hcall
                      have HHA := Lib.hid ha
                      have HHB := Lib.hid hb
                      clear hcall hpw hqw hra hrb hrt hru hpa hqb hta hub ha hb hmu hmu'
                      have hik : (0 : Int) ≤ (k : Int) ∧ (k : Int) < (m : Int) := ⟨by omega, by omega⟩
                      go_wp2_with fail
                      refine wp_region_held' (fun w' => w'.cell? ⟨p1.block, p1.off + 1, none⟩ = some (.slice (some ad) m c) ∧ w'.cell? ⟨q1.block, q1.off + 1, none⟩ = some (.slice (some ad') m c')) [] [0, 1, 2, 3, 4, 5, 6, 7, 8, 9, 10, 11, 12] [13] [14] (by kernel_rfl) (by kernel_rfl) ?sr ?hr
                      case sr => exact ⟨er, er'⟩
                      case hr =>
                        simp only [opsAt, List.filterMap_cons, List.filterMap_nil, List.getElem?_toArray, List.getElem?_cons_succ, List.getElem?_cons_zero]
                        refine wpFloat_nil ?_
                        refine wpLoad_step ?vr0 rfl (fun w' hS => ?yr0) ?kr0
                        case yr0 =>
                          obtain ⟨h1, h2⟩ := hS
                          go_simp
                          try rfl
                        case kr0 =>
                        go_simp
                        refine wpLoad_step ?vr1 rfl (fun w' hS => ?yr1) ?kr1
                        case yr1 =>
                          obtain ⟨h1, h2⟩ := hS
                          go_simp
                          try rfl
                        case kr1 =>
                        go_simp
                        refine wpLoad_step ?vr2 rfl (fun w' hS => ?yr2) ?kr2
                        case yr2 =>
                          obtain ⟨h1, h2⟩ := hS
                          go_simp
                          try rfl
                        case kr2 =>
                        go_simp
                        refine wpLoad_step ?vr3 rfl (fun w' hS => ?yr3) ?kr3
                        case yr3 =>
                          obtain ⟨h1, h2⟩ := hS
                          go_simp
                          try rfl
                        case kr3 =>
                        go_simp
                        refine wpLoad_step ?vr4 rfl (fun w' hS => ?yr4) ?kr4
                        case yr4 =>
                          obtain ⟨h1, h2⟩ := hS
                          go_simp
                          try rfl
                        case kr4 =>
                        go_simp
                        refine wpLoad_step ?vr5 rfl (fun w' hS => ?yr5) ?kr5
                        case yr5 =>
                          obtain ⟨h1, h2⟩ := hS
                          go_simp
                          try rfl
                        case kr5 =>
                        go_simp
                        refine wpLoad_step ?vr6 rfl (fun w' hS => ?yr6) ?kr6
                        case yr6 =>
                          obtain ⟨h1, h2⟩ := hS
                          go_simp
                          try rfl
                        case kr6 =>
                        go_simp
                        refine wpLoad_step ?vr7 rfl (fun w' hS => ?yr7) ?kr7
                        case yr7 =>
                          obtain ⟨h1, h2⟩ := hS
                          go_simp
                          try rfl
                        case kr7 =>
                        go_simp
                        refine wpLoad_step ?vr8 rfl (fun w' hS => ?yr8) ?kr8
                        case yr8 =>
                          obtain ⟨h1, h2⟩ := hS
                          go_simp
                          try rfl
                        case kr8 =>
                        go_simp
                        refine wpLoad_step ?vr9 rfl (fun w' hS => ?yr9) ?kr9
                        case yr9 =>
                          obtain ⟨h1, h2⟩ := hS
                          go_simp
                          try rfl
                        case kr9 =>
                        go_simp
                        refine wpLoad_step ?vr10 rfl (fun w' hS => ?yr10) ?kr10
                        case yr10 =>
                          obtain ⟨h1, h2⟩ := hS
                          go_simp
                          try rfl
                        case kr10 =>
                        go_simp
                        refine wpLoad_step ?vr11 rfl (fun w' hS => ?yr11) ?kr11
                        case yr11 =>
                          obtain ⟨h1, h2⟩ := hS
                          go_simp
                          try rfl
                        case kr11 =>
                        go_simp
                        refine wpLoad_step ?vr12 rfl (fun w' hS => ?yr12) ?kr12
                        case yr12 =>
                          obtain ⟨h1, h2⟩ := hS
                          go_simp
                          try rfl
                        case kr12 =>
                        go_simp
                        refine wpLoad_nil ?_
                        refine wpKeep_step rfl ?_
                        go_simp
                        refine CALL.out.mono ?_
                        rintro e w7 ⟨r, d', rfl, hag⟩
                        have hkt7 : Kept S wr w7 := Kept.trans (hwr.pl.kept (hbd.mono hwr.hB)) (kept_kpM hwd.pl hwd.sv hag.kp hwd.hB)
                        refine ⟨⟨(hkt7 ⟨p1.block, p1.off + 1, none⟩ hS).trans er, (hkt7 ⟨q1.block, q1.off + 1, none⟩ hS').trans er'⟩, ?_⟩
                        refine wpKeep_nil ?_
                        have HAG := Lib.hid hag
                        clear hag
                        cases r with
                        | false =>
                          go_wp2
                          refine NoPanic.normal ?_
                          go_wp2
                          go_ret
                          exact ⟨false, d', rfl, Ran.fail hw HO1.out HO2.out HV1.out HV2.out HNH.out HRAN.out hbd HHA.out HHB.out HAG.out⟩
                        | true =>
                          have hbx7 : w7.heap[w5.heap.size]? = some (.cells #[.pointer (some p1), .pointer (some q1)] 107 (0, 0)) := HAG.out.kp.heap (w := wr.drew) HBX.out HNB.out
                          have hnb7 : ¬ SvM d' w5.heap.size := fun e => HNB.out (HAG.out.next.back _ (lt_of_heap (w := wr.drew) HBX.out) e)
                          have hrs := Ran.step hw HRAN.out hbd HHA.out HHB.out HAG.out
                          have HRS := Lib.hid hrs
                          have HBX7 := Lib.hid hbx7
                          have HNB7 := Lib.hid hnb7
                          clear hrs hbx7 hnb7
                          go_wp2
                          refine NoPanic.normal ?_
                          go_wp2
                          go_roundw
                          case rel => exact ⟨k + 1, d', by omega, by go_num, HRS.out, HBX7.out, HNB7.out⟩
                          case measure => simp [intOf]; omega
                    · obtain rfl : k = m := by omega
                      have hrn : Ran B S Q U d t1 u1 t1.args.length w dk wr := by rw [← HM.out]; exact HRAN.out
                      have hnext := hrn.next
                      have hnot : (p1, q1) ∉ dk.AG := fun h => by
                        obtain ⟨M, m1, _, m3⟩ := hrn.pairs
                        rw [m1] at h
                        rcases List.mem_append.1 h with h | h
                        · exact HIN.out h
                        · obtain ⟨ρ2, hr2⟩ := hrn.rank
                          have := m3 ρ2 hr2 _ h t1 hp1
                          omega
                      obtain ⟨n, hn⟩ : ∃ n, n = dk.ps.length := ⟨_, rfl⟩
                      have hnle : n ≤ 4000000 := by
                        have h1 := hwr.ps
                        have h2 := hwr.alen
                        have h3 := Nat.mul_le_mul hU hU
                        omega
                      obtain ⟨TA, tc, htv⟩ := row_shape hwr.sv.pairs
                      rw [← hn] at htv
                      have hwd := hwr.below hbd
                      obtain ⟨w8, hput, hm8, hk8⟩ := hwd.pair_put hp1U hq1U hnot
                      have hcd : wr.heap[d.sb]? = some (.cells #[.map (some d.gb), .map (some d.ab), dk.trv, .slice TA n tc, .int .i64 d.lo] 84 (0, 0)) := by
                        have := hwr.sv.cells
                        rwa [hnext.sb, hnext.gb, hnext.ab, hrn.lo, htv] at this
                      have hsa : d.sb ≠ d.ab := fun e => by
                        have hh := hwr.sv.agreed
                        rw [hnext.ab, ← e] at hh
                        exact hh.not_cells hcd
                      have hba : w5.heap.size ≠ dk.ab := fun e => HNB.out (.inr (.inr (.inl e)))
                      have hc8 := hk8.heap (w := wr.drew) hcd (by rw [hnext.ab]; exact hsa)
                      have hb8 := hk8.heap (w := wr.drew) HBX.out hba
                      have hp8 := hk8.own hwd.sv.pairs (fun g hg e => by obtain ⟨cs, hc⟩ := row_block hwd.sv.pairs hg; exact hwd.sv.agreed.not_cells (e ▸ hc))
                      have x1 : wr.drew.cell? ⟨d.sb, 1, none⟩ = some (.map (some d.ab)) := (Lib.cell_of_heap (w := wr.drew) hcd _).trans rfl
                      have x4 : wr.cell? ⟨d.sb, 4, none⟩ = some (.int .i64 d.lo) := (Lib.cell_of_heap hcd _).trans rfl
                      have y1 : wr.drew.cell? ⟨w5.heap.size, 0, none⟩ = some (.pointer (some p1)) := (Lib.cell_of_heap (w := wr.drew) HBX.out _).trans rfl
                      have y2 : wr.drew.cell? ⟨w5.heap.size, 1, none⟩ = some (.pointer (some q1)) := (Lib.cell_of_heap (w := wr.drew) HBX.out _).trans rfl
                      have z3 : w8.drew.cell? ⟨d.sb, 3, none⟩ = some (.slice TA n tc) := (Lib.cell_of_heap (w := w8.drew) hc8 _).trans rfl
                      have z1 : w8.drew.cell? ⟨w5.heap.size, 0, none⟩ = some (.pointer (some p1)) := (Lib.cell_of_heap (w := w8.drew) hb8 _).trans rfl
                      have z2 : w8.drew.cell? ⟨w5.heap.size, 1, none⟩ = some (.pointer (some q1)) := (Lib.cell_of_heap (w := w8.drew) hb8 _).trans rfl
                      have hsz8 := lt_of_heap hc8
                      have hsb8 := lt_of_heap hb8
                      rw [hnext.ab] at hput
                      generalize hxs : flatP dk.ps = xs at hp8
                      rw [htv, ← hn] at hp8
                      have hown : (w8.drew.alloc (.cells #[.pointer (some p1), .pointer (some q1)] 107)).ownsRow B 107 2 (.slice TA n tc) n xs := World.ownsRow.alloc (w := w8.drew) hp8 _
                      have HRN := Lib.hid hrn
                      have HM8 := Lib.hid hm8
                      have HK8 := Lib.hid hk8
                      have HTV := Lib.hid htv
                      have HN := Lib.hid hn
                      have HXS := Lib.hid hxs
                      have HC8 := Lib.hid hc8
                      have HWD := Lib.hid hwd
                      have HB8 := Lib.hid hb8
                      clear hrn hm8 hk8 htv hn hxs hc8 hb8 hp8 hcd hnot hwd hnext hba hsa
                      obtain ⟨i0, hi0, hz0, hz1, hz2⟩ := info_parts infoP
                      go_wp2_with fail
                      refine wp_region_held' (fun w' => w'.cell? ⟨d.sb, 1, none⟩ = some (.map (some d.ab)) ∧ w'.cell? ⟨w5.heap.size, 0, none⟩ = some (.pointer (some p1)) ∧ w'.cell? ⟨w5.heap.size, 1, none⟩ = some (.pointer (some q1))) [] [0, 1, 2, 3, 4] [] [5] (by kernel_rfl) (by kernel_rfl) ?st ?ht
                      case st => exact ⟨x1, y1, y2⟩
                      case ht =>
                        simp only [opsAt, List.filterMap_cons, List.filterMap_nil, List.getElem?_toArray, List.getElem?_cons_succ, List.getElem?_cons_zero]
                        refine wpFloat_nil ?_
                        refine wpLoad_step ?vt0 rfl (fun w' hS => ?yt0) ?kt0
                        case yt0 =>
                          obtain ⟨h1, h2, h3⟩ := hS
                          go_simp
                          try rfl
                        case kt0 =>
                        go_simp
                        refine wpLoad_step ?vt1 rfl (fun w' hS => ?yt1) ?kt1
                        case yt1 =>
                          obtain ⟨h1, h2, h3⟩ := hS
                          go_simp
                          try rfl
                        case kt1 =>
                        go_simp
                        refine wpLoad_step ?vt2 rfl (fun w' hS => ?yt2) ?kt2
                        case yt2 =>
                          obtain ⟨h1, h2, h3⟩ := hS
                          go_simp
                          try rfl
                        case kt2 =>
                        go_simp
                        refine wpLoad_step ?vt3 rfl (fun w' hS => ?yt3) ?kt3
                        case yt3 =>
                          obtain ⟨h1, h2, h3⟩ := hS
                          go_simp
                          try rfl
                        case kt3 =>
                        go_simp
                        refine wpLoad_step ?vt4 rfl (fun w' hS => ?yt4) ?kt4
                        case yt4 =>
                          obtain ⟨h1, h2, h3⟩ := hS
                          go_simp
                          try rfl
                        case kt4 =>
                        go_simp
                        refine wpLoad_nil ?_
                        refine wpKeep_nil ?_
                        go_wp2
                        refine NoPanic.normal ?_
                        go_wp2_with fail
                        refine wp_region_held' (fun w' => w'.cell? ⟨d.sb, 3, none⟩ = some (.slice TA n tc) ∧ w'.cell? ⟨w5.heap.size, 0, none⟩ = some (.pointer (some p1)) ∧ w'.cell? ⟨w5.heap.size, 1, none⟩ = some (.pointer (some q1))) [] [0, 1, 2, 3, 4, 5] [6, 7] [8, 9, 10] (by kernel_rfl) (by kernel_rfl) ?su ?hu
                        case su => exact ⟨z3, z1, z2⟩
                        case hu =>
                          simp only [opsAt, List.filterMap_cons, List.filterMap_nil, List.getElem?_toArray, List.getElem?_cons_succ, List.getElem?_cons_zero]
                          refine wpFloat_nil ?_
                          refine wpLoad_step ?vu0 rfl (fun w' hS => ?yu0) ?ku0
                          case yu0 =>
                            obtain ⟨h1, h2, h3⟩ := hS
                            go_simp
                            try rfl
                          case ku0 =>
                          go_simp
                          refine wpLoad_step ?vu1 rfl (fun w' hS => ?yu1) ?ku1
                          case yu1 =>
                            obtain ⟨h1, h2, h3⟩ := hS
                            go_simp
                            try rfl
                          case ku1 =>
                          go_simp
                          refine wpLoad_step ?vu2 rfl (fun w' hS => ?yu2) ?ku2
                          case yu2 =>
                            obtain ⟨h1, h2, h3⟩ := hS
                            go_simp
                            try rfl
                          case ku2 =>
                          go_simp
                          refine wpLoad_step ?vu3 rfl (fun w' hS => ?yu3) ?ku3
                          case yu3 =>
                            obtain ⟨h1, h2, h3⟩ := hS
                            go_simp
                            try rfl
                          case ku3 =>
                          go_simp
                          refine wpLoad_step ?vu4 rfl (fun w' hS => ?yu4) ?ku4
                          case yu4 =>
                            obtain ⟨h1, h2, h3⟩ := hS
                            go_simp
                            try rfl
                          case ku4 =>
                          go_simp
                          refine wpLoad_step ?vu5 rfl (fun w' hS => ?yu5) ?ku5
                          case yu5 =>
                            obtain ⟨h1, h2, h3⟩ := hS
                            go_simp
                            try rfl
                          case ku5 =>
                          go_simp
                          refine wpLoad_nil ?_
                          refine wpKeep_step rfl ?_
                          go_simp
                          refine ⟨⟨z3, z1, z2⟩, ?_⟩
                          refine wpKeep_step rfl ?_
                          refine wp_append_lies _ _ _ 82 rfl B 107 i0 _ 2 16 Tryd.underlying82 hi0 hz0 hz1 hz2 rfl (by omega) _ n xs rfl hown ⟨w8.heap.size, 0, none⟩ 1 1 [.pointer (some p1), .pointer (some q1)] rfl rfl ?c1 ?c2 (by omega) ?c3 ?c4 ?c5 _ rfl ?_
                          case c1 => exact World.news_of_block (cs := #[.pointer (some p1), .pointer (some q1)]) (alloc1 w8.drew _)
                          case c2 => simp [Value.oneCell']
                          case c3 => unfold maxLen; omega
                          case c4 => omega
                          case c5 => have := hwr.hB; have := HK8.out.size; simp; simp at this; omega
                          intro ga cap w9 hown9 hgrow hat _
                          have hnsp : ¬ (Value.slice TA n tc).ownBlock = some d.sb := fun e => by
                            obtain ⟨cs, hc⟩ := row_block hown e
                            rw [heap_alloc_old w8.drew _ hsz8] at hc
                            have hc2 := HC8.out.symm.trans hc
                            injection hc2 with hc2
                            injection hc2 with _ hT
                            revert hT
                            decide
                          have hnbp : ¬ (Value.slice TA n tc).ownBlock = some w5.heap.size := fun e => HNB.out (.inr (.inr (.inr (.inr (HTV.out ▸ e)))))
                          have hc9 := (hgrow.block d.sb (by simp; omega) (fun e => hnsp e.symm)).trans ((heap_alloc_old w8.drew _ hsz8).trans HC8.out)
                          have hb9 := (hgrow.block w5.heap.size (by simp; omega) (fun e => hnbp e.symm)).trans ((heap_alloc_old w8.drew _ hsb8).trans HB8.out)
                          have r3 : w9.cell? ⟨d.sb, 3, none⟩ = some (.slice TA n tc) := (Lib.cell_of_heap hc9 _).trans rfl
                          have r1 : w9.cell? ⟨w5.heap.size, 0, none⟩ = some (.pointer (some p1)) := (Lib.cell_of_heap hb9 _).trans rfl
                          have r2 : w9.cell? ⟨w5.heap.size, 1, none⟩ = some (.pointer (some q1)) := (Lib.cell_of_heap hb9 _).trans rfl
                          have r4 : w9.frozen? ⟨d.sb, 3, none⟩ = false := Lib.frozen_of_heap hc9 3
                          have hktd : Kept S w wr.drew := fun p hp => hktr p hp
                          have hpd := Sv.paired (d := dk) (w1 := wr.drew) (w2 := w8.drew) (w3 := w9) (p := p1) (q := q1) (v' := .slice (some ⟨ga, 0, none⟩) (n + 1) cap) HWD.out.sv HWD.out.pl HWD.out.hB (hp1.keep hktd) (hq1.keep hktd) (HM8.out.same rfl) HK8.out.drew (by rw [HTV.out]; exact hgrow)
                            (by rw [← HN.out, show flatP (dk.ps ++ [(p1, q1)]) = xs ++ [.pointer (some p1), .pointer (some q1)] from by rw [← HXS.out]; simp [flatP]]; exact hown9)
                          have hdone := Ran.done hw HO1.out HO2.out HV1.out HV2.out HNH.out HNM.out HLL.out HRN.out hp1 hq1 hp1U hq1U hpd.1 (((Kp.refl _ wr).drew).trans hpd.2 (fun _ _ h => h)) (fun y hy => by
                            have hyg : ga = y := by
                              have := Option.some.inj hy
                              exact this
                            rcases hat with e | e
                            · left
                              rw [HTV.out, ← hyg]
                              exact e
                            · right
                              have hz := HK8.out.size
                              simp at e hz
                              omega)
                          rw [HRN.out.next.sb] at hdone
                          have HDONE := Lib.hid hdone
                          clear hdone hpd hown hown9 hgrow hat hc9 hb9 hktd hnsp hnbp
                          refine ⟨⟨r3, r1, r2⟩, ?_⟩
                          refine wpKeep_nil ?_
                          go_wp2
                          refine NoPanic.normal ?_
                          go_wp2
                          go_ret
                          exact ⟨true, _, rfl, HDONE.out⟩
          · have hbl : ((t1.args.length : Int) != (u1.args.length : Int)) = true := by rw [bne_iff_ne]; omega
            have hag : Agreed B S Q U d t u w false d w4.drew := Agreed.same hw hr hb04.drew (fun θ h1 h2 => by
              rw [← HS1.out θ h1, ← HS2.out θ h1, sub_node HV1.out, sub_node HV2.out] at h2
              injection h2 with _ h2
              have := congrArg List.length h2
              simp only [List.length_map] at this
              exact absurd this hll) (fun _ _ h => by cases h) HNH.out
            have HAG := Lib.hid hag
            clear hag hll
            go_wp2_with fail
            refine wp_region_held' (fun w' => w'.cell? p1 = some (sv t1.name) ∧ w'.cell? ⟨p1.block, p1.off + 1, none⟩ = some (.slice A t1.args.length c) ∧ w'.cell? q1 = some (sv u1.name) ∧ w'.cell? ⟨q1.block, q1.off + 1, none⟩ = some (.slice A' u1.args.length c')) [] [0, 1, 2, 3, 4, 5, 6, 7, 8, 9, 10, 11, 12, 13, 14, 15, 16, 17, 18, 19, 20] [] [21, 22] (by kernel_rfl) (by kernel_rfl) ?sl ?hl
            case sl => exact ⟨f0, f1, f0', f1'⟩
            case hl =>
              simp only [opsAt, List.filterMap_cons, List.filterMap_nil, List.getElem?_toArray, List.getElem?_cons_succ, List.getElem?_cons_zero]
              refine wpFloat_nil ?_
              refine wpLoad_step ?vl0 rfl (fun w' hS => ?yl0) ?kl0
              case yl0 =>
                obtain ⟨h1, h2, h3, h4⟩ := hS
                go_simp
                try rfl
              case kl0 =>
              go_simp
              refine wpLoad_step ?vl1 rfl (fun w' hS => ?yl1) ?kl1
              case yl1 =>
                obtain ⟨h1, h2, h3, h4⟩ := hS
                go_simp
                try rfl
              case kl1 =>
              go_simp
              refine wpLoad_step ?vl2 rfl (fun w' hS => ?yl2) ?kl2
              case yl2 =>
                obtain ⟨h1, h2, h3, h4⟩ := hS
                go_simp
                try rfl
              case kl2 =>
              go_simp
              refine wpLoad_step ?vl3 rfl (fun w' hS => ?yl3) ?kl3
              case yl3 =>
                obtain ⟨h1, h2, h3, h4⟩ := hS
                go_simp
                try rfl
              case kl3 =>
              go_simp
              refine wpLoad_step ?vl4 rfl (fun w' hS => ?yl4) ?kl4
              case yl4 =>
                obtain ⟨h1, h2, h3, h4⟩ := hS
                go_simp
                try rfl
              case kl4 =>
              go_simp
              refine wpLoad_step ?vl5 rfl (fun w' hS => ?yl5) ?kl5
              case yl5 =>
                obtain ⟨h1, h2, h3, h4⟩ := hS
                go_simp
                try rfl
              case kl5 =>
              go_simp
              refine wpLoad_step ?vl6 rfl (fun w' hS => ?yl6) ?kl6
              case yl6 =>
                obtain ⟨h1, h2, h3, h4⟩ := hS
                go_simp
                try rfl
              case kl6 =>
              go_simp
              refine wpLoad_step ?vl7 rfl (fun w' hS => ?yl7) ?kl7
              case yl7 =>
                obtain ⟨h1, h2, h3, h4⟩ := hS
                go_simp
                try rfl
              case kl7 =>
              go_simp
              refine wpLoad_step (.bool false) rfl (fun w' hS => ?yl8) ?kl8
              case yl8 =>
                obtain ⟨h1, h2, h3, h4⟩ := hS
                go_simp
                first | exact hbn | (simpa [bne] using hbn)
              case kl8 =>
              go_simp
              refine wpLoad_step ?vl9 rfl (fun w' hS => ?yl9) ?kl9
              case yl9 =>
                obtain ⟨h1, h2, h3, h4⟩ := hS
                go_simp
                try rfl
              case kl9 =>
              go_simp
              refine wpLoad_step ?vl10 rfl (fun w' hS => ?yl10) ?kl10
              case yl10 =>
                obtain ⟨h1, h2, h3, h4⟩ := hS
                go_simp
                try rfl
              case kl10 =>
              go_simp
              refine wpLoad_step ?vl11 rfl (fun w' hS => ?yl11) ?kl11
              case yl11 =>
                obtain ⟨h1, h2, h3, h4⟩ := hS
                go_simp
                try rfl
              case kl11 =>
              go_simp
              refine wpLoad_step ?vl12 rfl (fun w' hS => ?yl12) ?kl12
              case yl12 =>
                obtain ⟨h1, h2, h3, h4⟩ := hS
                go_simp
                try rfl
              case kl12 =>
              go_simp
              refine wpLoad_step ?vl13 rfl (fun w' hS => ?yl13) ?kl13
              case yl13 =>
                obtain ⟨h1, h2, h3, h4⟩ := hS
                go_simp
                try rfl
              case kl13 =>
              go_simp
              refine wpLoad_step ?vl14 rfl (fun w' hS => ?yl14) ?kl14
              case yl14 =>
                obtain ⟨h1, h2, h3, h4⟩ := hS
                go_simp
                try rfl
              case kl14 =>
              go_simp
              refine wpLoad_step ?vl15 rfl (fun w' hS => ?yl15) ?kl15
              case yl15 =>
                obtain ⟨h1, h2, h3, h4⟩ := hS
                go_simp
                try rfl
              case kl15 =>
              go_simp
              refine wpLoad_step ?vl16 rfl (fun w' hS => ?yl16) ?kl16
              case yl16 =>
                obtain ⟨h1, h2, h3, h4⟩ := hS
                go_simp
                try rfl
              case kl16 =>
              go_simp
              refine wpLoad_step ?vl17 rfl (fun w' hS => ?yl17) ?kl17
              case yl17 =>
                obtain ⟨h1, h2, h3, h4⟩ := hS
                go_simp
                try rfl
              case kl17 =>
              go_simp
              refine wpLoad_step ?vl18 rfl (fun w' hS => ?yl18) ?kl18
              case yl18 =>
                obtain ⟨h1, h2, h3, h4⟩ := hS
                go_simp
                try rfl
              case kl18 =>
              go_simp
              refine wpLoad_step ?vl19 rfl (fun w' hS => ?yl19) ?kl19
              case yl19 =>
                obtain ⟨h1, h2, h3, h4⟩ := hS
                go_simp
                try rfl
              case kl19 =>
              go_simp
              refine wpLoad_step (.bool true) rfl (fun w' hS => ?yl20) ?kl20
              case yl20 =>
                obtain ⟨h1, h2, h3, h4⟩ := hS
                go_simp
                try (first | exact hbl | (simpa [bne] using hbl))
              case kl20 =>
              go_simp
              refine wpLoad_nil ?_
              refine wpKeep_nil ?_
              go_wp2
              refine NoPanic.normal ?_
              go_wp2
              go_ret
              exact ⟨false, d, rfl, HAG.out⟩
        · have hbn : ((bs t1.name).toList != (bs u1.name).toList) = true := by
            rw [bne, bytesNe hnm]
            rfl
          have hag : Agreed B S Q U d t u w false d w4.drew := Agreed.same hw hr hb04.drew (fun θ h1 h2 => by
            rw [← HS1.out θ h1, ← HS2.out θ h1, sub_node HV1.out, sub_node HV2.out] at h2
            injection h2 with h2 _
            exact absurd h2 hnm) (fun _ _ h => by cases h) HNH.out
          have HAG := Lib.hid hag
          clear hag hnm
          go_wp2_with fail
          refine wp_region_held' (fun w' => w'.cell? p1 = some (sv t1.name) ∧ w'.cell? ⟨p1.block, p1.off + 1, none⟩ = some (.slice A t1.args.length c) ∧ w'.cell? q1 = some (sv u1.name) ∧ w'.cell? ⟨q1.block, q1.off + 1, none⟩ = some (.slice A' u1.args.length c')) [] [0, 1, 2, 3, 4, 5, 6, 7, 8, 9, 10, 11, 12, 13, 14, 15, 16, 17, 18, 19, 20] [] [21, 22] (by kernel_rfl) (by kernel_rfl) ?sd ?hd
          case sd => exact ⟨f0, f1, f0', f1'⟩
          case hd =>
            simp only [opsAt, List.filterMap_cons, List.filterMap_nil, List.getElem?_toArray, List.getElem?_cons_succ, List.getElem?_cons_zero]
            refine wpFloat_nil ?_
            refine wpLoad_step ?vd0 rfl (fun w' hS => ?yd0) ?kd0
            case yd0 =>
              obtain ⟨h1, h2, h3, h4⟩ := hS
              go_simp
              try rfl
            case kd0 =>
            go_simp
            refine wpLoad_step ?vd1 rfl (fun w' hS => ?yd1) ?kd1
            case yd1 =>
              obtain ⟨h1, h2, h3, h4⟩ := hS
              go_simp
              try rfl
            case kd1 =>
            go_simp
            refine wpLoad_step ?vd2 rfl (fun w' hS => ?yd2) ?kd2
            case yd2 =>
              obtain ⟨h1, h2, h3, h4⟩ := hS
              go_simp
              try rfl
            case kd2 =>
            go_simp
            refine wpLoad_step ?vd3 rfl (fun w' hS => ?yd3) ?kd3
            case yd3 =>
              obtain ⟨h1, h2, h3, h4⟩ := hS
              go_simp
              try rfl
            case kd3 =>
            go_simp
            refine wpLoad_step ?vd4 rfl (fun w' hS => ?yd4) ?kd4
            case yd4 =>
              obtain ⟨h1, h2, h3, h4⟩ := hS
              go_simp
              try rfl
            case kd4 =>
            go_simp
            refine wpLoad_step ?vd5 rfl (fun w' hS => ?yd5) ?kd5
            case yd5 =>
              obtain ⟨h1, h2, h3, h4⟩ := hS
              go_simp
              try rfl
            case kd5 =>
            go_simp
            refine wpLoad_step ?vd6 rfl (fun w' hS => ?yd6) ?kd6
            case yd6 =>
              obtain ⟨h1, h2, h3, h4⟩ := hS
              go_simp
              try rfl
            case kd6 =>
            go_simp
            refine wpLoad_step ?vd7 rfl (fun w' hS => ?yd7) ?kd7
            case yd7 =>
              obtain ⟨h1, h2, h3, h4⟩ := hS
              go_simp
              try rfl
            case kd7 =>
            go_simp
            refine wpLoad_step (.bool true) rfl (fun w' hS => ?yd8) ?kd8
            case yd8 =>
              obtain ⟨h1, h2, h3, h4⟩ := hS
              go_simp
              first | exact hbn | (simpa [bne] using hbn)
            case kd8 =>
            go_simp
            refine wpLoad_step ?vd9 rfl (fun w' hS => ?yd9) ?kd9
            case yd9 =>
              obtain ⟨h1, h2, h3, h4⟩ := hS
              go_simp
              try rfl
            case kd9 =>
            go_simp
            refine wpLoad_skip rfl ?_
            go_simp
            refine wpLoad_skip rfl ?_
            go_simp
            refine wpLoad_skip rfl ?_
            go_simp
            refine wpLoad_skip rfl ?_
            go_simp
            refine wpLoad_skip rfl ?_
            go_simp
            refine wpLoad_skip rfl ?_
            go_simp
            refine wpLoad_skip rfl ?_
            go_simp
            refine wpLoad_skip rfl ?_
            go_simp
            refine wpLoad_skip rfl ?_
            go_simp
            refine wpLoad_skip rfl ?_
            go_simp
            refine wpLoad_skip rfl ?_
            go_simp
            refine wpLoad_nil ?_
            refine wpKeep_nil ?_
            go_wp2
            refine NoPanic.normal ?_
            go_wp2
            go_ret
            exact ⟨false, d, rfl, HAG.out⟩
    · have hn1 := ho2.free n hv2
      have GV := Lib.hid (give_any B S d Q hQ ρ hr n HQG.out hn1 hlen t1 p1 w4 hw4.sv hw4.pl hw4.hB (hp1.keep hk4) hQ1)
      have AG := Lib.hid (agreed_give (t := t) (u := u) (x := t1) (k := n) (xq := p1) hw hr hb04 hp1 hp1U hQ1 (good_lt (hQ.name u1 hQ2) hv2) hn1 (.right t1 u1 n ho1 ho2 hv2 (fun m hm => by rw [hv1] at hm; cases hm))
        (fun θ h => by rw [← HS1.out θ h, ← HS2.out θ h, sub_var hv2]; exact eq_comm) (by rw [hv1]; simp) (fun j hj => ho1.free j hj))
      clear hv1 hv2 ho1 ho2
      simp only [varI, Option.isSome_none, Option.isSome_some]
      go_wp2_with fail
      refine GV.out.mono ?_
      intro e w5 hg
      obtain ⟨r, d', rfl, hag⟩ := AG.out e w5 hg
      go_wp2
      go_ret
      exact ⟨r, d', rfl, hag⟩
  · rcases hv2 : varOf u1 with _ | n
    · have hm1 := ho1.free m hv1
      have GV := Lib.hid (give_any B S d Q hQ ρ hr m HQG.out hm1 hlen u1 q1 w4 hw4.sv hw4.pl hw4.hB (hq1.keep hk4) hQ2)
      have AG := Lib.hid (agreed_give (t := t) (u := u) (x := u1) (k := m) (xq := q1) hw hr hb04 hq1 hq1U hQ2 (good_lt (hQ.name t1 hQ1) hv1) hm1 (.left t1 u1 m ho1 ho2 hv1 (fun n hn => by rw [hv2] at hn; cases hn))
        (fun θ h => by rw [← HS1.out θ h, ← HS2.out θ h, sub_var hv1]) (by rw [hv2]; simp) (fun j hj => ho2.free j hj))
      clear hv1 hv2 ho1 ho2
      simp only [varI, Option.isSome_none, Option.isSome_some]
      go_wp2_with fail
      refine GV.out.mono ?_
      intro e w5 hg
      obtain ⟨r, d', rfl, hag⟩ := AG.out e w5 hg
      go_wp2
      go_ret
      exact ⟨r, d', rfl, hag⟩
    · have hm1 := ho1.free m hv1
      have hn1 := ho2.free n hv2
      rcases Nat.lt_trichotomy m n with hmn | rfl | hmn
      · have hne : ((m : Int) == (n : Int)) = false := by simp; omega
        have hgt : decide (n < m) = false := by simp; omega
        have hgl : ¬ n < m := by omega
        have GV := Lib.hid (give_any B S d Q hQ ρ hr n HQG.out hn1 hlen t1 p1 w4 hw4.sv hw4.pl hw4.hB (hp1.keep hk4) hQ1)
        have AG := Lib.hid (agreed_give (t := t) (u := u) (x := t1) (k := n) (xq := p1) hw hr hb04 hp1 hp1U hQ1 (good_lt (hQ.name u1 hQ2) hv2) hn1 (.right t1 u1 n ho1 ho2 hv2 (fun m' hm' => by rw [hv1] at hm'; cases hm'; exact hmn))
          (fun θ h => by rw [← HS1.out θ h, ← HS2.out θ h, sub_var hv2]; exact eq_comm) (by rw [hv1]; intro e; cases e; omega) (fun j hj => ho1.free j hj))
        clear hv1 hv2 ho1 ho2 hmn
        simp only [varI, Option.isSome_some]
        go_wp2_with fail
        refine GV.out.mono ?_
        intro e w5 hg
        obtain ⟨r, d', rfl, hag⟩ := AG.out e w5 hg
        go_wp2
        go_ret
        exact ⟨r, d', rfl, hag⟩
      · have hag : Agreed B S Q U d t u w true d w4 := Agreed.same hw hr hb04 (fun _ _ _ => rfl) (fun _ _ _ θ h => by rw [← HS1.out θ h, ← HS2.out θ h, sub_var hv1, sub_var hv2]) (fun n x hx => by
          cases hx with
          | left t' u' m' ht hu hm hn =>
            have a1 := ht.fn ho1
            have a2 := hu.fn ho2
            subst a1 a2
            have := hn _ hv2
            rw [hv1] at hm
            cases hm
            omega
          | right t' u' n' ht hu hn hm =>
            have a1 := ht.fn ho1
            have a2 := hu.fn ho2
            subst a1 a2
            have := hm _ hv1
            rw [hv2] at hn
            cases hn
            omega)
        have HAG := Lib.hid hag
        clear hag hv1 hv2 ho1 ho2
        simp only [varI, Option.isSome_some]
        go_wp2
        go_ret
        exact ⟨true, d, rfl, HAG.out⟩
      · have hne : ((m : Int) == (n : Int)) = false := by simp; omega
        have hgt : decide (n < m) = true := by simp; omega
        have hgl : n < m := hmn
        have GV := Lib.hid (give_any B S d Q hQ ρ hr m HQG.out hm1 hlen u1 q1 w4 hw4.sv hw4.pl hw4.hB (hq1.keep hk4) hQ2)
        have AG := Lib.hid (agreed_give (t := t) (u := u) (x := u1) (k := m) (xq := q1) hw hr hb04 hq1 hq1U hQ2 (good_lt (hQ.name t1 hQ1) hv1) hm1 (.left t1 u1 m ho1 ho2 hv1 (fun n' hn' => by rw [hv2] at hn'; cases hn'; exact hmn))
          (fun θ h => by rw [← HS1.out θ h, ← HS2.out θ h, sub_var hv1]) (by rw [hv2]; intro e; cases e; omega) (fun j hj => ho2.free j hj))
        clear hv1 hv2 ho1 ho2 hmn
        simp only [varI, Option.isSome_some]
        go_wp2_with fail
        refine GV.out.mono ?_
        intro e w5 hg
        obtain ⟨r, d', rfl, hag⟩ := AG.out e w5 hg
        go_wp2
        go_ret
        exact ⟨r, d', rfl, hag⟩
end Go.Proofs.YtndhglcdkegigaaDoor
