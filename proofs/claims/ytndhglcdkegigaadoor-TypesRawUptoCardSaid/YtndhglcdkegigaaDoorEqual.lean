/-
  The walk of (*unify.Solver).Equal.
  Conditions: those of agree.
-/
import Derived.Test.YtndhglcdkegigaaDoorEqu
namespace Go.Proofs.YtndhglcdkegigaaDoor
open Go.RowKit

theorem flatP_at : ∀ (l : List (Addr × Addr)) (j : Nat) (x : Addr × Addr), l[j]? = some x → (flatP l)[j * 2]? = some (.pointer (some x.1)) ∧ (flatP l)[j * 2 + 1]? = some (.pointer (some x.2))
  | [], j, x, h => by simp at h
  | v :: r, 0, x, h => by
    simp at h
    subst h
    simp [flatP]
  | v :: r, j + 1, x, h => by
    have := flatP_at r j x (by simpa using h)
    have e : (j + 1) * 2 = j * 2 + 2 := by omega
    rw [e]
    simpa [flatP] using this

set_option maxHeartbeats 8000000 in
set_option maxRecDepth 100000 in
theorem equal_any (B : Nat) (S : Nat → Prop) (Q : Ty → Prop) (hQ : DownN Q) (U : List Addr) (hU : U.length ≤ 2000) (d : SD) (ρ : Ty → Nat) (t u : Ty) (p q : Addr) (w : World) (h : Rest w B S Q U d) (hr : Rank d.sol ρ)
    (hp : PtTy w S p t) (hq : PtTy w S q u) (hpU : p ∈ U) (hqU : q ∈ U) :
    Calls Tryd.prog 44 #[.pointer (some ⟨d.sb, 0, none⟩), .pointer (some p), .pointer (some q)] w (EqualRes B S Q U d t u w) := by
  obtain ⟨hw0, hk0⟩ := h.reset
  have hkt := hk0.kept (S := S) fun b hS => ⟨Nat.lt_of_lt_of_le (h.pl.lt b hS) h.hB, fun e => by have := h.sv.lo.1; have := h.pl.lt b hS; omega⟩
  have x2 : w.cell? ⟨d.sb, 2, none⟩ = some d.trv := (Lib.cell_of_heap h.sv.cells _).trans rfl
  have x3 : w.cell? ⟨d.sb, 3, none⟩ = some d.psv := (Lib.cell_of_heap h.sv.cells _).trans rfl
  have y2 : w.frozen? ⟨d.sb, 2, none⟩ = false := Lib.frozen_of_heap h.sv.cells 2
  have y3 : w.frozen? ⟨d.sb, 3, none⟩ = false := Lib.frozen_of_heap h.sv.cells 3
  have AG := Lib.hid (agree_any B S Q hQ U hU (100 - d.G.length) (ρ t + ρ u) d.reset ρ t u p q _ (Nat.le_refl _) (Nat.le_refl _) hw0 hr (hp.keep hkt) (hq.keep hkt) hpU hqU)
  have HW0 := Lib.hid hw0
  have HK0 := Lib.hid hk0
  clear hw0 hk0 hkt
  go_enter Tryd.func44, Tryd.ntmps44
  go_wp2_with fail
  refine AG.out.mono ?_
  rintro e w1 ⟨r, d1, rfl, hag⟩
  have HAG := Lib.hid hag
  clear hag
  cases r with
  | true =>
    clear x2 x3 y2 y3
    go_wp2
    go_ret
    exact ⟨true, d1, rfl, Equaled.yes h HK0.out HAG.out⟩
  | false =>
    clear x2 x3 y2 y3
    obtain ⟨N, hN1, hN2⟩ := HAG.out.grow
    obtain ⟨M, hM1, hM2, _⟩ := HAG.out.pairs
    have hN1 : d1.G = d.G ++ N := hN1
    have hN2 : d1.tr = N.map (·.1) := by simpa [SD.reset] using hN2
    have hM1 : d1.AG = d.AG ++ M := hM1
    have hM2 : d1.ps = M := by simpa [SD.reset] using hM2
    have hw1 := HAG.out.work
    have hn := HAG.out.next
    have hsb : d1.sb = d.sb := hn.sb
    have hgb : d1.gb = d.gb := hn.gb
    have hab : d1.ab = d.ab := hn.ab
    obtain ⟨n, hnl⟩ : ∃ n, n = N.length := ⟨_, rfl⟩
    obtain ⟨m, hml⟩ : ∃ m, m = M.length := ⟨_, rfl⟩
    have hn100 : n ≤ 1000 := by
      have := hw1.glen
      rw [hN1, List.length_append] at this
      omega
    have hm4 : m ≤ 4000000 := by
      have h1 := hw1.alen
      rw [hM1, List.length_append] at h1
      have h3 := Nat.mul_le_mul hU hU
      omega
    obtain ⟨TA, tc, htv⟩ := row_shape hw1.sv.trail
    obtain ⟨PA, pc, hpv⟩ := row_shape hw1.sv.pairs
    rw [hN2, List.length_map, ← hnl] at htv
    rw [hM2, ← hml] at hpv
    have hcd : w1.heap[d.sb]? = some (.cells #[.map (some d.gb), .map (some d.ab), .slice TA n tc, .slice PA m pc, .int .i64 d1.lo] 84 (0, 0)) := by
      have := hw1.sv.cells
      rwa [hsb, hgb, hab, htv, hpv] at this
    have htr := hw1.sv.trail
    rw [htv, hN2, List.length_map, ← hnl, List.map_map] at htr
    have hrow := (Row.ofOwn htr fun g hg _ _ => hg : Row w1 (fun g => TA = some ⟨g, 0, none⟩) TA _)
    have hps := hw1.sv.pairs
    rw [hpv, hM2, ← hml] at hps
    have hrowp := (Row.ofOwn hps fun g hg _ _ => hg : Row w1 (fun g => PA = some ⟨g, 0, none⟩) PA _)
    have c0 : w1.cell? ⟨d.sb, 0, none⟩ = some (.map (some d.gb)) := (Lib.cell_of_heap hcd _).trans rfl
    have c2 : w1.cell? ⟨d.sb, 2, none⟩ = some (.slice TA n tc) := (Lib.cell_of_heap hcd _).trans rfl
    have hg1 : MapAt w1 d.gb ((d.G ++ N).map givenV) := by rw [← hgb, ← hN1]; exact hw1.sv.given
    have ha1 : MapAt w1 d.ab ((d.AG ++ M).map agreedV) := by rw [← hab, ← hM1]; exact hw1.sv.agreed
    have hsg : d.sb ≠ d.gb := fun e => hg1.not_cells (e ▸ hcd)
    have hsa : d.sb ≠ d.ab := fun e => ha1.not_cells (e ▸ hcd)
    have hga : d.gb ≠ d.ab := h.sv.lo.2.2.2
    have hnd1 := hg1.nodup
    have hnd2 := ha1.nodup
    have HNL := Lib.hid hnl
    have HML := Lib.hid hml
    have HTR := Lib.hid htr
    have HPS := Lib.hid hps
    have HROW := Lib.hid hrow
    have HROWP := Lib.hid hrowp
    have HND1 := Lib.hid hnd1
    have HND2 := Lib.hid hnd2
    have HCD := Lib.hid hcd
    have HG1 := Lib.hid hg1
    have HA1 := Lib.hid ha1
    have HN1 := Lib.hid hN1
    have HM1 := Lib.hid hM1
    clear hnl hml htr hps hrow hrowp hnd1 hnd2 hcd hg1 ha1 hN1 hN2 hM1 hM2 hsb hgb hab htv hpv hn
    go_wp2_with fail
    go_loopw [26] (fun i wr => ∃ k : Nat, k ≤ n ∧ i = .int .i64 k ∧ MapAt wr d.gb ((d.G ++ N.drop k).map givenV) ∧ Kp (fun y => y = d.gb) w1 wr) (fun i _ => n - (intOf i).toNat)
    case atStart => exact ⟨0, Nat.zero_le _, rfl, by simpa using HG1.out, Kp.refl _ _⟩
    case round =>
      obtain ⟨k, hk, rfl, hmr, hkr⟩ := hrel
      have hcr := hkr.heap HCD.out hsg
      by_cases hlt : k < n
      · have hki : k < N.length := by rw [← HNL.out]; exact hlt
        obtain ⟨ad, rfl, hT, hc⟩ := HROW.out.at_ (k := k) (u := .int .i64 (N[k].1 : Int)) (by simp [hki])
        obtain ⟨cs, hcc⟩ := row_block HTR.out (g := ad.block) (by injection hT with hT; rw [hT]; rfl)
        have hne : ad.block ≠ d.gb := fun e => HG1.out.not_cells (e ▸ hcc)
        have hadl := lt_of_heap hcc
        have hcr1 : wr.cell? (ad.add k) = some (.int .i64 (N[k].1 : Int)) := by
          rw [← hc]
          exact World.cell?_of_block (by rw [blkAdd]; exact hkr.block _ hadl hne)
        have c0r : wr.cell? ⟨d.sb, 0, none⟩ = some (.map (some d.gb)) := (Lib.cell_of_heap hcr _).trans rfl
        have HFD := Lib.hid (filter_drop givenV d.G N k hki HND1.out)
        generalize hNk : N[k].1 = nk at hcr1
        have hx : (givenV N[k]).1 = .int .i64 (nk : Int) := by rw [← hNk]; rfl
        have HX := Lib.hid hx
        have HC := Lib.hid hc
        have HT := Lib.hid hT
        clear hx hNk hc hT
        obtain ⟨w2, hdel, hm2, hk2⟩ := run_del (kt' := 3) (ty := 0) (k := .int .i64 (nk : Int)) Tryd.underlying80 law_int hmr ⟨_, rfl⟩ given_keys
        rw [← HX.out, HFD.out] at hm2
        have HM2 := Lib.hid hm2
        clear hm2
        go_wp2
        go_roundw
        case rel => exact ⟨k + 1, by omega, by go_num, HM2.out, hkr.trans hk2 fun _ _ h => h⟩
        case measure => simp [intOf]; omega
      · obtain rfl : k = n := by omega
        obtain ⟨wa, rfl⟩ : ∃ wa, wa = wr := ⟨_, rfl⟩
        have hmr0 : MapAt wa d.gb (d.G.map givenV) := by
          rw [HNL.out, List.drop_length, List.append_nil] at hmr
          exact hmr
        have c3 : wa.cell? ⟨d.sb, 3, none⟩ = some (.slice PA m pc) := (Lib.cell_of_heap hcr _).trans rfl
        have har : MapAt wa d.ab ((d.AG ++ M).map agreedV) := HA1.out.same (hkr.block _ HA1.out.lt (fun e => hga e.symm))
        have hpr := hkr.own HPS.out (fun g hg e => by
          obtain ⟨cs, hcc⟩ := row_block HPS.out hg
          exact HG1.out.not_cells (e ▸ hcc))
        have hrow2 := (Row.ofOwn hpr fun g hg _ _ => hg : Row wa (fun g => PA = some ⟨g, 0, none⟩) PA _)
        have hkeys : ∀ x ∈ d.AG ++ M, PlainB wa x.1.block ∧ PlainB wa x.2.block := fun x hx => by
          obtain ⟨h1, h2⟩ := hw1.au x (by rw [HM1.out]; exact hx)
          have hpb : ∀ y ∈ U, PlainB wa y.block := fun y hy => by
            obtain ⟨cs, T, hc⟩ := hw1.plain hy
            exact ⟨cs, T, hkr.heap hc (fun e => HG1.out.not_cells (e ▸ hc))⟩
          exact ⟨hpb _ h1, hpb _ h2⟩
        have HMR := Lib.hid hmr0
        have HAR := Lib.hid har
        have HPR := Lib.hid hpr
        have HROW2 := Lib.hid hrow2
        have HKEYS := Lib.hid hkeys
        have HCR := Lib.hid hcr
        have HKR := Lib.hid hkr
        clear hmr0 har hpr hrow2 hkeys hcr hkr hmr c0 c2
        go_wp2_with fail
        go_loopw [41] (fun i wx => ∃ j : Nat, j ≤ m ∧ i = .int .i64 j ∧ MapAt wx d.ab ((d.AG ++ M.drop j).map agreedV) ∧ Kp (fun y => y = d.ab) wa wx) (fun i _ => m - (intOf i).toNat)
        case atStart => exact ⟨0, Nat.zero_le _, rfl, by simpa using HAR.out, Kp.refl _ _⟩
        case round =>
          obtain ⟨j, hj, rfl, hmj, hkj⟩ := hrel
          have hcj := hkj.heap HCR.out hsa
          by_cases hlt2 : j < m
          · have hji : j < M.length := by rw [← HML.out]; exact hlt2
            obtain ⟨e0, e1⟩ := flatP_at M j _ (List.getElem?_eq_getElem hji)
            obtain ⟨ad, rfl, hT, hc0⟩ := HROW2.out.at_ e0
            obtain ⟨_, hh, hT2, hc1⟩ := HROW2.out.at_ e1
            obtain rfl := Option.some.inj hh
            obtain ⟨cs, hcc⟩ := row_block HPR.out (g := ad.block) (by injection hT with hT; rw [hT]; rfl)
            have hne : ad.block ≠ d.ab := fun e => HAR.out.not_cells (e ▸ hcc)
            have hadl := lt_of_heap hcc
            have hq0 : wr.cell? (ad.add (j * 2)) = some (.pointer (some M[j].1)) := by
              rw [← hc0]
              exact World.cell?_of_block (by rw [blkAdd]; exact hkj.block _ hadl hne)
            have hq1 : wr.cell? ⟨(ad.add (j * 2)).block, (ad.add (j * 2)).off + 1, none⟩ = some (.pointer (some M[j].2)) := by
              have e : (⟨(ad.add (j * 2)).block, (ad.add (j * 2)).off + 1, none⟩ : Addr) = ad.add (j * 2 + 1) := by rw [← addAdd]; rfl
              rw [e, ← hc1]
              exact World.cell?_of_block (by rw [blkAdd]; exact hkj.block _ hadl hne)
            have HFD := Lib.hid (filter_drop agreedV d.AG M j hji HND2.out)
            have hmem : M[j] ∈ M := List.getElem_mem hji
            generalize hMj : M[j] = x at hq0 hq1 hmem
            obtain ⟨a, b⟩ := x
            dsimp only at hq0 hq1
            have HX : Hid ((agreedV M[j]).1 = .agg #[.pointer (some a), .pointer (some b)]) := Lib.hid (by rw [hMj]; rfl)
            have hbx : Below wr.heap.size wr (wr.alloc (.cells #[.pointer (some a), .pointer (some b)] 107)).drew := ((Below.refl _ _).alloc (Nat.le_refl _) _).drew
            have hmj2 := hmj.same (hbx.block _ hmj.lt)
            have c1 : (wr.alloc (.cells #[.pointer (some a), .pointer (some b)] 107)).drew.cell? ⟨d.sb, 1, none⟩ = some (.map (some d.ab)) := (Lib.cell_of_heap ((hbx.block _ (lt_of_heap hcj)).trans hcj) _).trans rfl
            have hbb := alloc1 wr (.cells #[.pointer (some a), .pointer (some b)] 107)
            have b0 : (wr.alloc (.cells #[.pointer (some a), .pointer (some b)] 107)).drew.cell? ⟨wr.heap.size, 0, none⟩ = some (.pointer (some a)) := (Lib.cell_of_heap (w := (wr.alloc (.cells #[.pointer (some a), .pointer (some b)] 107)).drew) hbb _).trans rfl
            have b1 : (wr.alloc (.cells #[.pointer (some a), .pointer (some b)] 107)).drew.cell? ⟨wr.heap.size, 1, none⟩ = some (.pointer (some b)) := (Lib.cell_of_heap (w := (wr.alloc (.cells #[.pointer (some a), .pointer (some b)] 107)).drew) hbb _).trans rfl
            have hpl : ∀ y : Addr, PlainB wa y.block → PlainB (wr.alloc (.cells #[.pointer (some a), .pointer (some b)] 107)).drew y.block := fun y hy => by
              obtain ⟨cs, T, hc⟩ := hy
              have h1 := hkj.heap hc (fun e => HAR.out.not_cells (e ▸ hc))
              exact ⟨cs, T, (hbx.block _ (lt_of_heap h1)).trans h1⟩
            obtain ⟨w2, hdel, hm2, hk2⟩ := run_del (kt' := 107) (ty := 0) (k := .agg #[.pointer (some a), .pointer (some b)]) Tryd.underlying81 law_pair hmj2 ⟨a, b, rfl, hpl _ (HKEYS.out (a, b) (List.mem_append.2 (.inr hmem))).1, hpl _ (HKEYS.out (a, b) (List.mem_append.2 (.inr hmem))).2⟩ (fun y hy => by
              obtain ⟨z, hz, rfl⟩ := List.mem_map.1 hy
              have hz' : z ∈ d.AG ++ M := (List.mem_append.1 hz).elim (fun h => List.mem_append.2 (.inl h)) (fun h => List.mem_append.2 (.inr (List.mem_of_mem_drop h)))
              exact ⟨z.1, z.2, rfl, hpl _ (HKEYS.out z hz').1, hpl _ (HKEYS.out z hz').2⟩)
            rw [← HX.out, HFD.out] at hm2
            have HM2 := Lib.hid hm2
            have HKJ := Lib.hid hkj
            clear hm2 hkj hMj hmem hc0 hc1 e0 e1 hT hT2 hpl hbb hmj2
            go_wp2_with fail
            refine wp_region_held' (fun w' => w'.cell? ⟨d.sb, 1, none⟩ = some (.map (some d.ab)) ∧ w'.cell? ⟨wr.heap.size, 0, none⟩ = some (.pointer (some a)) ∧ w'.cell? ⟨wr.heap.size, 1, none⟩ = some (.pointer (some b))) [] [0, 1, 2, 3, 4] [] [5] (by kernel_rfl) (by kernel_rfl) ?sz ?hz
            case sz => exact ⟨c1, b0, b1⟩
            case hz =>
            simp only [opsAt, List.filterMap_cons, List.filterMap_nil, List.getElem?_toArray, List.getElem?_cons_succ, List.getElem?_cons_zero]
            refine wpFloat_nil ?_
            refine wpLoad_step ?vz0 rfl (fun w' hS => ?yz0) ?kz0
            case yz0 =>
              obtain ⟨h1, h2, h3⟩ := hS
              go_simp
              try rfl
            case kz0 =>
            go_simp
            refine wpLoad_step ?vz1 rfl (fun w' hS => ?yz1) ?kz1
            case yz1 =>
              obtain ⟨h1, h2, h3⟩ := hS
              go_simp
              try rfl
            case kz1 =>
            go_simp
            refine wpLoad_step ?vz2 rfl (fun w' hS => ?yz2) ?kz2
            case yz2 =>
              obtain ⟨h1, h2, h3⟩ := hS
              go_simp
              try rfl
            case kz2 =>
            go_simp
            refine wpLoad_step ?vz3 rfl (fun w' hS => ?yz3) ?kz3
            case yz3 =>
              obtain ⟨h1, h2, h3⟩ := hS
              go_simp
              try rfl
            case kz3 =>
            go_simp
            refine wpLoad_step ?vz4 rfl (fun w' hS => ?yz4) ?kz4
            case yz4 =>
              obtain ⟨h1, h2, h3⟩ := hS
              go_simp
              try rfl
            case kz4 =>
            go_simp
            refine wpLoad_nil ?_
            refine wpKeep_nil ?_
            go_wp2
            refine NoPanic.normal ?_
            go_wp2
            go_roundw
            case rel => exact ⟨j + 1, by omega, by go_num, HM2.out, HKJ.out.trans ((Kp.ofBelow hbx).trans hk2 fun _ _ h => h) fun _ _ h => h⟩
            case measure => simp [intOf]; omega
          · obtain rfl : j = m := by omega
            have hme : MapAt wr d.ab (d.AG.map agreedV) := by
              rw [HML.out, List.drop_length, List.append_nil] at hmj
              exact hmj
            have hgm : MapAt wr d.gb (d.G.map givenV) := HMR.out.same (hkj.block _ HMR.out.lt hga)
            have hno := Equaled.no h hr HK0.out HAG.out ((HKR.out.more fun _ _ e => .inl e).trans hkj fun _ _ e => .inr e) hgm hme
            have HNO := Lib.hid hno
            clear hno hgm hme hmj
            go_wp2
            go_ret
            exact ⟨false, _, rfl, HNO.out⟩
end Go.Proofs.YtndhglcdkegigaaDoor
