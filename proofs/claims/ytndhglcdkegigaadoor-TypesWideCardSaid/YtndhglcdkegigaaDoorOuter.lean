/-
  The walk of (*unify.Solver).Outer.
  Conditions: every name is no variable's, or that of a variable below 100; there is a rank.
-/
import Derived.Test.YtndhglcdkegigaaDoorSv
import Derived.Deep.LoopGhost
namespace Go.Proofs.YtndhglcdkegigaaDoor
open Go.RowKit

theorem given_nodup {w : World} {gb : Nat} {G : List (Nat × Addr × Ty)} (h : MapAt w gb (G.map givenV)) : (G.map (·.1)).Nodup := by
  have := h.nodup
  rw [List.map_map] at this
  have e : (Prod.fst ∘ givenV) = (fun n : Nat => Value.int .i64 (n : Int)) ∘ (fun g : Nat × Addr × Ty => g.1) := rfl
  rw [e, ← List.map_map] at this
  exact (List.pairwise_map.1 this).imp fun h e => h (by rw [e])
theorem given_keys {w : World} {G : List (Nat × Addr × Ty)} : ∀ p ∈ G.map givenV, KInt w p.1 := by
  intro p hp
  obtain ⟨g, _, rfl⟩ := List.mem_map.1 hp
  exact ⟨_, rfl⟩
theorem given_yes {w : World} {gb : Nat} {G : List (Nat × Addr × Ty)} {k : Nat} {q : Addr} {u : Ty} (h : MapAt w gb (G.map givenV)) (hg : (k, q, u) ∈ G) :
    (Instr.lookup 80 (.map (some gb)) (.int .i64 (k : Int)) false).run Tryd.prog w = .ok (.pointer (some q)) w :=
  run_look_yes Tryd.underlying80 law_int h ⟨_, rfl⟩ given_keys (List.mem_map.2 ⟨_, hg, rfl⟩)
theorem given_no {w : World} {gb : Nat} {G : List (Nat × Addr × Ty)} {k : Nat} (h : MapAt w gb (G.map givenV)) (hg : solOf G k = none) :
    (Instr.lookup 80 (.map (some gb)) (.int .i64 (k : Int)) false).run Tryd.prog w = .ok (.pointer none) w := by
  refine run_look_no Tryd.underlying80 law_int h ⟨_, rfl⟩ given_keys (Tryd.zeroValue79 w) ?_
  intro p hp e
  obtain ⟨g, hg', rfl⟩ := List.mem_map.1 hp
  have : g.1 = k := by
    have := Value.int.inj e
    omega
  exact find_none hg g hg' this

/-- Names are good, all the way down. -/
structure Down (Q : Ty → Prop) : Prop where
  name : ∀ t, Q t → GoodN t.name
  arg : ∀ t a, Q t → a ∈ t.args → Q a

def OuterRes (d : SD) (S : Nat → Prop) (p0 : Addr) (t : Ty) (w : World) (e : Ending) (w' : World) : Prop :=
  ∃ p t', e = .returned (.pointer (some p)) ∧ PtTy w S p t' ∧ Out d.sol t t' ∧ Below w.heap.size w w' ∧ (p = p0 ∨ ∃ g ∈ d.G, p = g.2.1)

set_option maxHeartbeats 4000000 in
set_option maxRecDepth 100000 in
theorem outer_any (B : Nat) (S : Nat → Prop) (d : SD) (Q : Ty → Prop) (hQ : Down Q) (ρ : Ty → Nat) (hr : Rank d.sol ρ) (p : Addr) (t : Ty) (w : World) (hs : Sv w B S d) (hpl : Plb w B S) (hB : B ≤ w.heap.size)
    (hp : PtTy w S p t) (hq : Q t) (hqg : ∀ g ∈ d.G, Q g.2.2) : Calls Tryd.prog 76 #[.pointer (some ⟨d.sb, 0, none⟩), .pointer (some p)] w (OuterRes d S p t w) := by
  go_enter Tryd.func76, Tryd.ntmps76
  go_wp2_with fail
  go_loopg [1] (ρ t) (fun g i wx => ∃ q u, i = .pointer (some q) ∧ ρ u ≤ g ∧ PtTy w S q u ∧ Q u ∧ (∀ t', Out d.sol u t' → Out d.sol t t') ∧ Below w.heap.size w wx ∧ (q = p ∨ ∃ g ∈ d.G, q = g.2.1))
  case atStart => exact ⟨p, t, rfl, Nat.le_refl _, hp, hq, fun _ h => h, Below.refl _ _, .inl rfl⟩
  case round =>
    obtain ⟨q, u, rfl, hg, hpt, hqu, hout, hb, hwhere⟩ := hrel
    obtain ⟨A, c, hS, e0, e1, hl, _, _, _⟩ := (hpt.keep (hpl.kept (hb.mono hB))).cells
    have hBr : B ≤ wr.heap.size := Nat.le_trans hB hb.size
    have hsr := hs.below hpl hB hb
    have hplr := hpl.below (hb.mono hB)
    have hva := variable_any q u.name A u.args.length c wr e0 e1 (hQ.name u hqu) hl
    rw [← varOf_mk, show Ty.mk u.name u.args = u from by cases u; rfl] at hva
    have HVA := Lib.hid hva
    have HOUT := Lib.hid hout
    have HPT := Lib.hid hpt
    clear hva hout hpt
    go_wp2_with fail
    refine HVA.out.mono ?_
    rintro e w1 ⟨rfl, hb1⟩
    have hs1 := hsr.below hplr hBr hb1
    have x0 : w1.cell? ⟨d.sb, 0, none⟩ = some (.map (some d.gb)) := (Lib.cell_of_heap hs1.cells _).trans rfl
    rcases hv : varOf u with _ | k
    · have HV := Lib.hid hv
      clear hv
      simp only [varI, Option.isSome_none]
      go_wp2
      go_ret
      exact ⟨q, u, rfl, HPT.out, HOUT.out u (.stop u fun k hk => by rw [HV.out] at hk; cases hk), hb.trans (hb1.mono hb.size), hwhere⟩
    · rcases hk : d.sol k with _ | u'
      · have hlk := given_no (k := k) hs1.given hk
        have HV := Lib.hid hv
        have HK := Lib.hid hk
        clear hv hk
        simp only [varI, Option.isSome_some]
        go_wp2
        go_ret
        exact ⟨q, u, rfl, HPT.out, HOUT.out u (.stop u fun k' hk => by rw [HV.out] at hk; cases hk; exact HK.out), hb.trans (hb1.mono hb.size), hwhere⟩
      · obtain ⟨q', hm⟩ := find_mem hk
        have hlk := given_yes hs1.given hm
        have hgt := hs.gty _ hm
        have hqq := hqg _ hm
        have hrk := hr.given u k u' hv hk
        have HO' : Hid (∀ t', Out d.sol u' t' → Out d.sol t t') := Lib.hid fun t' h => HOUT.out t' (.step u u' t' k hv hk h)
        clear hv hk
        simp only [varI, Option.isSome_some]
        go_wp2
        go_roundg (ρ u')
        case measure => omega
        case rel => exact ⟨q', u', rfl, Nat.le_refl _, hgt, hqq, HO'.out, hb.trans (hb1.mono hb.size), .inr ⟨_, hm, rfl⟩⟩
end Go.Proofs.YtndhglcdkegigaaDoor
