/-
  What (*unify.Solver).Equal leaves: words.
  Conditions: those of each theorem.
  The walk of unify.New.
  Conditions: types lie in plain blocks.
  The walk of (*unify.Solver).Equal.
  Conditions: those of agree.
  A loop over a map, in whatever order: entries that came so far.
  Conditions: those of each theorem.
  Equations one after the other: words for types.Solve.
  Conditions: those of each theorem.
-/
import Derived.Test.YtndhglcdkegigaaDoorAgree
import Derived.Maps.RangeRun
import Derived.Test.YtndhglcdkegigaaDoorRMap
namespace Go.Proofs.YtndhglcdkegigaaDoor
section
open Go.RowKit
/-- A solver between two equations. -/
structure Rest (w : World) (B : Nat) (S : Nat → Prop) (Q : Ty → Prop) (U : List Addr) (d : SD) : Prop where
  sv : Sv w B S d
  pl : Plb w B S
  hB : B ≤ w.heap.size
  un : Univ w S Q U
  gu : ∀ g ∈ d.G, Q g.2.2 ∧ g.1 < 100 ∧ g.2.1 ∈ U
  au : ∀ x ∈ d.AG, x.1 ∈ U ∧ x.2 ∈ U
theorem Work.rest {w : World} {B : Nat} {S : Nat → Prop} {Q : Ty → Prop} {U : List Addr} {d : SD} (h : Work w B S Q U d) : Rest w B S Q U d := ⟨h.sv, h.pl, h.hB, h.un, h.gu, h.au⟩
theorem Rest.below {w w' : World} {B : Nat} {S : Nat → Prop} {Q : Ty → Prop} {U : List Addr} {d : SD} (h : Rest w B S Q U d) (hb : Below w.heap.size w w') : Rest w' B S Q U d :=
  ⟨h.sv.below h.pl h.hB hb, h.pl.below (hb.mono h.hB), Nat.le_trans h.hB hb.size, h.un.keep (h.pl.kept (hb.mono h.hB)), h.gu, h.au⟩
def SD.reset (d : SD) : SD := { d with tr := [], ps := [], trv := .slice none 0 0, psv := .slice none 0 0 }
theorem Rest.reset {w : World} {B : Nat} {S : Nat → Prop} {Q : Ty → Prop} {U : List Addr} {d : SD} (h : Rest w B S Q U d) :
    Work ((w.setCell ⟨d.sb, 2, none⟩ (.slice none 0 0)).setCell ⟨d.sb, 3, none⟩ (.slice none 0 0)) B S Q U d.reset ∧ Kp (fun y => y = d.sb) w ((w.setCell ⟨d.sb, 2, none⟩ (.slice none 0 0)).setCell ⟨d.sb, 3, none⟩ (.slice none 0 0)) := by
  have hk : Kp (fun y => y = d.sb) w ((w.setCell ⟨d.sb, 2, none⟩ (.slice none 0 0)).setCell ⟨d.sb, 3, none⟩ (.slice none 0 0)) :=
    (Kp.setCell (M := fun y => y = d.sb) (Kp.refl _ w) (fun _ => rfl) _).trans (Kp.setCell (M := fun y => y = d.sb) (Kp.refl _ _) (fun _ => rfl) _) fun _ _ h => h
  have hkt := hk.kept (S := S) fun b hS => ⟨Nat.lt_of_lt_of_le (h.pl.lt b hS) h.hB, fun e => by have := h.sv.lo.1; have := h.pl.lt b hS; omega⟩
  have hsg : d.sb ≠ d.gb := fun e => h.sv.given.not_cells (e ▸ h.sv.cells)
  have hsa : d.sb ≠ d.ab := fun e => h.sv.agreed.not_cells (e ▸ h.sv.cells)
  refine ⟨⟨⟨h.sv.lo, setCell_heap (setCell_heap h.sv.cells), h.sv.given.same (hk.block _ h.sv.given.lt (fun e => hsg e.symm)), h.sv.agreed.same (hk.block _ h.sv.agreed.lt (fun e => hsa e.symm)), fun g hg => (h.sv.gty g hg).keep hkt, fun x hx => ?_, World.ownsRow_nil _ _ _ _, World.ownsRow_nil _ _ _ _⟩, ?_, Nat.le_trans h.hB hk.size, h.un.keep hkt, h.gu, h.au, Nat.zero_le _, Nat.zero_le _⟩, hk⟩
  · obtain ⟨⟨t', h3⟩, u, h4⟩ := h.sv.aty x hx
    exact ⟨⟨t', h3.keep hkt⟩, u, h4.keep hkt⟩
  · exact ⟨h.pl.lt, fun b hS => (h.pl.plain b hS).same (hk.block b (Nat.lt_of_lt_of_le (h.pl.lt b hS) h.hB) (fun e => by have := h.sv.lo.1; have := h.pl.lt b hS; omega))⟩

theorem SNext.ofReset {n n' : Nat} {d d' : SD} (h : SNext n' d.reset d') (hn : n ≤ n') : SNext n d d' :=
  ⟨h.sb, h.gb, h.ab, fun y hy => (h.trv y hy).elim (fun e => by cases e) (fun e => .inr (Nat.le_trans hn e)), fun y hy => (h.psv y hy).elim (fun e => by cases e) (fun e => .inr (Nat.le_trans hn e))⟩
theorem SvM.ofReset {d : SD} {y : Nat} (h : SvM d.reset y) : SvM d y := by
  rcases h with e | e | e | e | e
  · exact .inl e
  · exact .inr (.inl e)
  · exact .inr (.inr (.inl e))
  · cases e
  · cases e

structure Equaled (B : Nat) (S : Nat → Prop) (Q : Ty → Prop) (U : List Addr) (d : SD) (t u : Ty) (w : World) (r : Bool) (d' : SD) (w' : World) : Prop where
  rest : Rest w' B S Q U d'
  kp : Kp (SvM d) w w'
  next : SNext w.heap.size d d'
  rank : ∃ ρ, Rank d'.sol ρ
  grow : ∃ N, d'.G = d.G ++ N
  back : r = false → d'.G = d.G
  full : ∀ θ, Sat θ d.sol → sub θ t = sub θ u → r = true ∧ Sat θ d'.sol
  sound : CleanQ Q → Memo w S d → Memo w' S d' ∧ (r = true → ∀ θ, Sat θ d'.sol → sub θ t = sub θ u)
  head : ∀ n x, Head d.sol t u n x → (r = true ↔ ¬ Occ d.sol n x) ∧ (r = true → ∃ q, PtTy w S q x ∧ d'.G = d.G ++ [(n, q, x)])
def EqualRes (B : Nat) (S : Nat → Prop) (Q : Ty → Prop) (U : List Addr) (d : SD) (t u : Ty) (w : World) (e : Ending) (w' : World) : Prop :=
  ∃ r d', e = .returned (.bool r) ∧ Equaled B S Q U d t u w r d' w'

theorem Equaled.yes {B : Nat} {S : Nat → Prop} {Q : Ty → Prop} {U : List Addr} {d d' : SD} {t u : Ty} {w w0 w' : World} (h : Rest w B S Q U d) (hk : Kp (fun y => y = d.sb) w w0) (hg : Agreed B S Q U d.reset t u w0 true d' w') : Equaled B S Q U d t u w true d' w' := by
  have hkt := hk.kept (S := S) fun b hS => ⟨Nat.lt_of_lt_of_le (h.pl.lt b hS) h.hB, fun e => by have := h.sv.lo.1; have := h.pl.lt b hS; omega⟩
  refine ⟨hg.work.rest, (hk.more fun x _ e => .inl e).trans hg.kp fun x _ e => e.ofReset, hg.next.ofReset hk.size, hg.rank, ?_, (fun h => by cases h), hg.full, fun hc hm => ?_, fun n x hh => ?_⟩
  · obtain ⟨N, h1, _⟩ := hg.grow
    exact ⟨N, h1⟩
  · obtain ⟨h1, h2⟩ := hg.sound hc (fun x hx t u ht hu => hm x hx t u (ht.keep hkt.symm) (hu.keep hkt.symm)) rfl
    exact ⟨h1, fun _ => h2⟩
  · obtain ⟨h1, h2⟩ := hg.head n x hh
    refine ⟨h1, fun hr => ?_⟩
    obtain ⟨q, h3, h4⟩ := h2 hr
    exact ⟨q, h3.keep hkt.symm, h4⟩

theorem Equaled.no {B : Nat} {S : Nat → Prop} {Q : Ty → Prop} {U : List Addr} {d d1 : SD} {t u : Ty} {w w0 w1 w2 : World} {ρ : Ty → Nat} (h : Rest w B S Q U d) (hr : Rank d.sol ρ) (hk : Kp (fun y => y = d.sb) w w0) (hg : Agreed B S Q U d.reset t u w0 false d1 w1)
    (hk2 : Kp (fun y => y = d.gb ∨ y = d.ab) w1 w2) (hm1 : MapAt w2 d.gb (d.G.map givenV)) (hm2 : MapAt w2 d.ab (d.AG.map agreedV)) : Equaled B S Q U d t u w false { d1 with G := d.G, AG := d.AG } w2 := by
  have hkt := hk.kept (S := S) fun b hS => ⟨Nat.lt_of_lt_of_le (h.pl.lt b hS) h.hB, fun e => by have := h.sv.lo.1; have := h.pl.lt b hS; omega⟩
  have hn := hg.next.ofReset hk.size
  have hk1 : Kp (SvM d) w w1 := (hk.more fun x _ e => .inl e).trans hg.kp fun x _ e => e.ofReset
  have hkk : Kp (SvM d) w w2 := hk1.trans hk2 fun x _ e => e.elim (fun e => .inr (.inl e)) (fun e => .inr (.inr (.inl e)))
  have hkt2 : Kept S w w2 := kept_kpM h.pl h.sv hkk h.hB
  have hs1 := hg.work.sv
  have hne : ∀ {y : Nat} {cs : Array Value} {T : TypeId}, w1.heap[y]? = some (.cells cs T (0, 0)) → ¬ (y = d.gb ∨ y = d.ab) := fun {y cs T} hy e => by
    rcases e with e | e
    · have := hs1.given
      rw [hn.gb, ← e] at this
      exact this.not_cells hy
    · have := hs1.agreed
      rw [hn.ab, ← e] at this
      exact this.not_cells hy
  refine ⟨⟨⟨hs1.lo, hk2.heap hs1.cells (hne hs1.cells), ?_, ?_, fun g hg => (h.sv.gty g hg).keep hkt2, fun x hx => ?_, hk2.own hs1.trail ?_, hk2.own hs1.pairs ?_⟩, h.pl.kpM h.sv hkk h.hB, Nat.le_trans h.hB hkk.size, h.un.keep hkt2, h.gu, h.au⟩, hkk, ?_, ⟨ρ, hr⟩, ⟨[], by simp⟩, fun _ => rfl, fun θ h1 h2 => ?_, fun hc hm => ⟨?_, (fun h => by cases h)⟩, fun n x hh => ?_⟩
  · show MapAt w2 d1.gb (d.G.map givenV)
    rw [hn.gb]
    exact hm1
  · show MapAt w2 d1.ab (d.AG.map agreedV)
    rw [hn.ab]
    exact hm2
  · obtain ⟨⟨t', h3⟩, u, h4⟩ := h.sv.aty x hx
    exact ⟨⟨t', h3.keep hkt2⟩, u, h4.keep hkt2⟩
  · intro g hg e
    obtain ⟨cs, hc⟩ := row_block hs1.trail hg
    exact hne hc e
  · intro g hg e
    obtain ⟨cs, hc⟩ := row_block hs1.pairs hg
    exact hne hc e
  · exact ⟨hn.sb, hn.gb, hn.ab, hn.trv, hn.psv⟩
  · have := (hg.full θ h1 h2).1
    cases this
  · intro x hx t u ht hu θ hθ
    exact hm x hx t u (ht.keep hkt2.symm) (hu.keep hkt2.symm) θ hθ
  · obtain ⟨h1, _⟩ := hg.head n x hh
    exact ⟨h1, fun h => by cases h⟩

open Classical in
/-- One entry goes: the first of those that came. -/
theorem filter_drop {α : Type} (f : α → Value × Value) (A N : List α) (k : Nat) (hk : k < N.length) (hnd : (((A ++ N).map f).map (·.1)).Nodup) :
    ((A ++ N.drop k).map f).filter (fun p => decide (p.1 ≠ (f N[k]).1)) = (A ++ N.drop (k + 1)).map f := by
  rw [List.drop_eq_getElem_cons hk, List.map_append, List.map_append, List.filter_append, List.map_cons, List.filter_cons, if_neg (by simp)]
  rw [List.map_append, List.map_append, List.nodup_append] at hnd
  obtain ⟨_, h2, h3⟩ := hnd
  congr 1
  · rw [List.filter_eq_self]
    intro p hp
    simp only [decide_eq_true_eq]
    exact fun e => h3 _ (List.mem_map_of_mem (f := (·.1)) hp) _ (List.mem_map_of_mem (f := (·.1)) (List.mem_map_of_mem (f := f) (List.getElem_mem hk))) e
  · rw [List.filter_eq_self]
    intro p hp
    simp only [decide_eq_true_eq]
    rw [← List.take_append_drop k N, List.map_append, List.map_append, List.nodup_append] at h2
    have h4 := h2.2.1
    rw [List.drop_eq_getElem_cons hk, List.map_cons, List.map_cons, List.nodup_cons] at h4
    exact fun e => h4.1 (e ▸ List.mem_map_of_mem (f := (·.1)) hp)
end

section
open Go.RowKit
def NewRes (B : Nat) (S : Nat → Prop) (Q : Ty → Prop) (U : List Addr) (w : World) (e : Ending) (w' : World) : Prop :=
  ∃ d : SD, e = .returned (.pointer (some ⟨d.sb, 0, none⟩)) ∧ Rest w' B S Q U d ∧ d.G = [] ∧ d.AG = [] ∧ Below w.heap.size w w' ∧ ∀ y, SvM d y → w.heap.size ≤ y

set_option maxHeartbeats 2000000 in
set_option maxRecDepth 100000 in
theorem new_any (B : Nat) (S : Nat → Prop) (Q : Ty → Prop) (U : List Addr) (w : World) (hpl : Plb w B S) (hB : B ≤ w.heap.size) (hun : Univ w S Q U) :
    Calls Tryd.prog 43 #[] w (NewRes B S Q U w) := by
  have hmm := @run_makeMap Tryd.prog
  go_enter Tryd.func43, Tryd.ntmps43
  go_wp2
  go_ret
  have hb : Below w.heap.size w (((w.alloc (.map #[] 0)).alloc (.map #[] 0)).alloc (.cells #[.map (some w.heap.size), .map (some (w.heap.size + 1)), .slice none 0 0, .slice none 0 0, .int .i64 0] 84)) :=
    (((Below.refl _ _).alloc (Nat.le_refl _) _).alloc (by simp) _).alloc (by simp; omega) _
  have h1 := alloc3 w (.map #[] 0) (.map #[] 0) (.cells #[.map (some w.heap.size), .map (some (w.heap.size + 1)), .slice none 0 0, .slice none 0 0, .int .i64 0] 84)
  refine ⟨⟨w.heap.size + 1 + 1, w.heap.size, w.heap.size + 1, [], [], [], [], .slice none 0 0, .slice none 0 0, 0⟩, rfl, ⟨⟨⟨by dsimp only; omega, hB, by dsimp only; omega, by dsimp only; omega⟩, h1.2.2, ⟨_, _, h1.1, rfl, Go.MapKept.stamped_empty 0⟩, ⟨_, _, h1.2.1, rfl, Go.MapKept.stamped_empty 0⟩, (fun g hg => by cases hg), (fun g hg => by cases hg), World.ownsRow_nil _ _ _ _, World.ownsRow_nil _ _ _ _⟩, hpl.below (hb.mono hB), Nat.le_trans hB hb.size, hun.keep (hpl.kept (hb.mono hB)), (fun g hg => by cases hg), (fun g hg => by cases hg)⟩, rfl, rfl, hb, ?_⟩
  rintro y (e | e | e | e | e)
  · rw [e]; dsimp only; omega
  · rw [e]; exact Nat.le_refl _
  · rw [e]; dsimp only; omega
  · cases e
  · cases e
end

section
open Go.RowKit
theorem flatP_at : ∀ (l : List (Addr × Addr)) (j : Nat) (x : Addr × Addr), l[j]? = some x → (flatP l)[j * 2]? = some (.pointer (some x.1)) ∧ (flatP l)[j * 2 + 1]? = some (.pointer (some x.2))
  | [], j, x, h => by simp at h
  | v :: r, 0, x, h => by
    simp at h
    subst h
    simp [flatP]
  | v :: r, j + 1, x, h => by
    have := flatP_at r j x (by simpa using h)
    have e : (j + 1) * 2 = j * 2 + 2 := by omega
    rw [e]
    simpa [flatP] using this

set_option maxHeartbeats 8000000 in
set_option maxRecDepth 100000 in
theorem equal_any (B : Nat) (S : Nat → Prop) (Q : Ty → Prop) (hQ : DownN Q) (U : List Addr) (hU : U.length ≤ 2000) (d : SD) (ρ : Ty → Nat) (t u : Ty) (p q : Addr) (w : World) (h : Rest w B S Q U d) (hr : Rank d.sol ρ)
    (hp : PtTy w S p t) (hq : PtTy w S q u) (hpU : p ∈ U) (hqU : q ∈ U) :
    Calls Tryd.prog 44 #[.pointer (some ⟨d.sb, 0, none⟩), .pointer (some p), .pointer (some q)] w (EqualRes B S Q U d t u w) := by
  obtain ⟨hw0, hk0⟩ := h.reset
  have hkt := hk0.kept (S := S) fun b hS => ⟨Nat.lt_of_lt_of_le (h.pl.lt b hS) h.hB, fun e => by have := h.sv.lo.1; have := h.pl.lt b hS; omega⟩
  have x2 : w.cell? ⟨d.sb, 2, none⟩ = some d.trv := (Lib.cell_of_heap h.sv.cells _).trans rfl
  have x3 : w.cell? ⟨d.sb, 3, none⟩ = some d.psv := (Lib.cell_of_heap h.sv.cells _).trans rfl
  have y2 : w.frozen? ⟨d.sb, 2, none⟩ = false := Lib.frozen_of_heap h.sv.cells 2
  have y3 : w.frozen? ⟨d.sb, 3, none⟩ = false := Lib.frozen_of_heap h.sv.cells 3
  have AG := Lib.hid (agree_any B S Q hQ U hU (100 - d.G.length) (ρ t + ρ u) d.reset ρ t u p q _ (Nat.le_refl _) (Nat.le_refl _) hw0 hr (hp.keep hkt) (hq.keep hkt) hpU hqU)
  have HW0 := Lib.hid hw0
  have HK0 := Lib.hid hk0
  clear hw0 hk0 hkt
  go_enter Tryd.func44, Tryd.ntmps44
  go_wp2_with fail
  refine AG.out.mono ?_
  rintro e w1 ⟨r, d1, rfl, hag⟩
  have HAG := Lib.hid hag
  clear hag
  cases r with
  | true =>
    clear x2 x3 y2 y3
    go_wp2
    go_ret
    exact ⟨true, d1, rfl, Equaled.yes h HK0.out HAG.out⟩
  | false =>
    clear x2 x3 y2 y3
    obtain ⟨N, hN1, hN2⟩ := HAG.out.grow
    obtain ⟨M, hM1, hM2, _⟩ := HAG.out.pairs
    have hN1 : d1.G = d.G ++ N := hN1
    have hN2 : d1.tr = N.map (·.1) := by simpa [SD.reset] using hN2
    have hM1 : d1.AG = d.AG ++ M := hM1
    have hM2 : d1.ps = M := by simpa [SD.reset] using hM2
    have hw1 := HAG.out.work
    have hn := HAG.out.next
    have hsb : d1.sb = d.sb := hn.sb
    have hgb : d1.gb = d.gb := hn.gb
    have hab : d1.ab = d.ab := hn.ab
    obtain ⟨n, hnl⟩ : ∃ n, n = N.length := ⟨_, rfl⟩
    obtain ⟨m, hml⟩ : ∃ m, m = M.length := ⟨_, rfl⟩
    have hn100 : n ≤ 1000 := by
      have := hw1.glen
      rw [hN1, List.length_append] at this
      omega
    have hm4 : m ≤ 4000000 := by
      have h1 := hw1.alen
      rw [hM1, List.length_append] at h1
      have h3 := Nat.mul_le_mul hU hU
      omega
    obtain ⟨TA, tc, htv⟩ := row_shape hw1.sv.trail
    obtain ⟨PA, pc, hpv⟩ := row_shape hw1.sv.pairs
    rw [hN2, List.length_map, ← hnl] at htv
    rw [hM2, ← hml] at hpv
    have hcd : w1.heap[d.sb]? = some (.cells #[.map (some d.gb), .map (some d.ab), .slice TA n tc, .slice PA m pc, .int .i64 d1.lo] 84 (0, 0)) := by
      have := hw1.sv.cells
      rwa [hsb, hgb, hab, htv, hpv] at this
    have htr := hw1.sv.trail
    rw [htv, hN2, List.length_map, ← hnl, List.map_map] at htr
    have hrow := (Row.ofOwn htr fun g hg _ _ => hg : Row w1 (fun g => TA = some ⟨g, 0, none⟩) TA _)
    have hps := hw1.sv.pairs
    rw [hpv, hM2, ← hml] at hps
    have hrowp := (Row.ofOwn hps fun g hg _ _ => hg : Row w1 (fun g => PA = some ⟨g, 0, none⟩) PA _)
    have c0 : w1.cell? ⟨d.sb, 0, none⟩ = some (.map (some d.gb)) := (Lib.cell_of_heap hcd _).trans rfl
    have c2 : w1.cell? ⟨d.sb, 2, none⟩ = some (.slice TA n tc) := (Lib.cell_of_heap hcd _).trans rfl
    have hg1 : MapAt w1 d.gb ((d.G ++ N).map givenV) := by rw [← hgb, ← hN1]; exact hw1.sv.given
    have ha1 : MapAt w1 d.ab ((d.AG ++ M).map agreedV) := by rw [← hab, ← hM1]; exact hw1.sv.agreed
    have hsg : d.sb ≠ d.gb := fun e => hg1.not_cells (e ▸ hcd)
    have hsa : d.sb ≠ d.ab := fun e => ha1.not_cells (e ▸ hcd)
    have hga : d.gb ≠ d.ab := h.sv.lo.2.2.2
    have hnd1 := hg1.nodup
    have hnd2 := ha1.nodup
    have HNL := Lib.hid hnl
    have HML := Lib.hid hml
    have HTR := Lib.hid htr
    have HPS := Lib.hid hps
    have HROW := Lib.hid hrow
    have HROWP := Lib.hid hrowp
    have HND1 := Lib.hid hnd1
    have HND2 := Lib.hid hnd2
    have HCD := Lib.hid hcd
    have HG1 := Lib.hid hg1
    have HA1 := Lib.hid ha1
    have HN1 := Lib.hid hN1
    have HM1 := Lib.hid hM1
    clear hnl hml htr hps hrow hrowp hnd1 hnd2 hcd hg1 ha1 hN1 hN2 hM1 hM2 hsb hgb hab htv hpv hn
    go_wp2_with fail
    go_loopw [26] (fun i wr => ∃ k : Nat, k ≤ n ∧ i = .int .i64 k ∧ MapAt wr d.gb ((d.G ++ N.drop k).map givenV) ∧ Kp (fun y => y = d.gb) w1 wr) (fun i _ => n - (intOf i).toNat)
    case atStart => exact ⟨0, Nat.zero_le _, rfl, by simpa using HG1.out, Kp.refl _ _⟩
    case round =>
      obtain ⟨k, hk, rfl, hmr, hkr⟩ := hrel
      have hcr := hkr.heap HCD.out hsg
      by_cases hlt : k < n
      · have hki : k < N.length := by rw [← HNL.out]; exact hlt
        obtain ⟨ad, rfl, hT, hc⟩ := HROW.out.at_ (k := k) (u := .int .i64 (N[k].1 : Int)) (by simp [hki])
        obtain ⟨cs, hcc⟩ := row_block HTR.out (g := ad.block) (by injection hT with hT; rw [hT]; rfl)
        have hne : ad.block ≠ d.gb := fun e => HG1.out.not_cells (e ▸ hcc)
        have hadl := lt_of_heap hcc
        have hcr1 : wr.cell? (ad.add k) = some (.int .i64 (N[k].1 : Int)) := by
          rw [← hc]
          exact World.cell?_of_block (by rw [blkAdd]; exact hkr.block _ hadl hne)
        have c0r : wr.cell? ⟨d.sb, 0, none⟩ = some (.map (some d.gb)) := (Lib.cell_of_heap hcr _).trans rfl
        have HFD := Lib.hid (filter_drop givenV d.G N k hki HND1.out)
        generalize hNk : N[k].1 = nk at hcr1
        have hx : (givenV N[k]).1 = .int .i64 (nk : Int) := by rw [← hNk]; rfl
        have HX := Lib.hid hx
        have HC := Lib.hid hc
        have HT := Lib.hid hT
        clear hx hNk hc hT
        obtain ⟨w2, hdel, hm2, hk2⟩ := run_del (kt' := 3) (ty := 0) (k := .int .i64 (nk : Int)) Tryd.underlying80 law_int hmr ⟨_, rfl⟩ given_keys
        rw [← HX.out, HFD.out] at hm2
        have HM2 := Lib.hid hm2
        clear hm2
        go_wp2
        go_roundw
        case rel => exact ⟨k + 1, by omega, by go_num, HM2.out, hkr.trans hk2 fun _ _ h => h⟩
        case measure => simp [intOf]; omega
      · obtain rfl : k = n := by omega
        obtain ⟨wa, rfl⟩ : ∃ wa, wa = wr := ⟨_, rfl⟩
        have hmr0 : MapAt wa d.gb (d.G.map givenV) := by
          rw [HNL.out, List.drop_length, List.append_nil] at hmr
          exact hmr
        have c3 : wa.cell? ⟨d.sb, 3, none⟩ = some (.slice PA m pc) := (Lib.cell_of_heap hcr _).trans rfl
        have har : MapAt wa d.ab ((d.AG ++ M).map agreedV) := HA1.out.same (hkr.block _ HA1.out.lt (fun e => hga e.symm))
        have hpr := hkr.own HPS.out (fun g hg e => by
          obtain ⟨cs, hcc⟩ := row_block HPS.out hg
          exact HG1.out.not_cells (e ▸ hcc))
        have hrow2 := (Row.ofOwn hpr fun g hg _ _ => hg : Row wa (fun g => PA = some ⟨g, 0, none⟩) PA _)
        have hkeys : ∀ x ∈ d.AG ++ M, PlainB wa x.1.block ∧ PlainB wa x.2.block := fun x hx => by
          obtain ⟨h1, h2⟩ := hw1.au x (by rw [HM1.out]; exact hx)
          have hpb : ∀ y ∈ U, PlainB wa y.block := fun y hy => by
            obtain ⟨cs, T, hc⟩ := hw1.plain hy
            exact ⟨cs, T, hkr.heap hc (fun e => HG1.out.not_cells (e ▸ hc))⟩
          exact ⟨hpb _ h1, hpb _ h2⟩
        have HMR := Lib.hid hmr0
        have HAR := Lib.hid har
        have HPR := Lib.hid hpr
        have HROW2 := Lib.hid hrow2
        have HKEYS := Lib.hid hkeys
        have HCR := Lib.hid hcr
        have HKR := Lib.hid hkr
        clear hmr0 har hpr hrow2 hkeys hcr hkr hmr c0 c2
        go_wp2_with fail
        go_loopw [41] (fun i wx => ∃ j : Nat, j ≤ m ∧ i = .int .i64 j ∧ MapAt wx d.ab ((d.AG ++ M.drop j).map agreedV) ∧ Kp (fun y => y = d.ab) wa wx) (fun i _ => m - (intOf i).toNat)
        case atStart => exact ⟨0, Nat.zero_le _, rfl, by simpa using HAR.out, Kp.refl _ _⟩
        case round =>
          obtain ⟨j, hj, rfl, hmj, hkj⟩ := hrel
          have hcj := hkj.heap HCR.out hsa
          by_cases hlt2 : j < m
          · have hji : j < M.length := by rw [← HML.out]; exact hlt2
            obtain ⟨e0, e1⟩ := flatP_at M j _ (List.getElem?_eq_getElem hji)
            obtain ⟨ad, rfl, hT, hc0⟩ := HROW2.out.at_ e0
            obtain ⟨_, hh, hT2, hc1⟩ := HROW2.out.at_ e1
            obtain rfl := Option.some.inj hh
            obtain ⟨cs, hcc⟩ := row_block HPR.out (g := ad.block) (by injection hT with hT; rw [hT]; rfl)
            have hne : ad.block ≠ d.ab := fun e => HAR.out.not_cells (e ▸ hcc)
            have hadl := lt_of_heap hcc
            have hq0 : wr.cell? (ad.add (j * 2)) = some (.pointer (some M[j].1)) := by
              rw [← hc0]
              exact World.cell?_of_block (by rw [blkAdd]; exact hkj.block _ hadl hne)
            have hq1 : wr.cell? ⟨(ad.add (j * 2)).block, (ad.add (j * 2)).off + 1, none⟩ = some (.pointer (some M[j].2)) := by
              have e : (⟨(ad.add (j * 2)).block, (ad.add (j * 2)).off + 1, none⟩ : Addr) = ad.add (j * 2 + 1) := by rw [← addAdd]; rfl
              rw [e, ← hc1]
              exact World.cell?_of_block (by rw [blkAdd]; exact hkj.block _ hadl hne)
            have HFD := Lib.hid (filter_drop agreedV d.AG M j hji HND2.out)
            have hmem : M[j] ∈ M := List.getElem_mem hji
            generalize hMj : M[j] = x at hq0 hq1 hmem
            obtain ⟨a, b⟩ := x
            dsimp only at hq0 hq1
            have HX : Hid ((agreedV M[j]).1 = .agg #[.pointer (some a), .pointer (some b)]) := Lib.hid (by rw [hMj]; rfl)
            have hbx : Below wr.heap.size wr (wr.alloc (.cells #[.pointer (some a), .pointer (some b)] 107)).drew := ((Below.refl _ _).alloc (Nat.le_refl _) _).drew
            have hmj2 := hmj.same (hbx.block _ hmj.lt)
            have c1 : (wr.alloc (.cells #[.pointer (some a), .pointer (some b)] 107)).drew.cell? ⟨d.sb, 1, none⟩ = some (.map (some d.ab)) := (Lib.cell_of_heap ((hbx.block _ (lt_of_heap hcj)).trans hcj) _).trans rfl
            have hbb := alloc1 wr (.cells #[.pointer (some a), .pointer (some b)] 107)
            have b0 : (wr.alloc (.cells #[.pointer (some a), .pointer (some b)] 107)).drew.cell? ⟨wr.heap.size, 0, none⟩ = some (.pointer (some a)) := (Lib.cell_of_heap (w := (wr.alloc (.cells #[.pointer (some a), .pointer (some b)] 107)).drew) hbb _).trans rfl
            have b1 : (wr.alloc (.cells #[.pointer (some a), .pointer (some b)] 107)).drew.cell? ⟨wr.heap.size, 1, none⟩ = some (.pointer (some b)) := (Lib.cell_of_heap (w := (wr.alloc (.cells #[.pointer (some a), .pointer (some b)] 107)).drew) hbb _).trans rfl
            have hpl : ∀ y : Addr, PlainB wa y.block → PlainB (wr.alloc (.cells #[.pointer (some a), .pointer (some b)] 107)).drew y.block := fun y hy => by
              obtain ⟨cs, T, hc⟩ := hy
              have h1 := hkj.heap hc (fun e => HAR.out.not_cells (e ▸ hc))
              exact ⟨cs, T, (hbx.block _ (lt_of_heap h1)).trans h1⟩
            obtain ⟨w2, hdel, hm2, hk2⟩ := run_del (kt' := 107) (ty := 0) (k := .agg #[.pointer (some a), .pointer (some b)]) Tryd.underlying81 law_pair hmj2 ⟨a, b, rfl, hpl _ (HKEYS.out (a, b) (List.mem_append.2 (.inr hmem))).1, hpl _ (HKEYS.out (a, b) (List.mem_append.2 (.inr hmem))).2⟩ (fun y hy => by
              obtain ⟨z, hz, rfl⟩ := List.mem_map.1 hy
              have hz' : z ∈ d.AG ++ M := (List.mem_append.1 hz).elim (fun h => List.mem_append.2 (.inl h)) (fun h => List.mem_append.2 (.inr (List.mem_of_mem_drop h)))
              exact ⟨z.1, z.2, rfl, hpl _ (HKEYS.out z hz').1, hpl _ (HKEYS.out z hz').2⟩)
            rw [← HX.out, HFD.out] at hm2
            have HM2 := Lib.hid hm2
            have HKJ := Lib.hid hkj
            clear hm2 hkj hMj hmem hc0 hc1 e0 e1 hT hT2 hpl hbb hmj2
            go_wp2_with fail
            refine wp_region_held' (fun w' => w'.cell? ⟨d.sb, 1, none⟩ = some (.map (some d.ab)) ∧ w'.cell? ⟨wr.heap.size, 0, none⟩ = some (.pointer (some a)) ∧ w'.cell? ⟨wr.heap.size, 1, none⟩ = some (.pointer (some b))) [] [0, 1, 2, 3, 4] [] [5] (by kernel_rfl) (by kernel_rfl) ?sz ?hz
            case sz => exact ⟨c1, b0, b1⟩
            case hz =>
            simp only [opsAt, List.filterMap_cons, List.filterMap_nil, List.getElem?_toArray, List.getElem?_cons_succ, List.getElem?_cons_zero]
            refine wpFloat_nil ?_
            refine wpLoad_step ?vz0 rfl (fun w' hS => ?yz0) ?kz0
            case yz0 =>
              obtain ⟨h1, h2, h3⟩ := hS
              go_simp
              try rfl
            case kz0 =>
            go_simp
            refine wpLoad_step ?vz1 rfl (fun w' hS => ?yz1) ?kz1
            case yz1 =>
              obtain ⟨h1, h2, h3⟩ := hS
              go_simp
              try rfl
            case kz1 =>
            go_simp
            refine wpLoad_step ?vz2 rfl (fun w' hS => ?yz2) ?kz2
            case yz2 =>
              obtain ⟨h1, h2, h3⟩ := hS
              go_simp
              try rfl
            case kz2 =>
            go_simp
            refine wpLoad_step ?vz3 rfl (fun w' hS => ?yz3) ?kz3
            case yz3 =>
              obtain ⟨h1, h2, h3⟩ := hS
              go_simp
              try rfl
            case kz3 =>
            go_simp
            refine wpLoad_step ?vz4 rfl (fun w' hS => ?yz4) ?kz4
            case yz4 =>
              obtain ⟨h1, h2, h3⟩ := hS
              go_simp
              try rfl
            case kz4 =>
            go_simp
            refine wpLoad_nil ?_
            refine wpKeep_nil ?_
            go_wp2
            refine NoPanic.normal ?_
            go_wp2
            go_roundw
            case rel => exact ⟨j + 1, by omega, by go_num, HM2.out, HKJ.out.trans ((Kp.ofBelow hbx).trans hk2 fun _ _ h => h) fun _ _ h => h⟩
            case measure => simp [intOf]; omega
          · obtain rfl : j = m := by omega
            have hme : MapAt wr d.ab (d.AG.map agreedV) := by
              rw [HML.out, List.drop_length, List.append_nil] at hmj
              exact hmj
            have hgm : MapAt wr d.gb (d.G.map givenV) := HMR.out.same (hkj.block _ HMR.out.lt hga)
            have hno := Equaled.no h hr HK0.out HAG.out ((HKR.out.more fun _ _ e => .inl e).trans hkj fun _ _ e => .inr e) hgm hme
            have HNO := Lib.hid hno
            clear hno hgm hme hmj
            go_wp2
            go_ret
            exact ⟨false, _, rfl, HNO.out⟩
end

section
open Go.RowKit Go.MapKept
section
variable {P : Program}

/-- Iterator r over the map b, which holds l; what came so far. -/
def RangeAt (w : World) (b r : Nat) (l done : List (Value × Value)) : Prop :=
  ∃ es clock since seen c0, w.heap[b]? = some (.map es clock) ∧ es.toList.map (fun e => (e.key, e.val)) = l ∧ Stamped es clock ∧ w.heap[r]? = some (.mapIter (some b) since seen c0) ∧ (∀ x ∈ es.toList, x.born < since) ∧ since ≤ c0 ∧ since ≤ clock ∧
    (∀ x ∈ es.toList, seen.contains x.born = true → (x.key, x.val) ∈ done) ∧ (∀ p ∈ done, p ∈ l)
theorem RangeAt.map {w : World} {b r : Nat} {l done : List (Value × Value)} (h : RangeAt w b r l done) : MapAt w b l := by
  obtain ⟨es, clock, since, seen, c0, h1, h2, h3, _⟩ := h
  exact ⟨es, clock, h1, h2, h3⟩
theorem RangeAt.mem {w : World} {b r : Nat} {l done : List (Value × Value)} (h : RangeAt w b r l done) : ∀ p ∈ done, p ∈ l := by
  obtain ⟨es, clock, since, seen, c0, h1, h2, h3, h4, h5, h6, h7, h8, h9⟩ := h
  exact h9
theorem RangeAt.ne {w : World} {b r : Nat} {l done : List (Value × Value)} (h : RangeAt w b r l done) : r ≠ b := by
  obtain ⟨es, clock, since, seen, c0, h1, h2, h3, h4, _⟩ := h
  intro e
  rw [e, h1] at h4
  cases h4
theorem RangeAt.lt {w : World} {b r : Nat} {l done : List (Value × Value)} (h : RangeAt w b r l done) : r < w.heap.size := by
  obtain ⟨es, clock, since, seen, c0, h1, h2, h3, h4, _⟩ := h
  exact lt_of_heap h4
theorem RangeAt.not_cells {w : World} {b r : Nat} {l done : List (Value × Value)} (h : RangeAt w b r l done) {cs : Array Value} {T : TypeId} {fr : Nat × Nat} : w.heap[r]? ≠ some (.cells cs T fr) := by
  obtain ⟨es, clock, since, seen, c0, h1, h2, h3, h4, _⟩ := h
  rw [h4]
  intro e
  cases e
theorem RangeAt.same {w w' : World} {b r : Nat} {l done : List (Value × Value)} (h : RangeAt w b r l done) (hb : w'.heap[b]? = w.heap[b]?) (hr : w'.heap[r]? = w.heap[r]?) : RangeAt w' b r l done := by
  obtain ⟨es, clock, since, seen, c0, h1, h2, h3, h4, h5⟩ := h
  exact ⟨es, clock, since, seen, c0, hb.trans h1, h2, h3, hr.trans h4, h5⟩

/-- How many are still to come, read off the world. -/
def rangeLeft (w : World) (b r : Nat) : Nat :=
  match w.heap[b]?, w.heap[r]? with
  | some (.map es _), some (.mapIter _ _ seen _) => (leftOf es seen).size
  | _, _ => 0
theorem rangeLeft_same {w w' : World} {b r : Nat} (hb : w'.heap[b]? = w.heap[b]?) (hr : w'.heap[r]? = w.heap[r]?) : rangeLeft w' b r = rangeLeft w b r := by
  unfold rangeLeft
  rw [hb, hr]

theorem run_range_start {w : World} {b : Nat} {l : List (Value × Value)} {t k e : TypeId} (h : MapAt w b l) (ht : P.underlying t = some (.map k e)) :
    ∃ w', (Instr.range t (.map (some b))).run P w = .ok (.pointer (some ⟨w.heap.size, 0, none⟩)) w' ∧ RangeAt w' b w.heap.size l [] ∧ Below w.heap.size w w' := by
  obtain ⟨es, clock, hb, hl, hs⟩ := h
  refine ⟨_, run_range_map w t k e b es clock ht hb, ⟨es, clock, clock, #[], clock, (((Below.refl w.heap.size w).alloc (Nat.le_refl _) _).block b (lt_of_heap hb)).trans hb, hl, hs, alloc1 w _, hs.1, Nat.le_refl _, Nat.le_refl _, fun x _ hx => by simp at hx, fun p hp => by cases hp⟩, (Below.refl _ _).alloc (Nat.le_refl _) _⟩

theorem run_range_next {w : World} {b r : Nat} {l done : List (Value × Value)} (h : RangeAt w b r l done) (ty : TypeId) :
    ((∀ p ∈ l, p ∈ done) ∧ (Instr.next (.pointer (some ⟨r, 0, none⟩)) false ty).run P w = .ok (.tuple #[.bool false]) w) ∨
    ∃ k v w', (k, v) ∈ l ∧ (Instr.next (.pointer (some ⟨r, 0, none⟩)) false ty).run P w = .ok (.tuple #[.bool true, k, v]) w' ∧ RangeAt w' b r l ((k, v) :: done) ∧ Kp (fun y => y = r) w w' ∧ rangeLeft w' b r < rangeLeft w b r ∧
      (Instr.entry (.pointer (some ⟨r, 0, none⟩))).run P w' = .ok (.tuple #[k, v]) w' := by
  have hne := h.ne
  obtain ⟨es, clock, since, seen, c0, hb, rfl, hs, hr, hold, hsc, hsk, hseen, hdone⟩ := h
  rcases run_next_at (P := P) w ty r b since c0 seen es clock hr hb hold hsc with ⟨h0, hrun⟩ | ⟨e, he, w1, hal, hrun⟩
  · refine .inl ⟨fun p hp => ?_, hrun⟩
    obtain ⟨x, hx, rfl⟩ := List.mem_map.1 hp
    exact hseen x hx (all_seen es seen h0 x hx)
  · obtain ⟨hem, hes⟩ := mem_left he
    have hr1 : w1.heap[r]? = some (.mapIter (some b) since seen c0) := by rcases hal with rfl | rfl <;> exact hr
    have hb1 : w1.heap[b]? = some (.map es clock) := by rcases hal with rfl | rfl <;> exact hb
    have hset := heap_set (o' := .mapIter (some b) since (seen.push e.born) clock) hr1
    have hb' : (Go.ChangeMaps.setBlock w1 r (.mapIter (some b) since (seen.push e.born) clock)).heap[b]? = some (.map es clock) := (hset.2 b (fun e1 => hne e1.symm)).trans hb1
    refine .inr ⟨e.key, e.val, _, List.mem_map_of_mem (f := fun e : MapEntry => (e.key, e.val)) hem, hrun, ⟨es, clock, since, seen.push e.born, clock, hb', rfl, hs, hset.1, hold, hsk, hsk, fun x hx hc => ?_, fun p hp => ?_⟩, ?_, ?_, run_entry_at _ r b since seen es clock e hset.1 hb' hem hs.2.1⟩
    · rw [contains_push] at hc
      rcases Bool.or_eq_true_iff.1 hc with hc | hc
      · exact List.mem_cons_of_mem _ (hseen x hx hc)
      · obtain rfl := born_inj hs.2.1 hx hem (by simpa using hc)
        exact List.mem_cons_self
    · rcases List.mem_cons.1 hp with rfl | hp
      · exact List.mem_map_of_mem (f := fun e : MapEntry => (e.key, e.val)) hem
      · exact hdone p hp
    · rcases hal with rfl | rfl
      · exact ⟨rfl, rfl, rfl, by simp [Go.ChangeMaps.setBlock], fun i _ hi => hset.2 i (fun e1 => hi e1)⟩
      · exact ⟨rfl, rfl, rfl, by simp [Go.ChangeMaps.setBlock], fun i _ hi => hset.2 i (fun e1 => hi e1)⟩
    · unfold rangeLeft
      rw [hb', show (Go.ChangeMaps.setBlock w1 r (.mapIter (some b) since (seen.push e.born) clock)).heap[r]? = _ from hset.1, hb, hr]
      exact left_shrinks es seen e he
end
end

section
open Go.RowKit
abbrev Gv := List (Nat × Addr × Ty)
/-- What one equation does to what is given. -/
structure Step (G G' : Gv) (t u : Ty) (r : Bool) : Prop where
  rank : ∃ ρ, Rank (solOf G') ρ
  grow : ∃ N, G' = G ++ N
  back : r = false → G' = G
  full : ∀ θ, Sat θ (solOf G) → sub θ t = sub θ u → r = true ∧ Sat θ (solOf G')
  head : ∀ n x, Head (solOf G) t u n x → (r = true ↔ ¬ Occ (solOf G) n x) ∧ (r = true → ∃ q, G' = G ++ [(n, q, x)])
theorem Equaled.step {B : Nat} {S : Nat → Prop} {Q : Ty → Prop} {U : List Addr} {d d' : SD} {t u : Ty} {w w' : World} {r : Bool} (h : Equaled B S Q U d t u w r d' w') : Step d.G d'.G t u r :=
  ⟨h.rank, h.grow, h.back, h.full, fun n x hh => ⟨(h.head n x hh).1, fun hr => by obtain ⟨q, _, e⟩ := (h.head n x hh).2 hr; exact ⟨q, e⟩⟩⟩
theorem Step.ext {G G' : Gv} {t u : Ty} {r : Bool} (h : Step G G' t u r) : Ext (solOf G) (solOf G') := by
  obtain ⟨N, rfl⟩ := h.grow
  exact solOf_ext

inductive Chain : List (Ty × Ty) → List Bool → Gv → Prop
  | nil : Chain [] [] []
  | snoc {E : List (Ty × Ty)} {rs : List Bool} {G G' : Gv} {t u : Ty} {r : Bool} (h : Chain E rs G) (hs : Step G G' t u r) : Chain (E ++ [(t, u)]) (rs ++ [r]) G'
theorem Chain.len {E : List (Ty × Ty)} {rs : List Bool} {G : Gv} (h : Chain E rs G) : rs.length = E.length := by
  induction h with
  | nil => rfl
  | snoc _ _ ih => simp [ih]
theorem solOf_nil : solOf [] = fun _ => none := rfl
theorem Chain.rank {E : List (Ty × Ty)} {rs : List Bool} {G : Gv} (h : Chain E rs G) : ∃ ρ, Rank (solOf G) ρ := by
  cases h with
  | nil => exact ⟨_, rank_none⟩
  | snoc _ hs => exact hs.rank

def SoundE (E : List (Ty × Ty)) (rs : List Bool) (G : Gv) : Prop := ∀ (i : Nat) (x : Ty × Ty), E[i]? = some x → rs[i]? = some true → ∀ θ, Sat θ (solOf G) → sub θ x.1 = sub θ x.2
theorem SoundE.snoc {E : List (Ty × Ty)} {rs : List Bool} {G G' : Gv} {t u : Ty} {r : Bool} (h : SoundE E rs G) (hl : rs.length = E.length) (hs : Step G G' t u r) (hr : r = true → ∀ θ, Sat θ (solOf G') → sub θ t = sub θ u) : SoundE (E ++ [(t, u)]) (rs ++ [r]) G' := by
  intro i x hx hi θ hθ
  rcases Nat.lt_or_ge i E.length with hlt | hge
  · rw [List.getElem?_append_left hlt] at hx
    rw [List.getElem?_append_left (by omega)] at hi
    exact h i x hx hi θ (hθ.back hs.ext)
  · rw [List.getElem?_append_right hge] at hx
    rw [List.getElem?_append_right (by omega)] at hi
    have hi0 : i - E.length = 0 := by
      have := (List.getElem?_eq_some_iff.1 hx).1
      simp at this
      omega
    rw [hi0] at hx
    rw [hl, hi0] at hi
    simp at hx hi
    subst hx hi
    exact hr rfl θ hθ

/-- The numbers of equations that were dropped. -/
def drops : List Bool → Nat → List Nat
  | [], _ => []
  | r :: rs, i => if r then drops rs (i + 1) else i :: drops rs (i + 1)
theorem drops_snoc (r : Bool) : ∀ (rs : List Bool) (i : Nat), drops (rs ++ [r]) i = drops rs i ++ (if r then [] else [i + rs.length])
  | [], i => by cases r <;> simp [drops]
  | a :: rs, i => by
    have := drops_snoc r rs (i + 1)
    cases a <;> simp [drops, this] <;> cases r <;> simp <;> omega
theorem drops_len : ∀ (rs : List Bool) (i : Nat), (drops rs i).length ≤ rs.length
  | [], i => by simp [drops]
  | a :: rs, i => by
    have := drops_len rs (i + 1)
    cases a <;> simp [drops] <;> omega

/-- How many types the solution has as a list, and that list. -/
def solLen : Gv → Nat
  | [] => 0
  | g :: r => max (g.1 + 1) (solLen r)
theorem solLen_le : ∀ (G : Gv) (g : Nat × Addr × Ty), g ∈ G → g.1 < solLen G
  | a :: r, g, h => by
    rcases List.mem_cons.1 h with rfl | h
    · simp only [solLen]; omega
    · have := solLen_le r g h
      simp only [solLen]
      omega
theorem solLen_at : ∀ (G : Gv), solLen G = 0 ∨ ∃ g ∈ G, solLen G = g.1 + 1
  | [] => .inl rfl
  | a :: r => by
    right
    rcases solLen_at r with h | ⟨g, hg, h⟩
    · exact ⟨a, by simp, by simp only [solLen]; omega⟩
    · rcases Nat.le_total (solLen r) (a.1 + 1) with hle | hle
      · exact ⟨a, by simp, by simp only [solLen]; omega⟩
      · exact ⟨g, by simp [hg], by simp only [solLen]; omega⟩
theorem solLen_eq {G : Gv} {L : Nat} (h1 : ∀ g ∈ G, g.1 < L) (h2 : L = 0 ∨ ∃ g ∈ G, L = g.1 + 1) : L = solLen G := by
  apply Nat.le_antisymm
  · rcases h2 with h | ⟨g, hg, h⟩
    · omega
    · have := solLen_le G g hg
      omega
  · rcases solLen_at G with h | ⟨g, hg, h⟩
    · omega
    · have := h1 g hg
      omega
def solAt (G : Gv) (n : Nat) : Ty := (solOf G n).getD (.mk [] [])
def solL (G : Gv) : List Ty := (List.range (solLen G)).map (solAt G)

/-- The equations of a slice. -/
structure Eqs (w : World) (S : Nat → Prop) (U : List Addr) (A : Option Addr) (E : List (Ty × Ty)) : Prop where
  at_ : ∀ (i : Nat) (x : Ty × Ty), E[i]? = some x → ∃ ad, A = some ad ∧ PtTy w S (ad.add (i * 4)) x.1 ∧ PtTy w S ⟨(ad.add (i * 4)).block, (ad.add (i * 4)).off + 2, none⟩ x.2 ∧ ad.add (i * 4) ∈ U ∧ (⟨(ad.add (i * 4)).block, (ad.add (i * 4)).off + 2, none⟩ : Addr) ∈ U

/-- A solver between two equations stands when other blocks are written. -/
theorem Rest.kpO {w w' : World} {B : Nat} {S : Nat → Prop} {Q : Ty → Prop} {U : List Addr} {d : SD} {M : Nat → Prop} (h : Rest w B S Q U d) (hk : Kp M w w') (hM : ∀ y, M y → B ≤ y ∧ ¬ SvM d y) : Rest w' B S Q U d := by
  have hkt : Kept S w w' := hk.kept fun b hS => ⟨Nat.lt_of_lt_of_le (h.pl.lt b hS) h.hB, fun e => by have := (hM b e).1; have := h.pl.lt b hS; omega⟩
  refine ⟨⟨h.sv.lo, hk.heap h.sv.cells (fun e => (hM _ e).2 (.inl rfl)), h.sv.given.same (hk.block _ h.sv.given.lt (fun e => (hM _ e).2 (.inr (.inl rfl)))), h.sv.agreed.same (hk.block _ h.sv.agreed.lt (fun e => (hM _ e).2 (.inr (.inr (.inl rfl))))), fun g hg => (h.sv.gty g hg).keep hkt, fun x hx => ?_, hk.own h.sv.trail (fun g hg e => (hM _ e).2 (.inr (.inr (.inr (.inl hg))))), hk.own h.sv.pairs (fun g hg e => (hM _ e).2 (.inr (.inr (.inr (.inr hg)))))⟩, ?_, Nat.le_trans h.hB hk.size, h.un.keep hkt, h.gu, h.au⟩
  · obtain ⟨⟨t', h3⟩, u, h4⟩ := h.sv.aty x hx
    exact ⟨⟨t', h3.keep hkt⟩, u, h4.keep hkt⟩
  · exact ⟨h.pl.lt, fun b hS => (h.pl.plain b hS).same (hk.block b (Nat.lt_of_lt_of_le (h.pl.lt b hS) h.hB) (fun e => by have := (hM b e).1; have := h.pl.lt b hS; omega))⟩

/-- What Solve returns. -/
def SolRes (Q : Ty → Prop) (E : List (Ty × Ty)) (w : World) (e : Ending) (w' : World) : Prop :=
  ∃ (rs : List Bool) (G : Gv) (A A' : Option Addr) (c c' : Nat) (vs : List (Value × Value)), e = .returned (.tuple #[.slice A (solLen G) c, .slice A' (drops rs 0).length c']) ∧ Chain E rs G ∧ Tys w' (Fr w.heap.size w'.heap.size) A (solL G) vs ∧ solLen G ≤ c ∧ c ≤ maxLen ∧
    Row w' (Fr w.heap.size w'.heap.size) A' ((drops rs 0).map fun n : Nat => .int .i64 (n : Int)) ∧ Below w.heap.size w w' ∧ (∀ g ∈ G, Q g.2.2 ∧ g.1 < 100) ∧ (CleanQ Q → SoundE E rs G)

/-- The first k equations are done. -/
structure SolAt (w : World) (B : Nat) (S : Nat → Prop) (Q : Ty → Prop) (U : List Addr) (E : List (Ty × Ty)) (k : Nat) (rs : List Bool) (d : SD) (dv : Value) (wr : World) : Prop where
  chain : Chain (E.take k) rs d.G
  rest : Rest wr B S Q U d
  new : ∀ y, SvM d y → w.heap.size ≤ y
  below : Below w.heap.size w wr
  sound : CleanQ Q → Memo wr S d ∧ SoundE (E.take k) rs d.G
  drop : wr.ownsRow w.heap.size 3 1 dv (drops rs 0).length ((drops rs 0).map fun n : Nat => .int .i64 (n : Int))
  apart : ∀ y, dv.ownBlock = some y → ¬ SvM d y
theorem SolAt.pre {w wr w' : World} {B : Nat} {S : Nat → Prop} {Q : Ty → Prop} {U : List Addr} {E : List (Ty × Ty)} {k : Nat} {rs : List Bool} {d : SD} {dv : Value} (h : SolAt w B S Q U E k rs d dv wr) (hb : Below wr.heap.size wr w') : SolAt w B S Q U E k rs d dv w' :=
  ⟨h.chain, h.rest.below hb, h.new, h.below.trans (hb.mono h.below.size), fun hc => ⟨fun x hx t u ht hu θ hθ => (h.sound hc).1 x hx t u (ht.keep (h.rest.pl.kept (hb.mono h.rest.hB)).symm) (hu.keep (h.rest.pl.kept (hb.mono h.rest.hB)).symm) θ hθ, (h.sound hc).2⟩, h.drop.kept (grownOfBelow hb) (ownNone _), h.apart⟩
/-- One equation more; what was dropped is as it was. -/
theorem SolAt.step {w wr w' : World} {B : Nat} {S : Nat → Prop} {Q : Ty → Prop} {U : List Addr} {E : List (Ty × Ty)} {k : Nat} {rs : List Bool} {d d' : SD} {dv : Value} {r : Bool} {x : Ty × Ty} (h : SolAt w B S Q U E k rs d dv wr) (hx : E[k]? = some x) (hg : Equaled B S Q U d x.1 x.2 wr r d' w') :
    Chain (E.take (k + 1)) (rs ++ [r]) d'.G ∧ Rest w' B S Q U d' ∧ (∀ y, SvM d' y → w.heap.size ≤ y) ∧ Below w.heap.size w w' ∧ (CleanQ Q → Memo w' S d' ∧ SoundE (E.take (k + 1)) (rs ++ [r]) d'.G) ∧
      w'.ownsRow w.heap.size 3 1 dv (drops rs 0).length ((drops rs 0).map fun n : Nat => .int .i64 (n : Int)) ∧ (∀ y, dv.ownBlock = some y → ¬ SvM d' y) := by
  have ht : E.take (k + 1) = E.take k ++ [(x.1, x.2)] := by
    have hk := (List.getElem?_eq_some_iff.1 hx).1
    rw [List.take_succ_eq_append_getElem hk]
    congr 2
    exact Option.some.inj ((List.getElem?_eq_getElem hk).symm.trans hx)
  rw [ht]
  have hnew : ∀ y, SvM d' y → y < wr.heap.size → SvM d y := fun y hy hlt => hg.next.back y hlt hy
  have hnew2 : ∀ y, SvM d' y → w.heap.size ≤ y := fun y hy => by
    rcases Nat.lt_or_ge y wr.heap.size with hlt | hge
    · exact h.new y (hnew y hy hlt)
    · exact Nat.le_trans h.below.size hge
  refine ⟨.snoc h.chain hg.step, hg.rest, hnew2, ?_, fun hc => ?_, hg.kp.own h.drop h.apart, fun y hy e => ?_⟩
  · exact h.below.trans ⟨hg.kp.os, hg.kp.tape, hg.kp.output, hg.kp.size, fun y hy => hg.kp.block y (Nat.lt_of_lt_of_le hy h.below.size) (fun e => by have := h.new y e; omega)⟩
  · obtain ⟨h1, h2⟩ := hg.sound hc (h.sound hc).1
    exact ⟨h1, (h.sound hc).2.snoc h.chain.len hg.step h2⟩
  · obtain ⟨cs, hcc⟩ := row_block h.drop hy
    exact h.apart y hy (hnew y e (lt_of_heap hcc))
/-- An equation more was dropped. -/
theorem SolAt.dropped {w w2 w3 : World} {B : Nat} {S : Nat → Prop} {Q : Ty → Prop} {U : List Addr} {E : List (Ty × Ty)} {k m ga cap dc : Nat} {rs : List Bool} {d' : SD} {DA : Option Addr} {xs : List Value} {o : Obj} (hB : B ≤ w.heap.size) (hk : rs.length = k)
    (s1 : Chain (E.take (k + 1)) (rs ++ [false]) d'.G) (s2 : Rest w2 B S Q U d') (s3 : ∀ y, SvM d' y → w.heap.size ≤ y) (s4 : Below w.heap.size w w2) (s5 : CleanQ Q → Memo w2 S d' ∧ SoundE (E.take (k + 1)) (rs ++ [false]) d'.G)
    (s6 : w2.ownsRow w.heap.size 3 1 (.slice DA m dc) m xs) (s7 : ∀ y, (Value.slice DA m dc).ownBlock = some y → ¬ SvM d' y) (hm : m = (drops rs 0).length) (hxs : ((drops rs 0).map fun n : Nat => Value.int .i64 (n : Int)) = xs)
    (hown : w3.ownsRow w.heap.size 3 1 (.slice (some ⟨ga, 0, none⟩) (m + 1) cap) (m + 1) (xs ++ [.int .i64 (k : Int)])) (hg : (w2.alloc o).grownBy w3 (Value.slice DA m dc).ownBlock) (hat : (Value.slice DA m dc).ownBlock = some ga ∨ ga = w2.heap.size + 1) :
    SolAt w B S Q U E (k + 1) (rs ++ [false]) d' (.slice (some ⟨ga, 0, none⟩) (m + 1) cap) w3 := by
  have hkp : Kp (fun y => (Value.slice DA m dc).ownBlock = some y) w2 w3 := ((Kp.refl _ w2).alloc o).grown hg (fun r hr _ => hr)
  have hM : ∀ y, (Value.slice DA m dc).ownBlock = some y → B ≤ y ∧ ¬ SvM d' y := fun y hy => ⟨Nat.le_trans hB (s6.lt y hy).1, s7 y hy⟩
  have hkt : Kept S w2 w3 := hkp.kept fun b hS => ⟨Nat.lt_of_lt_of_le (s2.pl.lt b hS) s2.hB, fun e => by have := (hM b e).1; have := s2.pl.lt b hS; omega⟩
  have e : drops (rs ++ [false]) 0 = drops rs 0 ++ [k] := by rw [drops_snoc, hk]; simp
  refine ⟨s1, s2.kpO hkp hM, s3, s4.trans ⟨hkp.os, hkp.tape, hkp.output, hkp.size, fun y hy => hkp.block y (Nat.lt_of_lt_of_le hy s4.size) (fun e => by have := (s6.lt y e).1; omega)⟩, fun hc => ⟨fun x hx t u ht hu θ hθ => (s5 hc).1 x hx t u (ht.keep hkt.symm) (hu.keep hkt.symm) θ hθ, (s5 hc).2⟩, ?_, fun y hy hsv => ?_⟩
  · rw [e, List.length_append, List.map_append, hxs, ← hm]
    exact hown
  · have hyg : ga = y := Option.some.inj hy
    subst hyg
    rcases hat with h | h
    · exact s7 _ h hsv
    · have := s2.sv.under _ hsv
      omega
end
end Go.Proofs.YtndhglcdkegigaaDoor
