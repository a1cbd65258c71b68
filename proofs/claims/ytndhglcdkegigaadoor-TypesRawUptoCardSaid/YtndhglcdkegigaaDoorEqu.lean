/-
  What (*unify.Solver).Equal leaves: words.
  Conditions: those of each theorem.
-/
import Derived.Test.YtndhglcdkegigaaDoorAgree
namespace Go.Proofs.YtndhglcdkegigaaDoor
open Go.RowKit

/-- A solver between two equations. -/
structure Rest (w : World) (B : Nat) (S : Nat → Prop) (Q : Ty → Prop) (U : List Addr) (d : SD) : Prop where
  sv : Sv w B S d
  pl : Plb w B S
  hB : B ≤ w.heap.size
  un : Univ w S Q U
  gu : ∀ g ∈ d.G, Q g.2.2 ∧ g.1 < 100 ∧ g.2.1 ∈ U
  au : ∀ x ∈ d.AG, x.1 ∈ U ∧ x.2 ∈ U
theorem Work.rest {w : World} {B : Nat} {S : Nat → Prop} {Q : Ty → Prop} {U : List Addr} {d : SD} (h : Work w B S Q U d) : Rest w B S Q U d := ⟨h.sv, h.pl, h.hB, h.un, h.gu, h.au⟩
theorem Rest.below {w w' : World} {B : Nat} {S : Nat → Prop} {Q : Ty → Prop} {U : List Addr} {d : SD} (h : Rest w B S Q U d) (hb : Below w.heap.size w w') : Rest w' B S Q U d :=
  ⟨h.sv.below h.pl h.hB hb, h.pl.below (hb.mono h.hB), Nat.le_trans h.hB hb.size, h.un.keep (h.pl.kept (hb.mono h.hB)), h.gu, h.au⟩
def SD.reset (d : SD) : SD := { d with tr := [], ps := [], trv := .slice none 0 0, psv := .slice none 0 0 }
theorem Rest.reset {w : World} {B : Nat} {S : Nat → Prop} {Q : Ty → Prop} {U : List Addr} {d : SD} (h : Rest w B S Q U d) :
    Work ((w.setCell ⟨d.sb, 2, none⟩ (.slice none 0 0)).setCell ⟨d.sb, 3, none⟩ (.slice none 0 0)) B S Q U d.reset ∧ Kp (fun y => y = d.sb) w ((w.setCell ⟨d.sb, 2, none⟩ (.slice none 0 0)).setCell ⟨d.sb, 3, none⟩ (.slice none 0 0)) := by
  have hk : Kp (fun y => y = d.sb) w ((w.setCell ⟨d.sb, 2, none⟩ (.slice none 0 0)).setCell ⟨d.sb, 3, none⟩ (.slice none 0 0)) :=
    (Kp.setCell (M := fun y => y = d.sb) (Kp.refl _ w) (fun _ => rfl) _).trans (Kp.setCell (M := fun y => y = d.sb) (Kp.refl _ _) (fun _ => rfl) _) fun _ _ h => h
  have hkt := hk.kept (S := S) fun b hS => ⟨Nat.lt_of_lt_of_le (h.pl.lt b hS) h.hB, fun e => by have := h.sv.lo.1; have := h.pl.lt b hS; omega⟩
  have hsg : d.sb ≠ d.gb := fun e => h.sv.given.not_cells (e ▸ h.sv.cells)
  have hsa : d.sb ≠ d.ab := fun e => h.sv.agreed.not_cells (e ▸ h.sv.cells)
  refine ⟨⟨⟨h.sv.lo, setCell_heap (setCell_heap h.sv.cells), h.sv.given.same (hk.block _ h.sv.given.lt (fun e => hsg e.symm)), h.sv.agreed.same (hk.block _ h.sv.agreed.lt (fun e => hsa e.symm)), fun g hg => (h.sv.gty g hg).keep hkt, fun x hx => ?_, World.ownsRow_nil _ _ _ _, World.ownsRow_nil _ _ _ _⟩, ?_, Nat.le_trans h.hB hk.size, h.un.keep hkt, h.gu, h.au, Nat.zero_le _, Nat.zero_le _⟩, hk⟩
  · obtain ⟨⟨t', h3⟩, u, h4⟩ := h.sv.aty x hx
    exact ⟨⟨t', h3.keep hkt⟩, u, h4.keep hkt⟩
  · exact ⟨h.pl.lt, fun b hS => (h.pl.plain b hS).same (hk.block b (Nat.lt_of_lt_of_le (h.pl.lt b hS) h.hB) (fun e => by have := h.sv.lo.1; have := h.pl.lt b hS; omega))⟩

theorem SNext.ofReset {n n' : Nat} {d d' : SD} (h : SNext n' d.reset d') (hn : n ≤ n') : SNext n d d' :=
  ⟨h.sb, h.gb, h.ab, fun y hy => (h.trv y hy).elim (fun e => by cases e) (fun e => .inr (Nat.le_trans hn e)), fun y hy => (h.psv y hy).elim (fun e => by cases e) (fun e => .inr (Nat.le_trans hn e))⟩
theorem SvM.ofReset {d : SD} {y : Nat} (h : SvM d.reset y) : SvM d y := by
  rcases h with e | e | e | e | e
  · exact .inl e
  · exact .inr (.inl e)
  · exact .inr (.inr (.inl e))
  · cases e
  · cases e

structure Equaled (B : Nat) (S : Nat → Prop) (Q : Ty → Prop) (U : List Addr) (d : SD) (t u : Ty) (w : World) (r : Bool) (d' : SD) (w' : World) : Prop where
  rest : Rest w' B S Q U d'
  kp : Kp (SvM d) w w'
  next : SNext w.heap.size d d'
  rank : ∃ ρ, Rank d'.sol ρ
  grow : ∃ N, d'.G = d.G ++ N
  back : r = false → d'.G = d.G
  full : ∀ θ, Sat θ d.sol → sub θ t = sub θ u → r = true ∧ Sat θ d'.sol
  sound : CleanQ Q → Memo w S d → Memo w' S d' ∧ (r = true → ∀ θ, Sat θ d'.sol → sub θ t = sub θ u)
  head : ∀ n x, Head d.sol t u n x → (r = true ↔ ¬ Occ d.sol n x) ∧ (r = true → ∃ q, PtTy w S q x ∧ d'.G = d.G ++ [(n, q, x)])
def EqualRes (B : Nat) (S : Nat → Prop) (Q : Ty → Prop) (U : List Addr) (d : SD) (t u : Ty) (w : World) (e : Ending) (w' : World) : Prop :=
  ∃ r d', e = .returned (.bool r) ∧ Equaled B S Q U d t u w r d' w'

theorem Equaled.yes {B : Nat} {S : Nat → Prop} {Q : Ty → Prop} {U : List Addr} {d d' : SD} {t u : Ty} {w w0 w' : World} (h : Rest w B S Q U d) (hk : Kp (fun y => y = d.sb) w w0) (hg : Agreed B S Q U d.reset t u w0 true d' w') : Equaled B S Q U d t u w true d' w' := by
  have hkt := hk.kept (S := S) fun b hS => ⟨Nat.lt_of_lt_of_le (h.pl.lt b hS) h.hB, fun e => by have := h.sv.lo.1; have := h.pl.lt b hS; omega⟩
  refine ⟨hg.work.rest, (hk.more fun x _ e => .inl e).trans hg.kp fun x _ e => e.ofReset, hg.next.ofReset hk.size, hg.rank, ?_, (fun h => by cases h), hg.full, fun hc hm => ?_, fun n x hh => ?_⟩
  · obtain ⟨N, h1, _⟩ := hg.grow
    exact ⟨N, h1⟩
  · obtain ⟨h1, h2⟩ := hg.sound hc (fun x hx t u ht hu => hm x hx t u (ht.keep hkt.symm) (hu.keep hkt.symm)) rfl
    exact ⟨h1, fun _ => h2⟩
  · obtain ⟨h1, h2⟩ := hg.head n x hh
    refine ⟨h1, fun hr => ?_⟩
    obtain ⟨q, h3, h4⟩ := h2 hr
    exact ⟨q, h3.keep hkt.symm, h4⟩

theorem Equaled.no {B : Nat} {S : Nat → Prop} {Q : Ty → Prop} {U : List Addr} {d d1 : SD} {t u : Ty} {w w0 w1 w2 : World} {ρ : Ty → Nat} (h : Rest w B S Q U d) (hr : Rank d.sol ρ) (hk : Kp (fun y => y = d.sb) w w0) (hg : Agreed B S Q U d.reset t u w0 false d1 w1)
    (hk2 : Kp (fun y => y = d.gb ∨ y = d.ab) w1 w2) (hm1 : MapAt w2 d.gb (d.G.map givenV)) (hm2 : MapAt w2 d.ab (d.AG.map agreedV)) : Equaled B S Q U d t u w false { d1 with G := d.G, AG := d.AG } w2 := by
  have hkt := hk.kept (S := S) fun b hS => ⟨Nat.lt_of_lt_of_le (h.pl.lt b hS) h.hB, fun e => by have := h.sv.lo.1; have := h.pl.lt b hS; omega⟩
  have hn := hg.next.ofReset hk.size
  have hk1 : Kp (SvM d) w w1 := (hk.more fun x _ e => .inl e).trans hg.kp fun x _ e => e.ofReset
  have hkk : Kp (SvM d) w w2 := hk1.trans hk2 fun x _ e => e.elim (fun e => .inr (.inl e)) (fun e => .inr (.inr (.inl e)))
  have hkt2 : Kept S w w2 := kept_kpM h.pl h.sv hkk h.hB
  have hs1 := hg.work.sv
  have hne : ∀ {y : Nat} {cs : Array Value} {T : TypeId}, w1.heap[y]? = some (.cells cs T (0, 0)) → ¬ (y = d.gb ∨ y = d.ab) := fun {y cs T} hy e => by
    rcases e with e | e
    · have := hs1.given
      rw [hn.gb, ← e] at this
      exact this.not_cells hy
    · have := hs1.agreed
      rw [hn.ab, ← e] at this
      exact this.not_cells hy
  refine ⟨⟨⟨hs1.lo, hk2.heap hs1.cells (hne hs1.cells), ?_, ?_, fun g hg => (h.sv.gty g hg).keep hkt2, fun x hx => ?_, hk2.own hs1.trail ?_, hk2.own hs1.pairs ?_⟩, h.pl.kpM h.sv hkk h.hB, Nat.le_trans h.hB hkk.size, h.un.keep hkt2, h.gu, h.au⟩, hkk, ?_, ⟨ρ, hr⟩, ⟨[], by simp⟩, fun _ => rfl, fun θ h1 h2 => ?_, fun hc hm => ⟨?_, (fun h => by cases h)⟩, fun n x hh => ?_⟩
  · show MapAt w2 d1.gb (d.G.map givenV)
    rw [hn.gb]
    exact hm1
  · show MapAt w2 d1.ab (d.AG.map agreedV)
    rw [hn.ab]
    exact hm2
  · obtain ⟨⟨t', h3⟩, u, h4⟩ := h.sv.aty x hx
    exact ⟨⟨t', h3.keep hkt2⟩, u, h4.keep hkt2⟩
  · intro g hg e
    obtain ⟨cs, hc⟩ := row_block hs1.trail hg
    exact hne hc e
  · intro g hg e
    obtain ⟨cs, hc⟩ := row_block hs1.pairs hg
    exact hne hc e
  · exact ⟨hn.sb, hn.gb, hn.ab, hn.trv, hn.psv⟩
  · have := (hg.full θ h1 h2).1
    cases this
  · intro x hx t u ht hu θ hθ
    exact hm x hx t u (ht.keep hkt2.symm) (hu.keep hkt2.symm) θ hθ
  · obtain ⟨h1, _⟩ := hg.head n x hh
    exact ⟨h1, fun h => by cases h⟩

open Classical in
/-- One entry goes: the first of those that came. -/
theorem filter_drop {α : Type} (f : α → Value × Value) (A N : List α) (k : Nat) (hk : k < N.length) (hnd : (((A ++ N).map f).map (·.1)).Nodup) :
    ((A ++ N.drop k).map f).filter (fun p => decide (p.1 ≠ (f N[k]).1)) = (A ++ N.drop (k + 1)).map f := by
  rw [List.drop_eq_getElem_cons hk, List.map_append, List.map_append, List.filter_append, List.map_cons, List.filter_cons, if_neg (by simp)]
  rw [List.map_append, List.map_append, List.nodup_append] at hnd
  obtain ⟨_, h2, h3⟩ := hnd
  congr 1
  · rw [List.filter_eq_self]
    intro p hp
    simp only [decide_eq_true_eq]
    exact fun e => h3 _ (List.mem_map_of_mem (f := (·.1)) hp) _ (List.mem_map_of_mem (f := (·.1)) (List.mem_map_of_mem (f := f) (List.getElem_mem hk))) e
  · rw [List.filter_eq_self]
    intro p hp
    simp only [decide_eq_true_eq]
    rw [← List.take_append_drop k N, List.map_append, List.map_append, List.nodup_append] at h2
    have h4 := h2.2.1
    rw [List.drop_eq_getElem_cons hk, List.map_cons, List.map_cons, List.nodup_cons] at h4
    exact fun e => h4.1 (e ▸ List.mem_map_of_mem (f := (·.1)) hp)
end Go.Proofs.YtndhglcdkegigaaDoor
