/-
  Equations one after the other: words for types.Solve.
  Conditions: those of each theorem.
-/
import Derived.Test.YtndhglcdkegigaaDoorNew
import Derived.Test.YtndhglcdkegigaaDoorEqual
import Derived.Test.YtndhglcdkegigaaDoorRng
namespace Go.Proofs.YtndhglcdkegigaaDoor
open Go.RowKit

abbrev Gv := List (Nat × Addr × Ty)
/-- What one equation does to what is given. -/
structure Step (G G' : Gv) (t u : Ty) (r : Bool) : Prop where
  rank : ∃ ρ, Rank (solOf G') ρ
  grow : ∃ N, G' = G ++ N
  back : r = false → G' = G
  full : ∀ θ, Sat θ (solOf G) → sub θ t = sub θ u → r = true ∧ Sat θ (solOf G')
  head : ∀ n x, Head (solOf G) t u n x → (r = true ↔ ¬ Occ (solOf G) n x) ∧ (r = true → ∃ q, G' = G ++ [(n, q, x)])
theorem Equaled.step {B : Nat} {S : Nat → Prop} {Q : Ty → Prop} {U : List Addr} {d d' : SD} {t u : Ty} {w w' : World} {r : Bool} (h : Equaled B S Q U d t u w r d' w') : Step d.G d'.G t u r :=
  ⟨h.rank, h.grow, h.back, h.full, fun n x hh => ⟨(h.head n x hh).1, fun hr => by obtain ⟨q, _, e⟩ := (h.head n x hh).2 hr; exact ⟨q, e⟩⟩⟩
theorem Step.ext {G G' : Gv} {t u : Ty} {r : Bool} (h : Step G G' t u r) : Ext (solOf G) (solOf G') := by
  obtain ⟨N, rfl⟩ := h.grow
  exact solOf_ext

inductive Chain : List (Ty × Ty) → List Bool → Gv → Prop
  | nil : Chain [] [] []
  | snoc {E : List (Ty × Ty)} {rs : List Bool} {G G' : Gv} {t u : Ty} {r : Bool} (h : Chain E rs G) (hs : Step G G' t u r) : Chain (E ++ [(t, u)]) (rs ++ [r]) G'
theorem Chain.len {E : List (Ty × Ty)} {rs : List Bool} {G : Gv} (h : Chain E rs G) : rs.length = E.length := by
  induction h with
  | nil => rfl
  | snoc _ _ ih => simp [ih]
theorem solOf_nil : solOf [] = fun _ => none := rfl
theorem Chain.rank {E : List (Ty × Ty)} {rs : List Bool} {G : Gv} (h : Chain E rs G) : ∃ ρ, Rank (solOf G) ρ := by
  cases h with
  | nil => exact ⟨_, rank_none⟩
  | snoc _ hs => exact hs.rank

def SoundE (E : List (Ty × Ty)) (rs : List Bool) (G : Gv) : Prop := ∀ (i : Nat) (x : Ty × Ty), E[i]? = some x → rs[i]? = some true → ∀ θ, Sat θ (solOf G) → sub θ x.1 = sub θ x.2
theorem SoundE.snoc {E : List (Ty × Ty)} {rs : List Bool} {G G' : Gv} {t u : Ty} {r : Bool} (h : SoundE E rs G) (hl : rs.length = E.length) (hs : Step G G' t u r) (hr : r = true → ∀ θ, Sat θ (solOf G') → sub θ t = sub θ u) : SoundE (E ++ [(t, u)]) (rs ++ [r]) G' := by
  intro i x hx hi θ hθ
  rcases Nat.lt_or_ge i E.length with hlt | hge
  · rw [List.getElem?_append_left hlt] at hx
    rw [List.getElem?_append_left (by omega)] at hi
    exact h i x hx hi θ (hθ.back hs.ext)
  · rw [List.getElem?_append_right hge] at hx
    rw [List.getElem?_append_right (by omega)] at hi
    have hi0 : i - E.length = 0 := by
      have := (List.getElem?_eq_some_iff.1 hx).1
      simp at this
      omega
    rw [hi0] at hx
    rw [hl, hi0] at hi
    simp at hx hi
    subst hx hi
    exact hr rfl θ hθ

/-- The numbers of equations that were dropped. -/
def drops : List Bool → Nat → List Nat
  | [], _ => []
  | r :: rs, i => if r then drops rs (i + 1) else i :: drops rs (i + 1)
theorem drops_snoc (r : Bool) : ∀ (rs : List Bool) (i : Nat), drops (rs ++ [r]) i = drops rs i ++ (if r then [] else [i + rs.length])
  | [], i => by cases r <;> simp [drops]
  | a :: rs, i => by
    have := drops_snoc r rs (i + 1)
    cases a <;> simp [drops, this] <;> cases r <;> simp <;> omega
theorem drops_len : ∀ (rs : List Bool) (i : Nat), (drops rs i).length ≤ rs.length
  | [], i => by simp [drops]
  | a :: rs, i => by
    have := drops_len rs (i + 1)
    cases a <;> simp [drops] <;> omega

/-- How many types the solution has as a list, and that list. -/
def solLen : Gv → Nat
  | [] => 0
  | g :: r => max (g.1 + 1) (solLen r)
theorem solLen_le : ∀ (G : Gv) (g : Nat × Addr × Ty), g ∈ G → g.1 < solLen G
  | a :: r, g, h => by
    rcases List.mem_cons.1 h with rfl | h
    · simp only [solLen]; omega
    · have := solLen_le r g h
      simp only [solLen]
      omega
theorem solLen_at : ∀ (G : Gv), solLen G = 0 ∨ ∃ g ∈ G, solLen G = g.1 + 1
  | [] => .inl rfl
  | a :: r => by
    right
    rcases solLen_at r with h | ⟨g, hg, h⟩
    · exact ⟨a, by simp, by simp only [solLen]; omega⟩
    · rcases Nat.le_total (solLen r) (a.1 + 1) with hle | hle
      · exact ⟨a, by simp, by simp only [solLen]; omega⟩
      · exact ⟨g, by simp [hg], by simp only [solLen]; omega⟩
theorem solLen_eq {G : Gv} {L : Nat} (h1 : ∀ g ∈ G, g.1 < L) (h2 : L = 0 ∨ ∃ g ∈ G, L = g.1 + 1) : L = solLen G := by
  apply Nat.le_antisymm
  · rcases h2 with h | ⟨g, hg, h⟩
    · omega
    · have := solLen_le G g hg
      omega
  · rcases solLen_at G with h | ⟨g, hg, h⟩
    · omega
    · have := h1 g hg
      omega
def solAt (G : Gv) (n : Nat) : Ty := (solOf G n).getD (.mk [] [])
def solL (G : Gv) : List Ty := (List.range (solLen G)).map (solAt G)

/-- The equations of a slice. -/
structure Eqs (w : World) (S : Nat → Prop) (U : List Addr) (A : Option Addr) (E : List (Ty × Ty)) : Prop where
  at_ : ∀ (i : Nat) (x : Ty × Ty), E[i]? = some x → ∃ ad, A = some ad ∧ PtTy w S (ad.add (i * 4)) x.1 ∧ PtTy w S ⟨(ad.add (i * 4)).block, (ad.add (i * 4)).off + 2, none⟩ x.2 ∧ ad.add (i * 4) ∈ U ∧ (⟨(ad.add (i * 4)).block, (ad.add (i * 4)).off + 2, none⟩ : Addr) ∈ U

/-- A solver between two equations stands when other blocks are written. -/
theorem Rest.kpO {w w' : World} {B : Nat} {S : Nat → Prop} {Q : Ty → Prop} {U : List Addr} {d : SD} {M : Nat → Prop} (h : Rest w B S Q U d) (hk : Kp M w w') (hM : ∀ y, M y → B ≤ y ∧ ¬ SvM d y) : Rest w' B S Q U d := by
  have hkt : Kept S w w' := hk.kept fun b hS => ⟨Nat.lt_of_lt_of_le (h.pl.lt b hS) h.hB, fun e => by have := (hM b e).1; have := h.pl.lt b hS; omega⟩
  refine ⟨⟨h.sv.lo, hk.heap h.sv.cells (fun e => (hM _ e).2 (.inl rfl)), h.sv.given.same (hk.block _ h.sv.given.lt (fun e => (hM _ e).2 (.inr (.inl rfl)))), h.sv.agreed.same (hk.block _ h.sv.agreed.lt (fun e => (hM _ e).2 (.inr (.inr (.inl rfl))))), fun g hg => (h.sv.gty g hg).keep hkt, fun x hx => ?_, hk.own h.sv.trail (fun g hg e => (hM _ e).2 (.inr (.inr (.inr (.inl hg))))), hk.own h.sv.pairs (fun g hg e => (hM _ e).2 (.inr (.inr (.inr (.inr hg)))))⟩, ?_, Nat.le_trans h.hB hk.size, h.un.keep hkt, h.gu, h.au⟩
  · obtain ⟨⟨t', h3⟩, u, h4⟩ := h.sv.aty x hx
    exact ⟨⟨t', h3.keep hkt⟩, u, h4.keep hkt⟩
  · exact ⟨h.pl.lt, fun b hS => (h.pl.plain b hS).same (hk.block b (Nat.lt_of_lt_of_le (h.pl.lt b hS) h.hB) (fun e => by have := (hM b e).1; have := h.pl.lt b hS; omega))⟩

/-- What Solve returns. -/
def SolRes (Q : Ty → Prop) (E : List (Ty × Ty)) (w : World) (e : Ending) (w' : World) : Prop :=
  ∃ (rs : List Bool) (G : Gv) (A A' : Option Addr) (c c' : Nat) (vs : List (Value × Value)), e = .returned (.tuple #[.slice A (solLen G) c, .slice A' (drops rs 0).length c']) ∧ Chain E rs G ∧ Tys w' (Fr w.heap.size w'.heap.size) A (solL G) vs ∧ solLen G ≤ c ∧ c ≤ maxLen ∧
    Row w' (Fr w.heap.size w'.heap.size) A' ((drops rs 0).map fun n : Nat => .int .i64 (n : Int)) ∧ Below w.heap.size w w' ∧ (∀ g ∈ G, Q g.2.2 ∧ g.1 < 100) ∧ (CleanQ Q → SoundE E rs G)

/-- The first k equations are done. -/
structure SolAt (w : World) (B : Nat) (S : Nat → Prop) (Q : Ty → Prop) (U : List Addr) (E : List (Ty × Ty)) (k : Nat) (rs : List Bool) (d : SD) (dv : Value) (wr : World) : Prop where
  chain : Chain (E.take k) rs d.G
  rest : Rest wr B S Q U d
  new : ∀ y, SvM d y → w.heap.size ≤ y
  below : Below w.heap.size w wr
  sound : CleanQ Q → Memo wr S d ∧ SoundE (E.take k) rs d.G
  drop : wr.ownsRow w.heap.size 3 1 dv (drops rs 0).length ((drops rs 0).map fun n : Nat => .int .i64 (n : Int))
  apart : ∀ y, dv.ownBlock = some y → ¬ SvM d y
theorem SolAt.pre {w wr w' : World} {B : Nat} {S : Nat → Prop} {Q : Ty → Prop} {U : List Addr} {E : List (Ty × Ty)} {k : Nat} {rs : List Bool} {d : SD} {dv : Value} (h : SolAt w B S Q U E k rs d dv wr) (hb : Below wr.heap.size wr w') : SolAt w B S Q U E k rs d dv w' :=
  ⟨h.chain, h.rest.below hb, h.new, h.below.trans (hb.mono h.below.size), fun hc => ⟨fun x hx t u ht hu θ hθ => (h.sound hc).1 x hx t u (ht.keep (h.rest.pl.kept (hb.mono h.rest.hB)).symm) (hu.keep (h.rest.pl.kept (hb.mono h.rest.hB)).symm) θ hθ, (h.sound hc).2⟩, h.drop.kept (grownOfBelow hb) (ownNone _), h.apart⟩
/-- One equation more; what was dropped is as it was. -/
theorem SolAt.step {w wr w' : World} {B : Nat} {S : Nat → Prop} {Q : Ty → Prop} {U : List Addr} {E : List (Ty × Ty)} {k : Nat} {rs : List Bool} {d d' : SD} {dv : Value} {r : Bool} {x : Ty × Ty} (h : SolAt w B S Q U E k rs d dv wr) (hx : E[k]? = some x) (hg : Equaled B S Q U d x.1 x.2 wr r d' w') :
    Chain (E.take (k + 1)) (rs ++ [r]) d'.G ∧ Rest w' B S Q U d' ∧ (∀ y, SvM d' y → w.heap.size ≤ y) ∧ Below w.heap.size w w' ∧ (CleanQ Q → Memo w' S d' ∧ SoundE (E.take (k + 1)) (rs ++ [r]) d'.G) ∧
      w'.ownsRow w.heap.size 3 1 dv (drops rs 0).length ((drops rs 0).map fun n : Nat => .int .i64 (n : Int)) ∧ (∀ y, dv.ownBlock = some y → ¬ SvM d' y) := by
  have ht : E.take (k + 1) = E.take k ++ [(x.1, x.2)] := by
    have hk := (List.getElem?_eq_some_iff.1 hx).1
    rw [List.take_succ_eq_append_getElem hk]
    congr 2
    exact Option.some.inj ((List.getElem?_eq_getElem hk).symm.trans hx)
  rw [ht]
  have hnew : ∀ y, SvM d' y → y < wr.heap.size → SvM d y := fun y hy hlt => hg.next.back y hlt hy
  have hnew2 : ∀ y, SvM d' y → w.heap.size ≤ y := fun y hy => by
    rcases Nat.lt_or_ge y wr.heap.size with hlt | hge
    · exact h.new y (hnew y hy hlt)
    · exact Nat.le_trans h.below.size hge
  refine ⟨.snoc h.chain hg.step, hg.rest, hnew2, ?_, fun hc => ?_, hg.kp.own h.drop h.apart, fun y hy e => ?_⟩
  · exact h.below.trans ⟨hg.kp.os, hg.kp.tape, hg.kp.output, hg.kp.size, fun y hy => hg.kp.block y (Nat.lt_of_lt_of_le hy h.below.size) (fun e => by have := h.new y e; omega)⟩
  · obtain ⟨h1, h2⟩ := hg.sound hc (h.sound hc).1
    exact ⟨h1, (h.sound hc).2.snoc h.chain.len hg.step h2⟩
  · obtain ⟨cs, hcc⟩ := row_block h.drop hy
    exact h.apart y hy (hnew y e (lt_of_heap hcc))
/-- An equation more was dropped. -/
theorem SolAt.dropped {w w2 w3 : World} {B : Nat} {S : Nat → Prop} {Q : Ty → Prop} {U : List Addr} {E : List (Ty × Ty)} {k m ga cap dc : Nat} {rs : List Bool} {d' : SD} {DA : Option Addr} {xs : List Value} {o : Obj} (hB : B ≤ w.heap.size) (hk : rs.length = k)
    (s1 : Chain (E.take (k + 1)) (rs ++ [false]) d'.G) (s2 : Rest w2 B S Q U d') (s3 : ∀ y, SvM d' y → w.heap.size ≤ y) (s4 : Below w.heap.size w w2) (s5 : CleanQ Q → Memo w2 S d' ∧ SoundE (E.take (k + 1)) (rs ++ [false]) d'.G)
    (s6 : w2.ownsRow w.heap.size 3 1 (.slice DA m dc) m xs) (s7 : ∀ y, (Value.slice DA m dc).ownBlock = some y → ¬ SvM d' y) (hm : m = (drops rs 0).length) (hxs : ((drops rs 0).map fun n : Nat => Value.int .i64 (n : Int)) = xs)
    (hown : w3.ownsRow w.heap.size 3 1 (.slice (some ⟨ga, 0, none⟩) (m + 1) cap) (m + 1) (xs ++ [.int .i64 (k : Int)])) (hg : (w2.alloc o).grownBy w3 (Value.slice DA m dc).ownBlock) (hat : (Value.slice DA m dc).ownBlock = some ga ∨ ga = w2.heap.size + 1) :
    SolAt w B S Q U E (k + 1) (rs ++ [false]) d' (.slice (some ⟨ga, 0, none⟩) (m + 1) cap) w3 := by
  have hkp : Kp (fun y => (Value.slice DA m dc).ownBlock = some y) w2 w3 := ((Kp.refl _ w2).alloc o).grown hg (fun r hr _ => hr)
  have hM : ∀ y, (Value.slice DA m dc).ownBlock = some y → B ≤ y ∧ ¬ SvM d' y := fun y hy => ⟨Nat.le_trans hB (s6.lt y hy).1, s7 y hy⟩
  have hkt : Kept S w2 w3 := hkp.kept fun b hS => ⟨Nat.lt_of_lt_of_le (s2.pl.lt b hS) s2.hB, fun e => by have := (hM b e).1; have := s2.pl.lt b hS; omega⟩
  have e : drops (rs ++ [false]) 0 = drops rs 0 ++ [k] := by rw [drops_snoc, hk]; simp
  refine ⟨s1, s2.kpO hkp hM, s3, s4.trans ⟨hkp.os, hkp.tape, hkp.output, hkp.size, fun y hy => hkp.block y (Nat.lt_of_lt_of_le hy s4.size) (fun e => by have := (s6.lt y e).1; omega)⟩, fun hc => ⟨fun x hx t u ht hu θ hθ => (s5 hc).1 x hx t u (ht.keep hkt.symm) (hu.keep hkt.symm) θ hθ, (s5 hc).2⟩, ?_, fun y hy hsv => ?_⟩
  · rw [e, List.length_append, List.map_append, hxs, ← hm]
    exact hown
  · have hyg : ga = y := Option.some.inj hy
    subst hyg
    rcases hat with h | h
    · exact s7 _ h hsv
    · have := s2.sv.under _ hsv
      omega
end Go.Proofs.YtndhglcdkegigaaDoor
