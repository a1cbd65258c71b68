/-
  Words for types in memory. No condition beyond those of each theorem.
  Types read from text and printed: the plain law. What is read is a text that prints the same.
  Conditions: none beyond those of each theorem.
-/
import Derived.Test.YtkggmckfdkpldaaDoorBm
import Derived.Test.YtkggmckfdkpldaaDoorBsch
import Derived.Lib.Walk
namespace Go.Proofs.YtkggmckfdkpldaaDoor
section
open Go.RowKit
/-! ### Trees of types -/

inductive Ty where
  | mk (name : List UInt8) (args : List Ty)

def Ty.name : Ty → List UInt8
  | .mk n _ => n
def Ty.args : Ty → List Ty
  | .mk _ ks => ks

theorem Ty.ind {P : Ty → Prop} (h : ∀ n ks, (∀ a ∈ ks, P a) → P (.mk n ks)) : ∀ t, P t
  | .mk n ks => h n ks fun a _ha => Ty.ind h a
  termination_by t => SizeOf.sizeOf t
  decreasing_by
    have := List.sizeOf_lt_of_mem _ha
    simp only [Ty.mk.sizeOf_spec]
    omega

def flat2 (vs : List (Value × Value)) : List Value := vs.flatMap fun p => [p.1, p.2]
theorem flat2_length (vs : List (Value × Value)) : (flat2 vs).length = vs.length * 2 := by
  induction vs with
  | nil => rfl
  | cons v r ih => simp only [flat2, List.flatMap_cons, List.length_append, List.length_cons, List.length_nil] at ih ⊢; omega
theorem flat2_at : ∀ (vs : List (Value × Value)) (i : Nat) (p : Value × Value), vs[i]? = some p → (flat2 vs)[i * 2]? = some p.1 ∧ (flat2 vs)[i * 2 + 1]? = some p.2
  | [], i, p, h => by simp at h
  | v :: r, 0, p, h => by
    simp at h
    subst h
    simp [flat2]
  | v :: r, i + 1, p, h => by
    have := flat2_at r i p (by simpa using h)
    have e : (i + 1) * 2 = i * 2 + 2 := by omega
    rw [e]
    simpa [flat2] using this
theorem flat2_append (a b : List (Value × Value)) : flat2 (a ++ b) = flat2 a ++ flat2 b := by simp [flat2]
theorem flat2_take : ∀ (k : Nat) (vs : List (Value × Value)), (flat2 vs).take (k * 2) = flat2 (vs.take k)
  | 0, vs => by simp [flat2]
  | k + 1, [] => by simp [flat2]
  | k + 1, v :: r => by
    have := flat2_take k r
    have e : (k + 1) * 2 = k * 2 + 2 := by omega
    rw [e]
    simpa [flat2] using this

/-- A type at two cells' values: its name, the slice of its arguments; all that it reaches lies in S. -/
inductive TyIs (w : World) (S : Nat → Prop) : Ty → Value → Value → Prop
  | mk (n : List UInt8) (ks : List Ty) (A : Option Addr) (c : Nat) (vs : List (Value × Value)) (hn : n.length ≤ 4000000) (hz : ks.length ≤ 4000000) (hc : ks.length ≤ c ∧ c ≤ maxLen) (hl : vs.length = ks.length) (row : Row w S A (flat2 vs))
      (h : ∀ (i : Nat) (t : Ty) (p : Value × Value), ks[i]? = some t → vs[i]? = some p → TyIs w S t p.1 p.2) : TyIs w S (.mk n ks) (sv n) (.slice A ks.length c)

theorem TyIs.keep {w w' : World} {S : Nat → Prop} {t : Ty} {u v : Value} (h : TyIs w S t u v) (hk : Kept S w w') : TyIs w' S t u v := by
  induction h with
  | mk n ks A c vs hn hz hc hl row _ ih => exact .mk n ks A c vs hn hz hc hl (row.keep hk) ih
theorem TyIs.more {w : World} {S S' : Nat → Prop} {t : Ty} {u v : Value} (h : TyIs w S t u v) (hS : ∀ b, S b → S' b) : TyIs w S' t u v := by
  induction h with
  | mk n ks A c vs hn hz hc hl row _ ih => exact .mk n ks A c vs hn hz hc hl (row.more hS) ih
theorem TyIs.lower {w w' : World} {n : Nat} {t : Ty} {u v : Value} (h : TyIs w (Lt n) t u v) (hb : Below n w w') : TyIs w' (Lt n) t u v := h.keep (kept_below hb)

theorem TyIs.now {w w' : World} {n : Nat} {t : Ty} {u v : Value} (h : TyIs w (Lt n) t u v) (hn : n ≤ w.heap.size) (hb : Below w.heap.size w w') : TyIs w' (Lt w'.heap.size) t u v :=
  (h.lower (hb.mono hn)).more fun _ h => Nat.lt_of_lt_of_le h (Nat.le_trans hn hb.size)

/-- A slice of types. -/
structure Tys (w : World) (S : Nat → Prop) (A : Option Addr) (ts : List Ty) (vs : List (Value × Value)) : Prop where
  len : vs.length = ts.length
  row : Row w S A (flat2 vs)
  each : ∀ (i : Nat) (t : Ty) (p : Value × Value), ts[i]? = some t → vs[i]? = some p → TyIs w S t p.1 p.2

theorem Tys.keep {w w' : World} {S : Nat → Prop} {A : Option Addr} {ts : List Ty} {vs : List (Value × Value)} (h : Tys w S A ts vs) (hk : Kept S w w') : Tys w' S A ts vs := ⟨h.len, h.row.keep hk, fun i t p ht hp => (h.each i t p ht hp).keep hk⟩
theorem Tys.more {w : World} {S S' : Nat → Prop} {A : Option Addr} {ts : List Ty} {vs : List (Value × Value)} (h : Tys w S A ts vs) (hS : ∀ b, S b → S' b) : Tys w S' A ts vs := ⟨h.len, h.row.more hS, fun i t p ht hp => (h.each i t p ht hp).more hS⟩
theorem Tys.at_ {w : World} {S : Nat → Prop} {A : Option Addr} {ts : List Ty} {vs : List (Value × Value)} {i : Nat} {t : Ty} (h : Tys w S A ts vs) (ht : ts[i]? = some t) :
    ∃ ad u v, A = some ad ∧ S ad.block ∧ w.cell? (ad.add (i * 2)) = some u ∧ w.cell? ⟨(ad.add (i * 2)).block, (ad.add (i * 2)).off + 1, none⟩ = some v ∧ TyIs w S t u v := by
  have hi := (List.getElem?_eq_some_iff.1 ht).1
  have hp : vs[i]? = some (vs[i]'(by rw [h.len]; exact hi)) := List.getElem?_eq_getElem _
  obtain ⟨e1, e2⟩ := flat2_at _ _ _ hp
  obtain ⟨ad, rfl, hS, hc⟩ := h.row.at_ e1
  obtain ⟨ad', h', _, hc'⟩ := h.row.at_ e2
  obtain rfl := Option.some.inj h'
  exact ⟨ad, _, _, rfl, hS, hc, by rw [← addAdd] at hc'; exact hc', h.each i t _ ht hp⟩
theorem TyIs.open_ {w : World} {S : Nat → Prop} {t : Ty} {u v : Value} (h : TyIs w S t u v) :
    ∃ (A : Option Addr) (c : Nat) (vs : List (Value × Value)), u = sv t.name ∧ v = .slice A t.args.length c ∧ t.name.length ≤ 4000000 ∧ t.args.length ≤ 4000000 ∧ t.args.length ≤ c ∧ c ≤ maxLen ∧ Tys w S A t.args vs := by
  cases h with
  | mk n ks A c vs hn hz hc hl row h => exact ⟨A, c, vs, rfl, rfl, hn, hz, hc.1, hc.2, hl, row, h⟩
theorem TyIs.shape {w : World} {S : Nat → Prop} {t : Ty} {u v : Value} (h : TyIs w S t u v) : ∃ (n : List UInt8) (a : Option Addr × Nat × Nat), u = sv n ∧ v = .slice a.1 a.2.1 a.2.2 := by
  cases h with
  | mk n ks A c vs hn hz hc hl row h => exact ⟨n, (A, ks.length, c), rfl, rfl⟩
theorem Tys.close {w : World} {S : Nat → Prop} {A : Option Addr} {c : Nat} {n : List UInt8} {ks : List Ty} {vs : List (Value × Value)} (h : Tys w S A ks vs) (hn : n.length ≤ 4000000) (hz : ks.length ≤ 4000000) (hc : ks.length ≤ c ∧ c ≤ maxLen) : TyIs w S (.mk n ks) (sv n) (.slice A ks.length c) :=
  .mk n ks A c vs hn hz hc h.len h.row h.each
theorem Tys.nil (w : World) (S : Nat → Prop) (A : Option Addr) : Tys w S A [] [] := ⟨rfl, Row.nil _ _ _, fun i t p h => by simp at h⟩

mutual
def Ty.size : Ty → Nat
  | .mk _ ks => 1 + sizeL ks
def sizeL : List Ty → Nat
  | [] => 0
  | t :: r => t.size + sizeL r
end


theorem infoT : (Tryd.prog.info? 31).map (fun i => (i.zero, i.size, i.bytes)) = some (some (.agg #[.string ⟨#[]⟩, .slice none 0 0]), 2, 40) := by kernel_rfl

/-- A type in new memory was returned; what was there is as it was. -/
def MadeTy (t : Ty) (w : World) (e : Ending) (w' : World) : Prop :=
  ∃ u v, e = .returned (.agg #[u, v]) ∧ TyIs w' (Fr w.heap.size w'.heap.size) t u v ∧ Below w.heap.size w w'

/-- Block b holds a type that is being made: its name, and a row of its own with the arguments so far. -/
structure OutAt (b : Nat) (n : List UInt8) (ts : List Ty) (ov : Value) (vs : List (Value × Value)) (w : World) : Prop where
  blk : w.heap[b]? = some (.cells #[sv n, ov] 31 (0, 0))
  own : w.ownsRow (b + 1) 31 2 ov ts.length (flat2 vs)
  len : vs.length = ts.length
  each : ∀ (i : Nat) (t : Ty) (p : Value × Value), ts[i]? = some t → vs[i]? = some p → TyIs w (fun x => b < x ∧ x < w.heap.size ∧ some x ≠ ov.ownBlock) t p.1 p.2

def OutIs (b : Nat) (n : List UInt8) (ts : List Ty) (w : World) : Prop := ∃ (ov : Value) (vs : List (Value × Value)), OutAt b n ts ov vs w

theorem OutAt.kept {b : Nat} {n : List UInt8} {ts : List Ty} {ov : Value} {vs : List (Value × Value)} {w w' : World} {row : Option Nat} (h : OutAt b n ts ov vs w) (hg : w.grownBy w' row) (h1 : row = none ∨ ∃ r, row = some r ∧ r < b) : OutAt b n ts ov vs w' := by
  have hlt := lt_of_heap h.blk
  have hne : ∀ x, b ≤ x → some x ≠ row := fun x hx e => by
    rcases h1 with h1 | ⟨r, h1, h2⟩
    · rw [h1] at e; cases e
    · rw [h1] at e; injection e; omega
  refine ⟨(hg.block b hlt (hne b (Nat.le_refl _))).trans h.blk, h.own.kept hg ?_, h.len, fun i t p ht hp => ?_⟩
  · rcases hv : ov.ownBlock with _ | g
    · exact .inl rfl
    · exact .inr (hne g (by have := (h.own.lt g hv).1; omega))
  · exact ((h.each i t p ht hp).keep (keptGrown hg fun x hx => ⟨hx.2.1, hne x (by omega)⟩)).more fun x ⟨h5, h6, h7⟩ => ⟨h5, Nat.lt_of_lt_of_le h6 hg.size, h7⟩

theorem OutIs.below {b : Nat} {n : List UInt8} {ts : List Ty} {w w' : World} (h : OutIs b n ts w) (hb : Below w.heap.size w w') : OutIs b n ts w' := by
  obtain ⟨ov, vs, h⟩ := h
  exact ⟨ov, vs, h.kept (grownOfBelow hb) (.inl rfl)⟩

/-- One more argument. -/
theorem OutAt.push {b : Nat} {n : List UInt8} {ts : List Ty} {ov : Value} {vs : List (Value × Value)} {w w' : World} {t : Ty} {u v : Value} {g cap : Nat} (h : OutAt b n ts ov vs w)
    (ht : TyIs w (fun x => b < x ∧ x < w.heap.size ∧ some x ≠ ov.ownBlock) t u v)
    (hown : w'.ownsRow (b + 1) 31 2 (.slice (some ⟨g, 0, none⟩) (ts.length + 1) cap) (ts.length + 1) (flat2 vs ++ [u, v])) (hg : w.grownBy w' ov.ownBlock) (hat : ov.ownBlock = some g ∨ g = w.heap.size) :
    OutIs b n (ts ++ [t]) (w'.setCell ⟨b, 1, none⟩ (.slice (some ⟨g, 0, none⟩) (ts.length + 1) cap)) := by
  have hbl := lt_of_heap h.blk
  have hbg : b < g := by have := (hown.lt g rfl).1; omega
  have hbo : some b ≠ ov.ownBlock := fun e => by have := (h.own.lt b e.symm).1; omega
  have hb' : w'.heap[b]? = some (.cells #[sv n, ov] 31 (0, 0)) := (hg.block b hbl hbo).trans h.blk
  have hfar : ∀ x, b < x ∧ x < w.heap.size ∧ some x ≠ ov.ownBlock → b < x ∧ x < (w'.setCell ⟨b, 1, none⟩ (.slice (some ⟨g, 0, none⟩) (ts.length + 1) cap)).heap.size ∧ some x ≠ some g := fun x ⟨h1, h2, h3⟩ => by
    refine ⟨h1, by rw [sizeSet]; exact Nat.lt_of_lt_of_le h2 hg.size, fun e => ?_⟩
    injection e with e
    rcases hat with hat | hat
    · exact h3 (by rw [hat, e])
    · omega
  have hkeep : Kept (fun x => b < x ∧ x < w.heap.size ∧ some x ≠ ov.ownBlock) w (w'.setCell ⟨b, 1, none⟩ (.slice (some ⟨g, 0, none⟩) (ts.length + 1) cap)) :=
    Kept.trans (keptGrown hg fun x hx => ⟨hx.2.1, hx.2.2⟩) (keptGrown grownSet fun x hx => ⟨Nat.lt_of_lt_of_le hx.2.1 hg.size, fun e => by injection e; omega⟩)
  refine ⟨_, vs ++ [(u, v)], setCell_heap hb', ?_, by simp [h.len], fun i t' p ht' hp => ?_⟩
  · rw [flat2_append, List.length_append]
    exact hown.kept grownSet (.inr (by simp [Value.ownBlock]; omega))
  · refine TyIs.more (S := fun x => b < x ∧ x < w.heap.size ∧ some x ≠ ov.ownBlock) ?_ hfar
    refine TyIs.keep ?_ hkeep
    rcases Nat.lt_trichotomy i ts.length with hi | hi | hi
    · rw [List.getElem?_append_left hi] at ht'
      rw [List.getElem?_append_left (by rw [h.len]; exact hi)] at hp
      exact h.each i t' p ht' hp
    · subst hi
      rw [List.getElem?_append_right (Nat.le_refl _)] at ht'
      rw [List.getElem?_append_right (by rw [h.len]; exact Nat.le_refl _)] at hp
      simp [h.len] at ht' hp
      subst ht' hp
      exact ht
    · have := (List.getElem?_eq_some_iff.1 ht').1
      simp at this
      omega

theorem OutAt.shape {b : Nat} {n : List UInt8} {ts : List Ty} {ov : Value} {vs : List (Value × Value)} {w : World} (h : OutAt b n ts ov vs w) : ∃ (a : Option Addr × Nat × Nat), ov = .slice a.1 a.2.1 a.2.2 := by
  rcases h.own.2 with ⟨hv, _⟩ | ⟨g, cap, cur, hv, _⟩
  · exact ⟨(none, 0, 0), hv⟩
  · exact ⟨(some ⟨g, 0, none⟩, ts.length, cap), hv⟩

/-- The type is made. -/
theorem OutAt.done {b : Nat} {n : List UInt8} {ts : List Ty} {ov : Value} {vs : List (Value × Value)} {w : World} (h : OutAt b n ts ov vs w) (hn : n.length ≤ 4000000) (hz : ts.length ≤ 4000000) : TyIs w (fun x => b < x ∧ x < w.heap.size) (.mk n ts) (sv n) ov := by
  have hc : ∃ (A : Option Addr) (c : Nat), ov = .slice A ts.length c ∧ ts.length ≤ c ∧ c ≤ maxLen := by
    rcases h.own.2 with ⟨hv, h0⟩ | ⟨g, cap, cur, hv, _, _, h1, h2, _⟩
    · exact ⟨none, 0, by rw [hv, h0], by omega, Nat.zero_le _⟩
    · exact ⟨_, cap, hv, h1, h2⟩
  obtain ⟨A, c, rfl, h1, h2⟩ := hc
  refine Tys.close (vs := vs) ⟨h.len, Row.ofOwn h.own fun g _ h3 h4 => ⟨by omega, h4⟩, fun i t p ht hp => (h.each i t p ht hp).more fun x hx => ⟨hx.1, hx.2.1⟩⟩ hn hz ⟨h1, h2⟩

theorem OutIs.fresh {b : Nat} {n : List UInt8} {w : World} (h : w.heap[b]? = some (.cells #[sv n, .slice none 0 0] 31 (0, 0))) : OutIs b n [] w :=
  ⟨_, [], h, World.ownsRow_nil w _ _ _, rfl, fun i t p ht => by simp at ht⟩

theorem Tys.now {w w' : World} {n : Nat} {A : Option Addr} {ts : List Ty} {vs : List (Value × Value)} (h : Tys w (Lt n) A ts vs) (hn : n ≤ w.heap.size) (hb : Below w.heap.size w w') : Tys w' (Lt w'.heap.size) A ts vs :=
  (h.keep (kept_below (hb.mono hn))).more fun _ h => Nat.lt_of_lt_of_le h (Nat.le_trans hn hb.size)

theorem bytesDiff {a b : List UInt8} (h : ¬ a = b) : ((bs a).toList == (bs b).toList) = false := by
  rw [ByteArray.toList_eq, ByteArray.toList_eq, bs_data, bs_data]
  simpa using h
end

section

def sep (c : UInt8) : Bool := c == 60 || c == 62 || c == 44
def nm (s : List UInt8) : List UInt8 := s.takeWhile fun c => !sep c
def rs (s : List UInt8) : List UInt8 := s.dropWhile fun c => !sep c

mutual
def rd : Nat → List UInt8 → Option (Ty × List UInt8)
  | 0, _ => none
  | n + 1, s => if nm s = [] then none else match rs s with
    | [] => some (.mk (nm s) [], [])
    | c :: r => if c = 60 then (rdK n r).map fun p => (.mk (nm s) p.1, p.2) else some (.mk (nm s) [], c :: r)
def rdK : Nat → List UInt8 → Option (List Ty × List UInt8)
  | 0, _ => none
  | n + 1, s => match rd n s with
    | none => none
    | some (_, []) => none
    | some (t, c :: r) => if c = 44 then (rdK n r).map fun p => (t :: p.1, p.2) else if c = 62 then some ([t], r) else none
end

def parse (s : List UInt8) : Option Ty := match rd (2 * s.length + 1) s with
  | some (t, []) => some t
  | _ => none

mutual
def prn : Ty → List UInt8
  | .mk n ks => n ++ prnL ks 60 ++ (if ks = [] then [] else [62])
def prnL : List Ty → UInt8 → List UInt8
  | [], _ => []
  | t :: r, c => c :: (prn t ++ prnL r 44)
end

theorem nm_rs (s : List UInt8) : nm s ++ rs s = s := List.takeWhile_append_dropWhile ..
theorem nm_len (s : List UInt8) : (nm s).length + (rs s).length = s.length := by rw [← List.length_append, nm_rs]

theorem rd_len : ∀ n, (∀ s t r, rd n s = some (t, r) → t.size + r.length ≤ s.length) ∧ (∀ s ts r, rdK n s = some (ts, r) → sizeL ts + 1 + r.length ≤ s.length) := by
  intro n
  induction n with
  | zero => exact ⟨fun s t r h => by simp [rd] at h, fun s t r h => by simp [rdK] at h⟩
  | succ n ih =>
    refine ⟨fun s t r h => ?_, fun s ts r h => ?_⟩
    · rw [rd] at h
      split at h
      · cases h
      · rename_i hn
        have hl := nm_len s
        have hp : 0 < (nm s).length := List.length_pos_iff.2 hn
        split at h
        · simp only [Option.some.injEq, Prod.mk.injEq] at h
          obtain ⟨rfl, rfl⟩ := h
          simp [Ty.size, sizeL]
          omega
        · rename_i c r' hr
          rw [hr] at hl
          split at h
          · obtain ⟨⟨ts, r2⟩, hk, e⟩ := Option.map_eq_some_iff.1 h
            simp only [Prod.mk.injEq] at e
            obtain ⟨rfl, rfl⟩ := e
            have := ih.2 _ _ _ hk
            simp only [Ty.size, List.length_cons] at hl ⊢
            omega
          · simp only [Option.some.injEq, Prod.mk.injEq] at h
            obtain ⟨rfl, rfl⟩ := h
            simp only [Ty.size, sizeL, List.length_cons] at hl ⊢
            omega
    · rw [rdK] at h
      rcases hx : rd n s with _ | ⟨t, r'⟩
      · rw [hx] at h
        cases h
      · rw [hx] at h
        have h1 := ih.1 _ _ _ hx
        cases r' with
        | nil => cases h
        | cons c r' =>
          simp only at h
          split at h
          · obtain ⟨⟨ts', r2⟩, hk, e⟩ := Option.map_eq_some_iff.1 h
            simp only [Prod.mk.injEq] at e
            obtain ⟨rfl, rfl⟩ := e
            have := ih.2 _ _ _ hk
            simp only [sizeL, List.length_cons] at h1 ⊢
            omega
          · split at h
            · simp only [Option.some.injEq, Prod.mk.injEq] at h
              obtain ⟨rfl, rfl⟩ := h
              simp only [sizeL, List.length_cons] at h1 ⊢
              omega
            · cases h

theorem rd_prn : ∀ n, (∀ s t r, rd n s = some (t, r) → s = prn t ++ r) ∧ (∀ s ts r, rdK n s = some (ts, r) → ts ≠ [] ∧ ∀ c, c :: s = prnL ts c ++ 62 :: r) := by
  intro n
  induction n with
  | zero => exact ⟨fun s t r h => by simp [rd] at h, fun s t r h => by simp [rdK] at h⟩
  | succ n ih =>
    refine ⟨fun s t r h => ?_, fun s ts r h => ?_⟩
    · rw [rd] at h
      have hl := nm_rs s
      split at h
      · cases h
      · split at h
        · rename_i hr
          simp only [Option.some.injEq, Prod.mk.injEq] at h
          obtain ⟨rfl, rfl⟩ := h
          rw [hr] at hl
          simpa [prn, prnL] using hl.symm
        · rename_i c r' hr
          rw [hr] at hl
          split at h
          · rename_i hc
            obtain ⟨⟨ts, r2⟩, hk, e⟩ := Option.map_eq_some_iff.1 h
            simp only [Prod.mk.injEq] at e
            obtain ⟨rfl, rfl⟩ := e
            obtain ⟨h1, h2⟩ := ih.2 _ _ _ hk
            have hs : s = nm s ++ (60 :: r') := by rw [← hc]; exact hl.symm
            rw [prn, if_neg h1]
            refine hs.trans ?_
            rw [h2 60]
            simp
          · simp only [Option.some.injEq, Prod.mk.injEq] at h
            obtain ⟨rfl, rfl⟩ := h
            simpa [prn, prnL] using hl.symm
    · rw [rdK] at h
      rcases hx : rd n s with _ | ⟨t, r'⟩
      · rw [hx] at h
        cases h
      · rw [hx] at h
        have h1 := ih.1 _ _ _ hx
        cases r' with
        | nil => cases h
        | cons c r' =>
          simp only at h
          split at h
          · rename_i hc
            obtain ⟨⟨ts', r2⟩, hk, e⟩ := Option.map_eq_some_iff.1 h
            simp only [Prod.mk.injEq] at e
            obtain ⟨rfl, rfl⟩ := e
            obtain ⟨h2, h3⟩ := ih.2 _ _ _ hk
            refine ⟨by simp, fun d => ?_⟩
            rw [prnL, h1, hc, h3 44]
            simp
          · split at h
            · rename_i hc
              simp only [Option.some.injEq, Prod.mk.injEq] at h
              obtain ⟨rfl, rfl⟩ := h
              refine ⟨by simp, fun d => ?_⟩
              rw [prnL, prnL, h1, hc]
              simp
            · cases h

theorem parse_prn {s : List UInt8} {t : Ty} (h : parse s = some t) : prn t = s := by
  unfold parse at h
  split at h
  · rename_i t' hx
    cases h
    have := (rd_prn _).1 _ _ _ hx
    simpa using this.symm
  · cases h

/-! ### What was printed is read again -/

/-- A name that a text of a type can have. -/
def NmOk (n : List UInt8) : Prop := n ≠ [] ∧ ∀ c ∈ n, sep c = false
/-- All names of a type are such. -/
inductive Nice : Ty → Prop
  | mk (n : List UInt8) (ks : List Ty) (hn : NmOk n) (h : ∀ a ∈ ks, Nice a) : Nice (.mk n ks)
/-- What may stand behind a type. -/
def Stop (r : List UInt8) : Prop := ∀ c t, r = c :: t → sep c = true

theorem nm_of {n r : List UInt8} (h : NmOk n) (hr : Stop r) : nm (n ++ r) = n ∧ rs (n ++ r) = r := by
  unfold nm rs
  have h1 : ∀ a ∈ n, (!sep a) = true := fun a ha => by rw [h.2 a ha]; rfl
  rw [List.takeWhile_append_of_pos h1, List.dropWhile_append_of_pos h1]
  cases r with
  | nil => simp
  | cons c t => simp [hr c t rfl]
theorem prn_stop (ks : List Ty) (r : List UInt8) (h : Stop r) : Stop (prnL ks 60 ++ (if ks = [] then [] else [62]) ++ r) := by
  cases ks with
  | nil => simpa [prnL] using h
  | cons a l =>
    intro c t e
    simp only [prnL, List.cons_append, List.cons.injEq] at e
    rw [← e.1]
    rfl
theorem rd_back (t : Ty) : Nice t → ∀ (n : Nat) (r : List UInt8), 2 * t.size ≤ n + 1 → Stop r → (∀ q, r ≠ 60 :: q) → rd n (prn t ++ r) = some (t, r) := by
  induction t using Ty.ind with | h x ks ih => ?_
  intro hN n r hn hr h60
  cases hN with
  | mk _ _ hx hks =>
  have hK : ∀ (l : List Ty), (∀ a ∈ l, a ∈ ks) → l ≠ [] → ∀ (m : Nat) (c : UInt8) (q : List UInt8), 2 * sizeL l ≤ m → ∃ s, prnL l c ++ 62 :: q = c :: s ∧ rdK m s = some (l, q) := by
    intro l
    induction l with
    | nil => intro _ h; exact absurd rfl h
    | cons a l ihl =>
      intro hmem _ m c q hm
      refine ⟨prn a ++ (prnL l 44 ++ 62 :: q), by simp [prnL], ?_⟩
      have hsz : 1 ≤ a.size := by cases a; simp [Ty.size]
      simp only [sizeL] at hm
      obtain ⟨m, rfl⟩ : ∃ m', m = m' + 1 := ⟨m - 1, by omega⟩
      rw [rdK]
      have ha := hmem a (by simp)
      cases l with
      | nil =>
        simp only [prnL, List.nil_append]
        rw [ih a ha (hks a ha) m (62 :: q) (by simp [sizeL] at hm; omega) (fun c t e => by injection e with e _; rw [← e]; rfl) (fun q e => by injection e with e _; cases e)]
        simp
      | cons b l =>
        obtain ⟨s, hs1, hs2⟩ := ihl (fun y hy => hmem y (by simp [hy])) (by simp) m 44 q (by omega)
        rw [hs1]
        rw [ih a ha (hks a ha) m (44 :: s) (by omega) (fun c t e => by injection e with e _; rw [← e]; rfl) (fun q e => by injection e with e _; cases e)]
        simp [hs2]
  obtain ⟨n, rfl⟩ : ∃ n', n = n' + 1 := ⟨n - 1, by simp only [Ty.size] at hn; omega⟩
  have hst := prn_stop ks r hr
  obtain ⟨e1, e2⟩ := nm_of hx hst
  have hp : prn (.mk x ks) ++ r = x ++ (prnL ks 60 ++ (if ks = [] then [] else [62]) ++ r) := by rw [prn]; simp
  rw [hp, rd, e1, e2, if_neg hx.1]
  cases ks with
  | nil =>
    simp only [prnL, List.nil_append, if_true]
    cases r with
    | nil => rfl
    | cons c q =>
      have : c ≠ 60 := fun e => h60 q (by rw [e])
      simp [this]
  | cons a l =>
    obtain ⟨s, hs1, hs2⟩ := hK (a :: l) (fun _ h => h) (by simp) n 60 r (by simp only [Ty.size] at hn; omega)
    have : prnL (a :: l) 60 ++ (if a :: l = [] then [] else [62]) ++ r = 60 :: s := by rw [← hs1]; simp
    rw [this]
    simp [hs2]
theorem size_len (t : Ty) : Nice t → t.size ≤ (prn t).length := by
  induction t using Ty.ind with | h x ks ih => ?_
  intro hN
  cases hN with
  | mk _ _ hx hks =>
  have hK : ∀ (l : List Ty), (∀ a ∈ l, a ∈ ks) → ∀ c, sizeL l ≤ (prnL l c).length := by
    intro l
    induction l with
    | nil => intro _ c; simp [sizeL]
    | cons a l ihl =>
      intro hm c
      have h1 := ih a (hm a (by simp)) (hks a (hm a (by simp)))
      have h2 := ihl (fun y hy => hm y (by simp [hy])) 44
      simp only [sizeL, prnL, List.length_cons, List.length_append]
      omega
  have h1 := hK ks (fun _ h => h) 60
  have h2 := List.length_pos_iff.2 hx.1
  rw [prn]
  simp only [Ty.size, List.length_append]
  omega
/-- A nice type is read back. -/
theorem parse_back {t : Ty} (h : Nice t) : parse (prn t) = some t := by
  have h1 := rd_back t h (2 * (prn t).length + 1) [] (by have := size_len t h; omega) (fun c t e => by cases e) (fun q e => by cases e)
  rw [List.append_nil] at h1
  unfold parse
  rw [h1]
theorem prn_ne {t : Ty} (h : Nice t) : prn t ≠ [] := by
  cases h with
  | mk n ks hn _ =>
    intro e
    rw [prn] at e
    simp only [List.append_eq_nil_iff] at e
    exact hn.1 e.1.1
end
end Go.Proofs.YtkggmckfdkpldaaDoor
