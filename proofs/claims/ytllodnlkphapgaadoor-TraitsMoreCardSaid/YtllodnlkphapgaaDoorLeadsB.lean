/-
  The implementations of a goal's trait, struck out of a copy of all; a row of goals that grows.
  Conditions: those of each theorem.
-/
import Derived.Test.YtllodnlkphapgaaDoorLeadsA
namespace Go.Proofs.YtllodnlkphapgaaDoor
open Go.RowKit

def MineOk (base : Nat) (ms : List Hdr) (w : World) (e : Ending) (w' : World) : Prop :=
  ∃ (A : Option Addr) (n c : Nat) (qs : List HV), e = .returned (.slice A n c) ∧ n = ms.length ∧ Hds w' (Lt w'.heap.size) A ms qs ∧ Below base w w'

set_option maxHeartbeats 4000000 in
set_option maxRecDepth 100000 in
theorem deleteFunc_none (gb : Nat) (tr : List UInt8) (w : World) (hg : w.cell? ⟨gb, 0, none⟩ = some (sv tr)) :
    Calls Tryd.prog 39 #[.slice none 0 0, del gb] w (Nope (.slice none 0 0) w) := by
  have hix := indexFuncH [] none 0 gb [] w ⟨rfl, Row.nil _ _ _, fun i t p h => by simp at h, fun h hh => by simp at hh, Nat.zero_le _⟩ tr hg
  have HIX := Lib.hid hix
  clear hix
  go_enter Tryd.func39, Tryd.ntmps39
  go_wp2_with fail
  refine HIX.out.mono ?_
  rintro e w1 ⟨rfl, hb1⟩
  simp only [dIdx]
  go_wp2
  go_ret
  exact ⟨rfl, hb1⟩

theorem mine_zip (hs : List Hdr) (qs : List HV) (hl : qs.length = hs.length) (tr : List UInt8) : (left tr (hs.zip qs)).map (·.1) = mineOf hs tr := by
  induction hs generalizing qs with
  | nil => rfl
  | cons a r ih =>
    match qs with
    | [] => simp at hl
    | q :: qs =>
      have := ih qs (by simpa using hl)
      unfold left mineOf at this ⊢
      by_cases h : a.trait = tr <;> simp [h, this]

theorem delOwned (hs : List Hdr) (qs : List HV) (LA : Option Addr) (v : Value) (gb base : Nat) (tr : List UInt8) (w : World) (hh : Hds w (Lt base) LA hs qs) (hbs : base ≤ w.heap.size)
    (hown : w.ownsRow base 38 5 v hs.length (flat5 qs)) (hg : w.cell? ⟨gb, 0, none⟩ = some (sv tr)) (hgb : gb < base) :
    Calls Tryd.prog 39 #[v, del gb] w (MineOk base (mineOf hs tr) w) := by
  rcases hown.2 with ⟨rfl, h0⟩ | ⟨g, c, cur, rfl, hbg, hblk, hnc, hcm, _, _⟩
  · have : hs = [] := List.eq_nil_of_length_eq_zero h0
    subst this
    refine (deleteFunc_none gb tr w hg).mono ?_
    rintro e w1 ⟨rfl, hb1⟩
    exact ⟨none, 0, 0, [], rfl, rfl, ⟨rfl, Row.nil _ _ _, fun i t p h => by simp [mineOf] at h, fun h hh => by simp [mineOf] at hh, Nat.zero_le _⟩, hb1.mono hbs⟩
  · have hmf : (hs.zip qs).map (·.1) = hs := List.map_fst_zip (by rw [hh.len]; exact Nat.le_refl _)
    have hms : (hs.zip qs).map (·.2) = qs := List.map_snd_zip (by rw [hh.len]; exact Nat.le_refl _)
    have hzl : (hs.zip qs).length = hs.length := by rw [List.length_zip, hh.len]; omega
    have hat : ∀ x ∈ hs.zip qs, HdIs w (Lt base) x.1 x.2 := by
      intro x hx
      obtain ⟨i, hi, e⟩ := List.mem_iff_getElem.1 hx
      have e2 : (hs.zip qs)[i]? = some x := by rw [List.getElem?_eq_getElem hi, e]
      obtain ⟨e3, e4⟩ := List.getElem?_zip_eq_some.1 e2
      exact hh.each i _ _ e3 e4
    have hmem : ∀ x ∈ hs.zip qs, x.1 ∈ hs := fun x hx => by rw [← hmf]; exact List.mem_map.2 ⟨x, hx, rfl⟩
    have hlt := lt_of_heap hblk
    refine (deleteFunc_any (hs.zip qs) g hs.length c gb base tr w hzl ⟨hnc, hcm⟩ hh.few (fun x hx => hh.small _ (hmem x hx)) (by rw [hms]; exact hown)
      (fun x hx => (hat x hx).more fun b hb => ⟨Nat.lt_of_lt_of_le hb hbs, fun e => by unfold Lt at hb; omega⟩) hg (by omega)).mono ?_
    rintro e w1 ⟨c', rfl, hrow, hK⟩
    have hz := mine_zip hs qs hh.len tr
    have hb1 : Below base w w1 := ⟨hK.os, hK.tape, hK.output, hK.size, fun x hx => hK.block x (by omega) (by omega)⟩
    refine ⟨_, _, c', (left tr (hs.zip qs)).map (·.2), rfl, by rw [← hz, List.length_map], ⟨by rw [← hz]; simp, hrow.more fun y hy => by subst hy; exact Nat.lt_of_lt_of_le hlt hK.size, ?_, ?_, ?_⟩, hb1⟩
    · intro i h q hi hq
      rw [← hz, List.getElem?_map] at hi
      rw [List.getElem?_map] at hq
      obtain ⟨x, hx, rfl⟩ := Option.map_eq_some_iff.1 hi
      rw [hx] at hq
      cases hq
      have hxm : x ∈ hs.zip qs := (List.mem_filter.1 (List.mem_of_getElem? hx)).1
      exact ((hat x hxm).keep (kept_below hb1)).more fun b hb => Nat.lt_of_lt_of_le hb (Nat.le_trans hbs hK.size)
    · intro h hm
      exact hh.small h (List.mem_filter.1 hm).1
    · exact Nat.le_trans (List.length_filter_le _ _) hh.few

/-- A row of goals of one's own that grows; the types of its goals lie from B0 on, and not in it. -/
structure GOut (B0 B : Nat) (gs : List Goal) (ov : Value) (vs : List GV) (w : World) : Prop where
  own : w.ownsRow B 43 3 ov gs.length (flat3 vs)
  len : vs.length = gs.length
  each : ∀ (i : Nat) (g : Goal) (q : GV), gs[i]? = some g → vs[i]? = some q → GlIs w (fun x => B0 ≤ x ∧ x < w.heap.size ∧ some x ≠ ov.ownBlock) g q

theorem GOut.nil (B0 B : Nat) (w : World) : GOut B0 B [] (.slice none 0 0) [] w := ⟨World.ownsRow_nil _ _ _ _, rfl, fun i g q h => by simp at h⟩
theorem GOut.kept {B0 B : Nat} {gs : List Goal} {ov : Value} {vs : List GV} {w w' : World} (h : GOut B0 B gs ov vs w) (hb : Below w.heap.size w w') : GOut B0 B gs ov vs w' :=
  ⟨h.own.kept (grownOfBelow hb) (ownNone _), h.len, fun i g q hg hq => ((h.each i g q hg hq).keep (keptGrown (grownOfBelow hb) fun x hx => ⟨hx.2.1, by simp⟩)).more fun x hx => ⟨hx.1, Nat.lt_of_lt_of_le hx.2.1 hb.size, hx.2.2⟩⟩
theorem GOut.push {B0 B : Nat} {gs : List Goal} {ov : Value} {vs : List GV} {w w1 : World} {x : Goal} {q : GV} {g cap : Nat} (h : GOut B0 B gs ov vs w)
    (hx : GlIs w (fun x => B0 ≤ x ∧ x < w.heap.size ∧ some x ≠ ov.ownBlock) x q) (hg : w.grownBy w1 ov.ownBlock)
    (hown : w1.ownsRow B 43 3 (.slice (some ⟨g, 0, none⟩) (gs.length + 1) cap) (gs.length + 1) (flat3 vs ++ [q.1, q.2.1, q.2.2])) (hat : ov.ownBlock = some g ∨ g = w.heap.size) :
    GOut B0 B (gs ++ [x]) (.slice (some ⟨g, 0, none⟩) (gs.length + 1) cap) (vs ++ [q]) w1 := by
  have hne : ∀ y, y < w.heap.size → some y ≠ ov.ownBlock → some y ≠ (Value.slice (some ⟨g, 0, none⟩) (gs.length + 1) cap).ownBlock := fun y hy hn e => by
    have e : y = g := Option.some.inj e
    subst e
    rcases hat with e | e
    · exact hn e.symm
    · omega
  refine ⟨by rw [List.length_append, flat3_append]; exact hown, by simp [h.len], fun i t p ht hp => ?_⟩
  refine GlIs.more (S := fun x => B0 ≤ x ∧ x < w.heap.size ∧ some x ≠ ov.ownBlock) (GlIs.keep (w := w) ?_ (keptGrown hg fun y hy => ⟨hy.2.1, hy.2.2⟩)) fun y hy => ⟨hy.1, Nat.lt_of_lt_of_le hy.2.1 hg.size, hne y hy.2.1 hy.2.2⟩
  rcases Nat.lt_trichotomy i gs.length with hi | hi | hi
  · rw [List.getElem?_append_left hi] at ht
    rw [List.getElem?_append_left (by rw [h.len]; exact hi)] at hp
    exact h.each i t p ht hp
  · subst hi
    have hv := h.len
    rw [List.getElem?_append_right (Nat.le_refl _)] at ht
    rw [List.getElem?_append_right (by rw [hv]; exact Nat.le_refl _)] at hp
    simp [hv] at ht hp
    subst ht hp
    exact hx
  · have := (List.getElem?_eq_some_iff.1 ht).1
    simp at this
    omega
theorem GOut.done {B0 B : Nat} {gs : List Goal} {ov : Value} {vs : List GV} {w : World} (h : GOut B0 B gs ov vs w) (hB : B0 ≤ B) : ∃ (A : Option Addr) (c : Nat), ov = .slice A gs.length c ∧ Gls w (Fr B0 w.heap.size) A gs vs := by
  have hlt := h.own.lt
  rcases h.own.2 with ⟨rfl, h0⟩ | ⟨g, c, cur, rfl, hbg, hblk, hnc, hcm, _, _⟩
  · refine ⟨none, 0, by rw [h0], h.len, ?_, fun i g q hg hq => (h.each i g q hg hq).more fun x hx => ⟨hx.1, hx.2.1⟩⟩
    left
    have := h.own.1
    rw [h0] at this
    exact List.eq_nil_of_length_eq_zero (by simpa using this)
  · refine ⟨_, c, rfl, h.len, Row.ofOwn h.own fun g' e h1 h2 => ⟨by omega, h2⟩, fun i g q hg hq => (h.each i g q hg hq).more fun x hx => ⟨hx.1, hx.2.1⟩⟩
theorem infoG : (Tryd.prog.info? 43).map (fun i => (i.zero, i.size, i.bytes)) = some (some (.agg #[.string ⟨#[]⟩, .string ⟨#[]⟩, .slice none 0 0]), 3, 56) := by kernel_rfl
end Go.Proofs.YtllodnlkphapgaaDoor
