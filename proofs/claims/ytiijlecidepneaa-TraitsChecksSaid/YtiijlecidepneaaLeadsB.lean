/-
  The walk of traits.Leads where no implementation is asked: a parameter, or the type error.
  Conditions: the arguments read as they must.
  The implementations of a goal's trait, struck out of a copy of all; a row of goals that grows.
  Conditions: those of each theorem.
-/
import Derived.Test.YtiijlecidepneaaGoal
namespace Go.Proofs.Ytiijlecidepneaa
section
open Go.RowKit
/-- A slice of goals. -/
structure Gls (w : World) (S : Nat → Prop) (A : Option Addr) (gs : List Goal) (vs : List GV) : Prop where
  len : vs.length = gs.length
  row : Row w S A (flat3 vs)
  each : ∀ (i : Nat) (g : Goal) (q : GV), gs[i]? = some g → vs[i]? = some q → GlIs w S g q
theorem Gls.keep {w w' : World} {S : Nat → Prop} {A : Option Addr} {gs : List Goal} {vs : List GV} (h : Gls w S A gs vs) (hk : Kept S w w') : Gls w' S A gs vs := ⟨h.len, h.row.keep hk, fun i t p ht hp => (h.each i t p ht hp).keep hk⟩
theorem Gls.more {w : World} {S S' : Nat → Prop} {A : Option Addr} {gs : List Goal} {vs : List GV} (h : Gls w S A gs vs) (hS : ∀ b, S b → S' b) : Gls w S' A gs vs := ⟨h.len, h.row.more hS, fun i t p ht hp => (h.each i t p ht hp).more hS⟩
theorem Gls.now {w w' : World} {n : Nat} {A : Option Addr} {gs : List Goal} {vs : List GV} (h : Gls w (Lt n) A gs vs) (hn : n ≤ w.heap.size) (hb : Below w.heap.size w w') : Gls w' (Lt w'.heap.size) A gs vs :=
  (h.keep (kept_below (hb.mono hn))).more fun _ h => Nat.lt_of_lt_of_le h (Nat.le_trans hn hb.size)
theorem Gls.nil (w : World) (S : Nat → Prop) (A : Option Addr) : Gls w S A [] [] := ⟨rfl, Row.nil _ _ _, fun i t p h => by simp at h⟩
theorem Gls.at_ {w : World} {S : Nat → Prop} {A : Option Addr} {gs : List Goal} {vs : List GV} {i : Nat} {g : Goal} (H : Gls w S A gs vs) (hi : gs[i]? = some g) :
    ∃ (ad : Addr) (q : GV), A = some ad ∧ S ad.block ∧ vs[i]? = some q ∧ w.cell? (ad.add (i * 3)) = some q.1 ∧ w.cell? ⟨(ad.add (i * 3)).block, (ad.add (i * 3)).off + 1, none⟩ = some q.2.1 ∧ w.cell? ⟨(ad.add (i * 3)).block, (ad.add (i * 3)).off + 2, none⟩ = some q.2.2 ∧ GlIs w S g q := by
  have hlt := (List.getElem?_eq_some_iff.1 hi).1
  have hp : vs[i]? = some (vs[i]'(by rw [H.len]; exact hlt)) := List.getElem?_eq_getElem _
  obtain ⟨e0, e1, e2⟩ := flat3_at _ _ _ hp
  obtain ⟨ad, rfl, hS, c0⟩ := H.row.at_ e0
  obtain ⟨_, h', _, c1⟩ := H.row.at_ e1
  obtain rfl := Option.some.inj h'
  obtain ⟨_, h', _, c2⟩ := H.row.at_ e2
  obtain rfl := Option.some.inj h'
  rw [← addAdd] at c1 c2
  exact ⟨ad, _, rfl, hS, hp, c0, c1, c2, H.each i g _ hi hp⟩

def LeadsRes (r : List Goal × Bool) (w : World) (e : Ending) (w' : World) : Prop :=
  ∃ (A : Option Addr) (n c : Nat) (vs : List GV), e = .returned (.tuple #[.slice A n c, .bool r.2]) ∧ n = r.1.length ∧ Gls w' (Fr w.heap.size w'.heap.size) A r.1 vs ∧ Below w.heap.size w w'

set_option maxHeartbeats 2000000 in
set_option maxRecDepth 100000 in
theorem leads_par (tr nm : List UInt8) (a : Option Addr × Nat × Nat) (LA SA : Option Addr) (ln lc sn sc : Nat) (w : World) (hp : (cutD nm).2 = true) :
    Calls Try.prog 29 #[.slice LA ln lc, .slice SA sn sc, .agg #[sv tr, sv nm, .slice a.1 a.2.1 a.2.2]] w (LeadsRes ([], decide ((cutD nm).1 = tr)) w) := by
  obtain ⟨x, hx⟩ : ∃ x, cutD nm = (x, true) := ⟨(cutD nm).1, by rw [← hp]⟩
  have hcut := cut_any nm
  rw [hx] at hcut ⊢
  have hdec := bytes_dec x tr
  have HC := Lib.hid hcut
  have HX := Lib.hid hx
  clear hcut hx hp
  go_enter Try.func29, Try.ntmps29
  go_wp2_with fail
  refine (HC.out _).mono ?_
  rintro e w1 ⟨rfl, rfl⟩
  go_wp2_with fail
  go_quiet (fail)
  go_wp2_with fail
  refine bodyPost_ret (v := .tuple #[.slice none 0 0, .bool (decide (x = tr))]) (by simp [results, Try.results29, go_sem]) rfl ?_
  exact ⟨none, 0, 0, [], rfl, rfl, Gls.nil _ _ _, belowDrewN ((Below.refl _ _).alloc (Nat.le_refl _) _) _⟩

set_option maxHeartbeats 2000000 in
set_option maxRecDepth 100000 in
theorem leads_err (tr : List UInt8) (a : Option Addr × Nat × Nat) (LA SA : Option Addr) (ln lc sn sc : Nat) (w : World) :
    Calls Try.prog 29 #[.slice LA ln lc, .slice SA sn sc, .agg #[sv tr, sv errName, .slice a.1 a.2.1 a.2.2]] w (LeadsRes ([], true) w) := by
  have hb : ((bs errName).toList == [101, 114, 114, 111, 114]) = true := by rw [Lib.toList_data, bs_data]; decide
  have HC := Lib.hid (cut_any errName)
  go_enter Try.func29, Try.ntmps29
  go_wp2_with fail
  refine (HC.out _).mono ?_
  rw [show cutD errName = (errName, false) from rfl]
  rintro e w1 ⟨rfl, rfl⟩
  go_wp2_with fail
  refine bodyPost_ret (v := .tuple #[.slice none 0 0, .bool true]) (by simp [results, Try.results29, go_sem]) rfl ?_
  exact ⟨none, 0, 0, [], rfl, rfl, Gls.nil _ _ _, (Below.refl _ _).alloc (Nat.le_refl _) _⟩
end

section
open Go.RowKit
def MineOk (base : Nat) (ms : List Hdr) (w : World) (e : Ending) (w' : World) : Prop :=
  ∃ (A : Option Addr) (n c : Nat) (qs : List HV), e = .returned (.slice A n c) ∧ n = ms.length ∧ Hds w' (Lt w'.heap.size) A ms qs ∧ Below base w w'

set_option maxHeartbeats 4000000 in
set_option maxRecDepth 100000 in
theorem deleteFunc_none (gb : Nat) (tr : List UInt8) (w : World) (hg : w.cell? ⟨gb, 0, none⟩ = some (sv tr)) :
    Calls Try.prog 44 #[.slice none 0 0, del gb] w (Nope (.slice none 0 0) w) := by
  have hix := indexFuncH [] none 0 gb [] w ⟨rfl, Row.nil _ _ _, fun i t p h => by simp at h, fun h hh => by simp at hh, Nat.zero_le _⟩ tr hg
  have HIX := Lib.hid hix
  clear hix
  go_enter Try.func44, Try.ntmps44
  go_wp2_with fail
  refine HIX.out.mono ?_
  rintro e w1 ⟨rfl, hb1⟩
  simp only [dIdx]
  go_wp2
  go_ret
  exact ⟨rfl, hb1⟩

theorem mine_zip (hs : List Hdr) (qs : List HV) (hl : qs.length = hs.length) (tr : List UInt8) : (left tr (hs.zip qs)).map (·.1) = mineOf hs tr := by
  induction hs generalizing qs with
  | nil => rfl
  | cons a r ih =>
    match qs with
    | [] => simp at hl
    | q :: qs =>
      have := ih qs (by simpa using hl)
      unfold left mineOf at this ⊢
      by_cases h : a.trait = tr <;> simp [h, this]

theorem delOwned (hs : List Hdr) (qs : List HV) (LA : Option Addr) (v : Value) (gb base : Nat) (tr : List UInt8) (w : World) (hh : Hds w (Lt base) LA hs qs) (hbs : base ≤ w.heap.size)
    (hown : w.ownsRow base 47 5 v hs.length (flat5 qs)) (hg : w.cell? ⟨gb, 0, none⟩ = some (sv tr)) (hgb : gb < base) :
    Calls Try.prog 44 #[v, del gb] w (MineOk base (mineOf hs tr) w) := by
  rcases hown.2 with ⟨rfl, h0⟩ | ⟨g, c, cur, rfl, hbg, hblk, hnc, hcm, _, _⟩
  · have : hs = [] := List.eq_nil_of_length_eq_zero h0
    subst this
    refine (deleteFunc_none gb tr w hg).mono ?_
    rintro e w1 ⟨rfl, hb1⟩
    exact ⟨none, 0, 0, [], rfl, rfl, ⟨rfl, Row.nil _ _ _, fun i t p h => by simp [mineOf] at h, fun h hh => by simp [mineOf] at hh, Nat.zero_le _⟩, hb1.mono hbs⟩
  · have hmf : (hs.zip qs).map (·.1) = hs := List.map_fst_zip (by rw [hh.len]; exact Nat.le_refl _)
    have hms : (hs.zip qs).map (·.2) = qs := List.map_snd_zip (by rw [hh.len]; exact Nat.le_refl _)
    have hzl : (hs.zip qs).length = hs.length := by rw [List.length_zip, hh.len]; omega
    have hat : ∀ x ∈ hs.zip qs, HdIs w (Lt base) x.1 x.2 := by
      intro x hx
      obtain ⟨i, hi, e⟩ := List.mem_iff_getElem.1 hx
      have e2 : (hs.zip qs)[i]? = some x := by rw [List.getElem?_eq_getElem hi, e]
      obtain ⟨e3, e4⟩ := List.getElem?_zip_eq_some.1 e2
      exact hh.each i _ _ e3 e4
    have hmem : ∀ x ∈ hs.zip qs, x.1 ∈ hs := fun x hx => by rw [← hmf]; exact List.mem_map.2 ⟨x, hx, rfl⟩
    have hlt := lt_of_heap hblk
    refine (deleteFunc_any (hs.zip qs) g hs.length c gb base tr w hzl ⟨hnc, hcm⟩ hh.few (fun x hx => hh.small _ (hmem x hx)) (by rw [hms]; exact hown)
      (fun x hx => (hat x hx).more fun b hb => ⟨Nat.lt_of_lt_of_le hb hbs, fun e => by unfold Lt at hb; omega⟩) hg (by omega)).mono ?_
    rintro e w1 ⟨c', rfl, hrow, hK⟩
    have hz := mine_zip hs qs hh.len tr
    have hb1 : Below base w w1 := ⟨hK.os, hK.tape, hK.output, hK.size, fun x hx => hK.block x (by omega) (by omega)⟩
    refine ⟨_, _, c', (left tr (hs.zip qs)).map (·.2), rfl, by rw [← hz, List.length_map], ⟨by rw [← hz]; simp, hrow.more fun y hy => by subst hy; exact Nat.lt_of_lt_of_le hlt hK.size, ?_, ?_, ?_⟩, hb1⟩
    · intro i h q hi hq
      rw [← hz, List.getElem?_map] at hi
      rw [List.getElem?_map] at hq
      obtain ⟨x, hx, rfl⟩ := Option.map_eq_some_iff.1 hi
      rw [hx] at hq
      cases hq
      have hxm : x ∈ hs.zip qs := (List.mem_filter.1 (List.mem_of_getElem? hx)).1
      exact ((hat x hxm).keep (kept_below hb1)).more fun b hb => Nat.lt_of_lt_of_le hb (Nat.le_trans hbs hK.size)
    · intro h hm
      exact hh.small h (List.mem_filter.1 hm).1
    · exact Nat.le_trans (List.length_filter_le _ _) hh.few

/-- A row of goals of one's own that grows; the types of its goals lie from B0 on, and not in it. -/
structure GOut (B0 B : Nat) (gs : List Goal) (ov : Value) (vs : List GV) (w : World) : Prop where
  own : w.ownsRow B 56 3 ov gs.length (flat3 vs)
  len : vs.length = gs.length
  each : ∀ (i : Nat) (g : Goal) (q : GV), gs[i]? = some g → vs[i]? = some q → GlIs w (fun x => B0 ≤ x ∧ x < w.heap.size ∧ some x ≠ ov.ownBlock) g q

theorem GOut.nil (B0 B : Nat) (w : World) : GOut B0 B [] (.slice none 0 0) [] w := ⟨World.ownsRow_nil _ _ _ _, rfl, fun i g q h => by simp at h⟩
theorem GOut.kept {B0 B : Nat} {gs : List Goal} {ov : Value} {vs : List GV} {w w' : World} (h : GOut B0 B gs ov vs w) (hb : Below w.heap.size w w') : GOut B0 B gs ov vs w' :=
  ⟨h.own.kept (grownOfBelow hb) (ownNone _), h.len, fun i g q hg hq => ((h.each i g q hg hq).keep (keptGrown (grownOfBelow hb) fun x hx => ⟨hx.2.1, by simp⟩)).more fun x hx => ⟨hx.1, Nat.lt_of_lt_of_le hx.2.1 hb.size, hx.2.2⟩⟩
theorem GOut.push {B0 B : Nat} {gs : List Goal} {ov : Value} {vs : List GV} {w w1 : World} {x : Goal} {q : GV} {g cap : Nat} (h : GOut B0 B gs ov vs w)
    (hx : GlIs w (fun x => B0 ≤ x ∧ x < w.heap.size ∧ some x ≠ ov.ownBlock) x q) (hg : w.grownBy w1 ov.ownBlock)
    (hown : w1.ownsRow B 56 3 (.slice (some ⟨g, 0, none⟩) (gs.length + 1) cap) (gs.length + 1) (flat3 vs ++ [q.1, q.2.1, q.2.2])) (hat : ov.ownBlock = some g ∨ g = w.heap.size) :
    GOut B0 B (gs ++ [x]) (.slice (some ⟨g, 0, none⟩) (gs.length + 1) cap) (vs ++ [q]) w1 := by
  have hne : ∀ y, y < w.heap.size → some y ≠ ov.ownBlock → some y ≠ (Value.slice (some ⟨g, 0, none⟩) (gs.length + 1) cap).ownBlock := fun y hy hn e => by
    have e : y = g := Option.some.inj e
    subst e
    rcases hat with e | e
    · exact hn e.symm
    · omega
  refine ⟨by rw [List.length_append, flat3_append]; exact hown, by simp [h.len], fun i t p ht hp => ?_⟩
  refine GlIs.more (S := fun x => B0 ≤ x ∧ x < w.heap.size ∧ some x ≠ ov.ownBlock) (GlIs.keep (w := w) ?_ (keptGrown hg fun y hy => ⟨hy.2.1, hy.2.2⟩)) fun y hy => ⟨hy.1, Nat.lt_of_lt_of_le hy.2.1 hg.size, hne y hy.2.1 hy.2.2⟩
  rcases Nat.lt_trichotomy i gs.length with hi | hi | hi
  · rw [List.getElem?_append_left hi] at ht
    rw [List.getElem?_append_left (by rw [h.len]; exact hi)] at hp
    exact h.each i t p ht hp
  · subst hi
    have hv := h.len
    rw [List.getElem?_append_right (Nat.le_refl _)] at ht
    rw [List.getElem?_append_right (by rw [hv]; exact Nat.le_refl _)] at hp
    simp [hv] at ht hp
    subst ht hp
    exact hx
  · have := (List.getElem?_eq_some_iff.1 ht).1
    simp at this
    omega
theorem GOut.done {B0 B : Nat} {gs : List Goal} {ov : Value} {vs : List GV} {w : World} (h : GOut B0 B gs ov vs w) (hB : B0 ≤ B) : ∃ (A : Option Addr) (c : Nat), ov = .slice A gs.length c ∧ Gls w (Fr B0 w.heap.size) A gs vs := by
  have hlt := h.own.lt
  rcases h.own.2 with ⟨rfl, h0⟩ | ⟨g, c, cur, rfl, hbg, hblk, hnc, hcm, _, _⟩
  · refine ⟨none, 0, by rw [h0], h.len, ?_, fun i g q hg hq => (h.each i g q hg hq).more fun x hx => ⟨hx.1, hx.2.1⟩⟩
    left
    have := h.own.1
    rw [h0] at this
    exact List.eq_nil_of_length_eq_zero (by simpa using this)
  · refine ⟨_, c, rfl, h.len, Row.ofOwn h.own fun g' e h1 h2 => ⟨by omega, h2⟩, fun i g q hg hq => (h.each i g q hg hq).more fun x hx => ⟨hx.1, hx.2.1⟩⟩
theorem infoG : (Try.prog.info? 56).map (fun i => (i.zero, i.size, i.bytes)) = some (some (.agg #[.string ⟨#[]⟩, .string ⟨#[]⟩, .slice none 0 0]), 3, 56) := by kernel_rfl
end
end Go.Proofs.Ytiijlecidepneaa
