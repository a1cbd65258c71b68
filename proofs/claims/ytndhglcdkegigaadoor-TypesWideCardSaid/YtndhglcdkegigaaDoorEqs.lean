/-
  Slices of equations in memory; the walk of recompilelaw09.equations.
  Conditions: the dice lie in memory.
-/
import Derived.Test.YtndhglcdkegigaaDoorDType
import Derived.Test.YtndhglcdkegigaaDoorOutP
namespace Go.Proofs.YtndhglcdkegigaaDoor
open Go.RowKit

abbrev Eqn := Ty × Ty
abbrev EV := (Value × Value) × (Value × Value)
def flat4 (vs : List EV) : List Value := vs.flatMap fun p => [p.1.1, p.1.2, p.2.1, p.2.2]
theorem flat4_length (vs : List EV) : (flat4 vs).length = vs.length * 4 := by
  induction vs with
  | nil => rfl
  | cons v r ih => simp only [flat4, List.flatMap_cons, List.length_append, List.length_cons, List.length_nil] at ih ⊢; omega
theorem flat4_at : ∀ (vs : List EV) (i : Nat) (p : EV), vs[i]? = some p → (flat4 vs)[i * 4]? = some p.1.1 ∧ (flat4 vs)[i * 4 + 1]? = some p.1.2 ∧ (flat4 vs)[i * 4 + 2]? = some p.2.1 ∧ (flat4 vs)[i * 4 + 3]? = some p.2.2
  | [], i, p, h => by simp at h
  | v :: r, 0, p, h => by
    simp at h
    subst h
    simp [flat4]
  | v :: r, i + 1, p, h => by
    have := flat4_at r i p (by simpa using h)
    have e : (i + 1) * 4 = i * 4 + 4 := by omega
    rw [e]
    simpa [flat4] using this
theorem flat4_append (a b : List EV) : flat4 (a ++ b) = flat4 a ++ flat4 b := by simp [flat4]

/-- Two types at four cells' values. -/
def EqIs (w : World) (S : Nat → Prop) (x : Eqn) (p : EV) : Prop := TyIs w S x.1 p.1.1 p.1.2 ∧ TyIs w S x.2 p.2.1 p.2.2
theorem EqIs.keep {w w' : World} {S : Nat → Prop} {x : Eqn} {p : EV} (h : EqIs w S x p) (hk : Kept S w w') : EqIs w' S x p := ⟨h.1.keep hk, h.2.keep hk⟩
theorem EqIs.more {w : World} {S S' : Nat → Prop} {x : Eqn} {p : EV} (h : EqIs w S x p) (hS : ∀ b, S b → S' b) : EqIs w S' x p := ⟨h.1.more hS, h.2.more hS⟩
theorem EqIs.shape {w : World} {S : Nat → Prop} {x : Eqn} {p : EV} (h : EqIs w S x p) : ∃ (n m : List UInt8) (a b : Option Addr × Nat × Nat), p = ((sv n, .slice a.1 a.2.1 a.2.2), (sv m, .slice b.1 b.2.1 b.2.2)) := by
  obtain ⟨⟨p1, p2⟩, p3, p4⟩ := p
  obtain ⟨h1, h2⟩ := h
  obtain ⟨n, a, e1, e2⟩ := h1.shape
  obtain ⟨m, b, e3, e4⟩ := h2.shape
  dsimp only at e1 e2 e3 e4
  exact ⟨n, m, a, b, by rw [e1, e2, e3, e4]⟩

/-- A row of equations of one's own: all lies from lo on; the first pl have types in plain blocks. -/
structure EqAt (lo pl : Nat) (E : List Eqn) (lv : Value) (vs : List EV) (w : World) : Prop where
  own : w.ownsRow lo 47 4 lv E.length (flat4 vs)
  len : vs.length = E.length
  each : ∀ (i : Nat) (x : Eqn) (p : EV), E[i]? = some x → vs[i]? = some p → EqIs w (fun y => lo ≤ y ∧ y < w.heap.size ∧ some y ≠ lv.ownBlock ∧ (i < pl → PlainB w y)) x p
theorem EqAt.kept {lo pl : Nat} {E : List Eqn} {lv : Value} {vs : List EV} {w w' : World} {M : Nat → Prop} (h : EqAt lo pl E lv vs w) (hk : Kp M w w') (hM : ∀ y, M y → y < lo) : EqAt lo pl E lv vs w' := by
  refine ⟨hk.own h.own (fun g hg e => by have := hM g e; have := (h.own.lt g hg).1; omega), h.len, fun i x p hx hp => ?_⟩
  exact ((h.each i x p hx hp).keep (hk.kept fun b hb => ⟨hb.2.1, fun e => by have := hM b e; have := hb.1; omega⟩)).more fun b hb => ⟨hb.1, Nat.lt_of_lt_of_le hb.2.1 hk.size, hb.2.2.1, fun hi => (hb.2.2.2 hi).same (hk.block b hb.2.1 (fun e => by have := hM b e; have := hb.1; omega))⟩
theorem EqAt.below {lo pl : Nat} {E : List Eqn} {lv : Value} {vs : List EV} {w w' : World} (h : EqAt lo pl E lv vs w) (hb : Below w.heap.size w w') : EqAt lo pl E lv vs w' := h.kept (M := fun _ => False) (Kp.ofBelow hb) (fun _ e => e.elim)
theorem EqAt.shape {lo pl : Nat} {E : List Eqn} {lv : Value} {vs : List EV} {w : World} (h : EqAt lo pl E lv vs w) : ∃ A c, lv = .slice A E.length c ∧ E.length ≤ c ∧ c ≤ maxLen ∧ (0 < E.length → ∃ g, A = some ⟨g, 0, none⟩) := by
  rcases h.own.2 with ⟨hv, h0⟩ | ⟨g, cap, cur, hv, _, _, h1, h2, _⟩
  · exact ⟨none, 0, by rw [hv, h0], by omega, Nat.zero_le _, fun h => by omega⟩
  · exact ⟨_, cap, hv, h1, h2, fun _ => ⟨g, rfl⟩⟩
theorem EqAt.push {lo : Nat} {E : List Eqn} {lv : Value} {vs : List EV} {w w' : World} {x : Eqn} {p : EV} {g cap : Nat} (h : EqAt lo 0 E lv vs w) (hx : EqIs w (fun y => lo ≤ y ∧ y < w.heap.size ∧ some y ≠ lv.ownBlock) x p)
    (hown : w'.ownsRow lo 47 4 (.slice (some ⟨g, 0, none⟩) (E.length + 1) cap) (E.length + 1) (flat4 vs ++ [p.1.1, p.1.2, p.2.1, p.2.2])) (hg : w.grownBy w' lv.ownBlock) (hat : lv.ownBlock = some g ∨ w.heap.size ≤ g) :
    EqAt lo 0 (E ++ [x]) (.slice (some ⟨g, 0, none⟩) (E.length + 1) cap) (vs ++ [p]) w' := by
  have mv : ∀ {x : Eqn} {p : EV}, EqIs w (fun y => lo ≤ y ∧ y < w.heap.size ∧ some y ≠ lv.ownBlock) x p → ∀ i, EqIs w' (fun y => lo ≤ y ∧ y < w'.heap.size ∧ some y ≠ (Value.slice (some ⟨g, 0, none⟩) (E.length + 1) cap).ownBlock ∧ (i < 0 → PlainB w' y)) x p := fun hh i => by
    refine (hh.keep (keptGrown hg fun y hy => ⟨hy.2.1, hy.2.2⟩)).more fun y hy => ⟨hy.1, Nat.lt_of_lt_of_le hy.2.1 hg.size, fun e => ?_, fun h0 => absurd h0 (Nat.not_lt_zero _)⟩
    have e' : y = g := Option.some.inj e
    rcases hat with hat | hat
    · exact hy.2.2 (by rw [hat, e'])
    · have := hy.2.1; omega
  refine ⟨?_, by simp [h.len], fun i y q hy hq => ?_⟩
  · rw [List.length_append, List.length_singleton, flat4_append]
    exact hown
  · rcases Nat.lt_or_ge i E.length with hi | hi
    · rw [List.getElem?_append_left hi] at hy
      rw [List.getElem?_append_left (by rw [h.len]; exact hi)] at hq
      exact mv ((h.each i y q hy hq).more fun b hb => ⟨hb.1, hb.2.1, hb.2.2.1⟩) i
    · have hi0 : i - E.length = 0 := by
        have := (List.getElem?_eq_some_iff.1 hy).1
        simp at this
        omega
      rw [List.getElem?_append_right hi, hi0] at hy
      rw [List.getElem?_append_right (by rw [h.len]; exact hi), h.len, hi0] at hq
      simp at hy hq
      subst hy hq
      exact mv hx i

theorem infoE : (Tryd.prog.info? 47).map (fun i => (i.zero, i.size, i.bytes)) = some (some (.agg #[.string ⟨#[]⟩, .slice none 0 0, .string ⟨#[]⟩, .slice none 0 0]), 4, 80) := by kernel_rfl

def DEq (x : Eqn) : Prop := (∃ d ≤ 2, DTy d x.1) ∧ ∃ d ≤ 2, DTy d x.2
def EqsRes (dd : Nat) (xs : List Int) (w : World) (e : Ending) (w' : World) : Prop :=
  ∃ E lv vs, e = .returned lv ∧ EqAt w.heap.size 0 E lv vs w' ∧ E.length ≤ 7 ∧ (∀ x ∈ E, DEq x) ∧ Thrown dd xs w w'

set_option maxHeartbeats 8000000 in
set_option maxRecDepth 100000 in
theorem equations_any (dd : Nat) (xs : List Int) (w : World) (hD : DiceAt w dd xs) : Calls Tryd.prog 20 #[.pointer (some ⟨dd, 0, none⟩)] w (EqsRes dd xs w) := by
  have hdl := hD.lt
  have NX := Lib.hid (next_any 8 dd xs w (by omega) (by omega) hD)
  obtain ⟨i0, hi, hz0, hz1, hz2⟩ := info_parts infoE
  clear hD
  go_enter Tryd.func20, Tryd.ntmps20
  go_wp2_with fail
  refine NX.out.mono ?_
  rintro e w1 ⟨n0, hn0, rfl, hD1, hK1⟩
  have HD1 := Lib.hid hD1
  have HK1 := Lib.hid hK1
  clear hD1 hK1
  go_wp2_with fail
  go_loopw [3, 4] (fun lv i wr => ∃ (n : Nat) (E : List Eqn) (vs : List EV), i = .int .i64 (n : Int) ∧ n + E.length ≤ 7 ∧ EqAt w.heap.size 0 E lv vs wr ∧ (∀ x ∈ E, DEq x) ∧ DiceAt wr dd xs ∧ Kp (fun y => y = dd) w wr) (fun _ i _ => (intOf i).toNat)
  case atStart => exact ⟨n0, [], [], rfl, by simp; omega, ⟨World.ownsRow_nil _ _ _ _, rfl, fun i x p hx => by simp at hx⟩, (fun x hx => by cases hx), HD1.out, HK1.out⟩
  case round =>
    obtain ⟨n, E, vs, rfl, hn, hE, hQ, hD, hK⟩ := hrel
    obtain ⟨OA, oc, rfl, hoc1, hoc2, _⟩ := hE.shape
    obtain ⟨m, hm⟩ : ∃ m, m = E.length := ⟨_, rfl⟩
    rw [← hm] at hn hoc1 hE ⊢
    have HM := Lib.hid hm
    have HE := Lib.hid hE
    have HQ := Lib.hid hQ
    have HK := Lib.hid hK
    clear hm hE hQ hK
    by_cases hgt : 0 < n
    · have hg1 : decide ((n : Int) > 0) = true := by simp; omega
      have NX1 := Lib.hid (next_any 3 dd xs wr (by omega) (by omega) hD)
      clear hD
      go_wp2_with fail
      refine NX1.out.mono ?_
      rintro e w2 ⟨a1, ha1, rfl, hD2, hK2⟩
      have TY1 := Lib.hid (dtype_any a1 dd xs w2 (by omega) hD2)
      have HK2 := Lib.hid (HK.out.one hK2)
      have hwr2 := hK2.size
      have HE2 := Lib.hid (HE.out.kept hK2 (fun y hy => by omega))
      clear hD2 hK2
      go_wp2_with fail
      refine TY1.out.mono ?_
      rintro e w3 ⟨t1, u1, v1, rfl, hd1, hT1, hD3, hK3⟩
      obtain ⟨u1, v1, rfl, rfl⟩ := hT1.shape
      have NX2 := Lib.hid (next_any 3 dd xs w3 (by omega) (by omega) hD3)
      have HK3 := Lib.hid (HK2.out.one hK3)
      have HE3 := Lib.hid (HE2.out.kept hK3 (fun y hy => by omega))
      have HT1 := Lib.hid hT1
      have HD1' := Lib.hid hd1
      have hwr3 := hK3.size
      clear hD3 hK3 hT1 hd1
      go_wp2_with fail
      refine NX2.out.mono ?_
      rintro e w4 ⟨a2, ha2, rfl, hD4, hK4⟩
      have TY2 := Lib.hid (dtype_any a2 dd xs w4 (by omega) hD4)
      have HT14 : Hid (TyIs w4 (Fr w2.heap.size w3.heap.size) t1 (sv u1) (.slice v1.1 v1.2.1 v1.2.2)) := Lib.hid (HT1.out.keep (hK4.kept fun b hb => ⟨hb.2, fun e => by have := hb.1; have := HK2.out.size; omega⟩))
      have HK4 := Lib.hid (HK3.out.one hK4)
      have HE4 := Lib.hid (HE3.out.kept hK4 (fun y hy => by omega))
      have hwr4 := hK4.size
      clear hD4 hK4
      go_wp2_with fail
      refine TY2.out.mono ?_
      rintro e w5 ⟨t2, u2, v2, rfl, hd2, hT2, hD5, hK5⟩
      obtain ⟨u2, v2, rfl, rfl⟩ := hT2.shape
      have HT15 : Hid (TyIs w5 (Fr w2.heap.size w3.heap.size) t1 (sv u1) (.slice v1.1 v1.2.1 v1.2.2)) := Lib.hid (HT14.out.keep (hK5.kept fun b hb => ⟨Nat.lt_of_lt_of_le hb.2 hwr4, fun e => by have := hb.1; have := HK2.out.size; omega⟩))
      have HK5 := Lib.hid (HK4.out.one hK5)
      have HE5 := Lib.hid (HE4.out.kept hK5 (fun y hy => by omega))
      have HT2 := Lib.hid hT2
      have HD2' := Lib.hid hd2
      have HD5 := Lib.hid hD5
      have hwr5 := hK5.size
      have hown := HE5.out.own
      rw [← HM.out] at hown
      have hszo := HK5.out.size
      have hbx : Below w5.heap.size w5 (w5.alloc (.cells #[sv u1, .slice v1.1 v1.2.1 v1.2.2, sv u2, .slice v2.1 v2.2.1 v2.2.2] 47)) := (Below.refl _ _).alloc (Nat.le_refl _) _
      have HBX := Lib.hid hbx
      have hrow : ∀ y, (Value.slice OA m oc).ownBlock = some y → y < wr.heap.size := fun y hy => (HE.out.own.lt y hy).2
      have HROW := Lib.hid hrow
      have HX : Hid (EqIs (w5.alloc (.cells #[sv u1, .slice v1.1 v1.2.1 v1.2.2, sv u2, .slice v2.1 v2.2.1 v2.2.2] 47)) (fun y => w.heap.size ≤ y ∧ y < (w5.alloc (.cells #[sv u1, .slice v1.1 v1.2.1 v1.2.2, sv u2, .slice v2.1 v2.2.1 v2.2.2] 47)).heap.size ∧ some y ≠ (Value.slice OA m oc).ownBlock) (t1, t2) ((sv u1, .slice v1.1 v1.2.1 v1.2.2), (sv u2, .slice v2.1 v2.2.1 v2.2.2))) := Lib.hid ⟨
        (HT15.out.keep ((kept_below hbx).sub fun b hb => by have := hb.2; show b < w5.heap.size; omega)).more fun b hb => ⟨by have := hb.1; have := HK2.out.size; omega, by have := hb.2; simp; omega, fun e => by have := hrow b e.symm; have := hb.1; omega⟩,
        (HT2.out.keep ((kept_below hbx).sub fun b hb => hb.2)).more fun b hb => ⟨by have := hb.1; have := HK4.out.size; omega, by have := hb.2; simp; omega, fun e => by have := hrow b e.symm; have := hb.1; omega⟩⟩
      clear hT2 hd2 hD5 hK5 hbx hrow
      go_wp2_with (at_builtin; refine wpList_append_lies _ rfl _ _ 43 rfl w.heap.size 47 i0 _ 4 80 Tryd.underlying43 hi hz0 hz1 hz2 rfl (by omega) _ m (flat4 vs) rfl (hown.alloc _) ⟨w5.heap.size, 0, none⟩ 1 1 [sv u1, .slice v1.1 v1.2.1 v1.2.2, sv u2, .slice v2.1 v2.2.1 v2.2.2] rfl rfl ?d1 ?d2 (by omega) ?d3 ?d4 ?d5 _ rfl ?_)
      case d1 => exact World.news_of_block (cs := #[sv u1, .slice v1.1 v1.2.1 v1.2.2, sv u2, .slice v2.1 v2.2.1 v2.2.2]) (alloc1 w5 _)
      case d2 => simp [Value.oneCell']
      case d3 => unfold maxLen; omega
      case d4 => omega
      case d5 => simp; omega
      intro g cap w6 hown6 hgrow hat _
      have hK6 : Kp (fun y => y = dd) w w6 := (HK5.out.alloc _).grown hgrow fun r hr hrl => by have := (hown.lt _ hr).1; omega
      have hD6 : DiceAt w6 dd xs := (HD5.out.below HBX.out).keep (M := fun y => w.heap.size ≤ y) ⟨hgrow.os, hgrow.tape, hgrow.output, hgrow.size, fun x hx hM => hgrow.block x hx fun e => hM (hown.lt _ e.symm).1⟩ (fun y hy => by omega)
      have HK6 := Lib.hid hK6
      have HD6 := Lib.hid hD6
      have hE6 := (HE5.out.below HBX.out).push (x := (t1, t2)) (p := ((sv u1, .slice v1.1 v1.2.1 v1.2.2), (sv u2, .slice v2.1 v2.2.1 v2.2.2))) HX.out (by rw [← HM.out]; exact hown6) hgrow (hat.imp id fun e => by rw [e]; simp)
      rw [← HM.out] at hE6
      have HE6 := Lib.hid hE6
      clear hE6 hK6 hD6 hown6 hgrow hat hown
      go_wp2
      go_roundw
      case rel => exact ⟨n - 1, E ++ [(t1, t2)], _, by go_num, by have := HM.out; simp; omega, HE6.out, (fun x hx => by
        rcases List.mem_append.1 hx with h1 | h1
        · exact HQ.out x h1
        · rw [List.mem_singleton.1 h1]
          exact ⟨⟨a1, by omega, HD1'.out⟩, ⟨a2, by omega, HD2'.out⟩⟩), HD6.out, HK6.out⟩
      case measure => simp [intOf]; omega
    · obtain rfl : n = 0 := by omega
      have HD := Lib.hid hD
      clear hD
      have hE := HE.out
      go_wp2
      go_ret
      exact ⟨E, _, vs, rfl, by have := HE.out; exact this, by have := HM.out; omega, HQ.out, HD.out, HK.out⟩
end Go.Proofs.YtndhglcdkegigaaDoor
