/-
  The walk of traits.Leads where no implementation is asked: a parameter, or the type error.
  Conditions: the arguments read as they must.
-/
import Derived.Test.YtllodnlkphapgaaDoorGoal
namespace Go.Proofs.YtllodnlkphapgaaDoor
open Go.RowKit

/-- A slice of goals. -/
structure Gls (w : World) (S : Nat → Prop) (A : Option Addr) (gs : List Goal) (vs : List GV) : Prop where
  len : vs.length = gs.length
  row : Row w S A (flat3 vs)
  each : ∀ (i : Nat) (g : Goal) (q : GV), gs[i]? = some g → vs[i]? = some q → GlIs w S g q
theorem Gls.keep {w w' : World} {S : Nat → Prop} {A : Option Addr} {gs : List Goal} {vs : List GV} (h : Gls w S A gs vs) (hk : Kept S w w') : Gls w' S A gs vs := ⟨h.len, h.row.keep hk, fun i t p ht hp => (h.each i t p ht hp).keep hk⟩
theorem Gls.more {w : World} {S S' : Nat → Prop} {A : Option Addr} {gs : List Goal} {vs : List GV} (h : Gls w S A gs vs) (hS : ∀ b, S b → S' b) : Gls w S' A gs vs := ⟨h.len, h.row.more hS, fun i t p ht hp => (h.each i t p ht hp).more hS⟩
theorem Gls.now {w w' : World} {n : Nat} {A : Option Addr} {gs : List Goal} {vs : List GV} (h : Gls w (Lt n) A gs vs) (hn : n ≤ w.heap.size) (hb : Below w.heap.size w w') : Gls w' (Lt w'.heap.size) A gs vs :=
  (h.keep (kept_below (hb.mono hn))).more fun _ h => Nat.lt_of_lt_of_le h (Nat.le_trans hn hb.size)
theorem Gls.nil (w : World) (S : Nat → Prop) (A : Option Addr) : Gls w S A [] [] := ⟨rfl, Row.nil _ _ _, fun i t p h => by simp at h⟩
theorem Gls.at_ {w : World} {S : Nat → Prop} {A : Option Addr} {gs : List Goal} {vs : List GV} {i : Nat} {g : Goal} (H : Gls w S A gs vs) (hi : gs[i]? = some g) :
    ∃ (ad : Addr) (q : GV), A = some ad ∧ S ad.block ∧ vs[i]? = some q ∧ w.cell? (ad.add (i * 3)) = some q.1 ∧ w.cell? ⟨(ad.add (i * 3)).block, (ad.add (i * 3)).off + 1, none⟩ = some q.2.1 ∧ w.cell? ⟨(ad.add (i * 3)).block, (ad.add (i * 3)).off + 2, none⟩ = some q.2.2 ∧ GlIs w S g q := by
  have hlt := (List.getElem?_eq_some_iff.1 hi).1
  have hp : vs[i]? = some (vs[i]'(by rw [H.len]; exact hlt)) := List.getElem?_eq_getElem _
  obtain ⟨e0, e1, e2⟩ := flat3_at _ _ _ hp
  obtain ⟨ad, rfl, hS, c0⟩ := H.row.at_ e0
  obtain ⟨_, h', _, c1⟩ := H.row.at_ e1
  obtain rfl := Option.some.inj h'
  obtain ⟨_, h', _, c2⟩ := H.row.at_ e2
  obtain rfl := Option.some.inj h'
  rw [← addAdd] at c1 c2
  exact ⟨ad, _, rfl, hS, hp, c0, c1, c2, H.each i g _ hi hp⟩

def LeadsRes (r : List Goal × Bool) (w : World) (e : Ending) (w' : World) : Prop :=
  ∃ (A : Option Addr) (n c : Nat) (vs : List GV), e = .returned (.tuple #[.slice A n c, .bool r.2]) ∧ n = r.1.length ∧ Gls w' (Fr w.heap.size w'.heap.size) A r.1 vs ∧ Below w.heap.size w w'

set_option maxHeartbeats 2000000 in
set_option maxRecDepth 100000 in
theorem leads_par (tr nm : List UInt8) (a : Option Addr × Nat × Nat) (LA SA : Option Addr) (ln lc sn sc : Nat) (w : World) (hp : (cutD nm).2 = true) :
    Calls Tryd.prog 28 #[.slice LA ln lc, .slice SA sn sc, .agg #[sv tr, sv nm, .slice a.1 a.2.1 a.2.2]] w (LeadsRes ([], decide ((cutD nm).1 = tr)) w) := by
  obtain ⟨x, hx⟩ : ∃ x, cutD nm = (x, true) := ⟨(cutD nm).1, by rw [← hp]⟩
  have hcut := cut_any nm
  rw [hx] at hcut ⊢
  have hdec := bytes_dec x tr
  have HC := Lib.hid hcut
  have HX := Lib.hid hx
  clear hcut hx hp
  go_enter Tryd.func28, Tryd.ntmps28
  go_wp2_with fail
  refine (HC.out _).mono ?_
  rintro e w1 ⟨rfl, rfl⟩
  go_wp2_with fail
  go_quiet (fail)
  go_wp2_with fail
  refine bodyPost_ret (v := .tuple #[.slice none 0 0, .bool (decide (x = tr))]) (by simp [results, Tryd.results28, go_sem]) rfl ?_
  exact ⟨none, 0, 0, [], rfl, rfl, Gls.nil _ _ _, belowDrewN ((Below.refl _ _).alloc (Nat.le_refl _) _) _⟩

set_option maxHeartbeats 2000000 in
set_option maxRecDepth 100000 in
theorem leads_err (tr : List UInt8) (a : Option Addr × Nat × Nat) (LA SA : Option Addr) (ln lc sn sc : Nat) (w : World) :
    Calls Tryd.prog 28 #[.slice LA ln lc, .slice SA sn sc, .agg #[sv tr, sv errName, .slice a.1 a.2.1 a.2.2]] w (LeadsRes ([], true) w) := by
  have hb : ((bs errName).toList == [101, 114, 114, 111, 114]) = true := by rw [Lib.toList_data, bs_data]; decide
  have HC := Lib.hid (cut_any errName)
  go_enter Tryd.func28, Tryd.ntmps28
  go_wp2_with fail
  refine (HC.out _).mono ?_
  rw [show cutD errName = (errName, false) from rfl]
  rintro e w1 ⟨rfl, rfl⟩
  go_wp2_with fail
  refine bodyPost_ret (v := .tuple #[.slice none 0 0, .bool true]) (by simp [results, Tryd.results28, go_sem]) rfl ?_
  exact ⟨none, 0, 0, [], rfl, rfl, Gls.nil _ _ _, (Below.refl _ _).alloc (Nat.le_refl _) _⟩
end Go.Proofs.YtllodnlkphapgaaDoor
