/-
  The walks of ref.alike and ref.Empty; how ref.Of goes on, step by step.
  Conditions: the messages lie in memory.
-/
import Derived.Test.YtlgdminpkkhejaaDtU
namespace Go.Proofs.Ytlgdminpkkhejaa
open Go.RowKit

set_option maxHeartbeats 1000000 in
set_option maxRecDepth 100000 in
theorem alike_any (x m : Msg) (w : World) : Calls Try.prog 35 #[msV x, msV m] w fun e w' => e = .returned (.bool (alk m x)) ∧ Below w.heap.size w w' := by
  have hb : Below w.heap.size w ((w.alloc (.cells #[.int .i64 x.1, .int .i64 x.2.1, sv x.2.2] 40)).alloc (.cells #[.int .i64 m.1, .int .i64 m.2.1, sv m.2.2] 40)) := ((Below.refl _ _).alloc (Nat.le_refl _) _).alloc (by simp) _
  have HB := Lib.hid hb
  clear hb
  unfold alk
  by_cases h1 : x.2.1 = m.2.1
  · have q1 : (x.2.1 == m.2.1) = true := by simp [h1]
    by_cases h2 : x.2.2 = m.2.2
    · have q2 : ((bs x.2.2).toList == (bs m.2.2).toList) = true := by simp [bs_toList, h2]
      have h3 : x.2 = m.2 := Prod.ext h1 h2
      rw [decide_eq_true h3]
      clear h1 h2 h3
      go_enter Try.func35, Try.ntmps35
      go_wp2
      go_ret
      exact ⟨rfl, HB.out⟩
    · have q2 : ((bs x.2.2).toList == (bs m.2.2).toList) = false := by simp [bs_toList, h2]
      have h3 : ¬ x.2 = m.2 := fun h => h2 (congrArg Prod.snd h)
      rw [decide_eq_false h3]
      clear h1 h2 h3
      go_enter Try.func35, Try.ntmps35
      go_wp2
      go_ret
      exact ⟨rfl, HB.out⟩
  · have q1 : (x.2.1 == m.2.1) = false := by simp [h1]
    have h3 : ¬ x.2 = m.2 := fun h => h1 (congrArg Prod.fst h)
    rw [decide_eq_false h3]
    clear h1 h3
    go_enter Try.func35, Try.ntmps35
    go_wp2
    go_ret
    exact ⟨rfl, HB.out⟩
set_option maxHeartbeats 1000000 in
set_option maxRecDepth 100000 in
theorem rempty_any (S : Nat → Prop) (d : Dl) (v : Value) (w : World) (h : DlV w S v d) (hl : d.gone.length ≤ 1000000 ∧ d.come.length ≤ 1000000 ∧ d.moved.length ≤ 1000000) :
    Calls Try.prog 21 #[v] w fun e w' => e = .returned (.bool (decide (d.gone.length + d.come.length + d.moved.length = 0))) ∧ Below w.heap.size w w' := by
  obtain ⟨A1, A2, A3, c1, c2, c3, rfl, _⟩ := h
  obtain ⟨a, ha⟩ : ∃ a, a = d.gone.length := ⟨_, rfl⟩
  obtain ⟨b, hb⟩ : ∃ b, b = d.come.length := ⟨_, rfl⟩
  obtain ⟨c, hc⟩ : ∃ c, c = d.moved.length := ⟨_, rfl⟩
  rw [← ha, ← hb, ← hc] at hl ⊢
  clear ha hb hc
  have HB : Hid (Below w.heap.size w (w.alloc (.cells #[.slice A1 a c1, .slice A2 b c2, .slice A3 c c3] 25))) := Lib.hid ((Below.refl _ _).alloc (Nat.le_refl _) _)
  obtain ⟨hl1, hl2, hl3⟩ := hl
  go_enter Try.func21, Try.ntmps21
  go_wp2
  go_ret
  refine ⟨?_, HB.out⟩
  show Ending.returned (Value.bool ((a : Int) + (b : Int) + (c : Int) == 0)) = _
  congr 2
  rw [Bool.eq_iff_iff]
  simp
  omega
theorem rest_yes : ∀ (o l : List Msg) (m : Msg), m ∈ dif l o → rest l (o ++ [m]) = rest l o
  | [], l, m, h => by
    show (if m ∈ l then [] else [m]) = []
    exact if_pos h
  | x :: o, l, m, h => by
    have h' : m ∈ dif (l.erase x) o := h
    by_cases hx : x ∈ l
    · have e1 : ∀ o, rest l (x :: o) = rest (l.erase x) o := fun o => if_pos hx
      rw [List.cons_append, e1, e1]
      exact rest_yes o (l.erase x) m h'
    · have e1 : ∀ o, rest l (x :: o) = x :: rest l o := fun o => if_neg hx
      rw [List.erase_of_not_mem hx] at h'
      rw [List.cons_append, e1, e1, rest_yes o l m h']
theorem rest_no : ∀ (o l : List Msg) (m : Msg), ¬ m ∈ dif l o → rest l (o ++ [m]) = rest l o ++ [m]
  | [], l, m, h => by
    show (if m ∈ l then [] else [m]) = [m]
    exact if_neg h
  | x :: o, l, m, h => by
    have h' : ¬ m ∈ dif (l.erase x) o := h
    by_cases hx : x ∈ l
    · have e1 : ∀ o, rest l (x :: o) = rest (l.erase x) o := fun o => if_pos hx
      rw [List.cons_append, e1, e1]
      exact rest_no o (l.erase x) m h'
    · have e1 : ∀ o, rest l (x :: o) = x :: rest l o := fun o => if_neg hx
      rw [List.erase_of_not_mem hx] at h'
      rw [List.cons_append, e1, e1, rest_no o l m h']
      rfl

/-- How far ref.Of has come in its second part. -/
structure RoInv (B D : Nat) (u w : World) (lv cv mv : Value) (st : List Msg × List (Msg × Msg) × List Msg) : Prop where
  kp : Kp (fun y => y = D) u w
  blk : w.heap[D]? = some (.cells #[.slice none 0 0, cv, mv] 25 (0, 0))
  left : w.ownsRow B 40 3 lv st.2.2.length (flt msC st.2.2)
  come : w.ownsRow u.heap.size 40 3 cv st.1.length (flt msC st.1)
  move : w.ownsRow u.heap.size 42 5 mv (st.2.1.map mvOf).length (flt mvC (st.2.1.map mvOf))
  lne : ∀ g, lv.ownBlock = some g → g ≠ D ∧ cv.ownBlock ≠ some g ∧ mv.ownBlock ≠ some g
  cne : ∀ g, cv.ownBlock = some g → mv.ownBlock ≠ some g
theorem RoInv.below {B D : Nat} {u w w' : World} {lv cv mv : Value} {st : List Msg × List (Msg × Msg) × List Msg} (h : RoInv B D u w lv cv mv st) (hb : Below w.heap.size w w') : RoInv B D u w' lv cv mv st :=
  ⟨h.kp.below hb, (hb.block _ (lt_of_heap h.blk)).trans h.blk, (Kp.ofBelow (M := fun _ => False) hb).own h.left fun _ _ e => e, (Kp.ofBelow (M := fun _ => False) hb).own h.come fun _ _ e => e, (Kp.ofBelow (M := fun _ => False) hb).own h.move fun _ _ e => e, h.lne, h.cne⟩
/-- A message more has come. -/
theorem RoInv.comes {B D : Nat} {u w w' : World} {lv cv mv : Value} {st : List Msg × List (Msg × Msg) × List Msg} {m : Msg} {vg vcap : Nat} (h : RoInv B D u w lv cv mv st) (hD : D < u.heap.size) (hBu : B ≤ u.heap.size) (hk : Kp (fun y => cv.ownBlock = some y) w w')
    (hown : w'.ownsRow u.heap.size 40 3 (.slice (some ⟨vg, 0, none⟩) (st.1.length + 1) vcap) (st.1.length + 1) (flt msC (st.1 ++ [m]))) (hat : cv.ownBlock = some vg ∨ w.heap.size ≤ vg) :
    RoInv B D u (w'.setCell ⟨D, 1, none⟩ (.slice (some ⟨vg, 0, none⟩) (st.1.length + 1) vcap)) lv (.slice (some ⟨vg, 0, none⟩) (st.1.length + 1) vcap) mv (st.1 ++ [m], st.2.1, st.2.2) := by
  have hcl := h.come.lt
  have hll := h.left.lt
  have hml := h.move.lt
  have hus := h.kp.size
  have hvg : vg ≠ D := by
    rcases hat with e | e
    · have := (hcl _ e).1
      omega
    · omega
  have hblk := hk.heap h.blk fun e => by have := (hcl _ e).1; omega
  have hks : Kp (fun y => y = D) w' (w'.setCell ⟨D, 1, none⟩ (.slice (some ⟨vg, 0, none⟩) (st.1.length + 1) vcap)) := Kp.setCell (M := fun y => y = D) (Kp.refl _ _) (fun _ => rfl) _
  refine ⟨(h.kp.trans hk fun y hy e => by have := (hcl _ e).1; omega).trans hks fun _ _ e => e, setCell_heap hblk, ?_, ?_, ?_, ?_, ?_⟩
  · exact hks.own (hk.own h.left fun g hg e => (h.lne g hg).2.1 e) fun g hg => (h.lne g hg).1
  · have := hks.own hown fun g hg e => by
      obtain rfl : vg = g := by simpa [Value.ownBlock] using hg
      exact hvg e
    simpa using this
  · exact hks.own (hk.own h.move fun g hg e => h.cne g e hg) fun g hg e => by have := (hml g hg).1; omega
  · intro g hg
    refine ⟨(h.lne g hg).1, fun e => ?_, (h.lne g hg).2.2⟩
    obtain rfl : vg = g := by simpa [Value.ownBlock] using e
    rcases hat with e | e
    · exact (h.lne _ hg).2.1 e
    · have := (hll _ hg).2
      omega
  · intro g hg e
    obtain rfl : vg = g := by simpa [Value.ownBlock] using hg
    rcases hat with e' | e'
    · exact h.cne _ e' e
    · have := (hml _ e).2
      omega
/-- A move more. -/
theorem RoInv.moves {B D : Nat} {u w w' : World} {lv cv mv lv' mv' : Value} {st : List Msg × List (Msg × Msg) × List Msg} {x m : Msg} (h : RoInv B D u w lv cv mv st) (hD : D < u.heap.size) (hBu : B ≤ u.heap.size) (hb : Below w.heap.size w w')
    (hl : w'.ownsRow w.heap.size 40 3 lv' (st.2.2.erase x).length (flt msC (st.2.2.erase x))) (hm : w'.ownsRow w.heap.size 42 5 mv' ((st.2.1 ++ [(x, m)]).map mvOf).length (flt mvC ((st.2.1 ++ [(x, m)]).map mvOf)))
    (hne : ∀ g, lv'.ownBlock = some g → mv'.ownBlock ≠ some g) :
    RoInv B D u (w'.setCell ⟨D, 2, none⟩ mv') lv' cv mv' (st.1, st.2.1 ++ [(x, m)], st.2.2.erase x) := by
  have hcl := h.come.lt
  have hll := hl.lt
  have hml := hm.lt
  have hus := h.kp.size
  have h1 := h.below hb
  have hks : Kp (fun y => y = D) w' (w'.setCell ⟨D, 2, none⟩ mv') := Kp.setCell (M := fun y => y = D) (Kp.refl _ _) (fun _ => rfl) _
  refine ⟨h1.kp.trans hks fun _ _ e => e, setCell_heap h1.blk, ?_, ?_, ?_, ?_, ?_⟩
  · exact hks.own (ownMono hl (by omega)) fun g hg e => by have := (hll g hg).1; omega
  · exact hks.own h1.come fun g hg e => by have := (hcl g hg).1; omega
  · exact hks.own (ownMono hm (by omega)) fun g hg e => by have := (hml g hg).1; omega
  · intro g hg
    have h2 := hll g hg
    refine ⟨by omega, fun e => ?_, hne g hg⟩
    have := hcl g e
    omega
  · intro g hg e
    have h2 := hcl g hg
    have h3 := hml g e
    omega
end Go.Proofs.Ytlgdminpkkhejaa
