/-
  The walk of traits.Check.
  Conditions: the arguments read as a tree, a type and known signatures.
  The walk of recompileref11.Known.
  Conditions: the argument reads as known signatures.
-/
import Derived.Test.YtiijlecidepneaaCkB
namespace Go.Proofs.Ytiijlecidepneaa
section
open Go.RowKit Go.MapKept
/-! ### What Check returns -/
open Classical in
noncomputable def lacks (ks : List Tr) (at_ : Int) (l : List Kn) : List Dg := (l.filter fun k => decide (¬ HasFn ks k.1)).map fun k => (13, at_, k.1)
open Classical in
theorem lacks_yes {ks : List Tr} {a : Int} {l : List Kn} {k : Nat} {q : Kn} (h : l[k]? = some q) (hq : ¬ HasFn ks q.1) : lacks ks a (l.take (k + 1)) = lacks ks a (l.take k) ++ [(13, a, q.1)] := by
  unfold lacks
  rw [take_snoc h, List.filter_append, List.map_append]
  simp [hq]
open Classical in
theorem lacks_no {ks : List Tr} {a : Int} {l : List Kn} {k : Nat} {q : Kn} (h : l[k]? = some q) (hq : HasFn ks q.1) : lacks ks a (l.take (k + 1)) = lacks ks a (l.take k) := by
  unfold lacks
  rw [take_snoc h, List.filter_append, List.map_append]
  simp [hq]
theorem lacks_len (ks : List Tr) (a : Int) (l : List Kn) (k : Nat) : (lacks ks a (l.take k)).length ≤ k := by
  unfold lacks
  rw [List.length_map]
  exact Nat.le_trans (List.length_filter_le _ _) (List.length_take_le _ _)
/-- The first of a name. -/
def firstOf {β : Type} (l : List (List UInt8 × β)) (d : List UInt8) : Option β := (l.find? fun k => decide (k.1 = d)).map (·.2)
theorem firstOf_some {β : Type} {l : List (List UInt8 × β)} {d : List UInt8} {k : Nat} {q : List UInt8 × β} {v : β} (h : l[k]? = some q) (hv : firstOf (l.take k) d = some v) : firstOf (l.take (k + 1)) d = some v := by
  unfold firstOf at hv ⊢
  rw [take_snoc h, List.find?_append]
  obtain ⟨p, hp, rfl⟩ := Option.map_eq_some_iff.1 hv
  rw [hp]
  rfl
theorem firstOf_snoc {β : Type} {l : List (List UInt8 × β)} {k : Nat} {q : List UInt8 × β} (h : l[k]? = some q) (hv : firstOf (l.take k) q.1 = none) (d : List UInt8) : firstOf (l.take (k + 1)) d = if d = q.1 then some q.2 else firstOf (l.take k) d := by
  unfold firstOf at hv ⊢
  rw [take_snoc h, List.find?_append]
  by_cases e : d = q.1
  · subst e
    rw [if_pos rfl]
    have h0 := Option.map_eq_none_iff.1 hv
    rw [h0]
    simp
  · rw [if_neg e]
    have e2 : ¬ q.1 = d := fun h => e h.symm
    have h0 : List.find? (fun k => decide (k.1 = d)) [q] = none := by simp [e2]
    rw [h0]
    cases List.find? (fun k => decide (k.1 = d)) (List.take k l) <;> rfl
theorem firstOf_kept {β : Type} {l : List (List UInt8 × β)} {k : Nat} {q : List UInt8 × β} {v : β} (h : l[k]? = some q) (hv : firstOf (l.take k) q.1 = some v) (d : List UInt8) : firstOf (l.take (k + 1)) d = firstOf (l.take k) d := by
  by_cases e : d = q.1
  · subst e
    rw [firstOf_some h hv, hv]
  · unfold firstOf
    rw [take_snoc h, List.find?_append]
    have e2 : ¬ q.1 = d := fun h => e h.symm
    have h0 : List.find? (fun k => decide (k.1 = d)) [q] = none := by simp [e2]
    rw [h0]
    cases List.find? (fun k => decide (k.1 = d)) (List.take k l) <;> rfl
/-- A function of a tree is no method that is known. -/
def Bad (l : List Kn) (s : Ty) (f : Tr) : Prop := f.kind = 4 ∧ ¬ ∃ g, firstOf l f.text = some g ∧ Meth f g s
open Classical in
noncomputable def wrong (l : List Kn) (s : Ty) (ps : List (Tr × Value)) : List Dg := (ps.filter fun p => decide (Bad l s p.1)).map fun p => (13, p.1.at_, p.1.text)
open Classical in
theorem wrong_yes {l : List Kn} {s : Ty} {ps : List (Tr × Value)} {k : Nat} {q : Tr × Value} (h : ps[k]? = some q) (hq : Bad l s q.1) : wrong l s (ps.take (k + 1)) = wrong l s (ps.take k) ++ [(13, q.1.at_, q.1.text)] := by
  unfold wrong
  rw [take_snoc h, List.filter_append, List.map_append]
  simp [hq]
open Classical in
theorem wrong_no {l : List Kn} {s : Ty} {ps : List (Tr × Value)} {k : Nat} {q : Tr × Value} (h : ps[k]? = some q) (hq : ¬ Bad l s q.1) : wrong l s (ps.take (k + 1)) = wrong l s (ps.take k) := by
  unfold wrong
  rw [take_snoc h, List.filter_append, List.map_append]
  simp [hq]
theorem wrong_len (l : List Kn) (s : Ty) (ps : List (Tr × Value)) (k : Nat) : (wrong l s (ps.take k)).length ≤ k := by
  unfold wrong
  rw [List.length_map]
  exact Nat.le_trans (List.length_filter_le _ _) (List.length_take_le _ _)
noncomputable def chk (tk ta : Int) (ps : List (Tr × Value)) (l : List Kn) (s : Ty) : List Dg := if tk = 7 then lacks (ps.map (·.1)) ta l ++ wrong l s ps else []
/-- What is found in memory belongs to what is found. -/
theorem first_is {w : World} {S : Nat → Prop} {A : Option Addr} : ∀ {l : List Kn} {qs : List KnV}, qs.map (·.1) = l.map (·.1) → (∀ (i : Nat) (k : Kn) (q : KnV), l[i]? = some k → qs[i]? = some q → k.1 = q.1 ∧ SgIs w S k.2 q.2) → ∀ d, (firstOf qs d = none ∧ firstOf l d = none) ∨ ∃ q g, firstOf qs d = some q ∧ firstOf l d = some g ∧ SgIs w S g q
  | [], [], _, _, d => .inl ⟨rfl, rfl⟩
  | [], _ :: _, h, _, _ => by simp at h
  | _ :: _, [], h, _, _ => by simp at h
  | k :: l, q :: qs, h, he, d => by
    have h0 := he 0 k q rfl rfl
    have ih := first_is (A := A) (l := l) (qs := qs) (by simpa using (List.cons.inj h).2) (fun i k q hk hq => he (i + 1) k q (by simpa using hk) (by simpa using hq)) d
    by_cases e : k.1 = d
    · exact .inr ⟨q.2, k.2, by simp [firstOf, ← h0.1, e], by simp [firstOf, e], h0.2⟩
    · have e1 : firstOf (k :: l) d = firstOf l d := by simp [firstOf, e]
      have e2 : firstOf (q :: qs) d = firstOf qs d := by simp [firstOf, ← h0.1, e]
      rw [e1, e2]
      exact ih
end

section
open Go.RowKit Go.MapKept
theorem firstOf_not {β : Type} {l : List (List UInt8 × β)} {d : List UInt8} (h : ∀ p ∈ l, ¬ p.1 = d) : firstOf l d = none := by
  unfold firstOf
  rw [Option.map_eq_none_iff, List.find?_eq_none]
  intro p hp
  simpa using h p hp
theorem firstOf_at {β : Type} {l : List (List UInt8 × β)} {d : List UInt8} {k : Nat} {q : List UInt8 × β} (hk : l[k]? = some q) (h : ∀ p ∈ l.take k, ¬ p.1 = d) (hq : q.1 = d) : firstOf l d = some q.2 := by
  have hlt := (List.getElem?_eq_some_iff.1 hk).1
  have e : l = l.take (k + 1) ++ l.drop (k + 1) := (List.take_append_drop _ _).symm
  have h0 : firstOf (l.take k) d = none := firstOf_not h
  subst hq
  have h1 : firstOf (l.take (k + 1)) q.1 = some q.2 := by rw [firstOf_snoc hk h0, if_pos rfl]
  unfold firstOf at h1 ⊢
  obtain ⟨p, hp, he⟩ := Option.map_eq_some_iff.1 h1
  rw [e, List.find?_append, hp, ← he]
  rfl
/-- The zero signature. -/
abbrev sigZ : Value := .agg #[.int .i64 0, .slice none 0 0, .slice none 0 0, .slice none 0 0, .string ⟨#[]⟩, .slice none 0 0, .string ⟨#[]⟩]
def KnownRes (qs : List KnV) (d : List UInt8) (w : World) (e : Ending) (w' : World) : Prop :=
  ((firstOf qs d = none ∧ e = .returned (.tuple #[sigZ, .bool false])) ∨ ∃ q : SV, firstOf qs d = some q ∧ e = .returned (.tuple #[q.val, .bool true])) ∧ Below w.heap.size w w'
set_option maxHeartbeats 1600000 in
set_option maxRecDepth 100000 in
theorem known_any (qs : List KnV) (L : Option Addr) (n c : Nat) (hn : n = qs.length) (d : List UInt8) (w : World) (hz : n ≤ 3518437208883) (h : Row w (Lt w.heap.size) L (flt knC qs)) : Calls Try.prog 19 #[.slice L n c, sv d] w (KnownRes qs d w) := by
  have HN := Lib.hid hn
  have HR := Lib.hid h
  clear hn h
  have hb0 : Below w.heap.size w (w.alloc (.cells #[.int .i64 0, .slice none 0 0, .slice none 0 0, .slice none 0 0, .string ⟨#[]⟩, .slice none 0 0, .string ⟨#[]⟩] 39)) := (Below.refl _ _).alloc (Nat.le_refl _) _
  have hx0 := alloc1 w (.cells #[.int .i64 0, .slice none 0 0, .slice none 0 0, .slice none 0 0, .string ⟨#[]⟩, .slice none 0 0, .string ⟨#[]⟩] 39)
  obtain ⟨w0, hw0⟩ : ∃ w0, w0 = w.alloc (.cells #[.int .i64 0, .slice none 0 0, .slice none 0 0, .slice none 0 0, .string ⟨#[]⟩, .slice none 0 0, .string ⟨#[]⟩] 39) := ⟨_, rfl⟩
  rw [← hw0] at hb0 hx0
  have HW0 := Lib.hid hw0
  have HB0 := Lib.hid hb0
  have HX0 := Lib.hid hx0
  clear hw0 hb0 hx0
  go_enter Try.func19, Try.ntmps19
  go_wp2_with fail
  rw [← HW0.out]
  clear HW0
  go_loopw [6] (fun i wr => ∃ k : Nat, k ≤ n ∧ i = .int .i64 k ∧ Below w.heap.size w wr ∧ wr.heap[w.heap.size]? = some (.cells #[.int .i64 0, .slice none 0 0, .slice none 0 0, .slice none 0 0, .string ⟨#[]⟩, .slice none 0 0, .string ⟨#[]⟩] 39 (0, 0)) ∧ ∀ p ∈ qs.take k, ¬ p.1 = d) (fun i _ => n - (intOf i).toNat)
  case atStart => exact ⟨0, by omega, rfl, HB0.out, HX0.out, fun p hp => by simp at hp⟩
  case round =>
    obtain ⟨k, hkn, rfl, hB, hX, hP⟩ := hrel
    have HP := Lib.hid hP
    have HB := Lib.hid hB
    have HX := Lib.hid hX
    have g0 : wr.cell? ⟨w.heap.size, 0, none⟩ = some (.int .i64 0) := (Lib.cell_of_heap hX 0).trans rfl
    have g1 : wr.cell? ⟨w.heap.size, 1, none⟩ = some (.slice none 0 0) := (Lib.cell_of_heap hX 1).trans rfl
    have g2 : wr.cell? ⟨w.heap.size, 2, none⟩ = some (.slice none 0 0) := (Lib.cell_of_heap hX 2).trans rfl
    have g3 : wr.cell? ⟨w.heap.size, 3, none⟩ = some (.slice none 0 0) := (Lib.cell_of_heap hX 3).trans rfl
    have g4 : wr.cell? ⟨w.heap.size, 4, none⟩ = some (.string ⟨#[]⟩) := (Lib.cell_of_heap hX 4).trans rfl
    have g5 : wr.cell? ⟨w.heap.size, 5, none⟩ = some (.slice none 0 0) := (Lib.cell_of_heap hX 5).trans rfl
    have g6 : wr.cell? ⟨w.heap.size, 6, none⟩ = some (.string ⟨#[]⟩) := (Lib.cell_of_heap hX 6).trans rfl
    have f0 := Lib.frozen_of_heap hX 0
    have f1 := Lib.frozen_of_heap hX 1
    have f2 := Lib.frozen_of_heap hX 2
    have f3 := Lib.frozen_of_heap hX 3
    have f4 := Lib.frozen_of_heap hX 4
    have f5 := Lib.frozen_of_heap hX 5
    have f6 := Lib.frozen_of_heap hX 6
    clear hP hX
    by_cases hlt : k < n
    · obtain ⟨q, hq⟩ : ∃ q, qs[k]? = some q := ⟨_, List.getElem?_eq_getElem (by rw [← HN.out]; exact hlt)⟩
      obtain ⟨ad, hA, hsa, a0, a1, a2, a3, a4, a5, a6, a7⟩ := kn_at (HR.out.keep (kept_below hB)) hq
      have HQ := Lib.hid hq
      obtain ⟨kx, qk, qP, qN, qA, qu, qw, qt⟩ := q
      simp only at a0 a1 a2 a3 a4 a5 a6 a7
      have hik : (0 : Int) ≤ (k : Int) ∧ (k : Int) < (n : Int) := ⟨by omega, by omega⟩
      rw [hA]
      have HAD := Lib.hid hA
      have hwne : ¬ ad.block = w.heap.size := by have : ad.block < w.heap.size := hsa; omega
      clear hA hB hq hsa
      by_cases he : kx = d
      · have hq1 := bytesEq he
        have hfo := firstOf_at HQ.out HP.out he
        obtain ⟨hz1, hkz⟩ := set_seven HX.out (.int .i64 qk) (.slice qP.1 qP.2.1 qP.2.2) (.slice qN.1 qN.2.1 qN.2.2) (.slice qA.1 qA.2.1 qA.2.2) (sv qu) (.slice qw.1 qw.2.1 qw.2.2) (sv qt)
        obtain ⟨wz, hwz⟩ : ∃ wz, wz = (((((((wr.setCell ⟨w.heap.size, 0, none⟩ (.int .i64 qk)).setCell ⟨w.heap.size, 1, none⟩ (.slice qP.1 qP.2.1 qP.2.2)).setCell ⟨w.heap.size, 2, none⟩ (.slice qN.1 qN.2.1 qN.2.2)).setCell ⟨w.heap.size, 3, none⟩ (.slice qA.1 qA.2.1 qA.2.2)).setCell ⟨w.heap.size, 4, none⟩ (sv qu)).setCell ⟨w.heap.size, 5, none⟩ (.slice qw.1 qw.2.1 qw.2.2)).setCell ⟨w.heap.size, 6, none⟩ (sv qt)) := ⟨_, rfl⟩
        rw [← hwz] at hz1 hkz
        have HRES : Hid (KnownRes qs d w (.returned (.tuple #[.agg #[.int .i64 qk, .slice qP.1 qP.2.1 qP.2.2, .slice qN.1 qN.2.1 qN.2.2, .slice qA.1 qA.2.1 qA.2.2, sv qu, .slice qw.1 qw.2.1 qw.2.2, sv qt], .bool true])) wz) := Lib.hid ⟨.inr ⟨_, hfo, rfl⟩, kp_below HB.out hkz fun y e => by omega⟩
        have HWZ := Lib.hid hwz
        have HZ := Lib.hid hz1
        clear hz1 hkz hwz hfo he
        go_wp2_with fail
        rw [← HWZ.out]
        have q0 : wz.cell? ⟨w.heap.size, 0, none⟩ = some (.int .i64 qk) := (Lib.cell_of_heap HZ.out 0).trans rfl
        have q1 : wz.cell? ⟨w.heap.size, 1, none⟩ = some (.slice qP.1 qP.2.1 qP.2.2) := (Lib.cell_of_heap HZ.out 1).trans rfl
        have q2 : wz.cell? ⟨w.heap.size, 2, none⟩ = some (.slice qN.1 qN.2.1 qN.2.2) := (Lib.cell_of_heap HZ.out 2).trans rfl
        have q3 : wz.cell? ⟨w.heap.size, 3, none⟩ = some (.slice qA.1 qA.2.1 qA.2.2) := (Lib.cell_of_heap HZ.out 3).trans rfl
        have q4 : wz.cell? ⟨w.heap.size, 4, none⟩ = some (sv qu) := (Lib.cell_of_heap HZ.out 4).trans rfl
        have q5 : wz.cell? ⟨w.heap.size, 5, none⟩ = some (.slice qw.1 qw.2.1 qw.2.2) := (Lib.cell_of_heap HZ.out 5).trans rfl
        have q6 : wz.cell? ⟨w.heap.size, 6, none⟩ = some (sv qt) := (Lib.cell_of_heap HZ.out 6).trans rfl
        refine bodyPost_ret (v := .tuple #[.agg #[.int .i64 qk, .slice qP.1 qP.2.1 qP.2.2, .slice qN.1 qN.2.1 qN.2.2, .slice qA.1 qA.2.1 qA.2.2, sv qu, .slice qw.1 qw.2.1 qw.2.2, sv qt], .bool true]) ?_ rfl HRES.out
        clear HRES HWZ HZ
        simp [results, Try.results19, go_sem, q0, q1, q2, q3, q4, q5, q6]
      · have hq1 := bytesNe he
        have HE := Lib.hid he
        clear he
        go_wp2
        try rw [← HAD.out]
        first | go_roundw | refine ⟨?rel, ?measure⟩
        case rel =>
          refine ⟨k + 1, by omega, by go_num, HB.out, HX.out, fun p hp => ?_⟩
          rw [take_snoc HQ.out, List.mem_append, List.mem_singleton] at hp
          rcases hp with hp | rfl
          · exact HP.out p hp
          · exact HE.out
        case measure => simp [intOf]; omega
    · obtain rfl : k = n := by omega
      have hfo : firstOf qs d = none := firstOf_not fun p hp => HP.out p (by rw [List.take_of_length_le (by rw [← HN.out]; exact Nat.le_refl _)]; exact hp)
      obtain ⟨hz1, hkz⟩ := set_seven HX.out (.int .i64 0) (.slice none 0 0) (.slice none 0 0) (.slice none 0 0) (.string ⟨#[]⟩) (.slice none 0 0) (.string ⟨#[]⟩)
      obtain ⟨wz, hwz⟩ : ∃ wz, wz = (((((((wr.setCell ⟨w.heap.size, 0, none⟩ (.int .i64 0)).setCell ⟨w.heap.size, 1, none⟩ (.slice none 0 0)).setCell ⟨w.heap.size, 2, none⟩ (.slice none 0 0)).setCell ⟨w.heap.size, 3, none⟩ (.slice none 0 0)).setCell ⟨w.heap.size, 4, none⟩ (.string ⟨#[]⟩)).setCell ⟨w.heap.size, 5, none⟩ (.slice none 0 0)).setCell ⟨w.heap.size, 6, none⟩ (.string ⟨#[]⟩)) := ⟨_, rfl⟩
      rw [← hwz] at hz1 hkz
      have HRES : Hid (KnownRes qs d w (.returned (.tuple #[sigZ, .bool false])) wz) := Lib.hid ⟨.inl ⟨hfo, rfl⟩, kp_below HB.out hkz fun y e => by omega⟩
      have HWZ := Lib.hid hwz
      have HZ := Lib.hid hz1
      clear hz1 hkz hwz hfo hB
      go_wp2_with fail
      rw [← HWZ.out]
      have q0 : wz.cell? ⟨w.heap.size, 0, none⟩ = some (.int .i64 0) := (Lib.cell_of_heap HZ.out 0).trans rfl
      have q1 : wz.cell? ⟨w.heap.size, 1, none⟩ = some (.slice none 0 0) := (Lib.cell_of_heap HZ.out 1).trans rfl
      have q2 : wz.cell? ⟨w.heap.size, 2, none⟩ = some (.slice none 0 0) := (Lib.cell_of_heap HZ.out 2).trans rfl
      have q3 : wz.cell? ⟨w.heap.size, 3, none⟩ = some (.slice none 0 0) := (Lib.cell_of_heap HZ.out 3).trans rfl
      have q4 : wz.cell? ⟨w.heap.size, 4, none⟩ = some (.string ⟨#[]⟩) := (Lib.cell_of_heap HZ.out 4).trans rfl
      have q5 : wz.cell? ⟨w.heap.size, 5, none⟩ = some (.slice none 0 0) := (Lib.cell_of_heap HZ.out 5).trans rfl
      have q6 : wz.cell? ⟨w.heap.size, 6, none⟩ = some (.string ⟨#[]⟩) := (Lib.cell_of_heap HZ.out 6).trans rfl
      refine bodyPost_ret (v := .tuple #[sigZ, .bool false]) ?_ rfl HRES.out
      clear HRES HWZ HZ
      simp [results, Try.results19, go_sem, q0, q1, q2, q3, q4, q5, q6]
end
end Go.Proofs.Ytiijlecidepneaa
