/-
  Trees of syntax in memory: what lies where, what keeps them. No condition beyond those of each theorem.
  The walks of signature.kid and signature.Type.
  Conditions: the argument reads as a tree.
-/
import Derived.Test.YtiijlecidepneaaBm
namespace Go.Proofs.Ytiijlecidepneaa
section
open Go.RowKit
theorem kp_below {w u v : World} {M : Nat → Prop} (h : Below w.heap.size w u) (hk : Kp M u v) (hM : ∀ y, M y → w.heap.size ≤ y) : Below w.heap.size w v :=
  ⟨hk.os.trans h.os, hk.tape.trans h.tape, hk.output.trans h.output, Nat.le_trans h.size hk.size, fun b hb => (hk.block b (Nat.lt_of_lt_of_le hb h.size) (fun e => by have := hM b e; omega)).trans (h.block b hb)⟩
/-- A tree: kind, text, place, kids. -/
inductive Tr where
  | mk (kind : Int) (text : List UInt8) (at_ : Int) (kids : List Tr) : Tr
def Tr.kind : Tr → Int
  | .mk k _ _ _ => k
def Tr.text : Tr → List UInt8
  | .mk _ x _ _ => x
def Tr.at_ : Tr → Int
  | .mk _ _ a _ => a
def Tr.kids : Tr → List Tr
  | .mk _ _ _ ks => ks
theorem Tr.ind {P : Tr → Prop} (h : ∀ k x a ks, (∀ t ∈ ks, P t) → P (.mk k x a ks)) : ∀ t, P t
  | .mk k x a ks => h k x a ks fun t ht => Tr.ind h t
def I64 (n : Int) : Prop := -9223372036854775808 ≤ n ∧ n ≤ 9223372036854775807
/-- The cells of a tree whose kids are the slice v. -/
def trC (p : Tr × Value) : List Value := [.int .i64 p.1.kind, sv p.1.text, .int .i64 p.1.at_, p.2]
theorem trC_len (p : Tr × Value) : (trC p).length = 4 := rfl
/-- In w, in blocks of S, v is the slice of the kids of a tree. -/
inductive TrIs (w : World) (S : Nat → Prop) : Tr → Value → Prop
  | mk (k : Int) (x : List UInt8) (a : Int) (ps : List (Tr × Value)) (A : Option Addr) (c : Nat) (hk : I64 k) (ha : I64 a) (hx : x.length ≤ 140737488355328) (hz : ps.length ≤ 3518437208883) (hc : ps.length ≤ c ∧ c ≤ maxLen) (hn : A = none → c = 0) (row : Row w S A (flt trC ps))
      (h : ∀ (i : Nat) (p : Tr × Value), ps[i]? = some p → TrIs w S p.1 p.2) : TrIs w S (.mk k x a (ps.map (·.1))) (.slice A ps.length c)
theorem TrIs.keep {w w' : World} {S : Nat → Prop} {t : Tr} {v : Value} (h : TrIs w S t v) (hk : Kept S w w') : TrIs w' S t v := by
  induction h with
  | mk k x a ps A c h1 h2 hx hz hc hn row _ ih => exact .mk k x a ps A c h1 h2 hx hz hc hn (row.keep hk) ih
theorem TrIs.more {w : World} {S S' : Nat → Prop} {t : Tr} {v : Value} (h : TrIs w S t v) (hS : ∀ b, S b → S' b) : TrIs w S' t v := by
  induction h with
  | mk k x a ps A c h1 h2 hx hz hc hn row _ ih => exact .mk k x a ps A c h1 h2 hx hz hc hn (row.more hS) ih
theorem TrIs.under {w w' : World} {t : Tr} {v : Value} (h : TrIs w (Lt w.heap.size) t v) (hb : Below w.heap.size w w') : TrIs w' (Lt w'.heap.size) t v :=
  (h.keep (kept_below hb)).more fun _ h => Nat.lt_of_lt_of_le h hb.size
/-- Trees in a row. -/
structure Trs (w : World) (S : Nat → Prop) (A : Option Addr) (ps : List (Tr × Value)) : Prop where
  row : Row w S A (flt trC ps)
  each : ∀ (i : Nat) (p : Tr × Value), ps[i]? = some p → TrIs w S p.1 p.2
theorem Trs.keep {w w' : World} {S : Nat → Prop} {A : Option Addr} {ps : List (Tr × Value)} (h : Trs w S A ps) (hk : Kept S w w') : Trs w' S A ps := ⟨h.row.keep hk, fun i p hp => (h.each i p hp).keep hk⟩
theorem Trs.more {w : World} {S S' : Nat → Prop} {A : Option Addr} {ps : List (Tr × Value)} (h : Trs w S A ps) (hS : ∀ b, S b → S' b) : Trs w S' A ps := ⟨h.row.more hS, fun i p hp => (h.each i p hp).more hS⟩
theorem Trs.below {w w' : World} {A : Option Addr} {ps : List (Tr × Value)} (h : Trs w (Lt w.heap.size) A ps) (hb : Below w.heap.size w w') : Trs w' (Lt w'.heap.size) A ps :=
  (h.keep (kept_below hb)).more fun _ h => Nat.lt_of_lt_of_le h hb.size
theorem TrIs.open_ {w : World} {S : Nat → Prop} {t : Tr} {v : Value} (h : TrIs w S t v) :
    ∃ (A : Option Addr) (c : Nat) (ps : List (Tr × Value)), v = .slice A ps.length c ∧ t.kids = ps.map (·.1) ∧ I64 t.kind ∧ I64 t.at_ ∧ t.text.length ≤ 140737488355328 ∧ ps.length ≤ 3518437208883 ∧ ps.length ≤ c ∧ c ≤ maxLen ∧ (A = none → c = 0) ∧ Trs w S A ps := by
  cases h with
  | mk k x a ps A c h1 h2 hx hz hc hn row he => exact ⟨A, c, ps, rfl, rfl, h1, h2, hx, hz, hc.1, hc.2, hn, row, he⟩
/-- The cells of one tree at its place. -/
def TrAt (w : World) (a : Addr) (p : Tr × Value) : Prop := w.cell? a = some (.int .i64 p.1.kind) ∧ w.cell? ⟨a.block, a.off + 1, none⟩ = some (sv p.1.text) ∧ w.cell? ⟨a.block, a.off + 2, none⟩ = some (.int .i64 p.1.at_) ∧ w.cell? ⟨a.block, a.off + 3, none⟩ = some p.2
theorem tr_at {w : World} {S : Nat → Prop} {A : Option Addr} {ps : List (Tr × Value)} {i : Nat} {p : Tr × Value} (h : Row w S A (flt trC ps)) (hi : ps[i]? = some p) : ∃ ad, A = some ad ∧ S ad.block ∧ TrAt w (ad.add (i * 4)) p := by
  have hlt := (List.getElem?_eq_some_iff.1 hi).1
  obtain ⟨ad, hA, hS, hc⟩ := h.addr (by rw [flt_length trC_len]; omega)
  exact ⟨ad, hA, hS, hc _ _ (flt_at (j := 0) trC_len hi rfl), cellOff (by decide) (hc _ _ (flt_at trC_len hi rfl)), cellOff (by decide) (hc _ _ (flt_at trC_len hi rfl)), cellOff (by decide) (hc _ _ (flt_at trC_len hi rfl))⟩
theorem tr_blk {w : World} {b : Nat} {p : Tr × Value} {T : TypeId} {cs : Array Value} (h : w.heap[b]? = some (.cells cs T (0, 0))) (hc : cs = (trC p).toArray) : TrAt w ⟨b, 0, none⟩ p := by
  subst hc
  exact ⟨(Lib.cell_of_heap h _).trans rfl, (Lib.cell_of_heap h _).trans rfl, (Lib.cell_of_heap h _).trans rfl, (Lib.cell_of_heap h _).trans rfl⟩
end

section
open Go.RowKit
/-- A tree as a value. -/
abbrev trV (p : Tr × Value) : Value := .agg #[.int .i64 p.1.kind, sv p.1.text, .int .i64 p.1.at_, p.2]
/-- The zero tree. -/
def trZ : Tr × Value := (.mk 0 [] 0 [], .slice none 0 0)
theorem trZ_is (w : World) (S : Nat → Prop) : TrIs w S trZ.1 trZ.2 := .mk 0 [] 0 [] none 0 ⟨by decide, by decide⟩ ⟨by decide, by decide⟩ (by simp) (by simp) ⟨by simp, by decide⟩ (fun _ => rfl) (Row.nil _ _ _) fun i p h => by simp at h
/-- A kid, or the zero tree. -/
def kidT (t : Tr) (k : Nat) : Tr := (t.kids[k]?).getD trZ.1
def KidRes (t : Tr) (w : World) (e : Ending) (w' : World) : Prop := ∃ q : Tr × Value, e = .returned (trV q) ∧ q.1 = t ∧ TrIs w' (Lt w'.heap.size) q.1 q.2 ∧ Below w.heap.size w w'
abbrev trB (p : Tr × Value) : Obj := .cells #[.int .i64 p.1.kind, sv p.1.text, .int .i64 p.1.at_, p.2] 25
abbrev trB0 : Obj := .cells #[.int .i64 0, .string ⟨#[]⟩, .int .i64 0, .slice none 0 0] 25
set_option maxHeartbeats 1600000 in
set_option maxRecDepth 100000 in
theorem kid_any (p : Tr × Value) (k : Nat) (w : World) (hk : k ≤ 3518437208883) (h : TrIs w (Lt w.heap.size) p.1 p.2) : Calls Try.prog 50 #[trV p, .int .i64 (k : Int)] w (KidRes (kidT p.1 k) w) := by
  have hks : kidT p.1 k = (p.1.kids[k]?).getD trZ.1 := rfl
  obtain ⟨A, c, ps, hv, hkids, _, _, _, hz, hc, hcm, _, hT⟩ := h.open_
  obtain ⟨⟨pk, px, pa, pks⟩, pv⟩ := p
  simp only [Tr.kind, Tr.text, Tr.at_, Tr.kids] at hv hkids hks ⊢
  subst hv
  obtain ⟨n, hn⟩ : ∃ n, n = ps.length := ⟨_, rfl⟩
  rw [← hn] at hz hc ⊢
  show Calls _ _ #[.agg #[.int .i64 pk, sv px, .int .i64 pa, .slice A n c], .int .i64 (k : Int)] _ _
  have HN := Lib.hid hn
  have HKS := Lib.hid hks
  clear h hks hn
  by_cases hlt : k < n
  · obtain ⟨q, hq⟩ : ∃ q, ps[k]? = some q := ⟨_, List.getElem?_eq_getElem (by rw [← HN.out]; exact hlt)⟩
    have hkt : kidT (.mk pk px pa pks) k = q.1 := by rw [HKS.out, hkids, List.getElem?_map, hq]; rfl
    have hik : (0 : Int) ≤ (k : Int) ∧ (k : Int) < (n : Int) := ⟨by omega, by omega⟩
    have hqw := hT.each k q hq
    obtain ⟨QA, qc, qs, hqv, _⟩ := hqw.open_
    have hb0 := ((Below.refl w.heap.size w).alloc (Nat.le_refl _) (.cells #[.int .i64 pk, sv px, .int .i64 pa, .slice A n c] 25)).alloc (by simp) trB0
    obtain ⟨ad, hA, _, a0, a1, a2, a3⟩ := tr_at (hT.below hb0).row hq
    obtain ⟨⟨qk, qx, qa, qks⟩, qv⟩ := q
    simp only [Tr.kind, Tr.text, Tr.at_] at a0 a1 a2 a3 hqv hqw
    subst hqv
    obtain ⟨m, hm⟩ : ∃ m, m = qs.length := ⟨_, rfl⟩
    rw [← hm] at a3 hqw
    have hb3 := ((Below.refl w.heap.size w).alloc (Nat.le_refl _) (.cells #[.int .i64 pk, sv px, .int .i64 pa, .slice A n c] 25)).alloc (by simp) (.cells #[.int .i64 qk, sv qx, .int .i64 qa, .slice QA m qc] 25)
    have hx3 := (alloc2 w (.cells #[.int .i64 pk, sv px, .int .i64 pa, .slice A n c] 25) (.cells #[.int .i64 qk, sv qx, .int .i64 qa, .slice QA m qc] 25)).2
    rw [hA] at a0 a1 a2 a3 hb3 hx3 ⊢
    obtain ⟨w3, hw3⟩ : ∃ w3, w3 = (w.alloc (.cells #[.int .i64 pk, sv px, .int .i64 pa, .slice (some ad) n c] 25)).alloc (.cells #[.int .i64 qk, sv qx, .int .i64 qa, .slice QA m qc] 25) := ⟨_, rfl⟩
    rw [← hw3] at hb3 hx3
    have HRES : Hid (KidRes (kidT (.mk pk px pa pks) k) w (.returned (.agg #[.int .i64 qk, sv qx, .int .i64 qa, .slice QA m qc])) w3) := Lib.hid ⟨(.mk qk qx qa qks, .slice QA m qc), rfl, hkt.symm, hqw.under hb3, hb3⟩
    have q0 : w3.cell? ⟨w.heap.size + 1, 0, none⟩ = some (.int .i64 qk) := (Lib.cell_of_heap hx3 0).trans rfl
    have q1 : w3.cell? ⟨w.heap.size + 1, 1, none⟩ = some (sv qx) := (Lib.cell_of_heap hx3 1).trans rfl
    have q2 : w3.cell? ⟨w.heap.size + 1, 2, none⟩ = some (.int .i64 qa) := (Lib.cell_of_heap hx3 2).trans rfl
    have q3 : w3.cell? ⟨w.heap.size + 1, 3, none⟩ = some (.slice QA m qc) := (Lib.cell_of_heap hx3 3).trans rfl
    have HQ := Lib.hid (And.intro q0 (And.intro q1 (And.intro q2 q3)))
    have HW3 := Lib.hid hw3
    clear hA hqw hm hw3 hx3 hb3 hkt hq hT hkids hcm q0 q1 q2 q3 hb0
    go_enter Try.func50, Try.ntmps50
    go_wp2_with fail
    rw [← HW3.out]
    obtain ⟨q0, q1, q2, q3⟩ := HQ.out
    refine bodyPost_ret (v := .agg #[.int .i64 qk, sv qx, .int .i64 qa, .slice QA m qc]) ?_ rfl HRES.out
    clear HRES HW3 HQ
    simp [results, Try.results50, go_sem, q0, q1, q2, q3]
  · have hkt : kidT (.mk pk px pa pks) k = trZ.1 := by rw [HKS.out, hkids, List.getElem?_eq_none (by rw [List.length_map, ← HN.out]; omega)]; rfl
    have hq0 : decide ((k : Int) < (n : Int)) = false := by simp; omega
    have hb3 := ((Below.refl w.heap.size w).alloc (Nat.le_refl _) (.cells #[.int .i64 pk, sv px, .int .i64 pa, .slice A n c] 25)).alloc (by simp) trB0
    have hx3 := (alloc2 w (.cells #[.int .i64 pk, sv px, .int .i64 pa, .slice A n c] 25) trB0).2
    obtain ⟨w3, hw3⟩ : ∃ w3, w3 = (w.alloc (.cells #[.int .i64 pk, sv px, .int .i64 pa, .slice A n c] 25)).alloc trB0 := ⟨_, rfl⟩
    rw [← hw3] at hb3 hx3
    have HRES : Hid (KidRes (kidT (.mk pk px pa pks) k) w (.returned (.agg #[.int .i64 0, .string ⟨#[]⟩, .int .i64 0, .slice none 0 0])) w3) := Lib.hid ⟨trZ, rfl, hkt.symm, trZ_is _ _, hb3⟩
    have q0 : w3.cell? ⟨w.heap.size + 1, 0, none⟩ = some (.int .i64 0) := (Lib.cell_of_heap hx3 0).trans rfl
    have q1 : w3.cell? ⟨w.heap.size + 1, 1, none⟩ = some (.string ⟨#[]⟩) := (Lib.cell_of_heap hx3 1).trans rfl
    have q2 : w3.cell? ⟨w.heap.size + 1, 2, none⟩ = some (.int .i64 0) := (Lib.cell_of_heap hx3 2).trans rfl
    have q3 : w3.cell? ⟨w.heap.size + 1, 3, none⟩ = some (.slice none 0 0) := (Lib.cell_of_heap hx3 3).trans rfl
    have HQ := Lib.hid (And.intro q0 (And.intro q1 (And.intro q2 q3)))
    have HW3 := Lib.hid hw3
    clear hw3 hx3 hb3 hkt hT hkids hcm q0 q1 q2 q3
    go_enter Try.func50, Try.ntmps50
    go_wp2_with fail
    rw [← HW3.out]
    obtain ⟨q0, q1, q2, q3⟩ := HQ.out
    refine bodyPost_ret (v := .agg #[.int .i64 0, .string ⟨#[]⟩, .int .i64 0, .slice none 0 0]) ?_ rfl HRES.out
    clear HRES HW3 HQ
    simp [results, Try.results50, go_sem, q0, q1, q2, q3]
end
end Go.Proofs.Ytiijlecidepneaa
