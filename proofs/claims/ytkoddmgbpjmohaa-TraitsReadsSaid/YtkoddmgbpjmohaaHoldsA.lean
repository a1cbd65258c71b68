/-
  The walks of the test for the same goal, and of slices.IndexFunc with it; what Leads computes, in one contract.
  Conditions: the arguments read as they must.
-/
import Derived.Test.YtkoddmgbpjmohaaLeadsC
namespace Go.Proofs.Ytkoddmgbpjmohaa
open Go.RowKit

theorem leads_any (l : List Hdr) (s : List (List UInt8 × List UInt8)) (g : Goal) (LA SA : Option Addr) (lc sc : Nat) (q : GV) (qs : List HV) (w : World)
    (hl : Hds w (Lt w.heap.size) LA l qs) (hLA : LA = none → lc = 0) (hs : Row w (Lt w.heap.size) SA (flat2 (s.map pairV))) (hsl : s.length ≤ 1000000) (hg : GlIs w (Lt w.heap.size) g q) :
    Calls Try.prog 22 #[.slice LA l.length lc, .slice SA s.length sc, .agg #[q.1, q.2.1, q.2.2]] w (LeadsRes (leadsOf l s g) w) := by
  obtain ⟨q1, q2, q3⟩ := q
  obtain ⟨h1, h2⟩ := hg
  simp only at h1 h2 ⊢
  subst h1
  obtain ⟨n, a, rfl, rfl⟩ := h2.shape
  have hn : n = g.2.name := by
    obtain ⟨_, _, _, e, _⟩ := h2.open_
    exact bs_inj (by injection e)
  subst hn
  by_cases hp : (cutD g.2.name).2 = true
  · have := leads_par g.1 g.2.name a LA SA l.length lc s.length sc w hp
    unfold leadsOf
    rw [if_pos hp]
    exact this
  · by_cases he : g.2.name = errName
    · have := leads_err g.1 a LA SA l.length lc s.length sc w
      unfold leadsOf
      rw [if_neg hp, if_pos he]
      rw [← he] at this
      exact this
    · exact leads_main l s g.1 g.2 LA SA lc sc a qs w (by simpa using hp) he hl hLA hs hsl h2

def goalEq (x g : Goal) : Bool := decide (x.1 = g.1) && x.2.eqb g.2
theorem goalEq_iff (x g : Goal) : goalEq x g = true ↔ x = g := by
  unfold goalEq
  rw [Bool.and_eq_true, eqb_iff, decide_eq_true_eq]
  exact ⟨fun h => Prod.ext h.1 h.2, fun h => by rw [h]; exact ⟨rfl, rfl⟩⟩

/-- 'The goal is this one': the goal lies at block gb. -/
abbrev eqg (gb : Nat) : Value := .func (.func 20) #[] #[.pointer (some ⟨gb, 0, none⟩)]
def BoxAt (w : World) (gb : Nat) (q : GV) : Prop := w.heap[gb]? = some (.cells #[q.1, q.2.1, q.2.2] 28 (0, 0))
theorem BoxAt.now {w w' : World} {gb : Nat} {q : GV} (h : BoxAt w gb q) (hb : Below w.heap.size w w') : BoxAt w' gb q := (hb.block _ (lt_of_heap h)).trans h

set_option maxHeartbeats 1000000 in
set_option maxRecDepth 100000 in
theorem eqg_any (x g : Goal) (p q : GV) (gb : Nat) (w : World) (hx : GlIs w (Lt w.heap.size) x p) (hg : GlIs w (Lt w.heap.size) g q) (hB : BoxAt w gb q) :
    Calls Try.prog 20 #[.agg #[p.1, p.2.1, p.2.2], .pointer (some ⟨gb, 0, none⟩)] w (Says (x = g) w) := by
  obtain ⟨p1, p2, p3⟩ := p
  obtain ⟨q1, q2, q3⟩ := q
  obtain ⟨hx1, hx2⟩ := hx
  obtain ⟨hg1, hg2⟩ := hg
  simp only at hx1 hx2 hg1 hg2 ⊢
  subst hx1 hg1
  obtain ⟨n, a, rfl, rfl⟩ := hx2.shape
  obtain ⟨m, b, rfl, rfl⟩ := hg2.shape
  have hlt := lt_of_heap hB
  have hb1 : Below w.heap.size w (w.alloc (.cells #[sv x.1, sv n, .slice a.1 a.2.1 a.2.2] 28)) := (Below.refl _ _).alloc (Nat.le_refl _) _
  have hB1 := hB.now hb1
  have g0 : (w.alloc (.cells #[sv x.1, sv n, .slice a.1 a.2.1 a.2.2] 28)).cell? ⟨gb, 0, none⟩ = some (sv g.1) := by rw [Lib.cell_of_heap hB1]; rfl
  have g1 : (w.alloc (.cells #[sv x.1, sv n, .slice a.1 a.2.1 a.2.2] 28)).cell? ⟨gb, 1, none⟩ = some (sv m) := by rw [Lib.cell_of_heap hB1]; rfl
  have g2 : (w.alloc (.cells #[sv x.1, sv n, .slice a.1 a.2.1 a.2.2] 28)).cell? ⟨gb, 2, none⟩ = some (.slice b.1 b.2.1 b.2.2) := by rw [Lib.cell_of_heap hB1]; rfl
  clear hB hB1
  by_cases h : x.1 = g.1
  · have hb := bytesEq h
    have HH := Lib.hid h
    have HX := Lib.hid (hx2.now (Nat.le_refl _) hb1)
    have HG := Lib.hid (hg2.now (Nat.le_refl _) hb1)
    clear h hx2 hg2
    go_enter Try.func20, Try.ntmps20
    go_wp2_with fail
    refine (same_any x.2 g.2 _ _ _ _ _ HX.out HG.out).mono ?_
    rintro e w2 ⟨r, rfl, hr, hb2⟩
    go_wp2
    go_ret
    refine ⟨r, rfl, ?_, hb1.trans (hb2.mono hb1.size)⟩
    rw [hr]
    exact ⟨fun e => Prod.ext HH.out e, fun e => by rw [e]⟩
  · have hb := bytesNe h
    have HH := Lib.hid h
    clear h hx2 hg2
    go_enter Try.func20, Try.ntmps20
    go_wp2
    go_ret
    refine ⟨false, rfl, ?_, hb1⟩
    simp
    intro e
    exact HH.out (by rw [e])

def gIdx : List Goal → Goal → Nat → Int
  | [], _, _ => -1
  | x :: r, g, k => if goalEq x g = true then (k : Int) else gIdx r g (k + 1)

set_option maxHeartbeats 2000000 in
set_option maxRecDepth 100000 in
theorem indexFuncG (gs : List Goal) (A : Option Addr) (c gb : Nat) (vs : List GV) (g : Goal) (q : GV) (w : World) (hh : Gls w (Lt w.heap.size) A gs vs) (hfew : gs.length ≤ 1000000) (hg : GlIs w (Lt w.heap.size) g q) (hB : BoxAt w gb q) :
    Calls Try.prog 19 #[.slice A gs.length c, eqg gb] w (Nope (.int .i64 (gIdx gs g 0)) w) := by
  obtain ⟨n, hn⟩ : ∃ n, n = gs.length := ⟨_, rfl⟩
  rw [← hn] at hfew ⊢
  have HN := Lib.hid hn
  have HB := Lib.hid hB
  have HG := Lib.hid hg
  clear hn hB hg
  go_enter Try.func19, Try.ntmps19
  go_wp2_with fail
  go_loopw [8] (fun i wr => ∃ k : Nat, k ≤ n ∧ i = .int .i64 k ∧ gIdx (gs.drop k) g k = gIdx gs g 0 ∧ Below w.heap.size w wr) (fun i _ => n - (intOf i).toNat)
  case atStart => exact ⟨0, Nat.zero_le _, rfl, rfl, Below.refl _ _⟩
  case round =>
    obtain ⟨k, hk, rfl, hx, hb⟩ := hrel
    have HX := Lib.hid hx
    clear hx
    by_cases hlt : k < n
    · have hki : k < gs.length := by rw [← HN.out]; exact hlt
      obtain ⟨ad, p, rfl, hS, hp, e0, e1, e2, hGl⟩ := (hh.now (Nat.le_refl _) hb).at_ (List.getElem?_eq_getElem hki)
      obtain ⟨p1, p2, p3⟩ := p
      obtain ⟨hx1, hx2⟩ := id hGl
      simp only at hx1 hx2 e0 e1 e2
      subst hx1
      obtain ⟨m, a, rfl, rfl⟩ := hx2.shape
      have HD := Lib.hid (List.drop_eq_getElem_cons hki)
      have HGR : Hid (GlIs wr (Lt wr.heap.size) g q) := Lib.hid ⟨HG.out.t, HG.out.ty.now (Nat.le_refl _) hb⟩
      have HGL := Lib.hid hGl
      clear hp hGl hx2
      go_wp2_with fail
      refine (eqg_any gs[k] g (sv gs[k].1, sv m, .slice a.1 a.2.1 a.2.2) q gb wr HGL.out HGR.out (HB.out.now hb)).mono ?_
      rintro e w1 ⟨r, rfl, hr, hb1⟩
      have hb2 : Below w.heap.size w w1 := hb.trans (hb1.mono hb.size)
      have HR := Lib.hid hr
      clear hr
      cases r with
      | true =>
        have hres : gIdx gs g 0 = (k : Int) := by rw [← HX.out, HD.out, gIdx, if_pos ((goalEq_iff _ _).2 (HR.out.1 rfl))]
        have HRES := Lib.hid hres
        clear hres
        go_wp2
        go_ret
        exact ⟨ret_int HRES.out.symm, hb2⟩
      | false =>
        have hne : ¬ goalEq gs[k] g = true := fun e => by
          have := HR.out.2 ((goalEq_iff _ _).1 e)
          cases this
        have HNE := Lib.hid hne
        clear hne
        go_wp2
        go_roundw
        case rel => exact ⟨k + 1, by omega, by go_num, by rw [← HX.out, HD.out, gIdx, if_neg HNE.out], hb2⟩
        case measure => simp [intOf]; omega
    · have hkn : k = n := by omega
      have HKN := Lib.hid hkn
      have hg : ¬ k < n := hlt
      clear hkn
      go_wp2
      go_ret
      refine ⟨ret_int ?_, hb⟩
      rw [← HX.out, List.drop_eq_nil_of_le (by rw [← HN.out, HKN.out]; exact Nat.le_refl _)]
      rfl
end Go.Proofs.Ytkoddmgbpjmohaa
