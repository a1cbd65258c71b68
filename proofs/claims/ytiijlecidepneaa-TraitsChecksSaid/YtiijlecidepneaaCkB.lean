/-
  Diagnostics and known signatures in memory; slices.IndexFunc and ContainsFunc with the test of Check; recompileref07.SameDiags.
  Conditions: the arguments read as trees and diagnostics.
  slices.IndexFunc and ContainsFunc over trees with the test of traits.Check.
  Conditions: the arguments read as trees.
-/
import Derived.Test.YtiijlecidepneaaAgrB
import Derived.Test.YtiijlecidepneaaBmg
namespace Go.Proofs.Ytiijlecidepneaa
section
open Go.RowKit Go.MapKept
theorem bs_toList (l : List UInt8) : (bs l).toList = l := by rw [ByteArray.toList_eq, bs_data]
theorem sv_inj {a b : List UInt8} (h : sv a = sv b) : a = b := bs_inj (by injection h)
theorem take_snoc {α : Type} {l : List α} {k : Nat} {x : α} (h : l[k]? = some x) : l.take (k + 1) = l.take k ++ [x] := by rw [List.take_add_one, h]; rfl
def KSt (_ : World) (v : Value) : Prop := ∃ l, v = sv l
theorem keyStr : KeyLaw Try.prog 9 KSt := by
  have hu := Try.underlying9
  refine ⟨fun w e k h => ?_, fun w k es h hes => ?_, fun w k h => ?_⟩
  · obtain ⟨k, rfl⟩ := h
    kernel_rfl
  · obtain ⟨k, rfl⟩ := h
    have now : ∀ (l : List MapEntry) (i : Nat), (∀ x ∈ l, ∃ k, x.key = sv k) → Instr.findNow .string (sv k) l i = some (seek (sv k) l i) := by
      intro l
      induction l with
      | nil => intro i _; rfl
      | cons e r ih =>
        intro i h
        obtain ⟨y, hy⟩ := h e (by simp)
        unfold Instr.findNow seek
        rw [hy]
        simp only [Instr.sameNow]
        by_cases hky : k = y
        · subst hky
          have h1 : (bs k == bs k) = true := (bytes_beq _ _).2 rfl
          rw [h1]
          simp only [if_true]
        · have h1 : (bs k == bs y) = false := by
            rw [Bool.eq_false_iff]
            intro e
            exact hky (bs_inj ((bytes_beq _ _).1 e))
          have h2 : ¬ (sv k = sv y) := fun h => hky (sv_inj h)
          simp only [h1, h2, if_false]
          exact ih (i + 1) fun x hx => h x (by simp [hx])
    exact run_findKey hu (now es 0 hes)
  · obtain ⟨k, rfl⟩ := h
    simp [Instr.sameBits, bytes_beq]

/-- A diagnostic: code, node, text. -/
abbrev Dg := Int × Int × List UInt8
def dgC (m : Dg) : List Value := [.int .i64 m.1, .int .i64 m.2.1, sv m.2.2]
theorem dgC_len (m : Dg) : (dgC m).length = 3 := rfl
theorem dgC_one (m : Dg) : ∀ v ∈ dgC m, v.oneCell' = true := fun v hv => by
  simp [dgC] at hv
  rcases hv with rfl | rfl | rfl <;> rfl
def DgAt (w : World) (a : Addr) (m : Dg) : Prop := w.cell? a = some (.int .i64 m.1) ∧ w.cell? ⟨a.block, a.off + 1, none⟩ = some (.int .i64 m.2.1) ∧ w.cell? ⟨a.block, a.off + 2, none⟩ = some (sv m.2.2)
theorem dg_at {w : World} {S : Nat → Prop} {A : Option Addr} {l : List Dg} {i : Nat} {x : Dg} (h : Row w S A (flt dgC l)) (hi : l[i]? = some x) :
    ∃ ad, A = some ad ∧ S ad.block ∧ DgAt w (ad.add (i * 3)) x := by
  have hlt := (List.getElem?_eq_some_iff.1 hi).1
  obtain ⟨ad, hA, hS, hc⟩ := h.addr (by rw [flt_length dgC_len]; omega)
  exact ⟨ad, hA, hS, hc _ _ (flt_at (j := 0) dgC_len hi rfl), cellOff (by decide) (hc _ _ (flt_at dgC_len hi rfl)), cellOff (by decide) (hc _ _ (flt_at dgC_len hi rfl))⟩
theorem infoDg : (Try.prog.info? 61).map (fun i => (i.zero, i.size, i.bytes)) = some (some (.agg #[.int .i64 0, .int .i64 0, .string ⟨#[]⟩]), 3, 32) := by kernel_rfl
/-- A row of diagnostics of its own was returned. -/
def DgRes (l : List Dg) (w : World) (e : Ending) (w' : World) : Prop := ∃ v, e = .returned v ∧ w'.ownsRow w.heap.size 61 3 v l.length (flt dgC l) ∧ Below w.heap.size w w'

/-! ### Known signatures -/
abbrev Kn := List UInt8 × Sg
abbrev KnV := List UInt8 × SV
def knC (p : KnV) : List Value := sv p.1 :: p.2.cells
theorem knC_len (p : KnV) : (knC p).length = 8 := rfl
structure Kns (w : World) (S : Nat → Prop) (A : Option Addr) (l : List Kn) (qs : List KnV) : Prop where
  row : Row w S A (flt knC qs)
  names : qs.map (·.1) = l.map (·.1)
  each : ∀ (i : Nat) (k : Kn) (q : KnV), l[i]? = some k → qs[i]? = some q → k.1 = q.1 ∧ SgIs w S k.2 q.2
theorem Kns.len {w : World} {S : Nat → Prop} {A : Option Addr} {l : List Kn} {qs : List KnV} (h : Kns w S A l qs) : qs.length = l.length := by
  have := congrArg List.length h.names
  simpa using this
theorem Kns.now {w w' : World} {A : Option Addr} {l : List Kn} {qs : List KnV} (h : Kns w (Lt w.heap.size) A l qs) (hb : Below w.heap.size w w') : Kns w' (Lt w'.heap.size) A l qs :=
  ⟨(h.row.keep (kept_below hb)).more fun _ h => Nat.lt_of_lt_of_le h hb.size, h.names, fun i k q hk hq => ⟨(h.each i k q hk hq).1, (h.each i k q hk hq).2.now hb⟩⟩
/-- The cells of a known signature, from an address on. -/
def KnAt (w : World) (a : Addr) (p : KnV) : Prop := w.cell? a = some (sv p.1) ∧ w.cell? ⟨a.block, a.off + 1, none⟩ = some (.int .i64 p.2.k) ∧ w.cell? ⟨a.block, a.off + 2, none⟩ = some (.slice p.2.P.1 p.2.P.2.1 p.2.P.2.2) ∧ w.cell? ⟨a.block, a.off + 3, none⟩ = some (.slice p.2.N.1 p.2.N.2.1 p.2.N.2.2) ∧
  w.cell? ⟨a.block, a.off + 4, none⟩ = some (.slice p.2.A.1 p.2.A.2.1 p.2.A.2.2) ∧ w.cell? ⟨a.block, a.off + 5, none⟩ = some (sv p.2.u) ∧ w.cell? ⟨a.block, a.off + 6, none⟩ = some (.slice p.2.v.1 p.2.v.2.1 p.2.v.2.2) ∧ w.cell? ⟨a.block, a.off + 7, none⟩ = some (sv p.2.tr)
theorem kn_at {w : World} {S : Nat → Prop} {A : Option Addr} {l : List KnV} {i : Nat} {x : KnV} (h : Row w S A (flt knC l)) (hi : l[i]? = some x) :
    ∃ ad, A = some ad ∧ S ad.block ∧ KnAt w (ad.add (i * 8)) x := by
  have hlt := (List.getElem?_eq_some_iff.1 hi).1
  obtain ⟨ad, hA, hS, hc⟩ := h.addr (by rw [flt_length knC_len]; omega)
  exact ⟨ad, hA, hS, hc _ _ (flt_at (j := 0) knC_len hi rfl), cellOff (by decide) (hc _ _ (flt_at knC_len hi rfl)), cellOff (by decide) (hc _ _ (flt_at knC_len hi rfl)), cellOff (by decide) (hc _ _ (flt_at knC_len hi rfl)), cellOff (by decide) (hc _ _ (flt_at knC_len hi rfl)), cellOff (by decide) (hc _ _ (flt_at knC_len hi rfl)), cellOff (by decide) (hc _ _ (flt_at knC_len hi rfl)), cellOff (by decide) (hc _ _ (flt_at knC_len hi rfl))⟩

/-! ### SameDiags -/
set_option maxHeartbeats 1600000 in
set_option maxRecDepth 100000 in
theorem sameDiags_any (xs ys : List Dg) (A B : Option Addr) (c d : Nat) (w : World) (hl : xs.length ≤ 8000000) (h : Row w (Lt w.heap.size) A (flt dgC xs)) (h2 : Row w (Lt w.heap.size) B (flt dgC ys)) :
    Calls Try.prog 9 #[.slice A xs.length c, .slice B ys.length d] w (Says (xs = ys) w) := by
  by_cases hll : xs.length = ys.length
  · obtain ⟨m, hm⟩ : ∃ m, m = xs.length := ⟨_, rfl⟩
    rw [← hll, ← hm]
    rw [← hm] at hl
    have HM := Lib.hid hm
    have HLL := Lib.hid hll
    have HR := Lib.hid h
    have HR2 := Lib.hid h2
    clear hm hll h h2
    go_enter Try.func9, Try.ntmps9
    go_wp2_with fail
    go_loopw [5] (fun i wr => ∃ k : Nat, k ≤ m ∧ i = .int .i64 k ∧ Below w.heap.size w wr ∧ xs.take k = ys.take k) (fun i _ => m - (intOf i).toNat)
    case atStart => exact ⟨0, by omega, rfl, Below.refl _ _, rfl⟩
    case round =>
      obtain ⟨k, hkm, rfl, hB, hP⟩ := hrel
      have HP := Lib.hid hP
      clear hP
      by_cases hlt : k < m
      · obtain ⟨x, hx⟩ : ∃ x, xs[k]? = some x := ⟨_, List.getElem?_eq_getElem (by rw [← HM.out]; exact hlt)⟩
        obtain ⟨y, hy⟩ : ∃ y, ys[k]? = some y := ⟨_, List.getElem?_eq_getElem (by rw [← HLL.out, ← HM.out]; exact hlt)⟩
        obtain ⟨ad, rfl, hsa, a0, a1, a2⟩ := dg_at (HR.out.keep (kept_below hB)) hx
        obtain ⟨be, rfl, hsb, b0, b1, b2⟩ := dg_at (HR2.out.keep (kept_below hB)) hy
        have hik : (0 : Int) ≤ (k : Int) ∧ (k : Int) < (m : Int) := ⟨by omega, by omega⟩
        have HX := Lib.hid hx
        have HY := Lib.hid hy
        have HB := Lib.hid hB
        have HCC : Hid (AtCells [(ad.add (k * 3), .int .i64 x.1), (⟨(ad.add (k * 3)).block, (ad.add (k * 3)).off + 1, none⟩, .int .i64 x.2.1), (⟨(ad.add (k * 3)).block, (ad.add (k * 3)).off + 2, none⟩, sv x.2.2), (be.add (k * 3), .int .i64 y.1), (⟨(be.add (k * 3)).block, (be.add (k * 3)).off + 1, none⟩, .int .i64 y.2.1), (⟨(be.add (k * 3)).block, (be.add (k * 3)).off + 2, none⟩, sv y.2.2)] wr) := Lib.hid ⟨a0, a1, a2, b0, b1, b2, trivial⟩
        clear hx hy hB hsa hsb a0 a1 a2 b0 b1 b2
        go_wp2_with fail
        refine wp_region_held' (AtCells [(ad.add (k * 3), .int .i64 x.1), (⟨(ad.add (k * 3)).block, (ad.add (k * 3)).off + 1, none⟩, .int .i64 x.2.1), (⟨(ad.add (k * 3)).block, (ad.add (k * 3)).off + 2, none⟩, sv x.2.2), (be.add (k * 3), .int .i64 y.1), (⟨(be.add (k * 3)).block, (be.add (k * 3)).off + 1, none⟩, .int .i64 y.2.1), (⟨(be.add (k * 3)).block, (be.add (k * 3)).off + 2, none⟩, sv y.2.2)]) [] [0, 1, 2, 3, 4, 5, 6, 7, 8] [] [] (by kernel_rfl) (by kernel_rfl) ?sa ?ha
        case sa => exact HCC.out.below (Below.refl _ wr).drew
        case ha =>
        clear HCC
        simp only [opsAt, List.filterMap_cons, List.filterMap_nil, List.getElem?_toArray, List.getElem?_cons_succ, List.getElem?_cons_zero]
        refine wpFloat_nil ?_
        refine wpLoad_step ?va0 rfl (fun w' hS => ?ya0) ?ka0
        case ya0 =>
          obtain ⟨g0, g1, g2, g3, g4, g5, _⟩ := hS
          go_simp
          try rfl
        case ka0 =>
        go_simp
        refine wpLoad_step ?va1 rfl (fun w' hS => ?ya1) ?ka1
        case ya1 =>
          obtain ⟨g0, g1, g2, g3, g4, g5, _⟩ := hS
          go_simp
          try rfl
        case ka1 =>
        go_simp
        refine wpLoad_step ?va2 rfl (fun w' hS => ?ya2) ?ka2
        case ya2 =>
          obtain ⟨g0, g1, g2, g3, g4, g5, _⟩ := hS
          go_simp
          try rfl
        case ka2 =>
        go_simp
        refine wpLoad_step ?va3 rfl (fun w' hS => ?ya3) ?ka3
        case ya3 =>
          obtain ⟨g0, g1, g2, g3, g4, g5, _⟩ := hS
          go_simp
          try rfl
        case ka3 =>
        go_simp
        refine wpLoad_step ?va4 rfl (fun w' hS => ?ya4) ?ka4
        case ya4 =>
          obtain ⟨g0, g1, g2, g3, g4, g5, _⟩ := hS
          go_simp
          try rfl
        case ka4 =>
        go_simp
        refine wpLoad_step ?va5 rfl (fun w' hS => ?ya5) ?ka5
        case ya5 =>
          obtain ⟨g0, g1, g2, g3, g4, g5, _⟩ := hS
          go_simp
          try rfl
        case ka5 =>
        go_simp
        refine wpLoad_step ?va6 rfl (fun w' hS => ?ya6) ?ka6
        case ya6 =>
          obtain ⟨g0, g1, g2, g3, g4, g5, _⟩ := hS
          go_simp
          try rfl
        case ka6 =>
        go_simp
        refine wpLoad_step ?va7 rfl (fun w' hS => ?ya7) ?ka7
        case ya7 =>
          obtain ⟨g0, g1, g2, g3, g4, g5, _⟩ := hS
          go_simp
          try rfl
        case ka7 =>
        go_simp
        refine wpLoad_step (.bool (!decide (x = y))) rfl (fun w' hS => ?ya8) ?ka8
        case ya8 =>
          go_simp
          simp only [bs_toList]
          by_cases h1 : x.1 = y.1 <;> by_cases h2 : x.2.1 = y.2.1 <;> by_cases h3 : x.2.2 = y.2.2 <;> simp [h1, h2, h3, Prod.ext_iff, eq_comm]
        case ka8 =>
        by_cases he : x = y
        · have hq : decide (x = y) = true := decide_eq_true he
          have HE := Lib.hid he
          rw [hq]
          clear hq he
          refine wpLoad_nil ?_
          refine wpKeep_nil ?_
          go_wp2
          refine NoPanic.normal ?_
          go_wp2
          go_roundw
          case rel => exact ⟨k + 1, by omega, by go_num, HB.out.drew, by rw [take_snoc HX.out, take_snoc HY.out, HP.out, HE.out]⟩
          case measure => simp [intOf]; omega
        · have hq : decide (x = y) = false := decide_eq_false he
          have HE := Lib.hid he
          rw [hq]
          clear hq he
          refine wpLoad_nil ?_
          refine wpKeep_nil ?_
          go_wp2
          refine NoPanic.normal ?_
          go_wp2
          go_ret
          refine ⟨_, rfl, ⟨(fun h => by cases h), fun h => ?_⟩, HB.out.drew⟩
          have e1 := HX.out
          rw [h, HY.out] at e1
          exact absurd (Option.some.inj e1).symm HE.out
      · have HB := Lib.hid hB
        clear hB
        go_wp2
        go_ret
        refine ⟨_, rfl, ⟨fun _ => ?_, fun _ => rfl⟩, HB.out⟩
        have hp := HP.out
        rwa [List.take_of_length_le (by rw [← HM.out]; omega), List.take_of_length_le (by rw [← HLL.out, ← HM.out]; omega)] at hp
  · have hne : xs ≠ ys := fun e => hll (by rw [e])
    obtain ⟨m, hm⟩ : ∃ m, m = xs.length := ⟨_, rfl⟩
    obtain ⟨m2, hm2⟩ : ∃ m2, m2 = ys.length := ⟨_, rfl⟩
    rw [← hm, ← hm2] at hll ⊢
    have HNE := Lib.hid hne
    have hq : ((m : Int) != (m2 : Int)) = true := by simp; omega
    have hq2 : ((m : Int) == (m2 : Int)) = false := by simp; omega
    clear hm hm2 h h2 hl hne
    go_enter Try.func9, Try.ntmps9
    go_wp2
    go_ret
    exact ⟨_, rfl, ⟨(fun h => by cases h), fun h => absurd h HNE.out⟩, Below.refl _ _⟩
end

section
open Go.RowKit
def FnOf (k : Int) (x d : List UInt8) : Prop := k = 4 ∧ x = d
/-- 'A function of the name at block kb'. -/
abbrev isFn (kb : Nat) : Value := .func (.func 17) #[] #[.pointer (some ⟨kb, 0, none⟩)]
theorem bytes_dc (a b : List UInt8) : ((bs a).toList == (bs b).toList) = decide (a = b) := by
  by_cases h : a = b
  · rw [bytesEq h]; simp [h]
  · rw [bytesNe h]; simp [h]
set_option maxHeartbeats 1600000 in
set_option maxRecDepth 100000 in
theorem isFn_any (kb : Nat) (d : List UInt8) (k : Int) (x : List UInt8) (a : Int) (A : Option Addr) (n c : Nat) (w : World) (hp : w.cell? ⟨kb, 0, none⟩ = some (sv d)) : Calls Try.prog 17 #[.agg #[.int .i64 k, sv x, .int .i64 a, .slice A n c], .pointer (some ⟨kb, 0, none⟩)] w (Says (FnOf k x d) w) := by
  have hlt := World.block_lt_of_cell? w _ hp
  have hg2 : (w.alloc (.cells #[.int .i64 k, sv x, .int .i64 a, .slice A n c] 25)).cell? ⟨kb, 0, none⟩ = some (sv d) := (cellAlloc hlt).trans hp
  have hb : Below w.heap.size w (w.alloc (.cells #[.int .i64 k, sv x, .int .i64 a, .slice A n c] 25)) := (Below.refl _ _).alloc (Nat.le_refl _) _
  by_cases hk : k = 4
  · subst hk
    by_cases h : x = d
    · have hb2 := bytesEq h
      have HRES : Hid (Says (FnOf 4 x d) w (.returned (.bool true)) (w.alloc (.cells #[.int .i64 4, sv x, .int .i64 a, .slice A n c] 25))) := Lib.hid ⟨true, rfl, ⟨fun _ => ⟨rfl, h⟩, fun _ => rfl⟩, hb⟩
      clear h hb
      go_enter Try.func17, Try.ntmps17
      go_wp2
      go_ret
      exact HRES.out
    · have hb2 := bytesNe h
      have HRES : Hid (Says (FnOf 4 x d) w (.returned (.bool false)) (w.alloc (.cells #[.int .i64 4, sv x, .int .i64 a, .slice A n c] 25))) := Lib.hid ⟨false, rfl, ⟨(fun e => by cases e), fun e => absurd e.2 h⟩, hb⟩
      clear h hb
      go_enter Try.func17, Try.ntmps17
      go_wp2
      go_ret
      exact HRES.out
  · have hq : (k == 4) = false := by simp [hk]
    have HRES : Hid (Says (FnOf k x d) w (.returned (.bool false)) (w.alloc (.cells #[.int .i64 k, sv x, .int .i64 a, .slice A n c] 25))) := Lib.hid ⟨false, rfl, ⟨(fun e => by cases e), fun e => absurd e.1 hk⟩, hb⟩
    clear hk hb
    go_enter Try.func17, Try.ntmps17
    go_wp2
    go_ret
    exact HRES.out

/-- There is a function of this name. -/
def HasFn (ks : List Tr) (d : List UInt8) : Prop := ∃ t ∈ ks, t.kind = 4 ∧ t.text = d
set_option maxHeartbeats 1600000 in
set_option maxRecDepth 100000 in
theorem fnIndex_any (kb : Nat) (d : List UInt8) (ps : List (Tr × Value)) (A : Option Addr) (c : Nat) (w : World) (hz : ps.length ≤ 3518437208883) (hp : w.cell? ⟨kb, 0, none⟩ = some (sv d)) (hT : Trs w (Lt w.heap.size) A ps) :
    Calls Try.prog 30 #[.slice A ps.length c, isFn kb] w fun e w' => ∃ r : Int, e = .returned (.int .i64 r) ∧ (0 ≤ r ↔ HasFn (ps.map (·.1)) d) ∧ Below w.heap.size w w' := by
  obtain ⟨m, hm⟩ : ∃ m, m = ps.length := ⟨_, rfl⟩
  rw [← hm] at hz ⊢
  have hlt0 := World.block_lt_of_cell? w _ hp
  have HM := Lib.hid hm
  have HT := Lib.hid hT
  have HP := Lib.hid fun (z : World) (hz : Below w.heap.size w z) => (hz.cell (p := ⟨kb, 0, none⟩) hlt0).trans hp
  clear hm hT hp hlt0
  go_enter Try.func30, Try.ntmps30
  go_wp2
  go_loopw [8] (fun i wr => ∃ k : Nat, k ≤ m ∧ i = .int .i64 k ∧ (∀ p ∈ ps.take k, ¬ (p.1.kind = 4 ∧ p.1.text = d)) ∧ Below w.heap.size w wr) (fun i _ => m - (intOf i).toNat)
  case atStart => exact ⟨0, Nat.zero_le _, rfl, (fun p h => by simp at h), Below.refl _ _⟩
  case round =>
    obtain ⟨k, hk, rfl, hx, hb⟩ := hrel
    have HX := Lib.hid hx
    clear hx
    by_cases hlt : k < m
    · obtain ⟨q, hq⟩ : ∃ q, ps[k]? = some q := ⟨_, List.getElem?_eq_getElem (by rw [← HM.out]; exact hlt)⟩
      have hTr := HT.out.below hb
      obtain ⟨ad, hA, hadl, a0, a1, a2, a3⟩ := tr_at hTr.row hq
      obtain ⟨QA, qc, qs, hqv, _⟩ := (hTr.each k q hq).open_
      have HTK := Lib.hid (take_snoc hq)
      have HQ := Lib.hid (List.mem_of_getElem? hq)
      obtain ⟨⟨qk, qx, qa, qks⟩, qv⟩ := q
      simp only [Tr.kind, Tr.text, Tr.at_] at a0 a1 a2 a3 hqv
      subst hqv
      obtain ⟨l, hl'⟩ : ∃ l, l = qs.length := ⟨_, rfl⟩
      rw [← hl'] at a3
      rw [hA]
      have HAD := Lib.hid hA
      have HB := Lib.hid hb
      have hik : (0 : Int) ≤ (k : Int) ∧ (k : Int) < (m : Int) := ⟨by omega, by omega⟩
      have HCL := Lib.hid (isFn_any kb d qk qx qa QA l qc wr (HP.out wr hb))
      clear hl' hA hTr hq hb hadl
      go_wp2_with fail
      refine HCL.out.mono ?_
      rintro e w1 ⟨r, rfl, hr, hb1⟩
      have HB1 := Lib.hid (HB.out.trans (hb1.mono HB.out.size))
      have HR := Lib.hid hr
      clear hr hb1 HCL a0 a1 a2 a3
      cases r with
      | true =>
        have HRES : Hid (∃ r : Int, (Ending.returned (.int .i64 (k : Int)) : Ending) = .returned (.int .i64 r) ∧ (0 ≤ r ↔ HasFn (ps.map (·.1)) d) ∧ Below w.heap.size w w1) := Lib.hid ⟨k, rfl, ⟨fun _ => ⟨_, List.mem_map.2 ⟨_, HQ.out, rfl⟩, HR.out.1 rfl⟩, fun _ => by omega⟩, HB1.out⟩
        go_wp2
        go_ret
        exact HRES.out
      | false =>
        go_wp2
        try rw [← HAD.out]
        go_roundw
        case rel =>
          refine ⟨k + 1, by omega, by go_num, fun p hp => ?_, HB1.out⟩
          rw [HTK.out, List.mem_append, List.mem_singleton] at hp
          rcases hp with hp | rfl
          · exact HX.out p hp
          · intro e
            have := HR.out.2 e
            cases this
        case measure => simp [intOf]; omega
    · have HRES : Hid (∃ r : Int, (Ending.returned (.int .i64 (-1)) : Ending) = .returned (.int .i64 r) ∧ (0 ≤ r ↔ HasFn (ps.map (·.1)) d) ∧ Below w.heap.size w wr) := Lib.hid ⟨-1, rfl, ⟨fun e => by omega, fun ⟨t, ht, e⟩ => by
        obtain ⟨p, hp, rfl⟩ := List.mem_map.1 ht
        have hx := HX.out
        rw [List.take_of_length_le (by rw [← HM.out]; omega)] at hx
        exact absurd e (hx p hp)⟩, hb⟩
      clear hb
      go_wp2
      go_ret
      exact HRES.out

set_option maxHeartbeats 1600000 in
set_option maxRecDepth 100000 in
theorem fnContains_any (kb : Nat) (d : List UInt8) (ps : List (Tr × Value)) (A : Option Addr) (n c : Nat) (hn : n = ps.length) (w : World) (hz : ps.length ≤ 3518437208883) (hp : w.cell? ⟨kb, 0, none⟩ = some (sv d)) (hT : Trs w (Lt w.heap.size) A ps) :
    Calls Try.prog 16 #[.slice A n c, isFn kb] w (Says (HasFn (ps.map (·.1)) d) w) := by
  have HI := Lib.hid (fnIndex_any kb d ps A c w hz hp hT)
  rw [← hn] at HI
  clear hn hp hT hz
  go_enter Try.func16, Try.ntmps16
  go_wp2_with fail
  refine HI.out.mono ?_
  rintro e w1 ⟨r, rfl, hr, hb⟩
  have HR := Lib.hid hr
  clear hr
  go_wp2
  go_ret
  exact ⟨_, rfl, by rw [← HR.out]; simp, hb⟩
end
end Go.Proofs.Ytiijlecidepneaa
