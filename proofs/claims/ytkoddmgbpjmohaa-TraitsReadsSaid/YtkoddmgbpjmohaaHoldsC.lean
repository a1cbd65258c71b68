/-
  The walk of the closure of Holds at a goal that has been met before.
  Conditions: the state lies in memory as it must.
-/
import Derived.Test.YtkoddmgbpjmohaaHoldsB
namespace Go.Proofs.Ytkoddmgbpjmohaa
open Go.RowKit

theorem zeroB (w : World) : (zeroValue 4).run Try.prog w = .ok (.bool false) w := by kernel_rfl

theorem HSt.shape {B : Nat} {l : List Hdr} {s : List (List UInt8 × List UInt8)} {st : DSt} {ov : Value} {vs : List GV} {w : World} (h : HSt B l s st ov vs w) : ∃ (A : Option Addr) (c : Nat), ov = .slice A st.length c ∧ Gls w (Lt w.heap.size) A (st.map (·.1)) vs := by
  have hL : ∀ A c, ov = .slice A st.length c → Gls w (Lt w.heap.size) A (st.map (·.1)) vs := fun A c e => by
    refine ⟨by rw [h.vlen, List.length_map], ?_, fun i g q hg hq => ?_⟩
    · have := h.own
      rw [e] at this
      exact Row.ofOwn this fun g _ _ h2 => h2
    · rw [List.getElem?_map] at hg
      obtain ⟨x, hx, rfl⟩ := Option.map_eq_some_iff.1 hg
      exact (h.each i x q hx hq).more fun b hb => hb.1
  rcases h.own.2 with ⟨e, h0⟩ | ⟨g, c, cur, e, _⟩
  · exact ⟨none, 0, by rw [e, h0], hL none 0 (by rw [e, h0])⟩
  · exact ⟨_, c, e, hL _ c e⟩

def HoldsAt (B : Nat) (l : List Hdr) (s : List (List UInt8 × List UInt8)) (U : List Goal) (n : Nat) : Prop :=
  ∀ (st : DSt) (g : Goal) (q : GV) (ov : Value) (vs : List GV) (w : World), HSt B l s st ov vs w → Inv U st → g ∈ U → U.length ≤ st.length + n → GlIs w (Offb B ov w.heap.size) g q →
    Calls Try.prog 18 #[.agg #[q.1, q.2.1, q.2.2], .pointer (some ⟨B + 3, 0, none⟩), .pointer (some ⟨B + 5, 0, none⟩), .pointer (some ⟨B, 0, none⟩), .pointer (some ⟨B + 1, 0, none⟩), .pointer (some ⟨B + 6, 0, none⟩)] w (HRes B l s (dfs (leadsOf l s) n st g) ov w)

set_option maxHeartbeats 4000000 in
set_option maxRecDepth 100000 in
theorem holds_old (B : Nat) (l : List Hdr) (s : List (List UInt8 × List UInt8)) (U : List Goal) (hU : U.length ≤ 1000000) (n : Nat) (st : DSt) (g : Goal) (q : GV) (ov : Value) (vs : List GV) (w : World) (hS : HSt B l s st ov vs w) (hI : Inv U st) (hg : GlIs w (Offb B ov w.heap.size) g q)
    (hi : 0 ≤ gIdx (st.map (·.1)) g 0) :
    Calls Try.prog 18 #[.agg #[q.1, q.2.1, q.2.2], .pointer (some ⟨B + 3, 0, none⟩), .pointer (some ⟨B + 5, 0, none⟩), .pointer (some ⟨B, 0, none⟩), .pointer (some ⟨B + 1, 0, none⟩), .pointer (some ⟨B + 6, 0, none⟩)] w (HRes B l s (dfs (leadsOf l s) n st g) ov w) := by
  rw [dfs_old hi]
  obtain ⟨j, hj, hjg⟩ := gIdx_some _ _ _ hi
  rw [Nat.zero_add] at hj
  rw [hj, Int.toNat_natCast]
  obtain ⟨A, c, rfl, hL⟩ := hS.shape
  have hle := hI.le
  have hjl : j < st.length := by
    have := (List.getElem?_eq_some_iff.1 hjg).1
    simpa using this
  obtain ⟨q1, q2, q3⟩ := q
  obtain ⟨hg1, hg2⟩ := id hg
  simp only at hg1 hg2 ⊢
  subst hg1
  obtain ⟨nm, a, rfl, rfl⟩ := hg2.shape
  have hb1 : Below w.heap.size w (w.alloc (.cells #[sv g.1, sv nm, .slice a.1 a.2.1 a.2.2] 28)) := (Below.refl _ _).alloc (Nat.le_refl _) _
  have hix := indexFuncG (st.map (·.1)) A c w.heap.size vs g (sv g.1, sv nm, .slice a.1 a.2.1 a.2.2) _ (hL.now (Nat.le_refl _) hb1) (by rw [List.length_map]; omega) ⟨rfl, (hg2.more fun _ hb => hb.1).now (Nat.le_refl _) hb1⟩ (alloc1 _ _)
  rw [List.length_map, hj] at hix
  have hS1 := hS.kept hb1
  have c3 : (w.alloc (.cells #[sv g.1, sv nm, .slice a.1 a.2.1 a.2.2] 28)).cell? ⟨B + 3, 0, none⟩ = some (.slice A st.length c) := by rw [Lib.cell_of_heap hS1.gblk]; rfl
  have HIX := Lib.hid hix
  have HS := Lib.hid hS
  clear hix hS hL hg hg2 hS1 hi hjg
  go_enter Try.func18, Try.ntmps18
  go_wp2_with fail
  refine HIX.out.mono ?_
  rintro e w2 ⟨rfl, hb2⟩
  have hb12 : Below w.heap.size w w2 := hb1.trans (hb2.mono hb1.size)
  have hS2 := HS.out.kept hb12
  have c5 : w2.cell? ⟨B + 5, 0, none⟩ = some (.map (some (B + 4))) := by rw [Lib.cell_of_heap hS2.ctx.mblk]; rfl
  have hlook := hS2.known.look j (by omega) (zeroB _)
  have HS2 := Lib.hid hS2
  clear hS2 c3
  go_wp2
  go_ret
  exact ⟨_, vs, rfl, HS2.out, Kp.ofBelow hb12, fun y hy => .inl hy⟩
end Go.Proofs.Ytkoddmgbpjmohaa
