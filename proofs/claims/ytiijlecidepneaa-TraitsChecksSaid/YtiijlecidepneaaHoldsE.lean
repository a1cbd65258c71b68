/-
  The walk of traits.Holds.
  Conditions: the arguments read as they must; the goals that can be met are finitely many.
-/
import Derived.Test.YtiijlecidepneaaHoldsD
namespace Go.Proofs.Ytiijlecidepneaa
open Go.RowKit

def HoldsRes (r : Bool) (w : World) (e : Ending) (w' : World) : Prop := e = .returned (.bool r) ∧ Below w.heap.size w w'

theorem alloc7 (w : World) (a b c d e f g : Obj) :
    (((((((w.alloc a).alloc b).alloc c).alloc d).alloc e).alloc f).alloc g).heap[w.heap.size]? = some a ∧ (((((((w.alloc a).alloc b).alloc c).alloc d).alloc e).alloc f).alloc g).heap[w.heap.size + 1]? = some b ∧
    (((((((w.alloc a).alloc b).alloc c).alloc d).alloc e).alloc f).alloc g).heap[w.heap.size + 2]? = some c ∧ (((((((w.alloc a).alloc b).alloc c).alloc d).alloc e).alloc f).alloc g).heap[w.heap.size + 3]? = some d ∧
    (((((((w.alloc a).alloc b).alloc c).alloc d).alloc e).alloc f).alloc g).heap[w.heap.size + 4]? = some e ∧ (((((((w.alloc a).alloc b).alloc c).alloc d).alloc e).alloc f).alloc g).heap[w.heap.size + 5]? = some f ∧
    (((((((w.alloc a).alloc b).alloc c).alloc d).alloc e).alloc f).alloc g).heap[w.heap.size + 6]? = some g := by
  refine ⟨?_, ?_, ?_, ?_, ?_, ?_, ?_⟩
  · rw [heap_alloc_old _ _ (by simp; try omega), heap_alloc_old _ _ (by simp; try omega), heap_alloc_old _ _ (by simp; try omega), heap_alloc_old _ _ (by simp; try omega), heap_alloc_old _ _ (by simp; try omega), heap_alloc_old _ _ (by simp; try omega)]; exact alloc1 _ _
  · rw [heap_alloc_old _ _ (by simp; try omega), heap_alloc_old _ _ (by simp; try omega), heap_alloc_old _ _ (by simp; try omega), heap_alloc_old _ _ (by simp; try omega), heap_alloc_old _ _ (by simp; try omega)]; rw [show w.heap.size + 1 = (w.alloc a).heap.size from by simp]; exact alloc1 _ _
  · rw [heap_alloc_old _ _ (by simp; try omega), heap_alloc_old _ _ (by simp; try omega), heap_alloc_old _ _ (by simp; try omega), heap_alloc_old _ _ (by simp; try omega)]; rw [show w.heap.size + 2 = ((w.alloc a).alloc b).heap.size from by simp]; exact alloc1 _ _
  · rw [heap_alloc_old _ _ (by simp; try omega), heap_alloc_old _ _ (by simp; try omega), heap_alloc_old _ _ (by simp; try omega)]; rw [show w.heap.size + 3 = (((w.alloc a).alloc b).alloc c).heap.size from by simp]; exact alloc1 _ _
  · rw [heap_alloc_old _ _ (by simp; try omega), heap_alloc_old _ _ (by simp; try omega)]; rw [show w.heap.size + 4 = ((((w.alloc a).alloc b).alloc c).alloc d).heap.size from by simp]; exact alloc1 _ _
  · rw [heap_alloc_old _ _ (by simp; try omega)]; rw [show w.heap.size + 5 = (((((w.alloc a).alloc b).alloc c).alloc d).alloc e).heap.size from by simp]; exact alloc1 _ _
  · rw [show w.heap.size + 6 = ((((((w.alloc a).alloc b).alloc c).alloc d).alloc e).alloc f).heap.size from by simp]; exact alloc1 _ _

set_option maxHeartbeats 4000000 in
set_option maxRecDepth 100000 in
theorem holds_any (l : List Hdr) (s : List (List UInt8 × List UInt8)) (U : List Goal) (hU : U.length ≤ 4000000) (hc : Shut (leadsOf l s) U) (g : Goal) (hgU : g ∈ U) (LA SA : Option Addr) (lc sc : Nat) (q : GV) (qs : List HV) (w : World)
    (hl : Hds w (Lt w.heap.size) LA l qs) (hLA : LA = none → lc = 0) (hs : Row w (Lt w.heap.size) SA (flat2 (s.map pairV))) (hsl : s.length ≤ 4000000) (hg : GlIs w (Lt w.heap.size) g q) :
    Calls Try.prog 14 #[.slice LA l.length lc, .slice SA s.length sc, .agg #[q.1, q.2.1, q.2.2]] w (HoldsRes (dfs (leadsOf l s) U.length [] g).1 w) := by
  have hmm := @run_makeMap Try.prog
  have hst : ∀ (a : Addr) (w : World) (c : Array Value), (store a (.func (.func 25) #[] c) .plain).run Try.prog w = stored Try.prog w a (.func (.func 25) #[] c) .plain := fun a w c => run_store _ w a _ _ rfl
  have hat := holds_at w.heap.size l s U hU hc U.length [] g q (.slice none 0 0) []
  obtain ⟨q1, q2, q3⟩ := q
  obtain ⟨hg1, hg2⟩ := id hg
  simp only at hg1 hg2 hat ⊢
  subst hg1
  obtain ⟨nm, a, rfl, rfl⟩ := hg2.shape
  obtain ⟨h0, h1, h2, h3, h4, h5, h6⟩ := alloc7 w (.cells #[.slice LA l.length lc] 51) (.cells #[.slice SA s.length sc] 74) (.cells #[sv g.1, sv nm, .slice a.1 a.2.1 a.2.2] 56) (.cells #[.slice none 0 0] 75) (.map #[] 0) (.cells #[.map (some (w.heap.size + 1 + 1 + 1 + 1))] 76) (.cells #[(.func (.func 25) #[] #[.pointer (some ⟨w.heap.size + 1 + 1 + 1, 0, none⟩), .pointer (some ⟨w.heap.size + 1 + 1 + 1 + 1 + 1, 0, none⟩), .pointer (some ⟨w.heap.size, 0, none⟩), .pointer (some ⟨w.heap.size + 1, 0, none⟩), .pointer (some ⟨w.heap.size + 1 + 1 + 1 + 1 + 1 + 1, 0, none⟩)])] 77)
  have hb7 : Below w.heap.size w (((((((w.alloc (.cells #[.slice LA l.length lc] 51)).alloc (.cells #[.slice SA s.length sc] 74)).alloc (.cells #[sv g.1, sv nm, .slice a.1 a.2.1 a.2.2] 56)).alloc (.cells #[.slice none 0 0] 75)).alloc (.map #[] 0)).alloc (.cells #[.map (some (w.heap.size + 1 + 1 + 1 + 1))] 76)).alloc (.cells #[(.func (.func 25) #[] #[.pointer (some ⟨w.heap.size + 1 + 1 + 1, 0, none⟩), .pointer (some ⟨w.heap.size + 1 + 1 + 1 + 1 + 1, 0, none⟩), .pointer (some ⟨w.heap.size, 0, none⟩), .pointer (some ⟨w.heap.size + 1, 0, none⟩), .pointer (some ⟨w.heap.size + 1 + 1 + 1 + 1 + 1 + 1, 0, none⟩)])] 77)) :=
    (((((((Below.refl _ _).alloc (Nat.le_refl _) _).alloc (by simp) _).alloc (by simp; omega) _).alloc (by simp; omega) _).alloc (by simp; omega) _).alloc (by simp; omega) _).alloc (by simp; omega) _
  obtain ⟨w7, hw7⟩ : ∃ w7, w7 = (((((((w.alloc (.cells #[.slice LA l.length lc] 51)).alloc (.cells #[.slice SA s.length sc] 74)).alloc (.cells #[sv g.1, sv nm, .slice a.1 a.2.1 a.2.2] 56)).alloc (.cells #[.slice none 0 0] 75)).alloc (.map #[] 0)).alloc (.cells #[.map (some (w.heap.size + 1 + 1 + 1 + 1))] 76)).alloc (.cells #[(.func (.func 25) #[] #[.pointer (some ⟨w.heap.size + 1 + 1 + 1, 0, none⟩), .pointer (some ⟨w.heap.size + 1 + 1 + 1 + 1 + 1, 0, none⟩), .pointer (some ⟨w.heap.size, 0, none⟩), .pointer (some ⟨w.heap.size + 1, 0, none⟩), .pointer (some ⟨w.heap.size + 1 + 1 + 1 + 1 + 1 + 1, 0, none⟩)])] 77)) := ⟨_, rfl⟩
  rw [← hw7] at h0 h1 h2 h3 h4 h5 h6 hb7
  have hl6 := lt_of_heap h6
  have hk7 := kept_below hb7
  have h6 : w7.heap[w.heap.size + 6]? = some (.cells #[holdsV w.heap.size] 77 (0, 0)) := h6
  have hS : HSt w.heap.size l s [] (.slice none 0 0) [] w7 := by
    refine ⟨h3, World.ownsRow_nil _ _ _ _, rfl, fun i x q h => by simp at h, ⟨0, .map [], Nat.le_refl _, ?_, fun k => rfl⟩, ⟨⟨LA, lc, qs, h0, hLA, hl.keep hk7⟩, ⟨SA, sc, h1, hs.keep hk7⟩, h5, h6, hsl⟩⟩
    exact ⟨#[], 0, h4, ⟨by simp, MapKept.stamped_empty 0, by simp⟩, Nat.le_refl _, rfl⟩
  have d0 : w7.cell? ⟨w.heap.size + 1 + 1, 0, none⟩ = some (sv g.1) := (Lib.cell_of_heap h2 _).trans rfl
  have d1 : w7.cell? ⟨w.heap.size + 1 + 1, 1, none⟩ = some (sv nm) := (Lib.cell_of_heap h2 _).trans rfl
  have d2 : w7.cell? ⟨w.heap.size + 1 + 1, 2, none⟩ = some (.slice a.1 a.2.1 a.2.2) := (Lib.cell_of_heap h2 _).trans rfl
  have hG : GlIs w7 (Offb w.heap.size (.slice none 0 0) w7.heap.size) g (sv g.1, sv nm, .slice a.1 a.2.1 a.2.2) := (hg.keep hk7).more fun y hy => ⟨Nat.lt_of_lt_of_le hy hb7.size, by unfold Lt at hy; omega, by unfold Lt at hy; omega, by simp [Value.ownBlock]⟩
  have hat := hat w7 hS ⟨by simp, by simp⟩ hgU (by simp) hG
  clear h0 h1 h2 h3 h4 h5 h6 hS hG hk7 hg hg2 hl6
  rw [hw7] at d0 d1 d2 hat hb7
  have HAT := Lib.hid hat
  have HB7 := Lib.hid hb7
  clear hat hb7 hw7
  go_enter Try.func14, Try.ntmps14
  go_wp2_with fail
  refine HAT.out.mono ?_
  rintro e w8 ⟨ov, vs, rfl, _, hK, _⟩
  have hb8 := HB7.out.trans (⟨hK.os, hK.tape, hK.output, hK.size, fun x hx => hK.block x (Nat.lt_of_lt_of_le hx HB7.out.size) (fun e => by
    rcases e with e | e | e
    · omega
    · omega
    · cases e)⟩ : Below w.heap.size _ w8)
  have HB8 := Lib.hid hb8
  clear hK hb8
  go_wp2
  go_ret
  exact ⟨rfl, HB8.out⟩
end Go.Proofs.Ytiijlecidepneaa
