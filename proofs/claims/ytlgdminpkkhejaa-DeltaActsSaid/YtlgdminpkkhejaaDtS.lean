/-
  The walks of slices.SortFunc and slices.Clone over messages, delta.Sorted.
  Conditions: the messages lie in memory; there are at most 10^6.
-/
import Derived.Test.YtlgdminpkkhejaaDtO
import Derived.Test.YtlgdminpkkhejaaBsrt
import Derived.Test.YtlgdminpkkhejaaShelfS
import Derived.Shelf.SlSortCmp.NoneTotal
import Derived.Lib.SliceRun
namespace Go.Proofs.Ytlgdminpkkhejaa
open Go.RowKit Go.Shelf Go.Sort

theorem ltCmp (x y : Msg) : ltOf cmpM x y = ltM x y := by
  unfold ltOf
  cases h : ltM x y with
  | true => simpa using (cmpM_iff x y).2 h
  | false =>
    have : ¬ cmpM x y < 0 := fun e => by have := (cmpM_iff x y).1 e; rw [h] at this; cases this
    simp [this]
theorem swoM : SWO (ltOf cmpM) where
  irrefl x := by rw [ltCmp]; exact ltM_irr x
  trans x y z h1 h2 := by rw [ltCmp] at *; exact ltM_trans h1 h2
  ntrans x y z h1 h2 := by rw [ltCmp] at *; exact ltM_ntrans h1 h2
/-- The messages in order, in the same row. -/
def SortM (base : Nat) (A : Option Addr) (c k : Nat) (zs : List Msg) (w : World) (e : Ending) (w' : World) : Prop :=
  e = .returned (.tuple #[]) ∧ w'.ownsRow base 40 3 (.slice A k c) k (flt msC (srtM zs)) ∧ ∃ g, base ≤ g ∧ Kp (fun y => y = g) w w'
theorem sortM_any (base : Nat) (A : Option Addr) (c k : Nat) (zs : List Msg) (w : World) (hown : w.ownsRow base 40 3 (.slice A k c) k (flt msC zs)) (hz : zs.length = k) (hl : k < 4611686018427387904) :
    Calls Try.prog 25 #[.slice A k c, .func (.func 26) #[] #[]] w (SortM base A c k zs w) := by
  subst hz
  rcases hown.2 with ⟨hv, h0⟩ | ⟨g, cap, cur, hv, _⟩
  · have hz : zs = [] := List.eq_nil_of_length_eq_zero h0
    subst hz
    have h := AnyF.slices_SortFunc_none Try.laysSort A c (.func (.func 26) #[] #[]) w
    change Calls Try.prog 25 _ _ _ at h
    refine h.mono ?_
    rintro e w' ⟨rfl, rfl⟩
    exact ⟨rfl, hown, base, Nat.le_refl _, Kp.refl _ _⟩
  · obtain ⟨rfl, _, rfl⟩ := Value.slice.inj hv
    have hg := (hown.lt g rfl).1
    have eg : ∀ args w, (callFunc 26 args).run Try.prog w = .ok (.enter 26 args) w := enters_of Try.func26 (by kernel_rfl) rfl
    have h := sortFunc_own Try.laysSort 3 Try.isAgg40 Try.sizeOf40 msC msC_len msC_one cmpM swoM 26 #[] base 40 g c zs w eg (fun x y W => compare_any x y W) hown hl
    change Calls Try.prog 25 _ _ _ at h
    refine h.mono ?_
    rintro e w' ⟨rfl, ys, hp, hs, ho, hk⟩
    have hys : ys = srtM zs := srtM_of (hs.imp fun {x y} h => by
      have h : ¬ cmpM y x < 0 := h
      cases hb : ltM y x with
      | false => rfl
      | true => exact absurd ((cmpM_iff y x).2 hb) h) hp
    subst hys
    exact ⟨rfl, ho, g, hg, hk⟩

set_option maxHeartbeats 1000000 in
set_option maxRecDepth 100000 in
theorem clone_any (S : Nat → Prop) (l : List Msg) (A : Option Addr) (c : Nat) (w : World) (hl : l.length ≤ 1000000) (hc : A = none → c = 0) (h : Row w S A (flt msC l)) :
    Calls Try.prog 24 #[.slice A l.length c] w (RowRes l w) := by
  cases A with
  | none =>
    have hl0 : l = [] := by
      rcases h with h | ⟨ad, h, _⟩
      · cases l with
        | nil => rfl
        | cons a r => simp [flt, msC] at h
      · cases h
    subst hl0
    obtain rfl := hc rfl
    have h1 := Lib.run_eql_slice_nil (P := Try.prog) w 22 40 none 0 0 0 0 Try.underlying22
    go_enter Try.func24, Try.ntmps24
    go_wp2
    go_ret
    exact ⟨_, rfl, World.ownsRow_nil _ _ _ _, Below.refl _ _⟩
  | some ad =>
    obtain ⟨n, hn⟩ : ∃ n, n = l.length := ⟨_, rfl⟩
    rw [← hn] at hl ⊢
    have HN := Lib.hid hn
    obtain ⟨i0, hi, hz0, hz1, hz2⟩ := info_parts infoMs
    have hb1 : Below w.heap.size w (w.alloc (.cells #[] 40)) := (Below.refl _ _).alloc (Nat.le_refl _) _
    have ho1 := own_lit w #[] 40 3 0 rfl (by unfold maxLen; omega)
    have hsz1 : (w.alloc (.cells #[] 40)).heap.size = w.heap.size + 1 := by simp
    have HR : Hid (Row (w.alloc (.cells #[] 40)) (fun _ => True) (some ad) (flt msC l)) := Lib.hid (by
      rcases h with h | ⟨ad', e, _, hcell⟩
      · rw [h]; exact Row.nil _ _ _
      · cases e
        exact .inr ⟨_, rfl, trivial, fun j u hu => by
          have hlt := block_lt_of_cell (hcell j u hu)
          exact (hb1.cell hlt).trans (hcell j u hu)⟩)
    have HB1 := Lib.hid hb1
    have HO1 := Lib.hid ho1
    have h1 := Lib.run_eql_slice_nil (P := Try.prog) w 22 40 (some ad) n c 0 0 Try.underlying22
    clear hn h hb1 ho1 hc
    go_enter Try.func24, Try.ntmps24
    go_wp2_with (at_builtin; refine wpList_append_row rfl _ _ 22 rfl w.heap.size 40 i0 _ 3 32 Try.underlying22 hi hz0 hz1 hz2 rfl (by omega) (.slice (some ⟨w.heap.size, 0, none⟩) 0 0) 0 [] rfl HO1.out (fun _ => True) (some ad) n c (flt msC l) rfl (by rw [flt_length msC_len, HN.out]) HR.out (flt_one' msC_one _) (by unfold maxLen; omega) (by omega) (by omega) ?_)
    intro v7 w7 hown7 hg7 _
    have hb7 : Below w.heap.size w w7 := kp_below (M := fun y => w.heap.size ≤ y) HB1.out ((Kp.refl _ _).grown hg7 (fun r hr _ => by have : some w.heap.size = some r := hr; cases this; exact Nat.le_refl _)) fun _ e => e
    have HRES : Hid (RowRes l w (.returned v7) w7) := Lib.hid ⟨v7, rfl, by rw [← HN.out]; exact hown7, hb7⟩
    clear hown7 hg7 hb7 HR HB1 HO1
    go_wp2
    go_ret
    exact HRES.out

set_option maxHeartbeats 1000000 in
set_option maxRecDepth 100000 in
theorem sorted_any (S : Nat → Prop) (l : List Msg) (A : Option Addr) (c : Nat) (w : World) (hl : l.length ≤ 1000000) (hc : A = none → c = 0) (h : Row w S A (flt msC l)) :
    Calls Try.prog 12 #[.slice A l.length c] w (RowRes (srtM l) w) := by
  have HC := Lib.hid (clone_any S l A c w hl hc h)
  obtain ⟨n, hn⟩ : ∃ n, n = l.length := ⟨_, rfl⟩
  rw [← hn] at HC hl ⊢
  have HN := Lib.hid hn
  clear hn h hc
  go_enter Try.func12, Try.ntmps12
  go_wp2_with fail
  refine HC.out.mono ?_
  rintro e w1 ⟨v, rfl, hown, hb1⟩
  rw [← HN.out] at hown
  obtain ⟨A1, c1, rfl, _⟩ := own_slice hown
  have HS := Lib.hid (sortM_any w.heap.size A1 c1 n l w1 hown HN.out.symm (by omega))
  have HB1 := Lib.hid hb1
  clear hown hb1 HC
  go_wp2_with fail
  refine HS.out.mono ?_
  rintro e w2 ⟨rfl, hown, g, hg, hk⟩
  have HRES : Hid (RowRes (srtM l) w (.returned (.slice A1 n c1)) w2) := Lib.hid ⟨_, rfl, by rw [srtM_len, ← HN.out]; exact hown, kp_below HB1.out hk fun y e => by omega⟩
  clear hown hg hk HS HB1
  go_wp2
  go_ret
  exact HRES.out
end Go.Proofs.Ytlgdminpkkhejaa
