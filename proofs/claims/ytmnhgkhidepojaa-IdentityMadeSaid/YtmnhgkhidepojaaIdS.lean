/-
  The walk of slices.SortFunc over identities, by their numbers.
  Conditions: the identities lie in a row of one's own.
-/
import Derived.Test.YtmnhgkhidepojaaIdD
import Derived.Test.YtmnhgkhidepojaaBsrt
import Derived.Test.YtmnhgkhidepojaaShelfS
import Derived.Shelf.SlSortCmp.NoneTotal
namespace Go.Proofs.Ytmnhgkhidepojaa
open Go.RowKit Go.Shelf Go.Sort

def cmpI (a b : Int) : Int := if a < b then -1 else if b < a then 1 else 0
set_option maxHeartbeats 1000000 in
set_option maxRecDepth 100000 in
theorem cmpI_any (a b : Int) (w : World) : Calls Try.prog 32 #[.int .i64 a, .int .i64 b] w fun e w' => e = .returned (.int .i64 (cmpI a b)) ∧ w' = w := by
  unfold cmpI
  rcases Int.lt_trichotomy a b with h | h | h
  · have h2 : ¬ b < a := by omega
    rw [if_pos h]
    go_enter Try.func32, Try.ntmps32
    go_wp2
    go_ret
    exact ⟨rfl, rfl⟩
  · subst h
    rw [if_neg (by omega), if_neg (by omega)]
    have h2 : ¬ a < a := by omega
    go_enter Try.func32, Try.ntmps32
    go_wp2
    go_ret
    exact ⟨rfl, rfl⟩
  · have h2 : ¬ a < b := by omega
    rw [if_neg h2, if_pos h]
    go_enter Try.func32, Try.ntmps32
    go_wp2
    go_ret
    exact ⟨rfl, rfl⟩

set_option maxHeartbeats 1000000 in
set_option maxRecDepth 100000 in
theorem byId_any (x y : Idn) (W : World) : Calls Try.prog 31 #[idV x, idV y] W fun e W' => e = .returned (.int .i64 (cmpI x.id y.id)) ∧ ∃ q os, W' = grow (W.drewN q) os := by
  have HC := Lib.hid (cmpI_any x.id y.id)
  go_enter Try.func31, Try.ntmps31
  go_wp2_with (go_at_call 32; refine (HC.out _).mono ?_; rintro e w' ⟨rfl, rfl⟩)
  go_ret
  exact ⟨rfl, 0, _, by rw [alloc_eq_grow, alloc_eq_grow, grow_grow]; rfl⟩

instance : Inhabited Idn := ⟨⟨0, ⟨[], [], []⟩⟩⟩
theorem ltId (x y : Idn) : ltOf (fun x y : Idn => cmpI x.id y.id) x y = decide (x.id < y.id) := by
  unfold ltOf cmpI
  by_cases h1 : x.id < y.id
  · simp [h1]
  · by_cases h2 : y.id < x.id <;> simp [h1, h2]
theorem swoId : SWO (ltOf fun x y : Idn => cmpI x.id y.id) where
  irrefl x := by rw [ltId]; simp
  trans x y z h1 h2 := by rw [ltId] at *; simp at *; omega
  ntrans x y z h1 h2 := by rw [ltId] at *; simp at *; omega

def SortRes (base g cap : Nat) (xs : List Idn) (w : World) (e : Ending) (w' : World) : Prop :=
  e = .returned (.tuple #[]) ∧ ∃ ys : List Idn, ys.Perm xs ∧ (ys.Pairwise fun x y => x.id ≤ y.id) ∧ w'.ownsRow base 39 4 (.slice (some ⟨g, 0, none⟩) xs.length cap) xs.length (flt idC ys) ∧ Kp (fun y => y = g) w w'

theorem sort_any (base g cap : Nat) (xs : List Idn) (w : World) (hown : w.ownsRow base 39 4 (.slice (some ⟨g, 0, none⟩) xs.length cap) xs.length (flt idC xs)) (hl : xs.length ≤ 1000) :
    Calls Try.prog 30 #[.slice (some ⟨g, 0, none⟩) xs.length cap, .func (.func 31) #[] #[]] w (SortRes base g cap xs w) := by
  have eg : ∀ args w, (callFunc 31 args).run Try.prog w = .ok (.enter 31 args) w := enters_of Try.func31 (by kernel_rfl) rfl
  have h := sortFunc_own Try.laysSort 4 Try.isAgg39 Try.sizeOf39 idC idC_len idC_one (fun x y => cmpI x.id y.id) swoId 31 #[] base 39 g cap xs w eg (fun x y W => byId_any x y W) hown (by omega)
  change Calls Try.prog 30 _ _ _ at h
  refine h.mono ?_
  rintro e w' ⟨rfl, ys, hp, hs, ho, hk⟩
  refine ⟨rfl, ys, hp, hs.imp fun {x y} h => ?_, ho, hk⟩
  have h : ¬ cmpI y.id x.id < 0 := h
  unfold cmpI at h
  by_cases h1 : y.id < x.id
  · rw [if_pos h1] at h; omega
  · omega

/-- The same where there may be none. -/
def SortO (base : Nat) (A : Option Addr) (c k : Nat) (zs : List Idn) (w : World) (e : Ending) (w' : World) : Prop :=
  e = .returned (.tuple #[]) ∧ ∃ ys : List Idn, ys.Perm zs ∧ (ys.Pairwise fun x y => x.id ≤ y.id) ∧ w'.ownsRow base 39 4 (.slice A k c) k (flt idC ys) ∧ ∃ g, base ≤ g ∧ Kp (fun y => y = g) w w'
theorem sortO_any (base : Nat) (A : Option Addr) (c k : Nat) (zs : List Idn) (w : World) (hown : w.ownsRow base 39 4 (.slice A k c) k (flt idC zs)) (hz : zs.length = k) (hl : k ≤ 1000) :
    Calls Try.prog 30 #[.slice A k c, .func (.func 31) #[] #[]] w (SortO base A c k zs w) := by
  subst hz
  rcases hown.2 with ⟨hv, h0⟩ | ⟨g, cap, cur, hv, _⟩
  · have hz : zs = [] := List.eq_nil_of_length_eq_zero h0
    subst hz
    have h := AnyF.slices_SortFunc_none Try.laysSort A c (.func (.func 31) #[] #[]) w
    change Calls Try.prog 30 _ _ _ at h
    refine h.mono ?_
    rintro e w' ⟨rfl, rfl⟩
    exact ⟨rfl, [], List.Perm.refl _, .nil, hown, base, Nat.le_refl _, Kp.refl _ _⟩
  · obtain ⟨rfl, _, rfl⟩ := Value.slice.inj hv
    have hg := (hown.lt g rfl).1
    refine (sort_any base g c zs w hown hl).mono ?_
    rintro e w' ⟨rfl, ys, hp, hs, ho, hk⟩
    exact ⟨rfl, ys, hp, hs, ho, g, hg, hk⟩
end Go.Proofs.Ytmnhgkhidepojaa
