/-
  More implementations, fewer supers, another order (plain): which goals hold.
  Conditions: those of each theorem.
-/
import Derived.Test.YtllodnlkphapgaaDoorHold
import Derived.Test.YtllodnlkphapgaaDoorTwoP
import Derived.Test.YtllodnlkphapgaaDoorOvf
namespace Go.Proofs.YtllodnlkphapgaaDoor
open Go.RowKit

/-- What the first header that matches leads to. -/
def firstG : List Hdr → Ty → Option (List Goal)
  | [], _ => none
  | h :: r, t => match argsOf h t with
    | some a => some (boundGoals h.params a)
    | none => firstG r t
theorem sel_first (t : Ty) : ∀ (L : List Hdr) (k0 : Nat), (selOf L t k0 = none ∧ firstG L t = none) ∨ ∃ j a, selOf L t k0 = some (k0 + j, a) ∧ firstG L t = some (boundGoals ((L[j]?.map (·.params)).getD []) a)
  | [], k0 => .inl ⟨rfl, rfl⟩
  | h :: r, k0 => by
    cases ha : argsOf h t with
    | some a => exact .inr ⟨0, a, by simp [selOf, ha], by simp [firstG, ha]⟩
    | none =>
      rcases sel_first t r (k0 + 1) with ⟨h1, h2⟩ | ⟨j, a, h1, h2⟩
      · exact .inl ⟨by simp [selOf, ha, h1], by simp [firstG, ha, h2]⟩
      · exact .inr ⟨j + 1, a, by simp only [selOf, ha, h1]; congr 2; omega, by simp [firstG, ha, h2]⟩
theorem leads_first (l : List Hdr) (s : List (List UInt8 × List UInt8)) (g : Goal) : leadsOf l s g = if (cutD g.2.name).2 = true then ([], decide ((cutD g.2.name).1 = g.1)) else if g.2.name = errName then ([], true) else match firstG (mineOf l g.1) g.2 with
    | none => ([], false)
    | some b => (b ++ superGoals s g, true) := by
  unfold leadsOf
  split
  · rfl
  · split
    · rfl
    · rcases sel_first g.2 (mineOf l g.1) 0 with ⟨h1, h2⟩ | ⟨j, a, h1, h2⟩
      · rw [h1, h2]
      · rw [h1, h2]
        simp
theorem first_append (t : Ty) : ∀ A B : List Hdr, firstG (A ++ B) t = (firstG A t).or (firstG B t)
  | [], B => by simp [firstG]
  | h :: r, B => by
    rw [List.cons_append]
    simp only [firstG]
    cases argsOf h t with
    | some a => simp
    | none => exact first_append t r B
theorem mine_append (A B : List Hdr) (tr : List UInt8) : mineOf (A ++ B) tr = mineOf A tr ++ mineOf B tr := by simp [mineOf]
theorem leads_more (l m : List Hdr) (s : List (List UInt8 × List UInt8)) (g : Goal) (h : (leadsOf l s g).2 = true) : leadsOf (l ++ m) s g = leadsOf l s g := by
  rw [leads_first] at h
  rw [leads_first, leads_first, mine_append, first_append]
  split
  · rfl
  · split
    · rfl
    · rename_i h1 h2
      rw [if_neg h1, if_neg h2] at h
      cases hf : firstG (mineOf l g.1) g.2 with
      | none => rw [hf] at h; cases h
      | some b => simp
theorem hd_more {l : List Hdr} {s : List (List UInt8 × List UInt8)} (m : List Hdr) {g : Goal} (h : Hd (leadsOf l s) g) : Hd (leadsOf (l ++ m) s) g := by
  induction h with
  | mk g h _ ih =>
    have e := leads_more l m s g h
    exact .mk g (by rw [e]; exact h) fun x hx => ih x (by rw [e] at hx; exact hx)
theorem leads_less (l : List Hdr) (s : List (List UInt8 × List UInt8)) (g : Goal) : (leadsOf l [] g).2 = (leadsOf l s g).2 ∧ ∀ x ∈ (leadsOf l [] g).1, x ∈ (leadsOf l s g).1 := by
  rw [leads_first, leads_first]
  split
  · exact ⟨rfl, fun x hx => hx⟩
  · split
    · exact ⟨rfl, fun x hx => hx⟩
    · cases firstG (mineOf l g.1) g.2 with
      | none => exact ⟨rfl, fun x hx => hx⟩
      | some b => exact ⟨rfl, fun x hx => by
          simp only [superGoals, List.filter_nil, List.map_nil, List.append_nil] at hx
          exact List.mem_append.2 (.inl hx)⟩
theorem hd_less {l : List Hdr} {s : List (List UInt8 × List UInt8)} {g : Goal} (h : Hd (leadsOf l s) g) : Hd (leadsOf l []) g := by
  induction h with
  | mk g h _ ih =>
    obtain ⟨h1, h2⟩ := leads_less l s g
    exact .mk g (by rw [h1]; exact h) fun x hx => ih x (h2 x hx)

/-- No two headers of a trait match one type. -/
def Alone (l : List Hdr) : Prop := ∀ (i k : Nat) (x h : Hdr), l[i]? = some h → l[k]? = some x → k < i → x.trait = h.trait → ∀ t, (mtch x.type t ([], [])).1 = true → (mtch h.type t ([], [])).1 = true → False
theorem first_some {t : Ty} : ∀ {L : List Hdr} {b : List Goal}, firstG L t = some b → ∃ h ∈ L, (mtch h.type t ([], [])).1 = true
  | [], b, h => by cases h
  | x :: r, b, h => by
    rw [firstG] at h
    cases ha : argsOf x t with
    | some a =>
      refine ⟨x, by simp, ?_⟩
      unfold argsOf at ha
      split at ha
      · assumption
      · cases ha
    | none =>
      rw [ha] at h
      obtain ⟨y, hy, hm⟩ := first_some h
      exact ⟨y, List.mem_cons_of_mem _ hy, hm⟩
theorem leads_turned {l : List Hdr} (ha : Alone l) (s : List (List UInt8 × List UInt8)) (k : Nat) : leadsOf (l.drop k ++ l.take k) s = leadsOf l s := by
  funext g
  have hl : leadsOf l s g = leadsOf (l.take k ++ l.drop k) s g := by rw [List.take_append_drop]
  rw [hl, leads_first, leads_first, mine_append, mine_append, first_append, first_append]
  have key : (firstG (mineOf (l.drop k) g.1) g.2).or (firstG (mineOf (l.take k) g.1) g.2) = (firstG (mineOf (l.take k) g.1) g.2).or (firstG (mineOf (l.drop k) g.1) g.2) := by
    cases h1 : firstG (mineOf (l.drop k) g.1) g.2 with
    | none => simp
    | some b =>
      cases h2 : firstG (mineOf (l.take k) g.1) g.2 with
      | none => simp
      | some c =>
        exfalso
        obtain ⟨y, hy, hym⟩ := first_some h1
        obtain ⟨x, hx, hxm⟩ := first_some h2
        have hy' := List.mem_filter.1 hy
        have hx' := List.mem_filter.1 hx
        obtain ⟨i, hi⟩ := List.mem_iff_getElem?.1 hy'.1
        obtain ⟨j, hj⟩ := List.mem_iff_getElem?.1 hx'.1
        rw [List.getElem?_drop] at hi
        have hjk : j < k := by
          have := (List.getElem?_eq_some_iff.1 hj).1
          rw [List.length_take] at this
          omega
        rw [List.getElem?_take_of_lt hjk] at hj
        exact ha (k + i) j x y hi hj (by omega) (by
          have h3 := of_decide_eq_true hx'.2
          have h4 := of_decide_eq_true hy'.2
          rw [h3, h4]) g.2 hxm hym
  rw [key]
/-- Nothing overlaps: no two match one type. -/
theorem alone_of {l : List Hdr} (hp : ∀ x ∈ l, PlTy x.type) (hno : ∀ (i k : Nat) (x h : Hdr), l[i]? = some h → l[k]? = some x → k < i → Meant x h → False) : Alone l := by
  intro i k x y hi hk hlt htr t hm1 hm2
  exact hno i k x y hi hk hlt ⟨htr, two_one (hp x (List.mem_of_getElem? hk)) (hp y (List.mem_of_getElem? hi)) hm1 hm2⟩
/-- The answer of Holds, with its own world of goals. -/
theorem holds_iff (l : List Hdr) (s : List (List UInt8 × List UInt8)) (g : Goal) : (dfs (leadsOf l s) (goalsIn l s g).length [] g).1 = true ↔ Hd (leadsOf l s) g := dfs_iff (shut_goalsIn l s g) g (self_goalsIn l s g)
theorem goals_few {l : List Hdr} {s : List (List UInt8 × List UInt8)} {g : Goal} (hl : l.length ≤ 20) (hp : ∀ h ∈ l, h.params.length ≤ 2) (hs : s.length ≤ 20) (hz : g.2.size ≤ 40) : (goalsIn l s g).length ≤ 4000000 := by
  rw [goalsIn_length]
  have h1 : (traitsIn l s g).length ≤ 100 := by
    have hbl : ∀ L : List Hdr, (∀ h ∈ L, h.params.length ≤ 2) → (L.flatMap fun h => h.params.map (·.2)).length ≤ 2 * L.length := by
      intro L hL
      induction L with
      | nil => simp
      | cons a r ih =>
        have := ih fun h hh => hL h (by simp [hh])
        have h2 := hL a (by simp)
        simp only [List.flatMap_cons, List.length_append, List.length_map, List.length_cons]
        omega
    have := hbl l hp
    simp only [traitsIn, List.length_cons, List.length_append, List.length_map]
    omega
  exact Nat.le_trans (Nat.mul_le_mul h1 (show g.2.size + 1 ≤ 41 by omega)) (by decide)
theorem flat5_drop : ∀ (k : Nat) (qs : List HV), flat5 (qs.drop k) = (flat5 qs).drop (k * 5) := by
  intro k
  induction k with
  | zero => intro qs; simp
  | succ k ih =>
    intro qs
    cases qs with
    | nil => simp [flat5]
    | cons a r =>
      rw [List.drop_succ_cons, ih r, show (k + 1) * 5 = k * 5 + 5 by omega]
      simp [flat5, HV.cells]
/-- The rest of a slice of headers. -/
theorem Hds.back {w : World} {S : Nat → Prop} {A : Option Addr} {hs : List Hdr} {qs : List HV} (H : Hds w S A hs qs) (k c : Nat) (hc : hs.length ≤ c) : Hds w S (if c = k then A else A.map (·.add (k * 5))) (hs.drop k) (qs.drop k) := by
  refine ⟨by rw [List.length_drop, List.length_drop, H.len], ?_, fun i x q hx hq => ?_, fun x hx => H.small x (List.mem_of_mem_drop hx), by have := H.few; rw [List.length_drop]; omega⟩
  · rw [flat5_drop]
    refine H.row.sub _ fun ad hA hk => ?_
    have h1 := flat5_length qs
    have h2 := H.len
    rw [if_neg (by omega), hA]
    rfl
  · rw [List.getElem?_drop] at hx hq
    exact H.each _ _ _ hx hq
/-- Two slices of headers in one. -/
theorem Hds.joined {w : World} {S : Nat → Prop} {A B C : Option Addr} {hs hs' : List Hdr} {qs qs' : List HV} (H : Hds w S A hs qs) (H' : Hds w S B hs' qs') (hr : Row w S C (flat5 (qs ++ qs'))) (hf : hs.length + hs'.length ≤ 4000000) : Hds w S C (hs ++ hs') (qs ++ qs') := by
  refine ⟨by rw [List.length_append, List.length_append, H.len, H'.len], hr, fun i x q hx hq => ?_, fun x hx => ?_, by rw [List.length_append]; omega⟩
  · by_cases hi : i < hs.length
    · rw [List.getElem?_append_left hi] at hx
      rw [List.getElem?_append_left (by rw [H.len]; exact hi)] at hq
      exact H.each _ _ _ hx hq
    · rw [List.getElem?_append_right (by omega)] at hx
      rw [List.getElem?_append_right (by rw [H.len]; omega), H.len] at hq
      exact H'.each _ _ _ hx hq
  · rcases List.mem_append.1 hx with h | h
    · exact H.small x h
    · exact H'.small x h
/-- The same, turned. -/
theorem Hds.turned {w : World} {S : Nat → Prop} {A C : Option Addr} {hs : List Hdr} {qs : List HV} (H : Hds w S A hs qs) (k : Nat) (hr : Row w S C (flat5 (qs.drop k ++ qs.take k))) : Hds w S C (hs.drop k ++ hs.take k) (qs.drop k ++ qs.take k) :=
  (H.back k hs.length (Nat.le_refl _)).joined (H.front k) hr (by rw [List.length_drop, List.length_take]; have := H.few; omega)
end Go.Proofs.YtllodnlkphapgaaDoor
