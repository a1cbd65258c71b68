/-
  The model of Holds: a search with the goals in progress and those that are known; that it keeps what it has found.
  Conditions: those of each theorem.
-/
import Derived.Test.YtkoddmgbpjmohaaHoldsA
namespace Go.Proofs.Ytkoddmgbpjmohaa
open Go.RowKit

/-- The goals so far, each with what is known of it. -/
abbrev DSt := List (Goal × Option Bool)
def knownAt (st : DSt) (k : Nat) : Bool := ((st[k]?).bind (·.2)).getD false
def decd (st : DSt) : Nat := (st.filter fun x => x.2.isSome).length

def dfs (f : Goal → List Goal × Bool) : Nat → DSt → Goal → Bool × DSt
  | 0, st, g => if 0 ≤ gIdx (st.map (·.1)) g 0 then (knownAt st (gIdx (st.map (·.1)) g 0).toNat, st) else (false, st)
  | n + 1, st, g => if 0 ≤ gIdx (st.map (·.1)) g 0 then (knownAt st (gIdx (st.map (·.1)) g 0).toNat, st) else
    let r := (f g).1.foldl (fun p x => if p.1 = true then dfs f n p.2 x else p) ((f g).2, st ++ [(g, none)])
    (r.1, r.2.set st.length (g, some r.1))
def fold (f : Goal → List Goal × Bool) (n : Nat) (l : List Goal) (p : Bool × DSt) : Bool × DSt := l.foldl (fun p x => if p.1 = true then dfs f n p.2 x else p) p

theorem dfs_new {f : Goal → List Goal × Bool} {n : Nat} {st : DSt} {g : Goal} (h : ¬ 0 ≤ gIdx (st.map (·.1)) g 0) :
    dfs f (n + 1) st g = ((fold f n (f g).1 ((f g).2, st ++ [(g, none)])).1, (fold f n (f g).1 ((f g).2, st ++ [(g, none)])).2.set st.length (g, some (fold f n (f g).1 ((f g).2, st ++ [(g, none)])).1)) := by
  rw [dfs, if_neg h]
  rfl
theorem dfs_old {f : Goal → List Goal × Bool} {n : Nat} {st : DSt} {g : Goal} (h : 0 ≤ gIdx (st.map (·.1)) g 0) : dfs f n st g = (knownAt st (gIdx (st.map (·.1)) g 0).toNat, st) := by
  cases n <;> rw [dfs, if_pos h]

theorem gIdx_none : ∀ (gs : List Goal) (g : Goal) (k : Nat), ¬ 0 ≤ gIdx gs g k → g ∉ gs
  | [], _, _, _ => by simp
  | x :: r, g, k, h => by
    unfold gIdx at h
    by_cases he : goalEq x g = true
    · rw [if_pos he] at h; omega
    · rw [if_neg he] at h
      have := gIdx_none r g (k + 1) h
      intro hm
      rcases List.mem_cons.1 hm with e | e
      · exact he ((goalEq_iff _ _).2 e.symm)
      · exact this e
theorem gIdx_some : ∀ (gs : List Goal) (g : Goal) (k : Nat), 0 ≤ gIdx gs g k → ∃ j, gIdx gs g k = ((k + j : Nat) : Int) ∧ gs[j]? = some g
  | [], _, _, h => by simp [gIdx] at h
  | x :: r, g, k, h => by
    unfold gIdx at h ⊢
    by_cases he : goalEq x g = true
    · rw [if_pos he]
      exact ⟨0, rfl, by rw [(goalEq_iff _ _).1 he]; rfl⟩
    · rw [if_neg he] at h ⊢
      obtain ⟨j, h1, h2⟩ := gIdx_some r g (k + 1) h
      exact ⟨j + 1, by rw [h1]; congr 1; omega, h2⟩
theorem gIdx_neg : ∀ (gs : List Goal) (g : Goal) (k : Nat), ¬ 0 ≤ gIdx gs g k → gIdx gs g k = -1
  | [], _, _, _ => rfl
  | x :: r, g, k, h => by
    unfold gIdx at h ⊢
    by_cases he : goalEq x g = true
    · rw [if_pos he] at h; omega
    · rw [if_neg he] at h ⊢
      exact gIdx_neg r g (k + 1) h

theorem fold_ext_of {f : Goal → List Goal × Bool} {n : Nat} (h : ∀ st g, ∃ more, (dfs f n st g).2 = st ++ more) : ∀ (l : List Goal) (p : Bool × DSt), ∃ more, (fold f n l p).2 = p.2 ++ more
  | [], p => ⟨[], by simp [fold]⟩
  | x :: r, p => by
    show ∃ more, (fold f n r (if p.1 = true then dfs f n p.2 x else p)).2 = p.2 ++ more
    by_cases hp : p.1 = true
    · rw [if_pos hp]
      obtain ⟨m1, h1⟩ := h p.2 x
      obtain ⟨m2, h2⟩ := fold_ext_of h r (dfs f n p.2 x)
      exact ⟨m1 ++ m2, by rw [h2, h1, List.append_assoc]⟩
    · rw [if_neg hp]
      exact fold_ext_of h r p
theorem dfs_ext (f : Goal → List Goal × Bool) : ∀ (n : Nat) (st : DSt) (g : Goal), ∃ more, (dfs f n st g).2 = st ++ more
  | 0, st, g => by
    rw [dfs]
    split <;> exact ⟨[], by simp⟩
  | n + 1, st, g => by
    by_cases h : 0 ≤ gIdx (st.map (·.1)) g 0
    · rw [dfs_old h]
      exact ⟨[], by simp⟩
    · rw [dfs_new h]
      obtain ⟨m, hm⟩ := fold_ext_of (dfs_ext f n) (f g).1 ((f g).2, st ++ [(g, none)])
      rw [hm]
      refine ⟨(g, some (fold f n (f g).1 ((f g).2, st ++ [(g, none)])).1) :: m, ?_⟩
      simp only [List.append_assoc, List.singleton_append]
      rw [List.set_append_right _ _ (Nat.le_refl _), Nat.sub_self]
      rfl
theorem fold_ext (f : Goal → List Goal × Bool) (n : Nat) (l : List Goal) (p : Bool × DSt) : ∃ more, (fold f n l p).2 = p.2 ++ more := fold_ext_of (dfs_ext f n) l p

theorem fold_snoc (f : Goal → List Goal × Bool) (n : Nat) (l : List Goal) (x : Goal) (p : Bool × DSt) : fold f n (l ++ [x]) p = if (fold f n l p).1 = true then dfs f n (fold f n l p).2 x else fold f n l p := by
  unfold fold
  rw [List.foldl_append]
  rfl

/-! ### Closed worlds of goals -/
def Shut (f : Goal → List Goal × Bool) (U : List Goal) : Prop := ∀ g ∈ U, ∀ x ∈ (f g).1, x ∈ U
structure Inv (U : List Goal) (st : DSt) : Prop where
  sub : ∀ x ∈ st, x.1 ∈ U
  nodup : (st.map (·.1)).Nodup

theorem fold_inv_of {f : Goal → List Goal × Bool} {U : List Goal} {n : Nat} (h : ∀ st g, Inv U st → g ∈ U → Inv U (dfs f n st g).2) : ∀ (l : List Goal) (p : Bool × DSt), (∀ x ∈ l, x ∈ U) → Inv U p.2 → Inv U (fold f n l p).2
  | [], p, _, hp => hp
  | x :: r, p, hl, hp => by
    show Inv U (fold f n r (if p.1 = true then dfs f n p.2 x else p)).2
    refine fold_inv_of h r _ (fun y hy => hl y (by simp [hy])) ?_
    by_cases hb : p.1 = true
    · rw [if_pos hb]
      exact h _ _ hp (hl x (by simp))
    · rw [if_neg hb]
      exact hp
theorem Inv.push {U : List Goal} {st : DSt} {g : Goal} (h : Inv U st) (hg : g ∈ U) (hn : ¬ 0 ≤ gIdx (st.map (·.1)) g 0) : Inv U (st ++ [(g, none)]) := by
  refine ⟨fun x hx => ?_, ?_⟩
  · rcases List.mem_append.1 hx with h1 | h1
    · exact h.sub x h1
    · rw [List.mem_singleton.1 h1]; exact hg
  · rw [List.map_append, List.nodup_append]
    refine ⟨h.nodup, by simp, fun a ha b hb => ?_⟩
    simp at hb
    subst hb
    exact fun e => gIdx_none _ _ _ hn (e ▸ ha)
theorem Inv.mark {U : List Goal} {st m : DSt} {g : Goal} {b : Option Bool} {b' : Option Bool} (h : Inv U (st ++ (g, b) :: m)) : Inv U ((st ++ (g, b) :: m).set st.length (g, b')) := by
  have e : (st ++ (g, b) :: m).set st.length (g, b') = st ++ (g, b') :: m := by
    rw [List.set_append_right _ _ (Nat.le_refl _), Nat.sub_self]
    rfl
  rw [e]
  refine ⟨fun x hx => ?_, ?_⟩
  · rcases List.mem_append.1 hx with h1 | h1
    · exact h.sub x (by simp [h1])
    · rcases List.mem_cons.1 h1 with h2 | h2
      · rw [h2]; exact h.sub (g, b) (by simp)
      · exact h.sub x (by simp [h2])
  · have := h.nodup
    simpa using this
theorem dfs_inv {f : Goal → List Goal × Bool} {U : List Goal} (hc : Shut f U) : ∀ (n : Nat) (st : DSt) (g : Goal), Inv U st → g ∈ U → Inv U (dfs f n st g).2
  | 0, st, g, h, _ => by
    rw [dfs]
    split <;> exact h
  | n + 1, st, g, h, hg => by
    by_cases hi : 0 ≤ gIdx (st.map (·.1)) g 0
    · rw [dfs_old hi]
      exact h
    · rw [dfs_new hi]
      have h1 := fold_inv_of (dfs_inv hc n) (f g).1 ((f g).2, st ++ [(g, none)]) (hc g hg) (h.push hg hi)
      obtain ⟨m, hm⟩ := fold_ext f n (f g).1 ((f g).2, st ++ [(g, none)])
      simp only [List.append_assoc, List.singleton_append] at hm
      rw [hm] at h1 ⊢
      exact h1.mark
theorem fold_inv {f : Goal → List Goal × Bool} {U : List Goal} (hc : Shut f U) (n : Nat) (l : List Goal) (p : Bool × DSt) (hl : ∀ x ∈ l, x ∈ U) (hp : Inv U p.2) : Inv U (fold f n l p).2 := fold_inv_of (dfs_inv hc n) l p hl hp

theorem nodup_le : ∀ (l U : List Goal), l.Nodup → (∀ x ∈ l, x ∈ U) → l.length ≤ U.length
  | [], _, _, _ => Nat.zero_le _
  | a :: r, U, hn, hs => by
    obtain ⟨U1, U2, rfl⟩ := List.append_of_mem (hs a (by simp))
    have hn' := List.nodup_cons.1 hn
    have := nodup_le r (U1 ++ U2) hn'.2 fun x hx => by
      have := hs x (by simp [hx])
      rcases List.mem_append.1 this with h | h
      · exact List.mem_append.2 (.inl h)
      · rcases List.mem_cons.1 h with h | h
        · subst h; exact absurd hx hn'.1
        · exact List.mem_append.2 (.inr h)
    simp at this ⊢
    omega
theorem Inv.le {U : List Goal} {st : DSt} (h : Inv U st) : st.length ≤ U.length := by
  have := nodup_le (st.map (·.1)) U h.nodup fun x hx => by
    obtain ⟨y, hy, rfl⟩ := List.mem_map.1 hx
    exact h.sub y hy
  simpa using this
theorem Inv.room {U : List Goal} {st : DSt} {g : Goal} (h : Inv U st) (hg : g ∈ U) (hn : ¬ 0 ≤ gIdx (st.map (·.1)) g 0) : st.length < U.length := by
  have := (h.push hg hn).le
  simp at this
  omega

theorem decd_le (st : DSt) : decd st ≤ st.length := List.length_filter_le _ _
theorem decd_push (st : DSt) (g : Goal) : decd (st ++ [(g, none)]) = decd st := by simp [decd]
theorem decd_mark (st m : DSt) (g : Goal) (b : Bool) : decd ((st ++ (g, none) :: m).set st.length (g, some b)) = decd (st ++ (g, none) :: m) + 1 := by
  rw [List.set_append_right _ _ (Nat.le_refl _), Nat.sub_self]
  simp [decd]
  omega
theorem known_push (st : DSt) (g : Goal) (k : Nat) : knownAt (st ++ [(g, none)]) k = knownAt st k := by
  unfold knownAt
  rcases Nat.lt_trichotomy k st.length with h | h | h
  · rw [List.getElem?_append_left h]
  · subst h
    simp
  · rw [List.getElem?_eq_none (by simp; omega), List.getElem?_eq_none (by omega)]
theorem known_mark (st : DSt) (g : Goal) (b : Bool) (j k : Nat) (hj : j < st.length) : knownAt (st.set j (g, some b)) k = if k = j then b else knownAt st k := by
  unfold knownAt
  by_cases h : k = j
  · subst h
    rw [List.getElem?_set_self hj, if_pos rfl]
    rfl
  · rw [List.getElem?_set_ne (fun e => h e.symm), if_neg h]
end Go.Proofs.Ytkoddmgbpjmohaa
