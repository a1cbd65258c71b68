/-
  What Put makes, with names: no program is in sight.
  Conditions: those of each theorem.
-/
import Derived.Test.YtndhglcdkegigaaDoorMatchE
namespace Go.Proofs.YtndhglcdkegigaaDoor

/-- What a parameter stands for: nothing, if it has no name or no type. -/
def parIx (ns : List (List UInt8)) (ls : List Ty) (n : List UInt8) (k : Nat) : Option Ty :=
  if (parW n k).2 = true then if 0 ≤ idx ns (parW n k).1 0 then ls[(idx ns (parW n k).1 0).toNat]? else none else none
mutual
def putN (ns : List (List UInt8)) (ls : List Ty) : Ty → Ty
  | .mk n ks => match parIx ns ls n ks.length with
    | some t => t
    | none => .mk n (putL ns ls ks)
def putL (ns : List (List UInt8)) (ls : List Ty) : List Ty → List Ty
  | [] => []
  | a :: r => putN ns ls a :: putL ns ls r
end
theorem putL_map (ns : List (List UInt8)) (ls : List Ty) : ∀ ks, putL ns ls ks = ks.map (putN ns ls)
  | [] => by simp [putL]
  | a :: r => by simp [putL, putL_map ns ls r]
theorem putN_some {ns : List (List UInt8)} {ls : List Ty} {n : List UInt8} {ks : List Ty} {t : Ty} (h : parIx ns ls n ks.length = some t) : putN ns ls (.mk n ks) = t := by simp [putN, h]
theorem putN_none {ns : List (List UInt8)} {ls : List Ty} {n : List UInt8} {ks : List Ty} (h : parIx ns ls n ks.length = none) : putN ns ls (.mk n ks) = .mk n (ks.map (putN ns ls)) := by simp [putN, h, putL_map]
/-- A parameter has no arguments. -/
theorem parW_args {n : List UInt8} {k : Nat} (h : (parW n k).2 = true) : k = 0 := by
  unfold parW at h
  by_cases hk : 0 < k
  · rw [if_pos hk] at h; cases h
  · omega
theorem idx_at : ∀ (ns : List (List UInt8)) (x : List UInt8) (k : Nat), 0 ≤ idx ns x k → k ≤ (idx ns x k).toNat ∧ ns[(idx ns x k).toNat - k]? = some x
  | [], x, k, h => by simp [idx] at h
  | a :: r, x, k, h => by
    unfold idx at h ⊢
    by_cases ha : a = x
    · rw [if_pos ha] at h ⊢
      simp [ha]
    · rw [if_neg ha] at h ⊢
      obtain ⟨h1, h2⟩ := idx_at r x (k + 1) h
      refine ⟨by omega, ?_⟩
      have e : (idx r x (k + 1)).toNat - k = ((idx r x (k + 1)).toNat - (k + 1)) + 1 := by omega
      rw [e, List.getElem?_cons_succ]
      exact h2
theorem idx_mem : ∀ (ns : List (List UInt8)) (x : List UInt8) (k : Nat), x ∈ ns → 0 ≤ idx ns x k
  | a :: r, x, k, h => by
    unfold idx
    by_cases ha : a = x
    · rw [if_pos ha]; omega
    · rw [if_neg ha]
      exact idx_mem r x (k + 1) ((List.mem_cons.1 h).resolve_left fun e => ha e.symm)
theorem idx_not {ns : List (List UInt8)} {x : List UInt8} {k : Nat} (h : ¬ 0 ≤ idx ns x k) : x ∉ ns := fun hm => h (idx_mem ns x k hm)

/-! ### Match finds what Put put in -/

/-- What is found so far agrees with θ: each name once, its type what θ says. -/
structure Good (θ : List UInt8 → Ty) (s : Found) : Prop where
  len : s.1.length = s.2.length
  once : s.1.Nodup
  ty : ∀ (i : Nat) (x : List UInt8), s.1[i]? = some x → s.2[i]? = some (θ x)
/-- A type with θ put in for its parameters. -/
def IsPut (θ : List UInt8 → Ty) (ns : List (List UInt8)) (ls : List Ty) : Prop := ∀ n : List UInt8, (parW n 0).2 = true → putN ns ls (.mk n []) = θ (parW n 0).1

theorem found_more {θ : List UInt8 → Ty} {s : Found} {x : List UInt8} (h : Good θ s) (hx : x ∉ s.1) : Good θ (s.1 ++ [x], s.2 ++ [θ x]) := by
  refine ⟨by simp [h.len], ?_, fun i y hy => ?_⟩
  · rw [List.nodup_append]
    exact ⟨h.once, by simp, fun a ha b hb => by simp at hb; subst hb; exact fun e => hx (e ▸ ha)⟩
  · dsimp only at hy ⊢
    rcases Nat.lt_or_ge i s.1.length with hi | hi
    · rw [List.getElem?_append_left hi] at hy
      rw [List.getElem?_append_left (by rw [← h.len]; exact hi)]
      exact h.ty i y hy
    · rw [List.getElem?_append_right hi] at hy
      rw [List.getElem?_append_right (by rw [← h.len]; exact hi), ← h.len]
      have h0 : i - s.1.length = 0 := by
        have := (List.getElem?_eq_some_iff.1 hy).1
        simp at this
        omega
      rw [h0] at hy ⊢
      simp at hy ⊢
      rw [hy]

/-- Names that are parameters of a type. -/
inductive HasPar (x : List UInt8) : Ty → Prop
  | here (n : List UInt8) (h : (parW n 0).2 = true) (hx : (parW n 0).1 = x) : HasPar x (.mk n [])
  | arg (n : List UInt8) (ks : List Ty) (a : Ty) (ha : a ∈ ks) (h : HasPar x a) : HasPar x (.mk n ks)

/-- What Match does with a pattern and what was made of it. -/
def MatchOk (θ : List UInt8 → Ty) (p : Ty) (s : Found) (r : Bool × Found) : Prop := r.1 = true ∧ Good θ r.2 ∧ (∀ x ∈ s.1, x ∈ r.2.1) ∧ ∀ x, HasPar x p → x ∈ r.2.1

theorem mtch_put {θ : List UInt8 → Ty} {ns : List (List UInt8)} {ls : List Ty} (hθ : IsPut θ ns ls) (p : Ty) : ∀ s, Good θ s → MatchOk θ p s (mtch p (putN ns ls p) s) := by
  induction p using Ty.ind with | h n ks ih => ?_
  intro s hs
  by_cases hp : (parW n ks.length).2 = true
  · have hk : ks = [] := List.length_eq_zero_iff.1 (parW_args hp)
    subst hk
    have hp0 : (parW n 0).2 = true := hp
    have hm : mtch (.mk n []) (putN ns ls (.mk n [])) s = oneName s.1 s.2 (parW n 0).1 (θ (parW n 0).1) := by
      rw [hθ n hp0, mtch]
      simp only [List.length_nil]
      rw [if_pos hp0]
    rw [hm]
    unfold oneName
    by_cases hi : 0 ≤ idx s.1 (parW n 0).1 0
    · rw [if_pos hi]
      obtain ⟨_, h2⟩ := idx_at s.1 (parW n 0).1 0 hi
      rw [Nat.sub_zero] at h2
      rw [hs.ty _ _ h2]
      refine ⟨(eqb_iff _ _).2 rfl, hs, fun x hx => hx, fun x hx => ?_⟩
      cases hx with
      | here _ h hx => rw [← hx]; exact List.mem_of_getElem? h2
      | arg _ _ a ha _ => cases ha
    · rw [if_neg hi]
      refine ⟨rfl, found_more hs (idx_not hi), fun x hx => List.mem_append.2 (.inl hx), fun x hx => ?_⟩
      cases hx with
      | here _ h hx => rw [← hx]; simp
      | arg _ _ a ha _ => cases ha
  · have hnone : parIx ns ls n ks.length = none := by unfold parIx; rw [if_neg hp]
    rw [putN_none hnone, mtch, if_neg hp]
    have hc : (n == (Ty.mk n (ks.map (putN ns ls))).name && ks.length == (Ty.mk n (ks.map (putN ns ls))).args.length) = true := by simp [Ty.name, Ty.args]
    rw [if_pos hc]
    have hL : ∀ (l : List Ty), (∀ a ∈ l, ∀ s, Good θ s → MatchOk θ a s (mtch a (putN ns ls a) s)) → ∀ s, Good θ s → (mtchL l (l.map (putN ns ls)) s).1 = true ∧ Good θ (mtchL l (l.map (putN ns ls)) s).2 ∧ (∀ x ∈ s.1, x ∈ (mtchL l (l.map (putN ns ls)) s).2.1) ∧ ∀ a ∈ l, ∀ x, HasPar x a → x ∈ (mtchL l (l.map (putN ns ls)) s).2.1 := by
      intro l
      induction l with
      | nil => intro _ s hs; simp [mtchL, hs]
      | cons a r ihr =>
        intro h s hs
        obtain ⟨h1, h2, h3, h4⟩ := h a (by simp) s hs
        rw [List.map_cons, mtchL]
        obtain ⟨b, s', hbs⟩ : ∃ b s', mtch a (putN ns ls a) s = (b, s') := ⟨_, _, rfl⟩
        rw [hbs] at h1 h2 h3 h4 ⊢
        dsimp only at h1 h2 h3 h4 ⊢
        subst h1
        obtain ⟨g1, g2, g3, g4⟩ := ihr (fun x hx => h x (by simp [hx])) s' h2
        dsimp only
        refine ⟨g1, g2, fun x hx => g3 x (h3 x hx), fun y hy x hx => ?_⟩
        rcases List.mem_cons.1 hy with rfl | hy
        · exact g3 x (h4 x hx)
        · exact g4 y hy x hx
    obtain ⟨g1, g2, g3, g4⟩ := hL ks ih s hs
    refine ⟨g1, g2, g3, fun x hx => ?_⟩
    cases hx with
    | here _ h hx => exact absurd h hp
    | arg _ _ a ha h => exact g4 a ha x h

/-- Put with what was found makes the same. -/
theorem put_found {θ : List UInt8 → Ty} {ns : List (List UInt8)} {ls : List Ty} (hθ : IsPut θ ns ls) {s : Found} (hs : Good θ s) (p : Ty) : (∀ x, HasPar x p → x ∈ s.1) → putN s.1 s.2 p = putN ns ls p := by
  induction p using Ty.ind with | h n ks ih => ?_
  intro hx
  by_cases hp : (parW n ks.length).2 = true
  · have hk : ks = [] := List.length_eq_zero_iff.1 (parW_args hp)
    subst hk
    have hp0 : (parW n 0).2 = true := hp
    rw [hθ n hp0]
    have hm := hx (parW n 0).1 (.here n hp0 rfl)
    have hi := idx_mem s.1 (parW n 0).1 0 hm
    obtain ⟨_, h2⟩ := idx_at s.1 (parW n 0).1 0 hi
    rw [Nat.sub_zero] at h2
    refine putN_some ?_
    unfold parIx
    rw [if_pos hp, List.length_nil, if_pos hi, hs.ty _ _ h2]
  · have h1 : parIx ns ls n ks.length = none := by unfold parIx; rw [if_neg hp]
    have h2 : parIx s.1 s.2 n ks.length = none := by unfold parIx; rw [if_neg hp]
    rw [putN_none h1, putN_none h2]
    congr 1
    exact List.map_congr_left fun a ha => ih a ha fun x hxa => hx x (.arg n ks a ha hxa)
theorem good_nil (θ : List UInt8 → Ty) : Good θ ([], []) := ⟨rfl, by simp, fun i x h => by simp at h⟩
theorem isPut (ns : List (List UInt8)) (ls : List Ty) : IsPut (fun x => putN ns ls (.mk (36 :: x) [])) ns ls := by
  intro n hn
  cases n with
  | nil => simp [parW, cutD] at hn
  | cons c r =>
    by_cases hc : c = 36
    · subst hc
      simp [parW, cutD]
    · simp [parW, cutD, hc] at hn
end Go.Proofs.YtndhglcdkegigaaDoor
