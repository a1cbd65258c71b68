/-
  Two types that match one type can be made one by a solution (plain): what Match finds, put in, makes the type.
  Conditions: those of each theorem.
-/
import Derived.Test.YtllodnlkphapgaaDoorRMap
import Derived.Test.YtllodnlkphapgaaDoorApp
import Derived.Test.YtllodnlkphapgaaDoorMade
namespace Go.Proofs.YtllodnlkphapgaaDoor

mutual
/-- The names of a pattern's parameters, behind those that are known. -/
def nms : Ty → List (List UInt8) → List (List UInt8)
  | .mk n ks, ns => if (parW n ks.length).2 then (if 0 ≤ idx ns (parW n ks.length).1 0 then ns else ns ++ [(parW n ks.length).1]) else nmsL ks ns
def nmsL : List Ty → List (List UInt8) → List (List UInt8)
  | [], ns => ns
  | k :: ks, ns => nmsL ks (nms k ns)
end
theorem idx_more : ∀ (ns N : List (List UInt8)) (x : List UInt8) (k : Nat), 0 ≤ idx ns x k → idx (ns ++ N) x k = idx ns x k
  | [], N, x, k, h => by simp [idx] at h
  | a :: r, N, x, k, h => by
    rw [List.cons_append]
    unfold idx at h ⊢
    by_cases ha : a = x
    · rw [if_pos ha, if_pos ha]
    · rw [if_neg ha] at h ⊢
      rw [if_neg ha]
      exact idx_more r N x (k + 1) h
theorem idx_new : ∀ (ns N : List (List UInt8)) (x : List UInt8) (k : Nat), ¬ 0 ≤ idx ns x k → idx (ns ++ x :: N) x k = ((k + ns.length : Nat) : Int)
  | [], N, x, k, _ => by simp [idx]
  | a :: r, N, x, k, h => by
    rw [List.cons_append]
    unfold idx at h ⊢
    by_cases ha : a = x
    · rw [if_pos ha] at h
      exact absurd (Int.natCast_nonneg k) h
    · rw [if_neg ha] at h ⊢
      rw [idx_new r N x (k + 1) h, List.length_cons]
      congr 1
      omega
theorem idx_lt {ns : List (List UInt8)} {x : List UInt8} (h : 0 ≤ idx ns x 0) : (idx ns x 0).toNat < ns.length := by
  have := (idx_at ns x 0 h).2
  rw [Nat.sub_zero] at this
  exact (List.getElem?_eq_some_iff.1 this).1

/-- What a match that went well found. -/
structure Fnd (p t : Ty) (s r : Found) : Prop where
  names : r.1 = nms p s.1
  len : r.1.length = r.2.length
  more : ∃ N L, r = (s.1 ++ N, s.2 ++ L)
  put : ∀ N L, putN (r.1 ++ N) (r.2 ++ L) p = t
theorem mtch_yes (p : Ty) : ∀ (t : Ty) (s : Found), s.1.length = s.2.length → (mtch p t s).1 = true → Fnd p t s (mtch p t s).2 := by
  induction p using Ty.ind with | h n ks ih => ?_
  intro t s hl h
  rw [mtch] at h ⊢
  by_cases hp : (parW n ks.length).2 = true
  · rw [if_pos hp] at h ⊢
    obtain ⟨x, hx⟩ : ∃ x, x = (parW n ks.length).1 := ⟨_, rfl⟩
    rw [← hx] at h ⊢
    have hnm : nms (.mk n ks) s.1 = if 0 ≤ idx s.1 x 0 then s.1 else s.1 ++ [x] := by rw [nms, if_pos hp, ← hx]
    unfold oneName at h ⊢
    by_cases hi : 0 ≤ idx s.1 x 0
    · rw [if_pos hi] at h hnm ⊢
      have hlt := idx_lt hi
      have hg : s.2[(idx s.1 x 0).toNat]? = some (s.2[(idx s.1 x 0).toNat]'(by omega)) := List.getElem?_eq_getElem _
      rw [hg] at h
      have he := (eqb_iff _ _).1 h
      refine ⟨hnm.symm, hl, ⟨[], [], by simp⟩, fun N L => putN_some ?_⟩
      unfold parIx
      rw [if_pos hp, ← hx]
      dsimp only
      rw [idx_more _ N _ _ hi, if_pos hi, List.getElem?_append_left (by omega), hg, he]
    · rw [if_neg hi] at hnm ⊢
      refine ⟨hnm.symm, by simp [hl], ⟨[x], [t], rfl⟩, fun N L => putN_some ?_⟩
      unfold parIx
      rw [if_pos hp, ← hx]
      dsimp only
      rw [List.append_assoc, List.append_assoc]
      simp only [List.singleton_append]
      rw [idx_new _ N _ _ hi, if_pos (Int.natCast_nonneg _), Nat.zero_add, Int.toNat_natCast, hl, List.getElem?_append_right (Nat.le_refl _)]
      simp
  · rw [if_neg hp] at h ⊢
    have hnone : ∀ ns ls, parIx ns ls n ks.length = none := fun ns ls => by unfold parIx; rw [if_neg hp]
    by_cases hc : (n == t.name && ks.length == t.args.length) = true
    · rw [if_pos hc] at h ⊢
      simp only [Bool.and_eq_true, beq_iff_eq] at hc
      have key : ∀ (l ts : List Ty) (s : Found), (∀ a ∈ l, ∀ (t : Ty) (s : Found), s.1.length = s.2.length → (mtch a t s).1 = true → Fnd a t s (mtch a t s).2) → l.length = ts.length → s.1.length = s.2.length → (mtchL l ts s).1 = true →
          (mtchL l ts s).2.1 = nmsL l s.1 ∧ (mtchL l ts s).2.1.length = (mtchL l ts s).2.2.length ∧ (∃ N L, (mtchL l ts s).2 = (s.1 ++ N, s.2 ++ L)) ∧ ∀ N L, l.map (putN ((mtchL l ts s).2.1 ++ N) ((mtchL l ts s).2.2 ++ L)) = ts := by
        intro l
        induction l with
        | nil =>
          intro ts s _ hlen hsl _
          have : ts = [] := List.eq_nil_of_length_eq_zero hlen.symm
          subst this
          exact ⟨by simp [mtchL, nmsL], by simpa [mtchL] using hsl, ⟨[], [], by simp [mtchL]⟩, fun _ _ => rfl⟩
        | cons a r ihr =>
          intro ts s ha hlen hsl hm
          cases ts with
          | nil => simp at hlen
          | cons u us =>
            rw [mtchL] at hm ⊢
            obtain ⟨b, s', hbs⟩ : ∃ b s', mtch a u s = (b, s') := ⟨_, _, rfl⟩
            rw [hbs] at hm ⊢
            cases b with
            | false => cases hm
            | true =>
              dsimp only at hm ⊢
              have h1 := ha a (by simp) u s hsl (by rw [hbs])
              rw [hbs] at h1
              dsimp only at h1
              obtain ⟨g1, g2, ⟨N0, L0, g3⟩, g4⟩ := ihr us s' (fun x hx => ha x (by simp [hx])) (by simpa using hlen) h1.len hm
              obtain ⟨N1, L1, h3⟩ := h1.more
              refine ⟨by rw [g1, h1.names, nmsL], g2, ⟨N1 ++ N0, L1 ++ L0, by rw [g3, h3]; simp⟩, fun N L => ?_⟩
              rw [List.map_cons, g4 N L, g3]
              dsimp only
              rw [List.append_assoc, List.append_assoc, h1.put]
      obtain ⟨g1, g2, g3, g4⟩ := key ks t.args s ih hc.2 hl h
      refine ⟨by rw [g1, nms, if_neg hp], g2, g3, fun N L => ?_⟩
      rw [putN_none (hnone _ _), g4 N L]
      obtain ⟨m, ls⟩ := t
      simp only [Ty.name, Ty.args] at hc ⊢
      rw [hc.1]
    · rw [if_neg hc] at h
      cases h
theorem put_nil (p : Ty) : putN [] [] p = p := by
  induction p using Ty.ind with | h n ks ih => ?_
  have : parIx [] [] n ks.length = none := by
    unfold parIx
    split
    · simp [idx]
    · rfl
  rw [putN_none this]
  congr 1
  exact (List.map_congr_left ih).trans (List.map_id' ks)
/-- A pattern matches itself, and its parameters are found. -/
theorem mtch_self (p : Ty) : (mtch p p ([], [])).1 = true ∧ (mtch p p ([], [])).2.1 = nms p [] := by
  have h1 := mtch_put (θ := fun x => putN [] [] (.mk (36 :: x) [])) (isPut [] []) p ([], []) (good_nil _)
  rw [put_nil] at h1
  exact ⟨h1.1, (mtch_yes p p ([], []) rfl h1.1).names⟩

/-- A pattern with variables, from a number on, in the place of its parameters. -/
def opn (p : Ty) (k : Nat) : Ty := putN (nms p []) ((List.range (nms p []).length).map fun i => tyV (k + i)) p
theorem plTy_var {n : List UInt8} {ks : List Ty} (h : PlTy (.mk n ks)) : varOf (.mk n ks) = none := by
  cases ks with
  | cons a r => rfl
  | nil =>
    simp only [varOf]
    have := h.out.1.2
    cases n with
    | nil => rfl
    | cons c r =>
      have hc : ¬ c = 63 := fun e => this (by rw [e]; rfl)
      simp [vnum, hc]
theorem sub_put (θ : Nat → Ty) (ns : List (List UInt8)) (vs : List Ty) (p : Ty) (hp : PlTy p) : sub θ (putN ns vs p) = putN ns (vs.map (sub θ)) p := by
  induction p using Ty.ind with | h n ks ih => ?_
  cases hx : parIx ns vs n ks.length with
  | some t =>
    have h2 : parIx ns (vs.map (sub θ)) n ks.length = some (sub θ t) := by
      unfold parIx at hx ⊢
      split at hx
      · rename_i h1
        rw [if_pos h1]
        split at hx
        · rename_i h2
          rw [if_pos h2, List.getElem?_map, hx]
          rfl
        · cases hx
      · cases hx
    rw [putN_some hx, putN_some h2]
  | none =>
    have h2 : parIx ns (vs.map (sub θ)) n ks.length = none := by
      unfold parIx at hx ⊢
      split at hx
      · rename_i h1
        rw [if_pos h1]
        split at hx
        · rename_i h2
          rw [if_pos h2, List.getElem?_map, hx]
          rfl
        · rename_i h2
          rw [if_neg h2]
      · rename_i h1
        rw [if_neg h1]
    rw [putN_none hx, putN_none h2]
    have hv : varOf (.mk n (ks.map (putN ns vs))) = none := by
      cases ks with
      | cons a r => rfl
      | nil => exact plTy_var hp
    rw [sub_node hv]
    simp only [Ty.name, Ty.args, List.map_map]
    congr 1
    exact List.map_congr_left fun a ha => ih a ha (hp.out.2 a ha)
/-- What a match found solves the pattern. -/
theorem opn_sub {p t : Ty} (hp : PlTy p) (hm : (mtch p t ([], [])).1 = true) (k : Nat) (θ : Nat → Ty) (hθ : ∀ (i : Nat) (u : Ty), (mtch p t ([], [])).2.2[i]? = some u → θ (k + i) = u) : sub θ (opn p k) = t := by
  have h := mtch_yes p t ([], []) rfl hm
  have hl : (nms p []).length = (mtch p t ([], [])).2.2.length := by
    rw [← h.len, h.names]
  have h1 := h.put [] []
  rw [List.append_nil, List.append_nil, h.names] at h1
  unfold opn
  rw [sub_put θ _ _ p hp]
  have e : ((List.range (nms p []).length).map fun i => tyV (k + i)).map (sub θ) = (mtch p t ([], [])).2.2 := by
    apply List.ext_getElem?
    intro i
    rw [List.map_map, List.getElem?_map]
    by_cases hi : i < (nms p []).length
    · rw [List.getElem?_range hi]
      have hg : (mtch p t ([], [])).2.2[i]? = some ((mtch p t ([], [])).2.2[i]'(by omega)) := List.getElem?_eq_getElem _
      rw [hg]
      simp only [Option.map_some, Function.comp_apply]
      rw [sub_var (varOf_tyV _), hθ i _ hg]
    · rw [List.getElem?_eq_none (by simpa using hi), List.getElem?_eq_none (by omega)]
      rfl
  rw [e]
  exact h1
/-- Two patterns that match one type: with variables apart, a substitution makes them one. -/
theorem two_one {p q t : Ty} (hp : PlTy p) (hq : PlTy q) (h1 : (mtch p t ([], [])).1 = true) (h2 : (mtch q t ([], [])).1 = true) : ∃ θ, sub θ (opn p 0) = sub θ (opn q (nms p []).length) := by
  have hl : (nms p []).length = (mtch p t ([], [])).2.2.length := by
    have h := mtch_yes p t ([], []) rfl h1
    rw [← h.len, h.names]
  refine ⟨fun i => if i < (nms p []).length then ((mtch p t ([], [])).2.2[i]?).getD t else ((mtch q t ([], [])).2.2[i - (nms p []).length]?).getD t, ?_⟩
  rw [opn_sub hp h1 0 _ fun i u hu => ?_, opn_sub hq h2 _ _ fun i u hu => ?_]
  · simp only [Nat.not_lt_of_le (Nat.le_add_right _ _), if_false, Nat.add_sub_cancel_left, hu, Option.getD_some]
  · have hi : i < (nms p []).length := by rw [hl]; exact (List.getElem?_eq_some_iff.1 hu).1
    simp only [Nat.zero_add, if_pos hi, hu, Option.getD_some]
theorem nms_len (p : Ty) : ∀ ns, (nms p ns).length ≤ ns.length + p.size := by
  induction p using Ty.ind with | h n ks ih => ?_
  intro ns
  rw [nms]
  split
  · split
    · omega
    · simp only [List.length_append, List.length_singleton, Ty.size]
      omega
  · have : ∀ (l : List Ty), (∀ a ∈ l, ∀ ns, (nms a ns).length ≤ ns.length + a.size) → ∀ ns, (nmsL l ns).length ≤ ns.length + sizeL l := by
      intro l
      induction l with
      | nil => intro _ ns; simp [nmsL, sizeL]
      | cons a r ihr =>
        intro h ns
        have h1 := h a (by simp) ns
        have h2 := ihr (fun b hb => h b (by simp [hb])) (nms a ns)
        rw [nmsL, sizeL]
        omega
    have := this ks ih ns
    rw [Ty.size]
    omega
end Go.Proofs.YtllodnlkphapgaaDoor
