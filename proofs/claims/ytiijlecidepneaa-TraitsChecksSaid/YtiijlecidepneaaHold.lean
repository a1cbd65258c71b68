/-
  The plain law of Holds: the search decides whether a goal stands with all that it leads to; a closed world of goals.
  Conditions: those of each theorem.
-/
import Derived.Test.YtiijlecidepneaaHoldsC
namespace Go.Proofs.Ytiijlecidepneaa
open Go.RowKit

/-- A goal holds if it stands and all that it leads to hold. -/
inductive Hd (f : Goal → List Goal × Bool) : Goal → Prop
  | mk (g : Goal) (h : (f g).2 = true) (hl : ∀ x ∈ (f g).1, Hd f x) : Hd f g

inductive Reach (f : Goal → List Goal × Bool) : Goal → Goal → Prop
  | one (y x : Goal) (h : x ∈ (f y).1) : Reach f y x
  | more (y x z : Goal) (h : Reach f y x) (hz : z ∈ (f x).1) : Reach f y z

theorem Hd.inv {f : Goal → List Goal × Bool} {g : Goal} (h : Hd f g) : (f g).2 = true ∧ ∀ x ∈ (f g).1, Hd f x := by
  cases h with
  | mk _ h hl => exact ⟨h, hl⟩
theorem hd_iff {f : Goal → List Goal × Bool} {g : Goal} : Hd f g ↔ (f g).2 = true ∧ ∀ x ∈ (f g).1, Hd f x := ⟨Hd.inv, fun h => .mk g h.1 h.2⟩
theorem Reach.first {f : Goal → List Goal × Bool} {y z : Goal} (h : Reach f y z) : ∃ x ∈ (f y).1, x = z ∨ Reach f x z := by
  induction h with
  | one x h => exact ⟨x, h, .inl rfl⟩
  | more x z h hz ih =>
    obtain ⟨u, hu, hx⟩ := ih
    refine ⟨u, hu, .inr ?_⟩
    rcases hx with rfl | hx
    · exact .one _ _ hz
    · exact .more _ _ _ hx hz
theorem Hd.noLoop {f : Goal → List Goal × Bool} {g : Goal} (h : Hd f g) : ¬ Reach f g g := by
  induction h with
  | mk g _ _ ih =>
    intro hr
    obtain ⟨x, hx, hxg⟩ := hr.first
    rcases hxg with rfl | hxg
    · exact ih _ hx hr
    · exact ih x hx (.more _ _ _ hxg hx)

def RightSt (f : Goal → List Goal × Bool) (st : DSt) : Prop := ∀ x ∈ st, ∀ b, x.2 = some b → (b = true ↔ Hd f x.1)
def Above (f : Goal → List Goal × Bool) (st : DSt) (g : Goal) : Prop := ∀ x ∈ st, x.2 = none → Reach f x.1 g
def MoreOk (f : Goal → List Goal × Bool) (more : DSt) : Prop := ∀ x ∈ more, ∃ b, x.2 = some b ∧ (b = true ↔ Hd f x.1)

theorem MoreOk.right {f : Goal → List Goal × Bool} {st more : DSt} (h : RightSt f st) (hm : MoreOk f more) : RightSt f (st ++ more) := by
  intro x hx b hb
  rcases List.mem_append.1 hx with h1 | h1
  · exact h x h1 b hb
  · obtain ⟨b', e, hb'⟩ := hm x h1
    rw [e] at hb
    cases hb
    exact hb'
theorem MoreOk.above {f : Goal → List Goal × Bool} {st more : DSt} {g : Goal} (h : Above f st g) (hm : MoreOk f more) : Above f (st ++ more) g := by
  intro x hx e
  rcases List.mem_append.1 hx with h1 | h1
  · exact h x h1 e
  · obtain ⟨b', e', _⟩ := hm x h1
    rw [e'] at e
    cases e

/-- What a search must answer. -/
def Answers (f : Goal → List Goal × Bool) (g : Goal) (st : DSt) (r : Bool × DSt) : Prop := (r.1 = true ↔ Hd f g) ∧ ∃ more, r.2 = st ++ more ∧ MoreOk f more

theorem fold_right_of {f : Goal → List Goal × Bool} {U : List Goal} {n : Nat} (hc : Shut f U)
    (h : ∀ st g, Inv U st → g ∈ U → U.length ≤ st.length + n → RightSt f st → Above f st g → Answers f g st (dfs f n st g)) :
    ∀ (l : List Goal) (p : Bool × DSt), (∀ x ∈ l, x ∈ U ∧ Above f p.2 x) → Inv U p.2 → U.length ≤ p.2.length + n → RightSt f p.2 →
      ((fold f n l p).1 = true ↔ p.1 = true ∧ ∀ x ∈ l, Hd f x) ∧ ∃ more, (fold f n l p).2 = p.2 ++ more ∧ MoreOk f more
  | [], p, _, _, _, _ => ⟨by simp [fold], [], by simp [fold], fun x hx => by simp at hx⟩
  | x :: r, p, hl, hi, hn, hr => by
    show ((fold f n r (if p.1 = true then dfs f n p.2 x else p)).1 = true ↔ _) ∧ ∃ more, (fold f n r (if p.1 = true then dfs f n p.2 x else p)).2 = p.2 ++ more ∧ MoreOk f more
    by_cases hp : p.1 = true
    · rw [if_pos hp]
      obtain ⟨hx1, hx2⟩ := hl x (by simp)
      obtain ⟨ha, m1, e1, hm1⟩ := h p.2 x hi hx1 hn hr hx2
      have hi2 := dfs_inv hc n p.2 x hi hx1
      have := fold_right_of hc h r (dfs f n p.2 x) (fun y hy => ⟨(hl y (by simp [hy])).1, by rw [e1]; exact MoreOk.above (hl y (by simp [hy])).2 hm1⟩) hi2 (by rw [e1, List.length_append]; omega) (by rw [e1]; exact hm1.right hr)
      obtain ⟨hb, m2, e2, hm2⟩ := this
      refine ⟨?_, m1 ++ m2, by rw [e2, e1, List.append_assoc], fun y hy => ?_⟩
      · rw [hb, ha]
        simp [hp]
      · rcases List.mem_append.1 hy with h1 | h1
        · exact hm1 y h1
        · exact hm2 y h1
    · rw [if_neg hp]
      obtain ⟨hb, m2, e2, hm2⟩ := fold_right_of hc h r p (fun y hy => hl y (by simp [hy])) hi hn hr
      refine ⟨?_, m2, e2, hm2⟩
      rw [hb]
      simp [hp]

theorem known_at (st : DSt) (g : Goal) (h : 0 ≤ gIdx (st.map (·.1)) g 0) : ∃ o, (g, o) ∈ st ∧ knownAt st (gIdx (st.map (·.1)) g 0).toNat = o.getD false := by
  obtain ⟨j, e, hj⟩ := gIdx_some _ _ _ h
  rw [List.getElem?_map] at hj
  obtain ⟨x, hx, hg⟩ := Option.map_eq_some_iff.1 hj
  refine ⟨x.2, ?_, ?_⟩
  · have := List.mem_of_getElem? hx
    rw [← hg]
    exact this
  · rw [e]
    unfold knownAt
    have : ((0 + j : Nat) : Int).toNat = j := by omega
    rw [this, hx]
    rfl

theorem dfs_right {f : Goal → List Goal × Bool} {U : List Goal} (hc : Shut f U) : ∀ (n : Nat) (st : DSt) (g : Goal), Inv U st → g ∈ U → U.length ≤ st.length + n → RightSt f st → Above f st g → Answers f g st (dfs f n st g) := by
  intro n
  induction n with
  | zero =>
    intro st g hi hg hn hr ha
    by_cases h : 0 ≤ gIdx (st.map (·.1)) g 0
    · obtain ⟨o, hm, hk⟩ := known_at st g h
      rw [dfs_old h, hk]
      refine ⟨?_, [], by simp, fun x hx => by simp at hx⟩
      cases o with
      | some b => exact hr _ hm b rfl
      | none => exact ⟨fun e => by simp at e, fun e => absurd (ha _ hm rfl) e.noLoop⟩
    · have := hi.room hg h
      omega
  | succ n ih =>
    intro st g hi hg hn hr ha
    by_cases h : 0 ≤ gIdx (st.map (·.1)) g 0
    · obtain ⟨o, hm, hk⟩ := known_at st g h
      rw [dfs_old h, hk]
      refine ⟨?_, [], by simp, fun x hx => by simp at hx⟩
      cases o with
      | some b => exact hr _ hm b rfl
      | none => exact ⟨fun e => by simp at e, fun e => absurd (ha _ hm rfl) e.noLoop⟩
    · rw [dfs_new h]
      have hr1 : RightSt f (st ++ [(g, none)]) := fun x hx b hb => by
        rcases List.mem_append.1 hx with h1 | h1
        · exact hr x h1 b hb
        · rw [List.mem_singleton.1 h1] at hb
          cases hb
      obtain ⟨hb, more, e, hm⟩ := fold_right_of hc ih (f g).1 ((f g).2, st ++ [(g, none)]) (fun x hx => ⟨hc g hg x hx, fun y hy hyn => by
        rcases List.mem_append.1 hy with h1 | h1
        · exact .more _ _ _ (ha y h1 hyn) hx
        · rw [List.mem_singleton.1 h1]
          exact .one _ _ hx⟩) (hi.push hg h) (by simp; omega) hr1
      have hb' : (fold f n (f g).1 ((f g).2, st ++ [(g, none)])).1 = true ↔ Hd f g := by rw [hb, hd_iff]
      refine ⟨hb', (g, some (fold f n (f g).1 ((f g).2, st ++ [(g, none)])).1) :: more, ?_, fun x hx => ?_⟩
      · simp only [e, List.append_assoc, List.singleton_append]
        rw [List.set_append_right _ _ (Nat.le_refl _), Nat.sub_self]
        rfl
      · rcases List.mem_cons.1 hx with rfl | h1
        · exact ⟨_, rfl, hb'⟩
        · exact hm x h1

theorem dfs_iff {f : Goal → List Goal × Bool} {U : List Goal} (hc : Shut f U) (g : Goal) (hg : g ∈ U) : (dfs f U.length [] g).1 = true ↔ Hd f g :=
  (dfs_right hc U.length [] g ⟨fun x hx => by simp at hx, by simp⟩ hg (by simp) (fun x hx => by simp at hx) (fun x hx => by simp at hx)).1

/-! ### A closed world of goals -/

mutual
def Ty.subs : Ty → List Ty
  | .mk n ks => .mk n ks :: subsL ks
def subsL : List Ty → List Ty
  | [] => []
  | t :: r => t.subs ++ subsL r
end
theorem mem_subsL {ks : List Ty} {x : Ty} : x ∈ subsL ks ↔ ∃ a ∈ ks, x ∈ a.subs := by
  induction ks with
  | nil => simp [subsL]
  | cons a r ih => simp [subsL, ih]
theorem subs_self (t : Ty) : t ∈ t.subs := by
  obtain ⟨n, ks⟩ := t
  simp [Ty.subs]
theorem subs_trans (t : Ty) : ∀ x ∈ t.subs, ∀ y ∈ x.subs, y ∈ t.subs := by
  induction t using Ty.ind with | h n ks ih => ?_
  intro x hx y hy
  rw [Ty.subs, List.mem_cons] at hx
  rcases hx with rfl | hx
  · exact hy
  · obtain ⟨a, ha, hxa⟩ := mem_subsL.1 hx
    rw [Ty.subs, List.mem_cons]
    exact .inr (mem_subsL.2 ⟨a, ha, ih a ha x hxa y hy⟩)
theorem subsL_size (ks : List Ty) (ih : ∀ a ∈ ks, a.subs.length = a.size) : (subsL ks).length = sizeL ks := by
  induction ks with
  | nil => rfl
  | cons a r ihr =>
    rw [subsL, List.length_append, sizeL, ih a (by simp), ihr fun b hb => ih b (by simp [hb])]
theorem subs_size (t : Ty) : t.subs.length = t.size := by
  induction t using Ty.ind with | h n ks ih => ?_
  rw [Ty.subs, List.length_cons, Ty.size, subsL_size ks ih]
  omega

theorem oneName_in {ns : List (List UInt8)} {ls : List Ty} {x : List UInt8} {t : Ty} : ∀ y ∈ (oneName ns ls x t).2.2, y ∈ ls ∨ y = t := by
  intro y hy
  unfold oneName at hy
  split at hy
  · exact .inl hy
  · rcases List.mem_append.1 hy with h | h
    · exact .inl h
    · exact .inr (List.mem_singleton.1 h)
theorem mtchL_in (ks : List Ty) (ih : ∀ a ∈ ks, ∀ (t : Ty) (s : Found), ∀ y ∈ (mtch a t s).2.2, y ∈ s.2 ∨ y ∈ t.subs) : ∀ (ts : List Ty) (s : Found), ∀ y ∈ (mtchL ks ts s).2.2, y ∈ s.2 ∨ y ∈ subsL ts := by
  induction ks with
  | nil => intro ts s y hy; exact .inl (by simpa [mtchL] using hy)
  | cons k r ihr =>
    intro ts s y hy
    cases ts with
    | nil => exact .inl (by simpa [mtchL] using hy)
    | cons t ts =>
      rw [mtchL] at hy
      have h1 := ih k (by simp) t s
      rw [subsL, List.mem_append]
      rcases hm : mtch k t s with ⟨b, s'⟩
      rw [hm] at hy h1
      cases b with
      | false =>
        rcases h1 y hy with h | h
        · exact .inl h
        · exact .inr (.inl h)
      | true =>
        rcases ihr (fun a ha => ih a (by simp [ha])) ts s' y hy with h | h
        · rcases h1 y h with h | h
          · exact .inl h
          · exact .inr (.inl h)
        · exact .inr (.inr h)
theorem mtch_in (p : Ty) : ∀ (t : Ty) (s : Found), ∀ y ∈ (mtch p t s).2.2, y ∈ s.2 ∨ y ∈ t.subs := by
  induction p using Ty.ind with | h n ks ih => ?_
  intro t s y hy
  rw [mtch] at hy
  split at hy
  · rcases oneName_in y hy with h | h
    · exact .inl h
    · exact .inr (by rw [h]; exact subs_self t)
  · split at hy
    · rcases mtchL_in ks ih t.args s y hy with h | h
      · exact .inl h
      · obtain ⟨m, ls⟩ := t
        exact .inr (by rw [Ty.subs]; exact List.mem_cons_of_mem _ h)
    · exact .inl hy

theorem argsOf_in {h : Hdr} {t : Ty} {a : List Ty} (e : argsOf h t = some a) : ∀ y ∈ a, y = errTy ∨ y ∈ t.subs := by
  intro y hy
  unfold argsOf at e
  split at e
  · cases e
    obtain ⟨p, _, rfl⟩ := List.mem_map.1 hy
    unfold argOf
    split
    · rcases hx : (mtch h.type t ([], [])).2.2[(idx (mtch h.type t ([], [])).2.1 p.1 0).toNat]? with _ | z
      · exact .inl rfl
      · have := mtch_in h.type t ([], []) z (List.mem_of_getElem? hx)
        rcases this with h | h
        · simp at h
        · exact .inr h
    · exact .inl rfl
  · cases e
theorem selOf_in : ∀ (hs : List Hdr) (t : Ty) (k0 k : Nat) (a : List Ty), selOf hs t k0 = some (k, a) → ∃ j h, k = k0 + j ∧ hs[j]? = some h ∧ argsOf h t = some a
  | [], _, _, _, _, e => by cases e
  | x :: r, t, k0, k, a, e => by
    rw [selOf] at e
    cases hx : argsOf x t with
    | some b =>
      rw [hx] at e
      cases e
      exact ⟨0, x, rfl, rfl, hx⟩
    | none =>
      rw [hx] at e
      obtain ⟨j, y, h1, h2, h3⟩ := selOf_in r t (k0 + 1) k a e
      exact ⟨j + 1, y, by omega, h2, h3⟩
theorem boundGoals_in : ∀ (ps : List (List UInt8 × List UInt8)) (ts : List Ty) (x : Goal), x ∈ boundGoals ps ts → (∃ p ∈ ps, p.2 = x.1) ∧ x.2 ∈ ts
  | [], ts, x, h => by simp [boundGoals] at h
  | p :: ps, [], x, h => by simp [boundGoals] at h
  | p :: ps, t :: ts, x, h => by
    rw [boundGoals] at h
    split at h
    · obtain ⟨⟨q, hq, e⟩, h2⟩ := boundGoals_in ps ts x h
      exact ⟨⟨q, by simp [hq], e⟩, by simp [h2]⟩
    · rcases List.mem_cons.1 h with rfl | h
      · exact ⟨⟨p, by simp, rfl⟩, by simp⟩
      · obtain ⟨⟨q, hq, e⟩, h2⟩ := boundGoals_in ps ts x h
        exact ⟨⟨q, by simp [hq], e⟩, by simp [h2]⟩

def traitsIn (l : List Hdr) (s : List (List UInt8 × List UInt8)) (g : Goal) : List (List UInt8) := g.1 :: (l.flatMap (fun h => h.params.map (·.2)) ++ s.map (·.2))
def typesIn (g : Goal) : List Ty := errTy :: g.2.subs
def goalsIn (l : List Hdr) (s : List (List UInt8 × List UInt8)) (g : Goal) : List Goal := (traitsIn l s g).flatMap fun tr => (typesIn g).map fun y => (tr, y)

theorem mem_goalsIn {l : List Hdr} {s : List (List UInt8 × List UInt8)} {g x : Goal} : x ∈ goalsIn l s g ↔ x.1 ∈ traitsIn l s g ∧ x.2 ∈ typesIn g := by
  unfold goalsIn
  rw [List.mem_flatMap]
  constructor
  · rintro ⟨tr, htr, hx⟩
    obtain ⟨y, hy, rfl⟩ := List.mem_map.1 hx
    exact ⟨htr, hy⟩
  · rintro ⟨h1, h2⟩
    exact ⟨x.1, h1, List.mem_map.2 ⟨x.2, h2, rfl⟩⟩
theorem self_goalsIn (l : List Hdr) (s : List (List UInt8 × List UInt8)) (g : Goal) : g ∈ goalsIn l s g := mem_goalsIn.2 ⟨by simp [traitsIn], by simp [typesIn, subs_self]⟩
theorem typesIn_subs {g : Goal} {t : Ty} (h : t ∈ typesIn g) : ∀ y, (y = errTy ∨ y ∈ t.subs) → y ∈ typesIn g := by
  intro y hy
  rcases hy with rfl | hy
  · simp [typesIn]
  · rcases List.mem_cons.1 h with rfl | h
    · have : y = errTy := by simpa [errTy, Ty.subs, subsL] using hy
      simp [typesIn, this]
    · exact List.mem_cons_of_mem _ (subs_trans _ _ h _ hy)
theorem shut_goalsIn (l : List Hdr) (s : List (List UInt8 × List UInt8)) (g : Goal) : Shut (leadsOf l s) (goalsIn l s g) := by
  intro x hx y hy
  obtain ⟨hx1, hx2⟩ := mem_goalsIn.1 hx
  unfold leadsOf at hy
  split at hy
  · simp at hy
  · split at hy
    · simp at hy
    · split at hy
      · simp at hy
      · rename_i k a hsel
        rcases List.mem_append.1 hy with h | h
        · obtain ⟨⟨p, hp, e⟩, h2⟩ := boundGoals_in _ _ _ h
          obtain ⟨j, hd, hk, hj, ha⟩ := selOf_in _ _ _ _ _ hsel
          refine mem_goalsIn.2 ⟨?_, typesIn_subs hx2 _ (argsOf_in ha _ h2)⟩
          rw [Nat.zero_add] at hk
          subst hk
          rw [hj] at hp
          have hm : hd ∈ l := (List.mem_filter.1 (List.mem_of_getElem? hj)).1
          refine List.mem_cons_of_mem _ (List.mem_append_left _ (List.mem_flatMap.2 ⟨hd, hm, List.mem_map.2 ⟨p, by simpa using hp, e⟩⟩))
        · obtain ⟨z, hz, rfl⟩ := List.mem_map.1 h
          exact mem_goalsIn.2 ⟨List.mem_cons_of_mem _ (List.mem_append_right _ (List.mem_map.2 ⟨z, (List.mem_filter.1 hz).1, rfl⟩)), hx2⟩
theorem goalsIn_length (l : List Hdr) (s : List (List UInt8 × List UInt8)) (g : Goal) : (goalsIn l s g).length = (traitsIn l s g).length * (g.2.size + 1) := by
  have hc : ∀ (L : List (List UInt8)) (c : Nat), (L.map fun _ => c).sum = L.length * c := by
    intro L c
    induction L with
    | nil => simp
    | cons a r ih =>
      rw [List.map_cons, List.sum_cons, ih, List.length_cons, Nat.succ_mul]
      omega
  unfold goalsIn
  rw [List.length_flatMap]
  simp only [List.length_map, typesIn, List.length_cons, subs_size]
  exact hc _ _

/-! ### What the statement says -/

theorem loop_no {l : List Hdr} {s : List (List UInt8 × List UInt8)} {g : Goal} (hp : (cutD g.2.name).2 = false) (he : g.2.name ≠ errName) : ¬ Hd (leadsOf l (s ++ [(g.1, g.1)])) g := by
  intro h
  have h1 := h.inv
  unfold leadsOf at h1
  rw [if_neg (by rw [hp]; simp), if_neg he] at h1
  split at h1
  · simp at h1
  · rename_i k a hsel
    refine h.noLoop (.one _ _ ?_)
    unfold leadsOf
    rw [if_neg (by rw [hp]; simp), if_neg he, hsel]
    exact List.mem_append_right _ (List.mem_map.2 ⟨(g.1, g.1), List.mem_filter.2 ⟨by simp, by simp⟩, rfl⟩)
end Go.Proofs.Ytiijlecidepneaa
