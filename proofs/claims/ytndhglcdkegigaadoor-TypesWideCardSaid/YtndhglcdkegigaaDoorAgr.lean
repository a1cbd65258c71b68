/-
  What (*unify.Solver).agree leaves: words.
  Conditions: those of each theorem.
-/
import Derived.Test.YtndhglcdkegigaaDoorGive
namespace Go.Proofs.YtndhglcdkegigaaDoor
open Go.RowKit

theorem nodup_len {α : Type} : ∀ (l m : List α), l.Nodup → (∀ x ∈ l, x ∈ m) → l.length ≤ m.length
  | [], m, _, _ => Nat.zero_le _
  | a :: r, m, hn, hs => by
    have hn' := List.nodup_cons.1 hn
    obtain ⟨s, t, rfl⟩ := List.append_of_mem (hs a (by simp))
    have := nodup_len r (s ++ t) hn'.2 fun x hx => by
      have h := hs x (by simp [hx])
      rcases List.mem_append.1 h with h | h
      · exact List.mem_append.2 (.inl h)
      · rcases List.mem_cons.1 h with rfl | h
        · exact absurd hx hn'.1
        · exact List.mem_append.2 (.inr h)
    simp only [List.length_append, List.length_cons] at this ⊢
    omega

def brk : List UInt8 := [101, 114, 114, 111, 114]
def CleanQ (Q : Ty → Prop) : Prop := ∀ t, Q t → t.name ≠ brk

/-- All pointers to types that are in play. -/
structure Univ (w : World) (S : Nat → Prop) (Q : Ty → Prop) (U : List Addr) : Prop where
  ty : ∀ p ∈ U, ∃ t, PtTy w S p t ∧ Q t
  arg : ∀ p ∈ U, ∀ (ad : Addr) (n c i : Nat), w.cell? ⟨p.block, p.off + 1, none⟩ = some (.slice (some ad) n c) → i < n → ad.add (i * 2) ∈ U
theorem Univ.keep {w w' : World} {S : Nat → Prop} {Q : Ty → Prop} {U : List Addr} (h : Univ w S Q U) (hk : Kept S w w') : Univ w' S Q U := by
  refine ⟨fun p hp => ?_, fun p hp ad n c i hc hi => ?_⟩
  · obtain ⟨t, ht, hq⟩ := h.ty p hp
    exact ⟨t, ht.keep hk, hq⟩
  · obtain ⟨t, ht, _⟩ := h.ty p hp
    obtain ⟨_, _, hS, _⟩ := ht.ex
    exact h.arg p hp ad n c i ((hk ⟨p.block, p.off + 1, none⟩ hS).symm.trans hc) hi

theorem Out.fn {σ : Sol} {t a b : Ty} (h : Out σ t a) (h' : Out σ t b) : a = b := by
  induction h with
  | stop t hs =>
    cases h' with
    | stop => rfl
    | step _ u _ k hv hu ho => rw [hs k hv] at hu; cases hu
  | step t u t' k hv hu ho ih =>
    cases h' with
    | stop _ hs => rw [hs k hv] at hu; cases hu
    | step _ u' _ k' hv' hu' ho' =>
      rw [hv] at hv'
      cases hv'
      rw [hu] at hu'
      cases hu'
      exact ih ho'

/-- One side is a variable: which, and against what. -/
inductive Head (σ : Sol) (t u : Ty) : Nat → Ty → Prop
  | left (t' u' : Ty) (m : Nat) (ht : Out σ t t') (hu : Out σ u u') (hm : varOf t' = some m) (hn : ∀ n, varOf u' = some n → n < m) : Head σ t u m u'
  | right (t' u' : Ty) (n : Nat) (ht : Out σ t t') (hu : Out σ u u') (hn : varOf u' = some n) (hm : ∀ m, varOf t' = some m → m < n) : Head σ t u n t'

theorem solOf_snoc {G : List (Nat × Addr × Ty)} {n : Nat} {p : Addr} {t : Ty} (h : solOf G n = none) : solOf (G ++ [(n, p, t)]) = upd (solOf G) n t := by
  funext k
  unfold solOf upd
  rw [List.find?_append]
  by_cases hk : k = n
  · subst hk
    have hf : G.find? (fun g => g.1 == k) = none := by
      unfold solOf at h
      simpa using h
    rw [hf, if_pos rfl]
    simp
  · rw [if_neg hk]
    cases hf : G.find? (fun g => g.1 == k) with
    | some g => simp [hf]
    | none =>
      have : (n == k) = false := by
        rw [beq_eq_false_iff_ne]
        exact fun e => hk e.symm
      simp [this, hf]
theorem solOf_ext {G N : List (Nat × Addr × Ty)} : Ext (solOf G) (solOf (G ++ N)) := by
  intro k u h
  unfold solOf at h ⊢
  rw [List.find?_append]
  cases hf : G.find? (fun g => g.1 == k) with
  | some g => rw [hf] at h; simpa using h
  | none => rw [hf] at h; cases h

def Memo (w : World) (S : Nat → Prop) (d : SD) : Prop := ∀ x ∈ d.AG, ∀ t u, PtTy w S x.1 t → PtTy w S x.2 u → ∀ θ, Sat θ d.sol → sub θ t = sub θ u

/-- A solver at work. -/
structure Work (w : World) (B : Nat) (S : Nat → Prop) (Q : Ty → Prop) (U : List Addr) (d : SD) : Prop where
  sv : Sv w B S d
  pl : Plb w B S
  hB : B ≤ w.heap.size
  un : Univ w S Q U
  gu : ∀ g ∈ d.G, Q g.2.2 ∧ g.1 < 100 ∧ g.2.1 ∈ U
  au : ∀ x ∈ d.AG, x.1 ∈ U ∧ x.2 ∈ U
  tr : d.tr.length ≤ d.G.length
  ps : d.ps.length ≤ d.AG.length
theorem Work.glen {w : World} {B : Nat} {S : Nat → Prop} {Q : Ty → Prop} {U : List Addr} {d : SD} (h : Work w B S Q U d) : d.G.length ≤ 100 := by
  have h1 := given_nodup h.sv.given
  have := nodup_len (d.G.map (·.1)) (List.range 100) h1 fun x hx => by
    obtain ⟨g, hg, rfl⟩ := List.mem_map.1 hx
    exact List.mem_range.2 (h.gu g hg).2.1
  simpa using this
theorem Work.alen {w : World} {B : Nat} {S : Nat → Prop} {Q : Ty → Prop} {U : List Addr} {d : SD} (h : Work w B S Q U d) : d.AG.length ≤ U.length * U.length := by
  have h1 := h.sv.agreed.nodup
  rw [List.map_map] at h1
  have h2 : d.AG.Nodup := (List.pairwise_map.1 h1).imp fun hne e => hne (by rw [e])
  have := nodup_len d.AG (U.flatMap fun a => U.map fun b => (a, b)) h2 fun x hx => by
    obtain ⟨h3, h4⟩ := h.au x hx
    exact List.mem_flatMap.2 ⟨x.1, h3, List.mem_map.2 ⟨x.2, h4, rfl⟩⟩
  refine Nat.le_trans this ?_
  have hl : ∀ (V : List Addr), (V.flatMap fun a => U.map fun b => (a, b)).length = V.length * U.length := by
    intro V
    induction V with
    | nil => simp
    | cons a r ih => rw [List.flatMap_cons, List.length_append, ih, List.length_map, List.length_cons, Nat.succ_mul]; omega
  rw [hl U]
  exact Nat.le_refl _
theorem Work.below {w w' : World} {B : Nat} {S : Nat → Prop} {Q : Ty → Prop} {U : List Addr} {d : SD} (h : Work w B S Q U d) (hb : Below w.heap.size w w') : Work w' B S Q U d :=
  ⟨h.sv.below h.pl h.hB hb, h.pl.below (hb.mono h.hB), Nat.le_trans h.hB hb.size, h.un.keep (h.pl.kept (hb.mono h.hB)), h.gu, h.au, h.tr, h.ps⟩

structure Agreed (B : Nat) (S : Nat → Prop) (Q : Ty → Prop) (U : List Addr) (d : SD) (t u : Ty) (w : World) (r : Bool) (d' : SD) (w' : World) : Prop where
  work : Work w' B S Q U d'
  kp : Kp (SvM d) w w'
  next : SNext w.heap.size d d'
  grow : ∃ N, d'.G = d.G ++ N ∧ d'.tr = d.tr ++ N.map (·.1)
  pairs : ∃ M, d'.AG = d.AG ++ M ∧ d'.ps = d.ps ++ M ∧ ∀ ρ, Rank d'.sol ρ → ∀ x ∈ M, ∀ y, PtTy w S x.1 y → ρ y ≤ ρ t
  lo : d'.lo = d.lo
  rank : ∃ ρ, Rank d'.sol ρ
  full : ∀ θ, Sat θ d.sol → sub θ t = sub θ u → r = true ∧ Sat θ d'.sol
  sound : CleanQ Q → Memo w S d → r = true → Memo w' S d' ∧ ∀ θ, Sat θ d'.sol → sub θ t = sub θ u
  head : ∀ n x, Head d.sol t u n x → (r = true ↔ ¬ Occ d.sol n x) ∧ (r = true → ∃ q, PtTy w S q x ∧ d'.G = d.G ++ [(n, q, x)])
def AgreeRes (B : Nat) (S : Nat → Prop) (Q : Ty → Prop) (U : List Addr) (d : SD) (t u : Ty) (w : World) (e : Ending) (w' : World) : Prop :=
  ∃ r d', e = .returned (.bool r) ∧ Agreed B S Q U d t u w r d' w'

/-- Nothing was given. -/
theorem Agreed.same {B : Nat} {S : Nat → Prop} {Q : Ty → Prop} {U : List Addr} {d : SD} {t u : Ty} {w w' : World} {r : Bool} {ρ : Ty → Nat} (h : Work w B S Q U d) (hr : Rank d.sol ρ) (hb : Below w.heap.size w w')
    (hf : ∀ θ, Sat θ d.sol → sub θ t = sub θ u → r = true) (hs : CleanQ Q → Memo w S d → r = true → ∀ θ, Sat θ d.sol → sub θ t = sub θ u) (hh : ∀ n x, ¬ Head d.sol t u n x) : Agreed B S Q U d t u w r d w' where
  work := h.below hb
  kp := Kp.ofBelow hb
  next := SNext.refl _ _
  grow := ⟨[], by simp, by simp⟩
  pairs := ⟨[], by simp, by simp, fun _ _ x hx => by cases hx⟩
  lo := rfl
  rank := ⟨ρ, hr⟩
  full := fun θ h1 h2 => ⟨hf θ h1 h2, h1⟩
  sound := fun hc hm hr => ⟨fun x hx t u ht hu => hm x hx t u (ht.keep fun p hp => ((h.pl.kept (hb.mono h.hB)) p hp).symm) (hu.keep fun p hp => ((h.pl.kept (hb.mono h.hB)) p hp).symm), hs hc hm hr⟩
  head := fun n x hx => absurd hx (hh n x)

theorem Head.fn {σ : Sol} {t u x x' : Ty} {n n' : Nat} (h : Head σ t u n x) (h' : Head σ t u n' x') : n = n' ∧ x = x' := by
  cases h with
  | left t1 u1 m ht hu hm hn =>
    cases h' with
    | left t2 u2 m2 ht2 hu2 hm2 hn2 =>
      have e1 := ht.fn ht2
      have e2 := hu.fn hu2
      subst e1 e2
      rw [hm] at hm2
      cases hm2
      exact ⟨rfl, rfl⟩
    | right t2 u2 m2 ht2 hu2 hn2 hm2 =>
      have e1 := ht.fn ht2
      have e2 := hu.fn hu2
      subst e1 e2
      have a := hn _ hn2
      have b := hm2 _ hm
      omega
  | right t1 u1 m ht hu hn hm =>
    cases h' with
    | left t2 u2 m2 ht2 hu2 hm2 hn2 =>
      have e1 := ht.fn ht2
      have e2 := hu.fn hu2
      subst e1 e2
      have a := hn2 _ hn
      have b := hm _ hm2
      omega
    | right t2 u2 m2 ht2 hu2 hn2 hm2 =>
      have e1 := ht.fn ht2
      have e2 := hu.fn hu2
      subst e1 e2
      rw [hn] at hn2
      cases hn2
      exact ⟨rfl, rfl⟩

theorem Plb.kpM {w w' : World} {B : Nat} {S : Nat → Prop} {d : SD} (h : Plb w B S) (hs : Sv w B S d) (hk : Kp (SvM d) w w') (hB : B ≤ w.heap.size) : Plb w' B S :=
  ⟨h.lt, fun b hS => (h.plain b hS).same (hk.block b (Nat.lt_of_lt_of_le (h.lt b hS) hB) (fun e => by have := hs.from b e; have := h.lt b hS; omega))⟩
theorem kept_kpM {w w' : World} {B : Nat} {S : Nat → Prop} {d : SD} (h : Plb w B S) (hs : Sv w B S d) (hk : Kp (SvM d) w w') (hB : B ≤ w.heap.size) : Kept S w w' :=
  hk.kept fun b hS => ⟨Nat.lt_of_lt_of_le (h.lt b hS) hB, fun e => by have := hs.from b e; have := h.lt b hS; omega⟩
theorem Kept.symm {S : Nat → Prop} {w w' : World} (h : Kept S w w') : Kept S w' w := fun p hp => (h p hp).symm

theorem agreed_give {B : Nat} {S : Nat → Prop} {Q : Ty → Prop} {U : List Addr} {d : SD} {t u x : Ty} {k : Nat} {xq : Addr} {w w2 : World} {ρ : Ty → Nat} (h : Work w B S Q U d) (hr : Rank d.sol ρ) (hb : Below w.heap.size w w2)
    (hx : PtTy w S xq x) (hxU : xq ∈ U) (hxQ : Q x) (hk : k < 100) (hkn : d.sol k = none) (hh : Head d.sol t u k x) (hsub : ∀ θ, Sat θ d.sol → (sub θ t = sub θ u ↔ θ k = sub θ x)) (hne : varOf x ≠ some k) (hfree : ∀ j, varOf x = some j → d.sol j = none) :
    ∀ e w', GiveRes B S d k xq x w2 e w' → AgreeRes B S Q U d t u w e w' := by
  have hw2 := h.below hb
  have hno : ∀ θ, Sat θ d.sol → sub θ t = sub θ u → ¬ Occ d.sol k x := by
    intro θ h1 h2 hoc
    have he := (hsub θ h1).1 h2
    rcases hv : varOf x with _ | j
    · have := hoc.less hv h1
      rw [he] at this
      omega
    · have := (Occ.free hv (hfree j hv)).1 hoc
      exact hne (by rw [hv, this])
  rintro e w' (⟨hoc, rfl, hb3⟩ | ⟨hnoc, rfl, v', hsv, hkp, hown⟩)
  · have hbw : Below w.heap.size w w' := hb.trans (hb3.mono hb.size)
    refine ⟨false, d, rfl, ⟨h.below hbw, Kp.ofBelow hbw, SNext.refl _ _, ⟨[], by simp, by simp⟩, ⟨[], by simp, by simp, fun _ _ x hx => by cases hx⟩, rfl, ⟨ρ, hr⟩, fun θ h1 h2 => absurd hoc (hno θ h1 h2), fun _ _ h => by (cases h), fun n y hy => ?_⟩⟩
    obtain ⟨rfl, rfl⟩ := hh.fn hy
    exact ⟨⟨(fun h => by cases h), fun h => absurd hoc h⟩, (fun h => by cases h)⟩
  · have hsol : ({ d with G := d.G ++ [(k, xq, x)], tr := d.tr ++ [k], trv := v' } : SD).sol = upd d.sol k x := solOf_snoc hkn
    have hkt2 := kept_kpM hw2.pl hw2.sv hkp hw2.hB
    have hkt : Kept S w w' := Kept.trans (h.pl.kept (hb.mono h.hB)) hkt2
    have hplr := hw2.pl.kpM hw2.sv hkp hw2.hB
    refine ⟨true, _, rfl, ⟨⟨hsv, hplr, Nat.le_trans hw2.hB hkp.size, h.un.keep hkt, ?_, h.au, ?_, h.ps⟩, ?_, ?_, ⟨[(k, xq, x)], rfl, rfl⟩, ⟨[], by simp, by simp, fun _ _ x hx => by cases hx⟩, rfl, ?_, ?_, ?_, ?_⟩⟩
    · intro g hg
      rcases List.mem_append.1 hg with hg | hg
      · exact h.gu g hg
      · obtain rfl := List.mem_singleton.1 hg
        exact ⟨hxQ, hk, hxU⟩
    · have := h.tr
      simp only [List.length_append, List.length_singleton]
      omega
    · exact (Kp.ofBelow hb).trans hkp fun _ _ h => h
    · exact ⟨rfl, rfl, rfl, fun y hy => (hown y hy).imp_right (fun e => Nat.le_trans hb.size e), fun y hy => .inl hy⟩
    · rw [hsol]
      exact upd_rank hr hkn hnoc
    · intro θ h1 h2
      rw [hsol]
      exact ⟨rfl, upd_sat h1 ((hsub θ h1).1 h2)⟩
    · intro _ hm _
      rw [hsol]
      refine ⟨fun y hy a b ha hb' θ hθ => ?_, fun θ hθ => ?_⟩
      · rw [hsol] at hθ
        exact hm y hy a b (ha.keep hkt.symm) (hb'.keep hkt.symm) θ (hθ.back (upd_ext hkn))
      · exact (hsub θ (hθ.back (upd_ext hkn))).2 (upd_eq hθ)
    · intro n y hy
      obtain ⟨rfl, rfl⟩ := hh.fn hy
      exact ⟨⟨fun _ => hnoc, fun _ => rfl⟩, fun _ => ⟨xq, hx, rfl⟩⟩

theorem Rank.back {σ σ' : Sol} {ρ : Ty → Nat} (h : Rank σ' ρ) (he : Ext σ σ') : Rank σ ρ := ⟨h.arg, fun t k u hv hk => h.given t k u hv (he k u hk)⟩

/-- The first k arguments of two nodes agree. -/
structure Ran (B : Nat) (S : Nat → Prop) (Q : Ty → Prop) (U : List Addr) (d : SD) (t u : Ty) (k : Nat) (w : World) (dk : SD) (wr : World) : Prop where
  work : Work wr B S Q U dk
  kp : Kp (SvM d) w wr
  next : SNext w.heap.size d dk
  grow : ∃ N, dk.G = d.G ++ N ∧ dk.tr = d.tr ++ N.map (·.1)
  pairs : ∃ M, dk.AG = d.AG ++ M ∧ dk.ps = d.ps ++ M ∧ ∀ ρ, Rank dk.sol ρ → ∀ x ∈ M, ∀ y, PtTy w S x.1 y → ρ y < ρ t
  lo : dk.lo = d.lo
  rank : ∃ ρ, Rank dk.sol ρ
  full : ∀ θ, Sat θ d.sol → (∀ j a b, j < k → t.args[j]? = some a → u.args[j]? = some b → sub θ a = sub θ b) → Sat θ dk.sol
  sound : CleanQ Q → Memo w S d → Memo wr S dk ∧ ∀ θ, Sat θ dk.sol → ∀ j a b, j < k → t.args[j]? = some a → u.args[j]? = some b → sub θ a = sub θ b
theorem Ran.ext {B : Nat} {S : Nat → Prop} {Q : Ty → Prop} {U : List Addr} {d dk : SD} {t u : Ty} {k : Nat} {w wr : World} (h : Ran B S Q U d t u k w dk wr) : Ext d.sol dk.sol := by
  obtain ⟨N, h1, _⟩ := h.grow
  unfold SD.sol
  rw [h1]
  exact solOf_ext
theorem Agreed.ext {B : Nat} {S : Nat → Prop} {Q : Ty → Prop} {U : List Addr} {d dk : SD} {t u : Ty} {w wr : World} {r : Bool} (h : Agreed B S Q U d t u w r dk wr) : Ext d.sol dk.sol := by
  obtain ⟨N, h1, _⟩ := h.grow
  unfold SD.sol
  rw [h1]
  exact solOf_ext
theorem Ran.start {B : Nat} {S : Nat → Prop} {Q : Ty → Prop} {U : List Addr} {d : SD} {t u : Ty} {w wr : World} {ρ : Ty → Nat} (h : Work w B S Q U d) (hr : Rank d.sol ρ) (hb : Below w.heap.size w wr) : Ran B S Q U d t u 0 w d wr where
  work := h.below hb
  kp := Kp.ofBelow hb
  next := SNext.refl _ _
  grow := ⟨[], by simp, by simp⟩
  pairs := ⟨[], by simp, by simp, fun _ _ x hx => by cases hx⟩
  lo := rfl
  rank := ⟨ρ, hr⟩
  full := fun θ h1 _ => h1
  sound := fun _ hm => ⟨fun x hx t u ht hu => hm x hx t u (ht.keep (h.pl.kept (hb.mono h.hB)).symm) (hu.keep (h.pl.kept (hb.mono h.hB)).symm), fun θ _ j a b hj => by omega⟩
theorem Ran.step {B : Nat} {S : Nat → Prop} {Q : Ty → Prop} {U : List Addr} {d dk d' : SD} {t u a b : Ty} {k : Nat} {w wr wx w' : World} (hw : Work w B S Q U d) (h : Ran B S Q U d t u k w dk wr) (hx : Below wr.heap.size wr wx)
    (ha : t.args[k]? = some a) (hb : u.args[k]? = some b) (hg : Agreed B S Q U dk a b wx true d' w') : Ran B S Q U d t u (k + 1) w d' w' := by
  have hkt : Kept S w wr := kept_kpM hw.pl hw.sv h.kp hw.hB
  have hkx : Kept S wr wx := h.work.pl.kept (hx.mono h.work.hB)
  have hnx : SNext w.heap.size d d' := h.next.trans hg.next (Nat.le_trans h.kp.size hx.size)
  refine ⟨hg.work, ?_, hnx, ?_, ?_, hg.lo.trans h.lo, hg.rank, ?_, ?_⟩
  · exact (h.kp.below hx).trans hg.kp fun y hy hM => h.next.back y hy hM
  · obtain ⟨N, h1, h2⟩ := h.grow
    obtain ⟨N', h3, h4⟩ := hg.grow
    exact ⟨N ++ N', by rw [h3, h1, List.append_assoc], by rw [h4, h2, List.map_append, List.append_assoc]⟩
  · obtain ⟨M, h1, h2, h3⟩ := h.pairs
    obtain ⟨M', h4, h5, h6⟩ := hg.pairs
    refine ⟨M ++ M', by rw [h4, h1, List.append_assoc], by rw [h5, h2, List.append_assoc], fun ρ hr x hx' y hy => ?_⟩
    rcases List.mem_append.1 hx' with hx' | hx'
    · exact h3 ρ (hr.back hg.ext) x hx' y hy
    · have := h6 ρ hr x hx' y (hy.keep (Kept.trans hkt hkx))
      have := hr.arg t a (List.mem_of_getElem? ha)
      omega
  · intro θ h1 h2
    have h3 := h.full θ h1 fun j a b hj => h2 j a b (by omega)
    exact (hg.full θ h3 (h2 k a b (by omega) ha hb)).2
  · intro hc hm
    obtain ⟨h1, h2⟩ := h.sound hc hm
    obtain ⟨h3, h4⟩ := hg.sound hc (fun x hxm t u ht hu => h1 x hxm t u (ht.keep hkx.symm) (hu.keep hkx.symm)) rfl
    refine ⟨h3, fun θ hθ j a' b' hj ha' hb' => ?_⟩
    rcases Nat.lt_or_ge j k with hjk | hjk
    · exact h2 θ (hθ.back hg.ext) j a' b' hjk ha' hb'
    · obtain rfl : j = k := by omega
      rw [ha] at ha'
      rw [hb] at hb'
      cases ha'
      cases hb'
      exact h4 θ hθ

theorem node_args {θ : Nat → Ty} {t u : Ty} (hv1 : varOf t = none) (hv2 : varOf u = none) (h : sub θ t = sub θ u) : t.name = u.name ∧ t.args.length = u.args.length ∧ ∀ (j : Nat) (a b : Ty), t.args[j]? = some a → u.args[j]? = some b → sub θ a = sub θ b := by
  rw [sub_node hv1, sub_node hv2] at h
  injection h with h1 h2
  refine ⟨h1, by simpa using congrArg List.length h2, fun j a b ha hb => ?_⟩
  have := congrArg (fun l => l[j]?) h2
  simp only [List.getElem?_map, ha, hb, Option.map_some] at this
  exact Option.some.inj this
theorem args_node {θ : Nat → Ty} {t u : Ty} (hv1 : varOf t = none) (hv2 : varOf u = none) (hn : t.name = u.name) (hl : t.args.length = u.args.length) (h : ∀ (j : Nat) (a b : Ty), j < t.args.length → t.args[j]? = some a → u.args[j]? = some b → sub θ a = sub θ b) : sub θ t = sub θ u := by
  rw [sub_node hv1, sub_node hv2, hn]
  congr 1
  apply List.ext_getElem?
  intro j
  rw [List.getElem?_map, List.getElem?_map]
  rcases Nat.lt_or_ge j t.args.length with hj | hj
  · have hj' : j < u.args.length := by omega
    rw [List.getElem?_eq_getElem hj, List.getElem?_eq_getElem hj']
    simp only [Option.map_some]
    rw [h j _ _ hj (List.getElem?_eq_getElem hj) (List.getElem?_eq_getElem hj')]
  · rw [List.getElem?_eq_none hj, List.getElem?_eq_none (by omega)]

theorem Ran.fail {B : Nat} {S : Nat → Prop} {Q : Ty → Prop} {U : List Addr} {d dk d' : SD} {t0 u0 t u a b : Ty} {k : Nat} {w wr wx w' : World} (hw : Work w B S Q U d) (ho1 : Out d.sol t0 t) (ho2 : Out d.sol u0 u) (hv1 : varOf t = none) (hv2 : varOf u = none)
    (hnh : ∀ n x, ¬ Head d.sol t0 u0 n x) (h : Ran B S Q U d t u k w dk wr) (hx : Below wr.heap.size wr wx)
    (ha : t.args[k]? = some a) (hb : u.args[k]? = some b) (hg : Agreed B S Q U dk a b wx false d' w') : Agreed B S Q U d t0 u0 w false d' w' := by
  have hkt : Kept S w wr := kept_kpM hw.pl hw.sv h.kp hw.hB
  have hkx : Kept S wr wx := h.work.pl.kept (hx.mono h.work.hB)
  have hnx : SNext w.heap.size d d' := h.next.trans hg.next (Nat.le_trans h.kp.size hx.size)
  obtain ⟨N, n1, n2⟩ := h.grow
  obtain ⟨N', n3, n4⟩ := hg.grow
  have hext : Ext d.sol d'.sol := h.ext.trans hg.ext
  refine ⟨hg.work, ?_, hnx, ⟨N ++ N', by rw [n3, n1, List.append_assoc], by rw [n4, n2, List.map_append, List.append_assoc]⟩, ?_, hg.lo.trans h.lo, hg.rank, ?_, (fun _ _ h => by cases h), fun n x hx => absurd hx (hnh n x)⟩
  · exact (h.kp.below hx).trans hg.kp fun y hy hM => h.next.back y hy hM
  · obtain ⟨M, h1, h2, h3⟩ := h.pairs
    obtain ⟨M', h4, h5, h6⟩ := hg.pairs
    refine ⟨M ++ M', by rw [h4, h1, List.append_assoc], by rw [h5, h2, List.append_assoc], fun ρ hr x hx' y hy => ?_⟩
    have hrt := ho1.rank (hr.back hext)
    rcases List.mem_append.1 hx' with hx' | hx'
    · have := h3 ρ (hr.back hg.ext) x hx' y hy
      omega
    · have := h6 ρ hr x hx' y (hy.keep (Kept.trans hkt hkx))
      have := hr.arg t a (List.mem_of_getElem? ha)
      omega
  · intro θ h1 h2
    rw [← ho1.sub h1, ← ho2.sub h1] at h2
    obtain ⟨_, _, h3⟩ := node_args hv1 hv2 h2
    have h4 := h.full θ h1 fun j a b _ => h3 j a b
    have := (hg.full θ h4 (h3 k a b ha hb)).1
    cases this

theorem Sv.paired {w1 w2 w3 : World} {B : Nat} {S : Nat → Prop} {d : SD} {p q : Addr} {t u : Ty} {o : Obj} {v' : Value} (hs : Sv w1 B S d) (hpl : Plb w1 B S) (hB : B ≤ w1.heap.size) (hp : PtTy w1 S p t) (hq : PtTy w1 S q u)
    (hm : MapAt w2 d.ab ((d.AG ++ [(p, q)]).map agreedV)) (hk : Kp (fun y => y = d.ab) w1 w2) (hg : (w2.alloc o).grownBy w3 d.psv.ownBlock)
    (hown : w3.ownsRow B 107 2 v' (d.ps.length + 1) (flatP (d.ps ++ [(p, q)]))) :
    Sv (w3.setCell ⟨d.sb, 3, none⟩ v') B S { d with AG := d.AG ++ [(p, q)], ps := d.ps ++ [(p, q)], psv := v' } ∧ Kp (SvM d) w1 (w3.setCell ⟨d.sb, 3, none⟩ v') := by
  have kB : Kp (fun y => d.psv.ownBlock = some y) w2 w3 := ((Kp.refl _ w2).alloc o).grown hg (fun r hr _ => hr)
  have kC : Kp (fun y => y = d.sb) w3 (w3.setCell ⟨d.sb, 3, none⟩ v') := Kp.setCell (M := fun y => y = d.sb) (Kp.refl _ w3) (fun _ => rfl) v'
  have k2 : Kp (SvM d) w1 w3 := (hk.more fun x _ e => .inr (.inr (.inl e))).trans kB fun x _ e => .inr (.inr (.inr (.inr e)))
  have k3 : Kp (SvM d) w1 (w3.setCell ⟨d.sb, 3, none⟩ v') := k2.trans kC fun x _ e => .inl e
  refine ⟨?_, k3⟩
  have hkt : Kept S w1 (w3.setCell ⟨d.sb, 3, none⟩ v') := k3.kept fun b hS => ⟨Nat.lt_of_lt_of_le (hpl.lt b hS) hB, fun e => by have := hs.from b e; have := hpl.lt b hS; omega⟩
  have hsg : d.sb ≠ d.gb := fun e => hs.given.not_cells (e ▸ hs.cells)
  have hsa : d.sb ≠ d.ab := fun e => hs.agreed.not_cells (e ▸ hs.cells)
  have hp2 := hk.own hs.pairs (fun g hg e => by obtain ⟨cs, hc⟩ := row_block hs.pairs hg; exact hs.agreed.not_cells (e ▸ hc))
  have ht2 := hk.own hs.trail (fun g hg e => by obtain ⟨cs, hc⟩ := row_block hs.trail hg; exact hs.agreed.not_cells (e ▸ hc))
  have hc2 := hk.heap hs.cells hsa
  have hst : ¬ d.trv.ownBlock = some d.sb := fun e => by
    obtain ⟨cs, hc⟩ := row_block hs.trail e
    rw [hs.cells] at hc
    injection hc with hc
    injection hc with _ hT
    revert hT
    decide
  have hsp : ¬ d.psv.ownBlock = some d.sb := fun e => by
    obtain ⟨cs, hc⟩ := row_block hs.pairs e
    rw [hs.cells] at hc
    injection hc with hc
    injection hc with _ hT
    revert hT
    decide
  have hc3 := kB.heap hc2 hsp
  have hga : ¬ d.psv.ownBlock = some d.ab := fun e => by obtain ⟨cs, hc⟩ := row_block hp2 e; exact hm.not_cells hc
  have hm3 := hm.same (kB.block _ hm.lt hga)
  have hg2 := hs.given.same (hk.block _ hs.given.lt (fun e => hs.lo.2.2.2 e))
  have hgp : ¬ d.psv.ownBlock = some d.gb := fun e => by obtain ⟨cs, hc⟩ := row_block hp2 e; exact hg2.not_cells hc
  have hg3 := hg2.same (kB.block _ hg2.lt hgp)
  have htp : ∀ g, d.trv.ownBlock = some g → ¬ d.psv.ownBlock = some g := fun g h1 h2 => by
    obtain ⟨cs, hc⟩ := row_block hs.trail h1
    obtain ⟨cs', hc'⟩ := row_block hs.pairs h2
    rw [hc] at hc'
    injection hc' with hc'
    injection hc' with _ hT
    revert hT
    decide
  have ht3 := kB.own ht2 htp
  have hvs : ∀ g, v'.ownBlock = some g → g ≠ d.sb := fun g hg e => by
    obtain ⟨cs, hc⟩ := row_block hown hg
    rw [e, hc3] at hc
    injection hc with hc
    injection hc with _ hT
    revert hT
    decide
  refine ⟨hs.lo, setCell_heap hc3, hg3.same (setCell_other (fun e => hsg e.symm)), hm3.same (setCell_other (fun e => hsa e.symm)), fun g hg => (hs.gty g hg).keep hkt, ?_, kC.own ht3 fun g hg e => hst (e ▸ hg), ?_⟩
  · intro x hx
    rcases List.mem_append.1 hx with hx | hx
    · obtain ⟨⟨t', h3⟩, u, h4⟩ := hs.aty x hx
      exact ⟨⟨t', h3.keep hkt⟩, u, h4.keep hkt⟩
    · obtain rfl := List.mem_singleton.1 hx
      exact ⟨⟨t, hp.keep hkt⟩, u, hq.keep hkt⟩
  · have := kC.own hown hvs
    simpa using this

theorem Ran.done {B : Nat} {S : Nat → Prop} {Q : Ty → Prop} {U : List Addr} {d dk : SD} {t0 u0 t u : Ty} {w wr w' : World} {p q : Addr} {v' : Value} (hw : Work w B S Q U d) (ho1 : Out d.sol t0 t) (ho2 : Out d.sol u0 u) (hv1 : varOf t = none) (hv2 : varOf u = none)
    (hnh : ∀ n x, ¬ Head d.sol t0 u0 n x) (hn : t.name = u.name) (hl : t.args.length = u.args.length) (h : Ran B S Q U d t u t.args.length w dk wr) (hp : PtTy w S p t) (hq : PtTy w S q u) (hpU : p ∈ U) (hqU : q ∈ U)
    (hsv : Sv w' B S { dk with AG := dk.AG ++ [(p, q)], ps := dk.ps ++ [(p, q)], psv := v' }) (hkp : Kp (SvM dk) wr w') (hv : ∀ y, v'.ownBlock = some y → dk.psv.ownBlock = some y ∨ wr.heap.size ≤ y) :
    Agreed B S Q U d t0 u0 w true { dk with AG := dk.AG ++ [(p, q)], ps := dk.ps ++ [(p, q)], psv := v' } w' := by
  have hkt : Kept S w wr := kept_kpM hw.pl hw.sv h.kp hw.hB
  have hkr : Kept S wr w' := kept_kpM h.work.pl h.work.sv hkp h.work.hB
  obtain ⟨N, n1, n2⟩ := h.grow
  obtain ⟨M, m1, m2, m3⟩ := h.pairs
  refine ⟨⟨hsv, h.work.pl.kpM h.work.sv hkp h.work.hB, Nat.le_trans h.work.hB hkp.size, h.work.un.keep hkr, h.work.gu, ?_, h.work.tr, ?_⟩, ?_, ?_, ⟨N, n1, n2⟩, ⟨M ++ [(p, q)], by simp [m1], by simp [m2], ?_⟩, h.lo, h.rank, ?_, ?_, fun n x hx => absurd hx (hnh n x)⟩
  · intro x hx
    rcases List.mem_append.1 hx with hx | hx
    · exact h.work.au x hx
    · obtain rfl := List.mem_singleton.1 hx
      exact ⟨hpU, hqU⟩
  · have := h.work.ps
    simp only [List.length_append, List.length_singleton]
    omega
  · exact h.kp.trans hkp fun y hy hM => h.next.back y hy hM
  · exact ⟨h.next.sb, h.next.gb, h.next.ab, h.next.trv, fun y hy => (hv y hy).elim (h.next.psv y) (fun e => .inr (Nat.le_trans h.kp.size e))⟩
  · intro ρ hr x hx y hy
    have hrt := ho1.rank (hr.back h.ext)
    rcases List.mem_append.1 hx with hx | hx
    · have := m3 ρ hr x hx y hy
      omega
    · obtain rfl := List.mem_singleton.1 hx
      rw [hy.inj hp]
      exact hrt
  · intro θ h1 h2
    rw [← ho1.sub h1, ← ho2.sub h1] at h2
    obtain ⟨_, _, h3⟩ := node_args hv1 hv2 h2
    exact ⟨rfl, h.full θ h1 fun j a b _ => h3 j a b⟩
  · intro hc hm _
    obtain ⟨h1, h2⟩ := h.sound hc hm
    have h3 : ∀ θ, Sat θ dk.sol → sub θ t = sub θ u := fun θ hθ => args_node hv1 hv2 hn hl fun j a b hj ha hb => h2 θ hθ j a b hj ha hb
    refine ⟨fun x hx a b ha hb θ hθ => ?_, fun θ hθ => ?_⟩
    · rcases List.mem_append.1 hx with hx | hx
      · exact h1 x hx a b (ha.keep hkr.symm) (hb.keep hkr.symm) θ hθ
      · obtain rfl := List.mem_singleton.1 hx
        have e1 := (ha.keep (Kept.trans hkt hkr).symm).inj hp
        have e2 := (hb.keep (Kept.trans hkt hkr).symm).inj hq
        rw [e1, e2]
        exact h3 θ hθ
    · have := h3 θ hθ
      have hd : Sat θ d.sol := hθ.back h.ext
      rw [ho1.sub hd, ho2.sub hd] at this
      exact this

/-! ### The map of pairs -/

theorem Work.plain {w : World} {B : Nat} {S : Nat → Prop} {Q : Ty → Prop} {U : List Addr} {d : SD} (h : Work w B S Q U d) {x : Addr} (hx : x ∈ U) : PlainB w x.block := by
  obtain ⟨t, ht, _⟩ := h.un.ty x hx
  obtain ⟨_, _, hS, _⟩ := ht.ex
  exact h.pl.plain _ hS
theorem Work.keys {w : World} {B : Nat} {S : Nat → Prop} {Q : Ty → Prop} {U : List Addr} {d : SD} (h : Work w B S Q U d) : ∀ p ∈ d.AG.map agreedV, KPair w p.1 := by
  intro p hp
  obtain ⟨x, hx, rfl⟩ := List.mem_map.1 hp
  exact ⟨x.1, x.2, rfl, h.plain (h.au x hx).1, h.plain (h.au x hx).2⟩
theorem pairV2_inj {x : Addr × Addr} {p q : Addr} (h : (agreedV x).1 = pairV2 (p, q)) : x = (p, q) := by
  obtain ⟨a, b⟩ := x
  simp only [agreedV, pairV2] at h
  injection h with h
  have h1 := congrArg (fun l => l[0]?) h
  have h2 := congrArg (fun l => l[1]?) h
  simp at h1 h2
  rw [h1, h2]
theorem Work.pair_yes {w : World} {B : Nat} {S : Nat → Prop} {Q : Ty → Prop} {U : List Addr} {d : SD} (h : Work w B S Q U d) {p q : Addr} (hp : p ∈ U) (hq : q ∈ U) (hx : (p, q) ∈ d.AG) :
    (Instr.lookup 81 (.map (some d.ab)) (.agg #[.pointer (some p), .pointer (some q)]) false).run Tryd.prog w = .ok (.bool true) w :=
  run_look_yes Tryd.underlying81 law_pair h.sv.agreed ⟨p, q, rfl, h.plain hp, h.plain hq⟩ h.keys (List.mem_map.2 ⟨_, hx, rfl⟩)
theorem Work.pair_no {w : World} {B : Nat} {S : Nat → Prop} {Q : Ty → Prop} {U : List Addr} {d : SD} (h : Work w B S Q U d) {p q : Addr} (hp : p ∈ U) (hq : q ∈ U) (hx : (p, q) ∉ d.AG) :
    (Instr.lookup 81 (.map (some d.ab)) (.agg #[.pointer (some p), .pointer (some q)]) false).run Tryd.prog w = .ok (.bool false) w :=
  run_look_no Tryd.underlying81 law_pair h.sv.agreed ⟨p, q, rfl, h.plain hp, h.plain hq⟩ h.keys (Tryd.zeroValue4 w) (fun y hy e => by
    obtain ⟨x, hx', rfl⟩ := List.mem_map.1 hy
    exact hx (pairV2_inj e ▸ hx'))
theorem Work.pair_put {w : World} {B : Nat} {S : Nat → Prop} {Q : Ty → Prop} {U : List Addr} {d : SD} (h : Work w B S Q U d) {p q : Addr} (hp : p ∈ U) (hq : q ∈ U) (hx : (p, q) ∉ d.AG) :
    ∃ w', (Instr.mapUpdate 81 (.map (some d.ab)) (.agg #[.pointer (some p), .pointer (some q)]) (.bool true)).run Tryd.prog w = .ok () w' ∧ MapAt w' d.ab ((d.AG ++ [(p, q)]).map agreedV) ∧ Kp (fun y => y = d.ab) w w' := by
  obtain ⟨w', h1, h2, h3⟩ := run_put_new (.bool true) Tryd.underlying81 law_pair h.sv.agreed (k := .agg #[.pointer (some p), .pointer (some q)]) ⟨p, q, rfl, h.plain hp, h.plain hq⟩ h.keys (fun y hy e => by
    obtain ⟨x, hx', rfl⟩ := List.mem_map.1 hy
    exact hx (pairV2_inj e ▸ hx'))
  exact ⟨w', h1, by rw [List.map_append]; exact h2, h3⟩
theorem Sv.under {w : World} {B : Nat} {S : Nat → Prop} {d : SD} (h : Sv w B S d) : ∀ y, SvM d y → y < w.heap.size := by
  rintro y (e | e | e | e | e)
  · rw [e]; exact lt_of_heap h.cells
  · rw [e]; exact h.given.lt
  · rw [e]; exact h.agreed.lt
  · obtain ⟨cs, hc⟩ := row_block h.trail e
    exact lt_of_heap hc
  · obtain ⟨cs, hc⟩ := row_block h.pairs e
    exact lt_of_heap hc
theorem infoP : (Tryd.prog.info? 107).map (fun i => (i.zero, i.size, i.bytes)) = some (some (.agg #[.pointer none, .pointer none]), 2, 16) := by kernel_rfl
end Go.Proofs.YtndhglcdkegigaaDoor
