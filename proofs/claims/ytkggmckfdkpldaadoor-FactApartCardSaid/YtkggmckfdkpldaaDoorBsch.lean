/-
  A region that draws its order, walked once in an order of one's own: first operations that yield their value in whatever world (fl), then operations that read, or call functions that make new memory and nothing else (hd), then those that write or make memory, in their one forced order (tl). After the kit's laws of that make (a quiet region; a still region with a tail; an operation that is taken first), joined.
  Conditions: the Bool over the region ('floatB'), which the kernel reckons.
-/
import Derived.Test.YtkggmckfdkpldaaDoorBm
import Derived.StillTail
import Derived.Deep.Quiet
import Derived.Lib.QuietBelow
import Derived.OrdersHeld
import Derived.Deep.RegionHeld3
namespace Go.Proofs.YtkggmckfdkpldaaDoor
open Go Go.Sort Go.RowKit

section
variable {P : Program} {ops : Array Oper} {md : Region.Mode} {C : World → Prop}

def waitsStar (md : Region.Mode) (ops : Array Oper) : Nat → Nat → Nat → Bool
  | 0, _, _ => false
  | f + 1, t, i => Region.waitsFor md ops t i || (List.range ops.size).any fun j => Region.waitsFor md ops t j && waitsStar md ops f j i

def Closed (md : Region.Mode) (ops : Array Oper) (listed : Array Bool) : Prop :=
  ∀ j oj, ops[j]? = some oj → listed.getD j false = true → ∀ e ∈ oj.after, Region.binds md e = true → listed.getD e.on false = true
def closedB (md : Region.Mode) (ops : Array Oper) (listed : Array Bool) : Bool :=
  (List.range ops.size).all fun j => !listed.getD j false || match ops[j]? with
    | some oj => oj.after.all fun e => !Region.binds md e || listed.getD e.on false
    | none => true

theorem closed_of {listed : Array Bool} (h : closedB md ops listed = true) : Closed md ops listed := by
  intro j oj hj hl e he hb
  have h1 := List.all_eq_true.1 h j (List.mem_range.2 (Array.getElem?_eq_some_iff.1 hj).1)
  simp only [hl, hj, Bool.not_true, Bool.false_or] at h1
  have h2 := (Array.all_eq_true'.1 h1) e he
  simpa [hb] using h2

theorem Closed.set {listed : Array Bool} {i : Nat} (h : Closed md ops listed) (hi : i ∈ Region.ready md ops listed) : Closed md ops (listed.setIfInBounds i true) := by
  obtain ⟨_, oi, hoi, hall⟩ := mem_ready.1 hi
  intro j oj hj hl e he hb
  by_cases hij : i = j
  · subst hij
    have : oj = oi := Option.some.inj (hj.symm.trans hoi)
    subst this
    exact getD_set_true (hall e he hb)
  · rw [getD_set_ne false hij] at hl
    exact getD_set_true (h j oj hj hl e he hb)

theorem star_listed {listed : Array Bool} (hc : Closed md ops listed) : ∀ (f t i : Nat), waitsStar md ops f t i = true → listed.getD t false = true → listed.getD i false = true
  | 0, _, _, h, _ => by cases h
  | f + 1, t, i, h, ht => by
    simp only [waitsStar, Bool.or_eq_true] at h
    have step : ∀ k, Region.waitsFor md ops t k = true → listed.getD k false = true := fun k hk => by
      obtain ⟨ot, hot, e, he, hb, hon⟩ := Region.waitsFor_spec hk
      rw [← hon]
      exact hc t ot hot ht e he hb
    rcases h with h | h
    · exact step i h
    · obtain ⟨j, _, hj⟩ := List.any_eq_true.1 h
      simp only [Bool.and_eq_true] at hj
      exact star_listed hc f j i hj.2 (step j hj.1)

theorem star_ready {listed : Array Bool} (hc : Closed md ops listed) {f t i : Nat} (h : waitsStar md ops f t i = true) (ht : t ∈ Region.ready md ops listed) : listed.getD i false = true := by
  obtain ⟨_, ot, hot, hall⟩ := mem_ready.1 ht
  cases f with
  | zero => cases h
  | succ f =>
    simp only [waitsStar, Bool.or_eq_true] at h
    have step : ∀ k, Region.waitsFor md ops t k = true → listed.getD k false = true := fun k hk => by
      obtain ⟨o', ho', e, he, hb, hon⟩ := Region.waitsFor_spec hk
      have : o' = ot := Option.some.inj (ho'.symm.trans hot)
      subst this
      rw [← hon]
      exact hall e he hb
    rcases h with h | h
    · exact step i h
    · obtain ⟨j, _, hj⟩ := List.any_eq_true.1 h
      simp only [Bool.and_eq_true] at hj
      exact star_listed hc f j i hj.2 (step j hj.1)

/-- While one of the first is left, none of the last can come up. -/
structure Heads (md : Region.Mode) (ops : Array Oper) (hd tl : List Nat) (listed : Array Bool) : Prop where
  closed : Closed md ops listed
  cover : ∀ j, j < ops.size → listed.getD j true = false → j ∈ hd ∨ j ∈ tl
  late : ∀ t ∈ tl, ∀ i ∈ hd, waitsStar md ops ops.size t i = true

theorem Heads.set {hd tl : List Nat} {listed : Array Bool} {i : Nat} (h : Heads md ops hd tl listed) (hi : i ∈ Region.ready md ops listed) : Heads md ops hd tl (listed.setIfInBounds i true) := by
  refine ⟨h.closed.set hi, fun j hj hu => h.cover j hj ?_, h.late⟩
  by_cases hij : i = j
  · subst hij; exact (mem_ready.1 hi).1
  · rwa [getD_set_ne true hij] at hu

theorem Heads.in_ {hd tl : List Nat} {listed : Array Bool} {i : Nat} (h : Heads md ops hd tl listed) (hi : i ∈ hd) (hun : listed.getD i true = false) : ∀ j ∈ Region.ready md ops listed, j ∈ hd := by
  intro j hj
  obtain ⟨hu, oj, hoj, _⟩ := mem_ready.1 hj
  rcases h.cover j (Array.getElem?_eq_some_iff.1 hoj).1 hu with h1 | h1
  · exact h1
  · have := star_ready h.closed (h.late j h1 i hi) hj
    rw [getD_both hun] at this
    cases this

def wpHd (P : Program) (md : Region.Mode) (ops : Array Oper) (C : World → Prop) (hd : List Nat) (L : Array Bool → Act → Prop) : Nat → Array Bool → Act → Prop
  | 0, listed, a => L listed a
  | f + 1, listed, a => Region.ready md ops listed ≠ [] ∧ ∀ i ∈ Region.ready md ops listed, i ∈ hd ∧ qOp P ops C i (wpHd P md ops C hd L f (listed.setIfInBounds i true)) a

theorem wpAny_of_wpHd {hd : List Nat} {g : Nat} {L : Array Bool → Act → Prop} {Q' : Exit → Act → World → Prop} (hL : ∀ listed a w, C w → L listed a → wpAny P md ops Q' g listed a w) :
    ∀ (f : Nat) (listed : Array Bool) (a : Act) (w : World), C w → wpHd P md ops C hd L f listed a → wpAny P md ops Q' (f + g) listed a w
  | 0, listed, a, w, hw, h => by rw [Nat.zero_add]; exact hL _ _ _ hw h
  | f + 1, listed, a, w, hw, h => by
    rw [show f + 1 + g = (f + g) + 1 by omega]
    exact ⟨fun h0 => absurd h0 h.1, fun i hi => wpOp_of_qOp hw (fun a' w' hw' h' => wpAny_of_wpHd hL f _ a' w' hw' h') (h.2 i hi).2⟩

theorem wpHd_first {hd tl : List Nat} {i : Nat} {oi : Oper} {v : Value} {L : Array Bool → Act → Prop} (hi : ops[i]? = some oi) (hsel : ∀ (j : Nat) (o : Oper) cs b, ops[j]? = some o → o.op ≠ .select cs b)
    (hin : i ∈ hd) (hdone : ∀ listed a, L listed a → ∀ j ∈ Region.ready md ops listed, j ∉ hd) :
    ∀ (f : Nat) (listed : Array Bool) (a : Act), Heads md ops hd tl listed →
      (∀ j oj, ops[j]? = some oj → j ≠ i → listed.getD j true = false → (∀ e ∈ oj.after, Region.binds md e = true → e.on ≠ i) → oi.apart ops oj = true) →
      i ∈ Region.ready md ops listed → YieldsIn P ops C oi v a →
      wpHd P md ops C hd L f (listed.setIfInBounds i true) (a.put oi.dst v) → wpHd P md ops C hd L (f + 1) listed a := by
  intro f
  induction f with
  | zero =>
    intro listed a inv _ hr hy H
    have hun := (mem_ready.1 hr).1
    refine ⟨fun h => (by rw [h] at hr; cases hr), fun j hj => ?_⟩
    have hjn := inv.in_ hin hun j hj
    refine ⟨hjn, ?_⟩
    by_cases hji : j = i
    · subst hji; exact hy.qOp hi H
    · exact absurd hjn (hdone _ _ H j (ready_mono hj hji))
  | succ f ih =>
    intro listed a inv hfree hr hy H
    have hun := (mem_ready.1 hr).1
    refine ⟨fun h => (by rw [h] at hr; cases hr), fun j hj => ?_⟩
    refine ⟨inv.in_ hin hun j hj, ?_⟩
    by_cases hji : j = i
    · subst hji; exact hy.qOp hi H
    · have h1 := (H.2 j (ready_mono hj hji)).2
      obtain ⟨hjun, oj, hoj, hall⟩ := mem_ready.1 hj
      have hnot : ∀ e ∈ oj.after, Region.binds md e = true → e.on ≠ i := fun e he hb heq => by
        have h1 := hall e he hb
        rw [heq, getD_both hun] at h1
        cases h1
      have h2 := qOp_put hoj (hfree j oj hoj hji hjun hnot) (fun cs b => hsel i oi cs b hi) (fun cs b => hsel j oj cs b hoj) hy h1
      have hfree' : ∀ k ok, ops[k]? = some ok → k ≠ i → (listed.setIfInBounds j true).getD k true = false →
          (∀ e ∈ ok.after, Region.binds md e = true → e.on ≠ i) → oi.apart ops ok = true := fun k ok hk hki hun hno => by
        refine hfree k ok hk hki ?_ hno
        by_cases hjk : j = k
        · subst hjk; exact hjun
        · rw [getD_set_ne true hjk] at hun; exact hun
      refine qOp_mono (fun a' h3 => ih (listed.setIfInBounds j true) a' (inv.set hj) hfree' (ready_mono hr (Ne.symm hji)) h3.1 ?_) h2
      rw [Array.setIfInBounds_comm _ _ hji]
      exact h3.2

/-- The operations at these places. -/
def opsAt (ops : Array Oper) (is : List Nat) : List Oper := is.filterMap fun i => ops[i]?

def seqL (md : Region.Mode) (ops : Array Oper) (hd : List Nat) : List Nat → Array Bool → Bool
  | [], listed => (Region.ready md ops listed).isEmpty
  | k :: r, listed => decide (Region.ready md ops listed = [k]) && (!hd.contains k) && seqL md ops hd r (listed.setIfInBounds k true)
def headL (md : Region.Mode) (ops : Array Oper) (hd tl : List Nat) : List Nat → Array Bool → Bool
  | [], listed => seqL md ops hd tl listed
  | k :: r, listed => hd.contains k && (Region.ready md ops listed).contains k && Region.free md ops listed k && headL md ops hd tl r (listed.setIfInBounds k true)
def floatL (md : Region.Mode) (ops : Array Oper) (hd tl : List Nat) : List Nat → Array Bool → Bool
  | [], listed => closedB md ops listed && ((List.range ops.size).all fun j => listed.getD j true || hd.contains j || tl.contains j) && (tl.all fun t => hd.all fun i => waitsStar md ops ops.size t i) && headL md ops hd tl hd listed
  | k :: r, listed => (Region.ready md ops listed).contains k && Region.free md ops listed k && floatL md ops hd tl r (listed.setIfInBounds k true)
def floatB (ops : Array Oper) (fl hd tl : List Nat) : Bool := Region.noSelect ops && decide (fl.length + (hd.length + tl.length) = ops.size) && floatL .any ops hd tl fl (Array.replicate ops.size false)

theorem ready_lt {listed : Array Bool} {j : Nat} (h : j ∈ Region.ready md ops listed) : ∃ o, ops[j]? = some o := by
  obtain ⟨_, o, ho, _⟩ := mem_ready.1 h
  exact ⟨o, ho⟩

theorem wpAny_of_seqL {hd : List Nat} {Q' : Exit → Act → World → Prop} : ∀ (l : List Nat) (listed : Array Bool) (a : Act) (w : World),
    seqL md ops hd l listed = true → wpList P ops Q' (opsAt ops l) a w → wpAny P md ops Q' l.length listed a w
  | [], _, _, _, hB, h => ⟨by simpa [seqL] using hB, h⟩
  | k :: l, listed, a, w, hB, h => by
    simp only [seqL, Bool.and_eq_true, decide_eq_true_eq] at hB
    obtain ⟨⟨hr, _⟩, hB⟩ := hB
    refine ⟨fun h1 => (by rw [hr] at h1; cases h1), fun i hi => ?_⟩
    obtain ⟨o, h0⟩ := ready_lt hi
    rw [hr] at hi
    have hik : i = k := by simpa using hi
    subst hik
    have e : opsAt ops (i :: l) = o :: opsAt ops l := by simp [opsAt, h0]
    rw [e] at h
    have hw : wpOp P ops Q' i (wpList P ops Q' (opsAt ops l)) a w := by unfold wpOp; simp only [h0]; exact h
    exact wpOp_mono (fun a' w' h' => wpAny_of_seqL l _ a' w' hB h') hw

theorem seqL_ready {hd l : List Nat} {listed : Array Bool} (h : seqL md ops hd l listed = true) : ∀ j ∈ Region.ready md ops listed, j ∉ hd := by
  cases l with
  | nil => intro j hj; simp only [seqL, List.isEmpty_iff] at h; rw [h] at hj; cases hj
  | cons k r =>
    intro j hj hm
    simp only [seqL, Bool.and_eq_true, decide_eq_true_eq, Bool.not_eq_true'] at h
    rw [h.1.1] at hj
    have : j = k := by simpa using hj
    subst this
    have h2 : hd.contains j = true := by simpa using hm
    rw [h.1.2] at h2
    cases h2

theorem wpHd_lex {hd tl : List Nat} {Lq : Act → Prop} (hsel : Region.noSelect ops = true) :
    ∀ (l : List Nat) (listed : Array Bool) (a : Act), Heads md ops hd tl listed → headL md ops hd tl l listed = true → wpQuiet P ops C Lq (opsAt ops l) a →
    wpHd P md ops C hd (fun listed' a' => seqL md ops hd tl listed' = true ∧ Lq a') l.length listed a
  | [], listed, a, _, hB, h => ⟨by simpa [headL] using hB, h⟩
  | k :: l, listed, a, inv, hB, h => by
    simp only [headL, Bool.and_eq_true] at hB
    obtain ⟨⟨⟨hk, hr⟩, hf⟩, hB'⟩ := hB
    have hr' : k ∈ Region.ready md ops listed := by simpa using hr
    obtain ⟨o, h0⟩ := ready_lt hr'
    have e : opsAt ops (k :: l) = o :: opsAt ops l := by simp [opsAt, h0]
    rw [e] at h
    have hst : qOp P ops C k (wpQuiet P ops C Lq (opsAt ops l)) a := by unfold qOp; simp only [h0]; exact h
    obtain ⟨v, hy, hK⟩ := yieldsIn_of_qOp h0 hst
    exact wpHd_first h0 (Region.noSelect_spec hsel) (by simpa using hk) (fun listed' a' hL => seqL_ready hL.1) l.length listed a inv (Region.free_spec h0 hf) hr' hy
      (wpHd_lex hsel l _ _ (inv.set hr') hB' hK)

/-- The operations that yield in whatever world. -/
def wpFloat (P : Program) (ops : Array Oper) (K : Act → Prop) : List Oper → Act → Prop
  | [], a => K a
  | o :: r, a => ∃ v, Yields P ops o v a ∧ wpFloat P ops K r (a.put o.dst v)

theorem wpAny_of_float {hd tl : List Nat} {Q : Exit → Act → World → Prop} {w : World} (hsel : Region.noSelect ops = true) (hQ : ∀ c a d v w, Q (.panic c) (a.put d v) w → Q (.panic c) a w) (hC : C w) :
    ∀ (fl : List Nat) (listed : Array Bool) (a : Act), floatL md ops hd tl fl listed = true →
    wpFloat P ops (fun a' => wpQuiet P ops C (fun a'' => ∀ w', C w' → wpList P ops Q (opsAt ops tl) a'' w') (opsAt ops hd) a') (opsAt ops fl) a →
    wpAny P md ops Q (fl.length + (hd.length + tl.length)) listed a w
  | [], listed, a, hB, h => by
    simp only [floatL, Bool.and_eq_true] at hB
    obtain ⟨⟨⟨hc, hv⟩, hl⟩, hx⟩ := hB
    have inv : Heads md ops hd tl listed := ⟨closed_of hc, fun j hj hu => by
      have := List.all_eq_true.1 hv j (List.mem_range.2 hj)
      simpa [hu] using this, fun t ht i hi => List.all_eq_true.1 (List.all_eq_true.1 hl t ht) i hi⟩
    have H := wpHd_lex (P := P) (C := C) hsel hd listed a inv hx h
    rw [List.length_nil, Nat.zero_add]
    exact wpAny_of_wpHd (fun listed' a' w' hw' hL => wpAny_of_seqL tl listed' a' w' hL.1 (hL.2 w' hw')) hd.length listed a w hC H
  | k :: fl, listed, a, hB, h => by
    simp only [floatL, Bool.and_eq_true] at hB
    obtain ⟨⟨hr, hf⟩, hB'⟩ := hB
    have hr' : k ∈ Region.ready md ops listed := by simpa using hr
    obtain ⟨o, h0⟩ := ready_lt hr'
    have e : opsAt ops (k :: fl) = o :: opsAt ops fl := by simp [opsAt, h0]
    rw [e] at h
    obtain ⟨v, hy, hK⟩ := h
    rw [List.length_cons, show fl.length + 1 + (hd.length + tl.length) = (fl.length + (hd.length + tl.length)) + 1 by omega]
    exact wpAny_take h0 hsel hf hr (fun c a w => hQ c a _ _ w) hy (wpAny_of_float hsel hQ hC fl _ _ hB' hK)

theorem wp_region_sched {id : Nat} {Q : Exit → Act → World → Prop} {a : Act} {w : World} {l : List Oper} (fl hd tl : List Nat) (hm : P.follows .mixedOrders = true) (hB : floatB l.toArray fl hd tl = true)
    (hQ : ∀ c a d v w, Q (.panic c) (a.put d v) w → Q (.panic c) a w) (hC : C w.drew)
    (h : wpFloat P l.toArray (fun a' => wpQuiet P l.toArray C (fun a'' => ∀ w', C w' → wpList P l.toArray Q (opsAt l.toArray tl) a'' w') (opsAt l.toArray hd) a') (opsAt l.toArray fl) a) : (Code.region id l.toArray true).wp P Q a w := by
  simp only [floatB, Bool.and_eq_true, decide_eq_true_eq] at hB
  obtain ⟨⟨hsel, hn⟩, hf⟩ := hB
  refine wp_region_any hm ?_
  rw [← hn] at hf ⊢
  rw [hn] at hf
  have := wpAny_of_float (md := .any) hsel hQ hC fl _ a hf h
  rw [hn] at this ⊢
  exact this

/-- At the class of the worlds in which what was there is as it was. -/
theorem wp_region_sched_below {id : Nat} {Q : Exit → Act → World → Prop} {a : Act} {w : World} {l : List Oper} (fl hd tl : List Nat) (hm : P.follows .mixedOrders = true) (hB : floatB l.toArray fl hd tl = true)
    (hQ : ∀ c a d v w, Q (.panic c) (a.put d v) w → Q (.panic c) a w)
    (h : wpFloat P l.toArray (fun a' => wpQuiet P l.toArray (fun w' => ∃ p : Regrown, w' = grow (redrawn w p.d) p.os) (fun a'' => ∀ w', (∃ p : Regrown, w' = grow (redrawn w p.d) p.os) → wpList P l.toArray Q (opsAt l.toArray tl) a'' w') (opsAt l.toArray hd) a') (opsAt l.toArray fl) a) : (Code.region id l.toArray true).wp P Q a w :=
  wp_region_sched (C := fun w' => ∃ p : Regrown, w' = grow (redrawn w p.d) p.os) fl hd tl hm hB hQ ⟨⟨w.drawn + 1, #[]⟩, by rw [grow_empty]; rfl⟩ h
end

/-! ### Calls whose value hangs on the world: the loads are taken first, under S -/

section
variable {P : Program} {ops : Array Oper} {md : Region.Mode} {S : World → Prop} {Q : Exit → Act → World → Prop}

def wpHs (P : Program) (md : Region.Mode) (ops : Array Oper) (Q : Exit → Act → World → Prop) (S : World → Prop) (hd : List Nat) (L : Array Bool → Act → World → Prop) : Nat → Array Bool → Act → World → Prop
  | 0, listed, a, w => L listed a w
  | f + 1, listed, a, w => Region.ready md ops listed ≠ [] ∧ ∀ i ∈ Region.ready md ops listed, i ∈ hd ∧ wpOp P ops Q i (fun a' w' => S w' ∧ wpHs P md ops Q S hd L f (listed.setIfInBounds i true) a' w') a w

theorem wpAny_of_wpHs {hd : List Nat} {g : Nat} {L : Array Bool → Act → World → Prop} (hL : ∀ listed a w, L listed a w → wpAny P md ops Q g listed a w) :
    ∀ (f : Nat) (listed : Array Bool) (a : Act) (w : World), wpHs P md ops Q S hd L f listed a w → wpAny P md ops Q (f + g) listed a w
  | 0, listed, a, w, h => by rw [Nat.zero_add]; exact hL _ _ _ h
  | f + 1, listed, a, w, h => by
    rw [show f + 1 + g = (f + g) + 1 by omega]
    exact ⟨fun h0 => absurd h0 h.1, fun i hi => wpOp_mono (fun a' w' h' => wpAny_of_wpHs hL f _ a' w' h'.2) (h.2 i hi).2⟩

theorem wpHs_first {hd tl : List Nat} {i : Nat} {oi : Oper} {v : Value} {L : Array Bool → Act → World → Prop} (hi : ops[i]? = some oi) (hsel : ∀ (j : Nat) (o : Oper) cs b, ops[j]? = some o → o.op ≠ .select cs b)
    (hQ : ∀ c a d v w, Q (.panic c) (a.put d v) w → Q (.panic c) a w)
    (hin : i ∈ hd) (hdone : ∀ listed a w, L listed a w → ∀ j ∈ Region.ready md ops listed, j ∉ hd) :
    ∀ (f : Nat) (listed : Array Bool) (a : Act) (w : World), Heads md ops hd tl listed →
      (∀ j oj, ops[j]? = some oj → j ≠ i → listed.getD j true = false → (∀ e ∈ oj.after, Region.binds md e = true → e.on ≠ i) → oi.apart ops oj = true) →
      i ∈ Region.ready md ops listed → YieldsIf P ops S oi v a → S w →
      wpHs P md ops Q S hd L f (listed.setIfInBounds i true) (a.put oi.dst v) w → wpHs P md ops Q S hd L (f + 1) listed a w := by
  intro f
  induction f with
  | zero =>
    intro listed a w inv _ hr hy hS H
    have hun := (mem_ready.1 hr).1
    refine ⟨fun h => (by rw [h] at hr; cases hr), fun j hj => ?_⟩
    have hjn := inv.in_ hin hun j hj
    refine ⟨hjn, ?_⟩
    by_cases hji : j = i
    · subst hji; exact hy.wpOp hi hS ⟨hS, H⟩
    · exact absurd hjn (hdone _ _ _ H j (ready_mono hj hji))
  | succ f ih =>
    intro listed a w inv hfree hr hy hS H
    have hun := (mem_ready.1 hr).1
    refine ⟨fun h => (by rw [h] at hr; cases hr), fun j hj => ?_⟩
    refine ⟨inv.in_ hin hun j hj, ?_⟩
    by_cases hji : j = i
    · subst hji; exact hy.wpOp hi hS ⟨hS, H⟩
    · have h1 := (H.2 j (ready_mono hj hji)).2
      obtain ⟨hjun, oj, hoj, hall⟩ := mem_ready.1 hj
      have hnot : ∀ e ∈ oj.after, Region.binds md e = true → e.on ≠ i := fun e he hb heq => by
        have h1 := hall e he hb
        rw [heq, getD_both hun] at h1
        cases h1
      have h2 := wpOp_putIf hoj (hfree j oj hoj hji hjun hnot) (fun cs b => hsel i oi cs b hi) (fun cs b => hsel j oj cs b hoj) (fun c a w => hQ c a _ _ w) hy h1
      have hfree' : ∀ k ok, ops[k]? = some ok → k ≠ i → (listed.setIfInBounds j true).getD k true = false →
          (∀ e ∈ ok.after, Region.binds md e = true → e.on ≠ i) → oi.apart ops ok = true := fun k ok hk hki hun hno => by
        refine hfree k ok hk hki ?_ hno
        by_cases hjk : j = k
        · subst hjk; exact hjun
        · rw [getD_set_ne true hjk] at hun; exact hun
      refine wpOp_mono (fun a' w' h3 => ⟨h3.2.1, ih (listed.setIfInBounds j true) a' w' (inv.set hj) hfree' (ready_mono hr (Ne.symm hji)) h3.1 h3.2.1 ?_⟩) h2
      rw [Array.setIfInBounds_comm _ _ hji]
      exact h3.2.2

/-- Those that come up one by one, S behind each. -/
def keepL (md : Region.Mode) (ops : Array Oper) (hd tl : List Nat) : List Nat → Array Bool → Bool
  | [], listed => seqL md ops hd tl listed
  | k :: r, listed => decide (Region.ready md ops listed = [k]) && hd.contains k && keepL md ops hd tl r (listed.setIfInBounds k true)
def loadL (md : Region.Mode) (ops : Array Oper) (hd ks tl : List Nat) : List Nat → Array Bool → Bool
  | [], listed => keepL md ops hd tl ks listed
  | k :: r, listed => hd.contains k && (Region.ready md ops listed).contains k && Region.free md ops listed k && loadL md ops hd ks tl r (listed.setIfInBounds k true)
def floatH (md : Region.Mode) (ops : Array Oper) (ls ks tl : List Nat) : List Nat → Array Bool → Bool
  | [], listed => closedB md ops listed && ((List.range ops.size).all fun j => listed.getD j true || (ls ++ ks).contains j || tl.contains j) && (tl.all fun t => (ls ++ ks).all fun i => waitsStar md ops ops.size t i) && loadL md ops (ls ++ ks) ks tl ls listed
  | k :: r, listed => (Region.ready md ops listed).contains k && Region.free md ops listed k && floatH md ops ls ks tl r (listed.setIfInBounds k true)
def heldB (ops : Array Oper) (fl ls ks tl : List Nat) : Bool := Region.noSelect ops && decide (fl.length + ((ls.length + ks.length) + tl.length) = ops.size) && floatH .any ops ls ks tl fl (Array.replicate ops.size false)

def wpKeep (P : Program) (ops : Array Oper) (Q : Exit → Act → World → Prop) (S : World → Prop) (K : Act → World → Prop) : List Oper → Act → World → Prop
  | [], a, w => K a w
  | o :: r, a, w => Region.wanted o (yielded ops a.tmps) = true ∧ Oper.wp P o a w (fun a' w' => S w' ∧ wpKeep P ops Q S K r a' w') Q
def wpLoad (P : Program) (ops : Array Oper) (S : World → Prop) (K : Act → Prop) : List Oper → Act → Prop
  | [], a => K a
  | o :: r, a => ∃ v, YieldsIf P ops S o v a ∧ wpLoad P ops S K r (a.put o.dst v)

theorem wpHs_keep {hd tl : List Nat} {K : Act → World → Prop} : ∀ (l : List Nat) (listed : Array Bool) (a : Act) (w : World),
    keepL md ops hd tl l listed = true → wpKeep P ops Q S K (opsAt ops l) a w → wpHs P md ops Q S hd (fun listed' a' w' => seqL md ops hd tl listed' = true ∧ K a' w') l.length listed a w
  | [], _, _, _, hB, h => ⟨hB, h⟩
  | k :: l, listed, a, w, hB, h => by
    simp only [keepL, Bool.and_eq_true, decide_eq_true_eq] at hB
    obtain ⟨⟨hr, hk⟩, hB⟩ := hB
    refine ⟨fun h1 => (by rw [hr] at h1; cases h1), fun i hi => ?_⟩
    obtain ⟨o, h0⟩ := ready_lt hi
    rw [hr] at hi
    have hik : i = k := by simpa using hi
    subst hik
    have e : opsAt ops (i :: l) = o :: opsAt ops l := by simp [opsAt, h0]
    rw [e] at h
    refine ⟨by simpa using hk, ?_⟩
    have hw : wpOp P ops Q i (fun a' w' => S w' ∧ wpKeep P ops Q S K (opsAt ops l) a' w') a w := by
      unfold wpOp
      simp only [h0, h.1, if_true]
      exact .inl h.2
    exact wpOp_mono (fun a' w' h' => ⟨h'.1, wpHs_keep l _ a' w' hB h'.2⟩) hw

theorem wpHs_load {hd ks tl : List Nat} {w : World} {K : Act → World → Prop} (hsel : Region.noSelect ops = true) (hQ : ∀ c a d v w, Q (.panic c) (a.put d v) w → Q (.panic c) a w) (hS : S w) :
    ∀ (l : List Nat) (listed : Array Bool) (a : Act), Heads md ops hd tl listed → loadL md ops hd ks tl l listed = true → wpLoad P ops S (fun a' => wpKeep P ops Q S K (opsAt ops ks) a' w) (opsAt ops l) a →
    wpHs P md ops Q S hd (fun listed' a' w' => seqL md ops hd tl listed' = true ∧ K a' w') (l.length + ks.length) listed a w
  | [], listed, a, _, hB, h => by
    rw [List.length_nil, Nat.zero_add]
    exact wpHs_keep ks listed a w hB h
  | k :: l, listed, a, inv, hB, h => by
    simp only [loadL, Bool.and_eq_true] at hB
    obtain ⟨⟨⟨hk, hr⟩, hf⟩, hB'⟩ := hB
    have hr' : k ∈ Region.ready md ops listed := by simpa using hr
    obtain ⟨o, h0⟩ := ready_lt hr'
    have e : opsAt ops (k :: l) = o :: opsAt ops l := by simp [opsAt, h0]
    rw [e] at h
    obtain ⟨v, hy, hK⟩ := h
    rw [List.length_cons, show l.length + 1 + ks.length = (l.length + ks.length) + 1 by omega]
    exact wpHs_first h0 (Region.noSelect_spec hsel) hQ (by simpa using hk) (fun listed' a' w' hL => seqL_ready hL.1) (l.length + ks.length) listed a w inv (Region.free_spec h0 hf) hr' hy hS
      (wpHs_load hsel hQ hS l _ _ (inv.set hr') hB' hK)

theorem wpAny_of_floatH {ls ks tl : List Nat} {w : World} (hsel : Region.noSelect ops = true) (hQ : ∀ c a d v w, Q (.panic c) (a.put d v) w → Q (.panic c) a w) (hS : S w) :
    ∀ (fl : List Nat) (listed : Array Bool) (a : Act), floatH md ops ls ks tl fl listed = true →
    wpFloat P ops (fun a1 => wpLoad P ops S (fun a2 => wpKeep P ops Q S (fun a3 w3 => wpList P ops Q (opsAt ops tl) a3 w3) (opsAt ops ks) a2 w) (opsAt ops ls) a1) (opsAt ops fl) a →
    wpAny P md ops Q (fl.length + ((ls.length + ks.length) + tl.length)) listed a w
  | [], listed, a, hB, h => by
    simp only [floatH, Bool.and_eq_true] at hB
    obtain ⟨⟨⟨hc, hv⟩, hl⟩, hx⟩ := hB
    have inv : Heads md ops (ls ++ ks) tl listed := ⟨closed_of hc, fun j hj hu => by
      have := List.all_eq_true.1 hv j (List.mem_range.2 hj)
      simp only [hu, Bool.false_or, Bool.or_eq_true, List.contains_iff_mem] at this
      exact this, fun t ht i hi => List.all_eq_true.1 (List.all_eq_true.1 hl t ht) i hi⟩
    have H := wpHs_load (P := P) (S := S) (Q := Q) hsel hQ hS ls listed a inv hx h
    rw [List.length_nil, Nat.zero_add]
    exact wpAny_of_wpHs (fun listed' a' w' hL => wpAny_of_seqL tl listed' a' w' hL.1 hL.2) (ls.length + ks.length) listed a w H
  | k :: fl, listed, a, hB, h => by
    simp only [floatH, Bool.and_eq_true] at hB
    obtain ⟨⟨hr, hf⟩, hB'⟩ := hB
    have hr' : k ∈ Region.ready md ops listed := by simpa using hr
    obtain ⟨o, h0⟩ := ready_lt hr'
    have e : opsAt ops (k :: fl) = o :: opsAt ops fl := by simp [opsAt, h0]
    rw [e] at h
    obtain ⟨v, hy, hK⟩ := h
    rw [List.length_cons, show fl.length + 1 + ((ls.length + ks.length) + tl.length) = (fl.length + ((ls.length + ks.length) + tl.length)) + 1 by omega]
    exact wpAny_take h0 hsel hf hr (fun c a w => hQ c a _ _ w) hy (wpAny_of_floatH hsel hQ hS fl _ _ hB' hK)

/-- fl: what yields in whatever world; ls: loads, under S; ks: calls, one by one, S behind each; tl: what writes, one by one. -/
theorem wp_region_held {id : Nat} {a : Act} {w : World} {l : List Oper} (S : World → Prop) (fl ls ks tl : List Nat) (hm : P.follows .mixedOrders = true) (hB : heldB l.toArray fl ls ks tl = true)
    (hQ : ∀ c a d v w, Q (.panic c) (a.put d v) w → Q (.panic c) a w) (hS : S w.drew)
    (h : wpFloat P l.toArray (fun a1 => wpLoad P l.toArray S (fun a2 => wpKeep P l.toArray Q S (fun a3 w3 => wpList P l.toArray Q (opsAt l.toArray tl) a3 w3) (opsAt l.toArray ks) a2 w.drew) (opsAt l.toArray ls) a1) (opsAt l.toArray fl) a) : (Code.region id l.toArray true).wp P Q a w := by
  simp only [heldB, Bool.and_eq_true, decide_eq_true_eq] at hB
  obtain ⟨⟨hsel, hn⟩, hf⟩ := hB
  refine wp_region_any hm ?_
  have := wpAny_of_floatH (md := .any) hsel hQ hS fl _ a hf h
  rw [hn] at this
  exact this

theorem wpFloat_step {o : Oper} {r : List Oper} {a : Act} {K : Act → Prop} (v : Value) (hw : Region.wanted o (yielded ops a.tmps) = true) (hy : ∀ w, (execOp a.eval o).run P w = .ok (.value v) w) (h : wpFloat P ops K r (a.put o.dst v)) : wpFloat P ops K (o :: r) a :=
  ⟨v, .inl ⟨hw, hy⟩, h⟩
theorem wpFloat_nil {a : Act} {K : Act → Prop} (h : K a) : wpFloat P ops K [] a := h
theorem wpLoad_step {o : Oper} {r : List Oper} {a : Act} {K : Act → Prop} (v : Value) (hw : Region.wanted o (yielded ops a.tmps) = true) (hy : ∀ w, S w → (execOp a.eval o).run P w = .ok (.value v) w) (h : wpLoad P ops S K r (a.put o.dst v)) : wpLoad P ops S K (o :: r) a :=
  ⟨v, .inl ⟨hw, hy⟩, h⟩
theorem wpLoad_nil {a : Act} {K : Act → Prop} (h : K a) : wpLoad P ops S K [] a := h
theorem wpKeep_step {o : Oper} {r : List Oper} {a : Act} {w : World} {K : Act → World → Prop} (hw : Region.wanted o (yielded ops a.tmps) = true) (h : Oper.wp P o a w (fun a' w' => S w' ∧ wpKeep P ops Q S K r a' w') Q) : wpKeep P ops Q S K (o :: r) a w := ⟨hw, h⟩
theorem wpKeep_nil {a : Act} {w : World} {K : Act → World → Prop} (h : K a w) : wpKeep P ops Q S K [] a w := h

theorem wpLoad_skip {o : Oper} {r : List Oper} {a : Act} {K : Act → Prop} (hw : Region.wanted o (yielded ops a.tmps) = false) (h : wpLoad P ops S K r (a.put o.dst undef)) : wpLoad P ops S K (o :: r) a :=
  ⟨undef, .inr ⟨hw, rfl⟩, h⟩

/-- The same where the post at a panic is not looked at: the region does not panic. -/
theorem wp_region_held' {id : Nat} {a : Act} {w : World} {l : List Oper} (S : World → Prop) (fl ls ks tl : List Nat) (hm : P.follows .mixedOrders = true) (hB : heldB l.toArray fl ls ks tl = true)
    (hS : S w.drew)
    (h : wpFloat P l.toArray (fun a1 => wpLoad P l.toArray S (fun a2 => wpKeep P l.toArray (NoPanic Q) S (fun a3 w3 => wpList P l.toArray (NoPanic Q) (opsAt l.toArray tl) a3 w3) (opsAt l.toArray ks) a2 w.drew) (opsAt l.toArray ls) a1) (opsAt l.toArray fl) a) : (Code.region id l.toArray true).wp P Q a w :=
  wp_region_noPanic (wp_region_held S fl ls ks tl hm hB (fun _ _ _ _ _ h => h) hS h)

/-! ### Two calls in either order -/

def twoL (md : Region.Mode) (ops : Array Oper) (hd tl : List Nat) (k1 k2 : Nat) (listed : Array Bool) : Bool :=
  decide (Region.ready md ops listed = [k1, k2]) && hd.contains k1 && hd.contains k2 && keepL md ops hd tl [k2] (listed.setIfInBounds k1 true) && keepL md ops hd tl [k1] (listed.setIfInBounds k2 true)
def loadG (md : Region.Mode) (ops : Array Oper) (hd : List Nat) (fin : Array Bool → Bool) : List Nat → Array Bool → Bool
  | [], listed => fin listed
  | k :: r, listed => hd.contains k && (Region.ready md ops listed).contains k && Region.free md ops listed k && loadG md ops hd fin r (listed.setIfInBounds k true)
def twoH (md : Region.Mode) (ops : Array Oper) (ls : List Nat) (k1 k2 : Nat) (tl : List Nat) (listed : Array Bool) : Bool :=
  closedB md ops listed && ((List.range ops.size).all fun j => listed.getD j true || (ls ++ [k1, k2]).contains j || tl.contains j) && (tl.all fun t => (ls ++ [k1, k2]).all fun i => waitsStar md ops ops.size t i) && loadG md ops (ls ++ [k1, k2]) (twoL md ops (ls ++ [k1, k2]) tl k1 k2) ls listed
def twoB (ops : Array Oper) (ls : List Nat) (k1 k2 : Nat) (tl : List Nat) : Bool := Region.noSelect ops && decide ((ls.length + 2) + tl.length = ops.size) && twoH .any ops ls k1 k2 tl (Array.replicate ops.size false)

theorem wpHs_loadG {hd tl : List Nat} {w : World} {n : Nat} {fin : Array Bool → Bool} {G : Act → Prop} {K : Act → World → Prop} (hsel : Region.noSelect ops = true) (hQ : ∀ c a d v w, Q (.panic c) (a.put d v) w → Q (.panic c) a w) (hS : S w)
    (hfin : ∀ listed a, fin listed = true → G a → wpHs P md ops Q S hd (fun listed' a' w' => seqL md ops hd tl listed' = true ∧ K a' w') n listed a w) :
    ∀ (l : List Nat) (listed : Array Bool) (a : Act), Heads md ops hd tl listed → loadG md ops hd fin l listed = true → wpLoad P ops S G (opsAt ops l) a →
    wpHs P md ops Q S hd (fun listed' a' w' => seqL md ops hd tl listed' = true ∧ K a' w') (l.length + n) listed a w
  | [], listed, a, _, hB, h => by
    rw [List.length_nil, Nat.zero_add]
    exact hfin listed a hB h
  | k :: l, listed, a, inv, hB, h => by
    simp only [loadG, Bool.and_eq_true] at hB
    obtain ⟨⟨⟨hk, hr⟩, hf⟩, hB'⟩ := hB
    have hr' : k ∈ Region.ready md ops listed := by simpa using hr
    obtain ⟨o, h0⟩ := ready_lt hr'
    have e : opsAt ops (k :: l) = o :: opsAt ops l := by simp [opsAt, h0]
    rw [e] at h
    obtain ⟨v, hy, hK⟩ := h
    rw [List.length_cons, show l.length + 1 + n = (l.length + n) + 1 by omega]
    exact wpHs_first h0 (Region.noSelect_spec hsel) hQ (by simpa using hk) (fun listed' a' w' hL => seqL_ready hL.1) (l.length + n) listed a w inv (Region.free_spec h0 hf) hr' hy hS
      (wpHs_loadG hsel hQ hS hfin l _ _ (inv.set hr') hB' hK)

theorem wpHs_two {hd tl : List Nat} {K : Act → World → Prop} {k1 k2 : Nat} {listed : Array Bool} {a : Act} {w : World} (hB : twoL md ops hd tl k1 k2 listed = true)
    (h1 : wpKeep P ops Q S K (opsAt ops [k1, k2]) a w) (h2 : wpKeep P ops Q S K (opsAt ops [k2, k1]) a w) : wpHs P md ops Q S hd (fun listed' a' w' => seqL md ops hd tl listed' = true ∧ K a' w') 2 listed a w := by
  simp only [twoL, Bool.and_eq_true, decide_eq_true_eq] at hB
  obtain ⟨⟨⟨⟨hr, hk1⟩, hk2⟩, hB1⟩, hB2⟩ := hB
  have one : ∀ (i j : Nat), i ∈ Region.ready md ops listed → keepL md ops hd tl [j] (listed.setIfInBounds i true) = true → wpKeep P ops Q S K (opsAt ops [i, j]) a w →
      wpOp P ops Q i (fun a' w' => S w' ∧ wpHs P md ops Q S hd (fun listed' a' w' => seqL md ops hd tl listed' = true ∧ K a' w') 1 (listed.setIfInBounds i true) a' w') a w := fun i j hi hB h => by
    obtain ⟨o, h0⟩ := ready_lt hi
    have e : opsAt ops [i, j] = o :: opsAt ops [j] := by simp [opsAt, h0]
    rw [e] at h
    have hw : wpOp P ops Q i (fun a' w' => S w' ∧ wpKeep P ops Q S K (opsAt ops [j]) a' w') a w := by
      unfold wpOp
      simp only [h0, h.1, if_true]
      exact .inl h.2
    exact wpOp_mono (fun a' w' h' => ⟨h'.1, wpHs_keep [j] _ a' w' hB h'.2⟩) hw
  refine ⟨fun h => (by rw [hr] at h; cases h), fun i hi => ?_⟩
  have hi' := hi
  rw [hr] at hi'
  simp at hi'
  rcases hi' with rfl | rfl
  · exact ⟨by simpa using hk1, one _ _ hi hB1 h1⟩
  · exact ⟨by simpa using hk2, one _ _ hi hB2 h2⟩

/-- ls: loads, under S; k1 and k2: two calls, or what makes memory, in either order, S behind each; tl: what writes, one by one. -/
theorem wp_region_two {id : Nat} {a : Act} {w : World} {l : List Oper} (S : World → Prop) (ls : List Nat) (k1 k2 : Nat) (tl : List Nat) (hm : P.follows .mixedOrders = true) (hB : twoB l.toArray ls k1 k2 tl = true)
    (hS : S w.drew)
    (h : wpLoad P l.toArray S (fun a2 => wpKeep P l.toArray (NoPanic Q) S (fun a3 w3 => wpList P l.toArray (NoPanic Q) (opsAt l.toArray tl) a3 w3) (opsAt l.toArray [k1, k2]) a2 w.drew ∧ wpKeep P l.toArray (NoPanic Q) S (fun a3 w3 => wpList P l.toArray (NoPanic Q) (opsAt l.toArray tl) a3 w3) (opsAt l.toArray [k2, k1]) a2 w.drew) (opsAt l.toArray ls) a) : (Code.region id l.toArray true).wp P Q a w := by
  refine wp_region_noPanic ?_
  simp only [twoB, twoH, Bool.and_eq_true, decide_eq_true_eq] at hB
  obtain ⟨⟨hsel, hn⟩, ⟨⟨⟨hc, hv⟩, hl⟩, hx⟩⟩ := hB
  refine wp_region_any hm ?_
  have inv : Heads .any l.toArray (ls ++ [k1, k2]) tl (Array.replicate l.toArray.size false) := ⟨closed_of hc, fun j hj hu => by
    have := List.all_eq_true.1 hv j (List.mem_range.2 hj)
    simp only [hu, Bool.false_or, Bool.or_eq_true, List.contains_iff_mem] at this
    exact this, fun t ht i hi => List.all_eq_true.1 (List.all_eq_true.1 hl t ht) i hi⟩
  have H := wpHs_loadG (P := P) (S := S) (Q := NoPanic Q) (n := 2) hsel (fun _ _ _ _ _ h => h) hS (fun listed a hf hg => wpHs_two hf hg.1 hg.2) ls _ a inv hx h
  have := wpAny_of_wpHs (fun listed' a' w' hL => wpAny_of_seqL tl listed' a' w' hL.1 hL.2) (ls.length + 2) _ a w.drew H
  rw [hn] at this
  exact this

/-! ### Any last part: a Bool 'fin' says what is left -/

def keepG (md : Region.Mode) (ops : Array Oper) (hd : List Nat) (fin : Array Bool → Bool) : List Nat → Array Bool → Bool
  | [], listed => fin listed
  | k :: r, listed => decide (Region.ready md ops listed = [k]) && hd.contains k && keepG md ops hd fin r (listed.setIfInBounds k true)
def twoG (md : Region.Mode) (ops : Array Oper) (hd : List Nat) (fin : Array Bool → Bool) (k1 k2 : Nat) (listed : Array Bool) : Bool :=
  decide (Region.ready md ops listed = [k1, k2]) && hd.contains k1 && hd.contains k2 && keepG md ops hd fin [k2] (listed.setIfInBounds k1 true) && keepG md ops hd fin [k1] (listed.setIfInBounds k2 true)

theorem wpHs_keepG {hd : List Nat} {fin : Array Bool → Bool} {K : Act → World → Prop} : ∀ (l : List Nat) (listed : Array Bool) (a : Act) (w : World),
    keepG md ops hd fin l listed = true → wpKeep P ops Q S K (opsAt ops l) a w → wpHs P md ops Q S hd (fun listed' a' w' => fin listed' = true ∧ K a' w') l.length listed a w
  | [], _, _, _, hB, h => ⟨hB, h⟩
  | k :: l, listed, a, w, hB, h => by
    simp only [keepG, Bool.and_eq_true, decide_eq_true_eq] at hB
    obtain ⟨⟨hr, hk⟩, hB⟩ := hB
    refine ⟨fun h1 => (by rw [hr] at h1; cases h1), fun i hi => ?_⟩
    obtain ⟨o, h0⟩ := ready_lt hi
    rw [hr] at hi
    have hik : i = k := by simpa using hi
    subst hik
    have e : opsAt ops (i :: l) = o :: opsAt ops l := by simp [opsAt, h0]
    rw [e] at h
    refine ⟨by simpa using hk, ?_⟩
    have hw : wpOp P ops Q i (fun a' w' => S w' ∧ wpKeep P ops Q S K (opsAt ops l) a' w') a w := by
      unfold wpOp
      simp only [h0, h.1, if_true]
      exact .inl h.2
    exact wpOp_mono (fun a' w' h' => ⟨h'.1, wpHs_keepG l _ a' w' hB h'.2⟩) hw

theorem wpHs_twoG {hd : List Nat} {fin : Array Bool → Bool} {K : Act → World → Prop} {k1 k2 : Nat} {listed : Array Bool} {a : Act} {w : World} (hB : twoG md ops hd fin k1 k2 listed = true)
    (h1 : wpKeep P ops Q S K (opsAt ops [k1, k2]) a w) (h2 : wpKeep P ops Q S K (opsAt ops [k2, k1]) a w) : wpHs P md ops Q S hd (fun listed' a' w' => fin listed' = true ∧ K a' w') 2 listed a w := by
  simp only [twoG, Bool.and_eq_true, decide_eq_true_eq] at hB
  obtain ⟨⟨⟨⟨hr, hk1⟩, hk2⟩, hB1⟩, hB2⟩ := hB
  have one : ∀ (i j : Nat), i ∈ Region.ready md ops listed → keepG md ops hd fin [j] (listed.setIfInBounds i true) = true → wpKeep P ops Q S K (opsAt ops [i, j]) a w →
      wpOp P ops Q i (fun a' w' => S w' ∧ wpHs P md ops Q S hd (fun listed' a' w' => fin listed' = true ∧ K a' w') 1 (listed.setIfInBounds i true) a' w') a w := fun i j hi hB h => by
    obtain ⟨o, h0⟩ := ready_lt hi
    have e : opsAt ops [i, j] = o :: opsAt ops [j] := by simp [opsAt, h0]
    rw [e] at h
    have hw : wpOp P ops Q i (fun a' w' => S w' ∧ wpKeep P ops Q S K (opsAt ops [j]) a' w') a w := by
      unfold wpOp
      simp only [h0, h.1, if_true]
      exact .inl h.2
    exact wpOp_mono (fun a' w' h' => ⟨h'.1, wpHs_keepG [j] _ a' w' hB h'.2⟩) hw
  refine ⟨fun h => (by rw [hr] at h; cases h), fun i hi => ?_⟩
  have hi' := hi
  rw [hr] at hi'
  simp at hi'
  rcases hi' with rfl | rfl
  · exact ⟨by simpa using hk1, one _ _ hi hB1 h1⟩
  · exact ⟨by simpa using hk2, one _ _ hi hB2 h2⟩

theorem wpHs_loadF {hd tl : List Nat} {w : World} {n : Nat} {fin fin' : Array Bool → Bool} {G : Act → Prop} {K : Act → World → Prop} (hsel : Region.noSelect ops = true) (hQ : ∀ c a d v w, Q (.panic c) (a.put d v) w → Q (.panic c) a w) (hS : S w)
    (hready : ∀ listed, fin' listed = true → ∀ j ∈ Region.ready md ops listed, j ∉ hd)
    (hfin : ∀ listed a, fin listed = true → G a → wpHs P md ops Q S hd (fun listed' a' w' => fin' listed' = true ∧ K a' w') n listed a w) :
    ∀ (l : List Nat) (listed : Array Bool) (a : Act), Heads md ops hd tl listed → loadG md ops hd fin l listed = true → wpLoad P ops S G (opsAt ops l) a →
    wpHs P md ops Q S hd (fun listed' a' w' => fin' listed' = true ∧ K a' w') (l.length + n) listed a w
  | [], listed, a, _, hB, h => by
    rw [List.length_nil, Nat.zero_add]
    exact hfin listed a hB h
  | k :: l, listed, a, inv, hB, h => by
    simp only [loadG, Bool.and_eq_true] at hB
    obtain ⟨⟨⟨hk, hr⟩, hf⟩, hB'⟩ := hB
    have hr' : k ∈ Region.ready md ops listed := by simpa using hr
    obtain ⟨o, h0⟩ := ready_lt hr'
    have e : opsAt ops (k :: l) = o :: opsAt ops l := by simp [opsAt, h0]
    rw [e] at h
    obtain ⟨v, hy, hK⟩ := h
    rw [List.length_cons, show l.length + 1 + n = (l.length + n) + 1 by omega]
    exact wpHs_first h0 (Region.noSelect_spec hsel) hQ (by simpa using hk) (fun listed' a' w' hL => hready _ hL.1) (l.length + n) listed a w inv (Region.free_spec h0 hf) hr' hy hS
      (wpHs_loadF hsel hQ hS hready hfin l _ _ (inv.set hr') hB' hK)

/-- One operation; then operations that yield in whatever world; then two in either order. -/
def forkF (md : Region.Mode) (ops : Array Oper) (s1 s2 : Nat) : List Nat → Array Bool → Bool
  | [], listed => decide (Region.ready md ops listed = [s1, s2]) && seqL md ops [] [s2] (listed.setIfInBounds s1 true) && seqL md ops [] [s1] (listed.setIfInBounds s2 true)
  | k :: r, listed => (Region.ready md ops listed).contains k && Region.free md ops listed k && forkF md ops s1 s2 r (listed.setIfInBounds k true)
def forkL (md : Region.Mode) (ops : Array Oper) (hd : List Nat) (t : Nat) (fl : List Nat) (s1 s2 : Nat) (listed : Array Bool) : Bool :=
  decide (Region.ready md ops listed = [t]) && (!hd.contains t) && forkF md ops s1 s2 fl (listed.setIfInBounds t true)

theorem wpAny_of_forkF {s1 s2 : Nat} {w : World} (hsel : Region.noSelect ops = true) (hQ : ∀ c a d v w, Q (.panic c) (a.put d v) w → Q (.panic c) a w) :
    ∀ (fl : List Nat) (listed : Array Bool) (a : Act), forkF md ops s1 s2 fl listed = true → wpFloat P ops (fun a' => wpList P ops Q (opsAt ops [s1, s2]) a' w ∧ wpList P ops Q (opsAt ops [s2, s1]) a' w) (opsAt ops fl) a →
    wpAny P md ops Q (fl.length + 2) listed a w
  | [], listed, a, hB, h => by
    simp only [forkF, Bool.and_eq_true, decide_eq_true_eq] at hB
    obtain ⟨⟨hr, h1⟩, h2⟩ := hB
    have one : ∀ (i j : Nat), i ∈ Region.ready md ops listed → seqL md ops [] [j] (listed.setIfInBounds i true) = true → wpList P ops Q (opsAt ops [i, j]) a w → wpOp P ops Q i (wpAny P md ops Q 1 (listed.setIfInBounds i true)) a w := fun i j hi hB h => by
      obtain ⟨o, h0⟩ := ready_lt hi
      have e : opsAt ops [i, j] = o :: opsAt ops [j] := by simp [opsAt, h0]
      rw [e] at h
      have hw : wpOp P ops Q i (wpList P ops Q (opsAt ops [j])) a w := by unfold wpOp; simp only [h0]; exact h
      exact wpOp_mono (fun a' w' h' => wpAny_of_seqL [j] _ a' w' hB h') hw
    rw [List.length_nil, Nat.zero_add]
    refine ⟨fun e => (by rw [hr] at e; cases e), fun i hi => ?_⟩
    have hi' := hi
    rw [hr] at hi'
    simp at hi'
    rcases hi' with rfl | rfl
    · exact one _ _ hi h1 h.1
    · exact one _ _ hi h2 h.2
  | k :: fl, listed, a, hB, h => by
    simp only [forkF, Bool.and_eq_true] at hB
    obtain ⟨⟨hr, hf⟩, hB'⟩ := hB
    have hr' : k ∈ Region.ready md ops listed := by simpa using hr
    obtain ⟨o, h0⟩ := ready_lt hr'
    have e : opsAt ops (k :: fl) = o :: opsAt ops fl := by simp [opsAt, h0]
    rw [e] at h
    obtain ⟨v, hy, hK⟩ := h
    rw [List.length_cons, show fl.length + 1 + 2 = (fl.length + 2) + 1 by omega]
    exact wpAny_take h0 hsel hf hr (fun c a w => hQ c a _ _ w) hy (wpAny_of_forkF hsel hQ fl _ _ hB' hK)

/-- What follows the heads in a fork. -/
def wpFork (P : Program) (ops : Array Oper) (Q : Exit → Act → World → Prop) (fl : List Nat) (s1 s2 : Nat) : List Oper → Act → World → Prop
  | [], _, _ => False
  | o :: _, a, w => Region.wanted o (yielded ops a.tmps) = true ∧ Oper.wp P o a w (fun a' w' => wpFloat P ops (fun a'' => wpList P ops Q (opsAt ops [s1, s2]) a'' w' ∧ wpList P ops Q (opsAt ops [s2, s1]) a'' w') (opsAt ops fl) a') Q

theorem wpAny_of_forkL {hd : List Nat} {t s1 s2 : Nat} {fl : List Nat} {listed : Array Bool} {a : Act} {w : World} (hsel : Region.noSelect ops = true) (hQ : ∀ c a d v w, Q (.panic c) (a.put d v) w → Q (.panic c) a w)
    (hB : forkL md ops hd t fl s1 s2 listed = true) (h : wpFork P ops Q fl s1 s2 (opsAt ops [t]) a w) : wpAny P md ops Q (fl.length + 2 + 1) listed a w := by
  simp only [forkL, Bool.and_eq_true, decide_eq_true_eq] at hB
  obtain ⟨⟨hr, _⟩, hf⟩ := hB
  refine ⟨fun e => (by rw [hr] at e; cases e), fun i hi => ?_⟩
  obtain ⟨o, h0⟩ := ready_lt hi
  rw [hr] at hi
  have hik : i = t := by simpa using hi
  subst hik
  have e : opsAt ops [i] = [o] := by simp [opsAt, h0]
  rw [e] at h
  have hw : wpOp P ops Q i (fun a' w' => wpFloat P ops (fun a'' => wpList P ops Q (opsAt ops [s1, s2]) a'' w' ∧ wpList P ops Q (opsAt ops [s2, s1]) a'' w') (opsAt ops fl) a') a w := by
    unfold wpOp
    simp only [h0, h.1, if_true]
    exact .inl h.2
  exact wpOp_mono (fun a' w' h' => wpAny_of_forkF hsel hQ fl _ _ hf h') hw

def forkH (md : Region.Mode) (ops : Array Oper) (ls : List Nat) (k1 k2 t : Nat) (fl : List Nat) (s1 s2 : Nat) (listed : Array Bool) : Bool :=
  closedB md ops listed && ((List.range ops.size).all fun j => listed.getD j true || (ls ++ [k1, k2]).contains j || (t :: s1 :: s2 :: fl).contains j) && ((t :: s1 :: s2 :: fl).all fun t => (ls ++ [k1, k2]).all fun i => waitsStar md ops ops.size t i) &&
    loadG md ops (ls ++ [k1, k2]) (twoG md ops (ls ++ [k1, k2]) (forkL md ops (ls ++ [k1, k2]) t fl s1 s2) k1 k2) ls listed
def forkB (ops : Array Oper) (ls : List Nat) (k1 k2 t : Nat) (fl : List Nat) (s1 s2 : Nat) : Bool := Region.noSelect ops && decide ((ls.length + 2) + (fl.length + 2 + 1) = ops.size) && forkH .any ops ls k1 k2 t fl s1 s2 (Array.replicate ops.size false)

/-- ls: loads, under S; k1 and k2 in either order, S behind each; t; fl: what yields in whatever world; s1 and s2 in either order. -/
theorem wp_region_fork {id : Nat} {a : Act} {w : World} {l : List Oper} (S : World → Prop) (ls : List Nat) (k1 k2 t : Nat) (fl : List Nat) (s1 s2 : Nat) (hm : P.follows .mixedOrders = true) (hB : forkB l.toArray ls k1 k2 t fl s1 s2 = true)
    (hS : S w.drew)
    (h : wpLoad P l.toArray S (fun a2 => wpKeep P l.toArray (NoPanic Q) S (fun a3 w3 => wpFork P l.toArray (NoPanic Q) fl s1 s2 (opsAt l.toArray [t]) a3 w3) (opsAt l.toArray [k1, k2]) a2 w.drew ∧ wpKeep P l.toArray (NoPanic Q) S (fun a3 w3 => wpFork P l.toArray (NoPanic Q) fl s1 s2 (opsAt l.toArray [t]) a3 w3) (opsAt l.toArray [k2, k1]) a2 w.drew) (opsAt l.toArray ls) a) : (Code.region id l.toArray true).wp P Q a w := by
  refine wp_region_noPanic ?_
  simp only [forkB, forkH, Bool.and_eq_true, decide_eq_true_eq] at hB
  obtain ⟨⟨hsel, hn⟩, ⟨⟨⟨hc, hv⟩, hl⟩, hx⟩⟩ := hB
  refine wp_region_any hm ?_
  have inv : Heads .any l.toArray (ls ++ [k1, k2]) (t :: s1 :: s2 :: fl) (Array.replicate l.toArray.size false) := ⟨closed_of hc, fun j hj hu => by
    have := List.all_eq_true.1 hv j (List.mem_range.2 hj)
    simp only [hu, Bool.false_or, Bool.or_eq_true, List.contains_iff_mem] at this
    exact this, fun t ht i hi => List.all_eq_true.1 (List.all_eq_true.1 hl t ht) i hi⟩
  have hready : ∀ listed, forkL .any l.toArray (ls ++ [k1, k2]) t fl s1 s2 listed = true → ∀ j ∈ Region.ready .any l.toArray listed, j ∉ ls ++ [k1, k2] := fun listed hf j hj hm => by
    simp only [forkL, Bool.and_eq_true, decide_eq_true_eq, Bool.not_eq_true'] at hf
    rw [hf.1.1] at hj
    have : j = t := by simpa using hj
    subst this
    have h2 : (ls ++ [k1, k2]).contains j = true := List.contains_iff_mem.2 hm
    rw [hf.1.2] at h2
    cases h2
  have H := wpHs_loadF (P := P) (S := S) (Q := NoPanic Q) (n := 2) hsel (fun _ _ _ _ _ h => h) hS hready (fun listed a hf hg => wpHs_twoG hf hg.1 hg.2) ls _ a inv hx h
  have := wpAny_of_wpHs (fun listed' a' w' hL => wpAny_of_forkL hsel (fun _ _ _ _ _ h => h) hL.1 hL.2) (ls.length + 2) _ a w.drew H
  rw [hn] at this
  exact this
end
end Go.Proofs.YtkggmckfdkpldaaDoor
