/-
  A region that draws its order, walked once for all orders, stores among them: each value has a property that stands whatever the others do; of the world a property stands behind each operation.
  Conditions: the Bool over the region ('invB'), which the kernel reckons; the properties stand when the world goes on.
  A region that draws its order, walked once for all orders, with a state of its own: each value has a property that stands, under the state, whatever the others do; of the world, the state and what has come a property stands behind each operation.
  Conditions: the Bool over the region ('invB'), which the kernel reckons; the properties stand when the world goes on.
-/
import Derived.Test.YtkggmckfdkpldaaDoorBstab
namespace Go.Proofs.YtkggmckfdkpldaaDoor
section
open Go Go.Sort Go.RowKit
section
variable {P : Program} {ops : Array Oper} {md : Region.Mode} {S : World → Prop} {Q : Exit → Act → World → Prop}

theorem wpAny_inv {R : World → World → Prop} {Φ : Nat → Value → World → Prop} {a0 : Act} {w0 : World}
    (hRt : ∀ a b c, R a b → R b c → R a c) (hst : ∀ i v w w', Φ i v w → R w w' → Φ i v w')
    (hdsz : ∀ i d, dstOf ops i = some d → d < a0.tmps.size) (hdd : ∀ i j d, dstOf ops i = some d → dstOf ops j = some d → i = j)
    (htopo : topoB md ops [] (List.range ops.size) = true)
    (hop : ∀ i, i < ops.size → ∀ (a : Act) (w : World) (K : Act → World → Prop), StabIn ops (List.range ops.size) R S Φ a0 w0 (fun j => Region.waitsFor md ops i j = true) a w → (∀ v w', R w w' → S w' → (∀ d, dstOf ops i = some d → Φ i v w') → K (a.put (dstOf ops i) v) w') → wpOp P ops Q i K a w)
    (hend : ∀ (a : Act) (w : World), StabIn ops (List.range ops.size) R S Φ a0 w0 (fun _ => True) a w → Q .normal a w) :
    ∀ (n : Nat) (L : Array Bool) (a : Act) (w : World), L.size = ops.size → ((List.range ops.size).filter fun i => !L.getD i false).length = n → StabIn ops (List.range ops.size) R S Φ a0 w0 (fun j => L.getD j false = true) a w →
      wpAny P md ops Q n L a w
  | 0, L, a, w, hL, hc, hI => by
    have hall : ∀ i, i < ops.size → L.getD i false = true := fun i hi => by
      have h0 := List.eq_nil_of_length_eq_zero hc
      have := List.filter_eq_nil_iff.1 h0 i (List.mem_range.2 hi)
      simpa using this
    refine ⟨List.eq_nil_iff_forall_not_mem.2 fun i hi => ?_, hend a w ⟨hI.world, hI.hold, hI.size, hI.defers, hI.out, fun i hi _ => hI.val i hi (hall i (List.mem_range.1 hi))⟩⟩
    obtain ⟨hu, oi, hoi, _⟩ := mem_ready.1 hi
    have := hall i (Array.getElem?_eq_some_iff.1 hoi).1
    rw [getD_both hu] at this
    cases this
  | n + 1, L, a, w, hL, hc, hI => by
    have hex : ∃ i ∈ List.range ops.size, L.getD i false = false := by
      have h0 : ((List.range ops.size).filter fun i => !L.getD i false) ≠ [] := fun e => by rw [e] at hc; cases hc
      obtain ⟨i, hi⟩ := List.exists_mem_of_ne_nil _ h0
      obtain ⟨h1, h2⟩ := List.mem_filter.1 hi
      exact ⟨i, h1, by simpa using h2⟩
    obtain ⟨i0, hi0, hr0⟩ := topo_ready hL (List.range ops.size) [] htopo (fun j hj => by cases hj) hex
    refine ⟨fun e => (by rw [e] at hr0; cases hr0), fun i hi => ?_⟩
    obtain ⟨hu, oi, hoi, hafter⟩ := mem_ready.1 hi
    have hin := (Array.getElem?_eq_some_iff.1 hoi).1
    have hisz : i < L.size := by rw [hL]; exact hin
    have hik := List.mem_range.2 hin
    refine hop i hin a w _ ⟨hI.world, hI.hold, hI.size, hI.defers, hI.out, fun j hj hw => hI.val j hj ?_⟩ fun v w' hR hS' hΦ => ?_
    · obtain ⟨o', ho', e, he, hb, hon⟩ := Region.waitsFor_spec hw
      obtain rfl : o' = oi := Option.some.inj (ho'.symm.trans hoi)
      rw [← hon]
      exact hafter e he hb
    · have hset : ∀ j, j ≠ i → (L.setIfInBounds i true).getD j false = L.getD j false := fun j hj => getD_set_ne false (Ne.symm hj)
      have hseti : (L.setIfInBounds i true).getD i false = true := by simp [hisz]
      refine wpAny_inv hRt hst hdsz hdd htopo hop hend n _ _ w' (by simpa using hL) ?_ ⟨hRt _ _ _ hI.world hR, hS', ?_, ?_, fun t ht => ?_, fun j hj hl dj hdj => ?_⟩
      · have hc' := filter_one List.nodup_range (p := fun i => !L.getD i false) (q := fun j => !(L.setIfInBounds i true).getD j false) hik (by simp [getD_both hu]) (by simp [hseti]) (fun j _ hne => by simp only [hset j hne])
        omega
      · cases dstOf ops i <;> simp [Act.put, hI.size]
      · cases dstOf ops i <;> simp [Act.put, hI.defers]
      · cases hd : dstOf ops i with
        | none => exact hI.out t ht
        | some d =>
          have hne : d ≠ t := fun e => ht i hik (by rw [hd, e])
          simp only [Act.put]
          rw [Array.getElem?_setIfInBounds_ne hne]
          exact hI.out t ht
      · by_cases hji : j = i
        · subst hji
          refine ⟨v, ?_, hΦ dj hdj⟩
          have := hdsz j dj hdj
          rw [hdj]
          simp [Act.put, hI.size, this]
        · rw [hset j hji] at hl
          obtain ⟨u, h1, h2⟩ := hI.val j hj hl dj hdj
          refine ⟨u, ?_, hst _ _ _ _ h2 hR⟩
          cases hd : dstOf ops i with
          | none => exact h1
          | some d =>
            have hne : d ≠ dj := fun e => hji (hdd j i dj hdj (by rw [hd, e]))
            simp only [Act.put]
            rw [Array.getElem?_setIfInBounds_ne hne]
            exact h1

def invB (ops : Array Oper) (kd : List (Nat × Tmp)) (st : List Nat) : Bool :=
  Region.noSelect ops && ((List.range ops.size).all fun i => kd.any (fun x => x.1 == i) || st.contains i) && (kd.all fun x => dstOf ops x.1 == some x.2) && (st.all fun i => dstOf ops i == none) && decide ((kd.map (·.2)).Nodup) && decide ((kd.map (·.1)).Nodup) && (kd.all fun x => decide (x.1 < ops.size)) && topoB .any ops [] (List.range ops.size)
/-- What is to be shown of a store. -/
def stabSt (P : Program) (ops : Array Oper) (Q : Exit → Act → World → Prop) (kd : List (Nat × Tmp)) (R : World → World → Prop) (S : World → Prop) (Φ : Nat → Value → World → Prop) (a0 : Act) (w0 : World) (i : Nat) : Prop :=
  ∀ (a : Act) (w : World) (K : Act → World → Prop), StabAt kd R S Φ a0 w0 (fun j => Region.waitsFor .any ops i j = true) a w → (∀ w', R w w' → S w' → K a w') → wpOp P ops Q i K a w
structure InvGo (P : Program) (ops : Array Oper) (Q : Exit → Act → World → Prop) (kd : List (Nat × Tmp)) (st : List Nat) (R : World → World → Prop) (S : World → Prop) (Φ : Nat → Value → World → Prop) (w0 : World) (a0 : Act) : Prop where
  sz : ∀ x ∈ kd, x.2 < a0.tmps.size
  op : ∀ x ∈ kd, stabOp P ops (NoPanic Q) kd R S Φ a0 w0 x.1 x.2
  st : ∀ i ∈ st, stabSt P ops (NoPanic Q) kd R S Φ a0 w0 i
  fin : ∀ (vs : Nat → Value) (w' : World), R w0 w' → S w' → (∀ x ∈ kd, Φ x.1 (vs x.1) w') → Q .normal (putD vs kd a0) w'
/-- kd: what yields a value, with its slot, in any order; st: what yields none. -/
theorem wp_region_inv {id : Nat} {a : Act} {w : World} {l : List Oper} (S : World → Prop) (R : World → World → Prop) (Φ : Nat → Value → World → Prop) (kd : List (Nat × Tmp)) (st : List Nat) (hm : P.follows .mixedOrders = true) (hB : invB l.toArray kd st = true)
    (hRr : ∀ a, R a a) (hRt : ∀ a b c, R a b → R b c → R a c) (hst : ∀ i v w w', Φ i v w → R w w' → Φ i v w') (hS : S w.drew)
    (h : InvGo P l.toArray Q kd st R S Φ w.drew a) : (Code.region id l.toArray true).wp P Q a w := by
  refine wp_region_noPanic ?_
  simp only [invB, Bool.and_eq_true, decide_eq_true_eq] at hB
  obtain ⟨⟨⟨⟨⟨⟨⟨hsel, hall⟩, hkd⟩, hsd⟩, hnd⟩, hn1⟩, hlt⟩, htopo⟩ := hB
  refine wp_region_any hm ?_
  have hkd' : ∀ x ∈ kd, dstOf l.toArray x.1 = some x.2 := fun x hx => by
    have := List.all_eq_true.1 hkd x hx
    simpa using this
  have hcase : ∀ i, i < l.toArray.size → (∃ d, (i, d) ∈ kd ∧ dstOf l.toArray i = some d) ∨ (i ∈ st ∧ dstOf l.toArray i = none) := fun i hi => by
    have h1 := List.all_eq_true.1 hall i (List.mem_range.2 hi)
    rw [Bool.or_eq_true] at h1
    rcases h1 with h1 | h1
    · obtain ⟨x, hx, he⟩ := List.any_eq_true.1 h1
      obtain rfl : x.1 = i := by simpa using he
      exact .inl ⟨x.2, hx, hkd' x hx⟩
    · have h2 : i ∈ st := by simpa using h1
      have := List.all_eq_true.1 hsd i h2
      exact .inr ⟨h2, by simpa using this⟩
  have hszl : ∀ i d, dstOf l.toArray i = some d → i < l.toArray.size := fun i d hd => by
    unfold dstOf at hd
    cases ho : l.toArray[i]? with
    | none => rw [ho] at hd; cases hd
    | some o => exact (Array.getElem?_eq_some_iff.1 ho).1
  have hin : ∀ i d, dstOf l.toArray i = some d → (i, d) ∈ kd := fun i d hd => by
    rcases hcase i (hszl i d hd) with ⟨d', h1, h2⟩ | ⟨_, h2⟩
    · obtain rfl : d' = d := Option.some.inj (h2.symm.trans hd)
      exact h1
    · rw [hd] at h2
      cases h2
  have hdsz : ∀ i d, dstOf l.toArray i = some d → d < a.tmps.size := fun i d hd => h.sz _ (hin i d hd)
  have hinj : ∀ (r : List (Nat × Tmp)), (r.map (·.2)).Nodup → ∀ x ∈ r, ∀ y ∈ r, x.2 = y.2 → x = y := fun r => by
    induction r with
    | nil => intro _ x hx; cases hx
    | cons z r ih =>
      intro hr x hx y hy e
      rw [List.map_cons, List.nodup_cons] at hr
      rcases List.mem_cons.1 hx with hx1 | hx1
      · rcases List.mem_cons.1 hy with hy1 | hy1
        · rw [hx1, hy1]
        · exact absurd (by rw [← hx1, e]; exact List.mem_map_of_mem (f := (·.2)) hy1) hr.1
      · rcases List.mem_cons.1 hy with hy1 | hy1
        · exact absurd (by rw [← hy1, ← e]; exact List.mem_map_of_mem (f := (·.2)) hx1) hr.1
        · exact ih hr.2 x hx1 y hy1 e
  have hdd : ∀ i j d, dstOf l.toArray i = some d → dstOf l.toArray j = some d → i = j := fun i j d hi hj => congrArg (·.1) (hinj kd hnd (i, d) (hin i d hi) (j, d) (hin j d hj) rfl)
  have hkr : ∀ x ∈ kd, x.1 ∈ List.range l.toArray.size := fun x hx => List.mem_range.2 (of_decide_eq_true (List.all_eq_true.1 hlt x hx))
  have conv : ∀ (pre : Nat → Prop) (a' : Act) (w' : World), StabIn l.toArray (List.range l.toArray.size) R S Φ a w.drew pre a' w' → StabAt kd R S Φ a w.drew pre a' w' := fun pre a' w' hI => by
    refine ⟨hI.world, hI.hold, fun t v h0 ht => ?_, fun x hx hp => hI.val x.1 (hkr x hx) hp x.2 (hkd' x hx)⟩
    refine (hI.out t fun j hj e => ?_).trans h0
    have := List.all_eq_true.1 ht _ (hin j t e)
    simp at this
  have h0 : ∀ j, (Array.replicate l.toArray.size false).getD j false = false := fun j => by
    simp only [Array.getD_eq_getD_getElem?, Array.getElem?_replicate]
    split <;> rfl
  refine wpAny_inv (P := P) (S := S) (Q := NoPanic Q) (md := .any) (ops := l.toArray) (a0 := a) (w0 := w.drew) hRt hst hdsz hdd htopo (fun i hi a' w' K hI hK => ?_) (fun a' w' hI => ?_) _ _ a w.drew (by simp) ?_ ⟨hRr _, hS, rfl, rfl, fun _ _ => rfl, fun i _ hl => by rw [h0] at hl; cases hl⟩
  · rcases hcase i hi with ⟨d, h1, h2⟩ | ⟨h1, h2⟩
    · refine h.op (i, d) h1 a' w' K (conv _ _ _ hI) fun v w'' g1 g2 g3 => ?_
      have := hK v w'' g1 g2 fun _ _ => g3
      rw [h2] at this
      exact this
    · refine h.st i h1 a' w' K (conv _ _ _ hI) fun w'' g1 g2 => ?_
      have := hK undef w'' g1 g2 fun d hd => by rw [h2] at hd; cases hd
      rw [h2] at this
      exact this
  · have e : a' = putK l.toArray (fun i => a'.eval (.tmp ((dstOf l.toArray i).getD 0))) (kd.map (·.1)) a := by
      have h1 : a'.tmps = (putK l.toArray (fun i => a'.eval (.tmp ((dstOf l.toArray i).getD 0))) (kd.map (·.1)) a).tmps := by
        apply Array.ext_getElem?
        intro t
        by_cases hx : ∃ i ∈ kd.map (·.1), dstOf l.toArray i = some t
        · obtain ⟨i, hi, hd⟩ := hx
          have ht : t < a.tmps.size := hdsz i t hd
          rw [putK_in _ t i (kd.map (·.1)) a hi hd ht fun j hj e => hdd j i t (by rw [e, hd]) hd]
          simp only [hd, Option.getD_some]
          have ht' : t < a'.tmps.size := by rw [hI.size]; exact ht
          simp [Act.eval, ht']
        · have hno : ∀ i ∈ kd.map (·.1), dstOf l.toArray i ≠ some t := fun i hi e => hx ⟨i, hi, e⟩
          rw [putK_out _ t (kd.map (·.1)) a hno]
          exact hI.out t fun i _ e => hno i (List.mem_map_of_mem (f := (·.1)) (hin i t e)) e
      have h2 : a'.defers = (putK l.toArray (fun i => a'.eval (.tmp ((dstOf l.toArray i).getD 0))) (kd.map (·.1)) a).defers := by rw [putK_defers]; exact hI.defers
      revert h1 h2
      generalize putK l.toArray (fun i => a'.eval (.tmp ((dstOf l.toArray i).getD 0))) (kd.map (·.1)) a = b
      intro h1 h2
      cases a'
      cases b
      simp only at h1 h2
      rw [h1, h2]
    rw [e, putD_eq _ kd a hkd']
    refine NoPanic.normal (h.fin _ w' hI.world hI.hold fun x hx => ?_)
    obtain ⟨u, h1, h2⟩ := hI.val x.1 (hkr x hx) trivial x.2 (hkd' x hx)
    simp only [hkd' x hx, Option.getD_some, Act.eval, Array.getD_eq_getD_getElem?, h1]
    exact h2
  · have hf : ((List.range l.toArray.size).filter fun i => !(Array.replicate l.toArray.size false).getD i false) = List.range l.toArray.size := by
      rw [List.filter_eq_self]
      intro i _
      rw [h0]
      rfl
    rw [hf, List.length_range]
end
end

section
open Go Go.Sort Go.RowKit
section
variable {P : Program} {ops : Array Oper} {md : Region.Mode} {S : World → Prop} {Q : Exit → Act → World → Prop}

def updD (D : Nat → Bool) (i j : Nat) : Bool := j == i || D j
theorem updD_self (D : Nat → Bool) (i : Nat) : updD D i i = true := by simp [updD]
theorem updD_ne (D : Nat → Bool) {i j : Nat} (h : j ≠ i) : updD D i j = D j := by simp [updD, h]

theorem wpAny_gh {Γ : Type} {R : Γ → World → Γ → World → Prop} {SX : Γ → (Nat → Bool) → World → Prop} {Φ : Γ → Nat → Value → World → Prop} {a0 : Act} {w0 : World}
    (hst : ∀ X i v w X' w', Φ X i v w → R X w X' w' → Φ X' i v w')
    (hdsz : ∀ i d, dstOf ops i = some d → d < a0.tmps.size) (hdd : ∀ i j d, dstOf ops i = some d → dstOf ops j = some d → i = j)
    (htopo : topoB md ops [] (List.range ops.size) = true)
    (hop : ∀ X D i, i < ops.size → D i = false → ∀ (a : Act) (w : World) (K : Act → World → Prop), StabIn ops (List.range ops.size) (fun _ _ => True) (SX X D) (Φ X) a0 w0 (fun j => Region.waitsFor md ops i j = true) a w → (∀ v w' X', R X w X' w' → SX X' (updD D i) w' → (∀ d, dstOf ops i = some d → Φ X' i v w') → K (a.put (dstOf ops i) v) w') → wpOp P ops Q i K a w)
    (hend : ∀ X D (a : Act) (w : World), (∀ i, i < ops.size → D i = true) → StabIn ops (List.range ops.size) (fun _ _ => True) (SX X D) (Φ X) a0 w0 (fun _ => True) a w → Q .normal a w) :
    ∀ (n : Nat) (X : Γ) (L : Array Bool) (a : Act) (w : World), L.size = ops.size → ((List.range ops.size).filter fun i => !L.getD i false).length = n → StabIn ops (List.range ops.size) (fun _ _ => True) (SX X fun j => L.getD j false) (Φ X) a0 w0 (fun j => L.getD j false = true) a w →
      wpAny P md ops Q n L a w
  | 0, X, L, a, w, hL, hc, hI => by
    have hall : ∀ i, i < ops.size → L.getD i false = true := fun i hi => by
      have h0 := List.eq_nil_of_length_eq_zero hc
      have := List.filter_eq_nil_iff.1 h0 i (List.mem_range.2 hi)
      simpa using this
    refine ⟨List.eq_nil_iff_forall_not_mem.2 fun i hi => ?_, hend X _ a w hall ⟨hI.world, hI.hold, hI.size, hI.defers, hI.out, fun i hi _ => hI.val i hi (hall i (List.mem_range.1 hi))⟩⟩
    obtain ⟨hu, oi, hoi, _⟩ := mem_ready.1 hi
    have := hall i (Array.getElem?_eq_some_iff.1 hoi).1
    rw [getD_both hu] at this
    cases this
  | n + 1, X, L, a, w, hL, hc, hI => by
    have hex : ∃ i ∈ List.range ops.size, L.getD i false = false := by
      have h0 : ((List.range ops.size).filter fun i => !L.getD i false) ≠ [] := fun e => by rw [e] at hc; cases hc
      obtain ⟨i, hi⟩ := List.exists_mem_of_ne_nil _ h0
      obtain ⟨h1, h2⟩ := List.mem_filter.1 hi
      exact ⟨i, h1, by simpa using h2⟩
    obtain ⟨i0, hi0, hr0⟩ := topo_ready hL (List.range ops.size) [] htopo (fun j hj => by cases hj) hex
    refine ⟨fun e => (by rw [e] at hr0; cases hr0), fun i hi => ?_⟩
    obtain ⟨hu, oi, hoi, hafter⟩ := mem_ready.1 hi
    have hin := (Array.getElem?_eq_some_iff.1 hoi).1
    have hisz : i < L.size := by rw [hL]; exact hin
    have hik := List.mem_range.2 hin
    refine hop X _ i hin (getD_both hu) a w _ ⟨hI.world, hI.hold, hI.size, hI.defers, hI.out, fun j hj hw => hI.val j hj ?_⟩ fun v w' X' hR hS' hΦ => ?_
    · obtain ⟨o', ho', e, he, hb, hon⟩ := Region.waitsFor_spec hw
      obtain rfl : o' = oi := Option.some.inj (ho'.symm.trans hoi)
      rw [← hon]
      exact hafter e he hb
    · have hset : ∀ j, j ≠ i → (L.setIfInBounds i true).getD j false = L.getD j false := fun j hj => getD_set_ne false (Ne.symm hj)
      have hseti : (L.setIfInBounds i true).getD i false = true := by simp [hisz]
      have hD : (fun j => (L.setIfInBounds i true).getD j false) = updD (fun j => L.getD j false) i := by
        funext j
        by_cases hji : j = i
        · subst hji
          rw [hseti, updD_self]
        · rw [hset j hji, updD_ne _ hji]
      refine wpAny_gh hst hdsz hdd htopo hop hend n X' _ _ w' (by simpa using hL) ?_ ⟨trivial, by rw [hD]; exact hS', ?_, ?_, fun t ht => ?_, fun j hj hl dj hdj => ?_⟩
      · have hc' := filter_one List.nodup_range (p := fun i => !L.getD i false) (q := fun j => !(L.setIfInBounds i true).getD j false) hik (by simp [getD_both hu]) (by simp [hseti]) (fun j _ hne => by simp only [hset j hne])
        omega
      · cases dstOf ops i <;> simp [Act.put, hI.size]
      · cases dstOf ops i <;> simp [Act.put, hI.defers]
      · cases hd : dstOf ops i with
        | none => exact hI.out t ht
        | some d =>
          have hne : d ≠ t := fun e => ht i hik (by rw [hd, e])
          simp only [Act.put]
          rw [Array.getElem?_setIfInBounds_ne hne]
          exact hI.out t ht
      · by_cases hji : j = i
        · subst hji
          refine ⟨v, ?_, hΦ dj hdj⟩
          have := hdsz j dj hdj
          rw [hdj]
          simp [Act.put, hI.size, this]
        · rw [hset j hji] at hl
          obtain ⟨u, h1, h2⟩ := hI.val j hj hl dj hdj
          refine ⟨u, ?_, hst _ _ _ _ _ _ h2 hR⟩
          cases hd : dstOf ops i with
          | none => exact h1
          | some d =>
            have hne : d ≠ dj := fun e => hji (hdd j i dj hdj (by rw [hd, e]))
            simp only [Act.put]
            rw [Array.getElem?_setIfInBounds_ne hne]
            exact h1


structure GhGo {Γ : Type} (P : Program) (ops : Array Oper) (Q : Exit → Act → World → Prop) (kd : List (Nat × Tmp)) (st : List Nat) (R : Γ → World → Γ → World → Prop) (S : Γ → (Nat → Bool) → World → Prop) (Φ : Γ → Nat → Value → World → Prop) (a0 : Act) (w0 : World) : Prop where
  sz : ∀ x ∈ kd, x.2 < a0.tmps.size
  op : ∀ X D, ∀ x ∈ kd, D x.1 = false → ∀ (a : Act) (w : World) (K : Act → World → Prop), StabAt kd (fun _ _ => True) (S X D) (Φ X) a0 w0 (fun j => Region.waitsFor .any ops x.1 j = true) a w → (∀ v w' X', R X w X' w' → S X' (updD D x.1) w' → Φ X' x.1 v w' → K (a.put (some x.2) v) w') → wpOp P ops (NoPanic Q) x.1 K a w
  st : ∀ X D, ∀ i ∈ st, D i = false → ∀ (a : Act) (w : World) (K : Act → World → Prop), StabAt kd (fun _ _ => True) (S X D) (Φ X) a0 w0 (fun j => Region.waitsFor .any ops i j = true) a w → (∀ w' X', R X w X' w' → S X' (updD D i) w' → K a w') → wpOp P ops (NoPanic Q) i K a w
  fin : ∀ X D (vs : Nat → Value) (w' : World), (∀ i, i < ops.size → D i = true) → S X D w' → (∀ x ∈ kd, Φ X x.1 (vs x.1) w') → Q .normal (putD vs kd a0) w'
/-- As wp_region_inv; a state X goes with the properties, and D says which operations have come. -/
theorem wp_region_gh {Γ : Type} (γ0 : Γ) {id : Nat} {a : Act} {w : World} {l : List Oper} (S : Γ → (Nat → Bool) → World → Prop) (R : Γ → World → Γ → World → Prop) (Φ : Γ → Nat → Value → World → Prop) (kd : List (Nat × Tmp)) (st : List Nat) (hm : P.follows .mixedOrders = true) (hB : invB l.toArray kd st = true)
    (hst : ∀ X i v w X' w', Φ X i v w → R X w X' w' → Φ X' i v w') (hS : S γ0 (fun _ => false) w.drew)
    (h : GhGo P l.toArray Q kd st R S Φ a w.drew) : (Code.region id l.toArray true).wp P Q a w := by
  refine wp_region_noPanic ?_
  simp only [invB, Bool.and_eq_true, decide_eq_true_eq] at hB
  obtain ⟨⟨⟨⟨⟨⟨⟨hsel, hall⟩, hkd⟩, hsd⟩, hnd⟩, hn1⟩, hlt⟩, htopo⟩ := hB
  refine wp_region_any hm ?_
  have hkd' : ∀ x ∈ kd, dstOf l.toArray x.1 = some x.2 := fun x hx => by
    have := List.all_eq_true.1 hkd x hx
    simpa using this
  have hcase : ∀ i, i < l.toArray.size → (∃ d, (i, d) ∈ kd ∧ dstOf l.toArray i = some d) ∨ (i ∈ st ∧ dstOf l.toArray i = none) := fun i hi => by
    have h1 := List.all_eq_true.1 hall i (List.mem_range.2 hi)
    rw [Bool.or_eq_true] at h1
    rcases h1 with h1 | h1
    · obtain ⟨x, hx, he⟩ := List.any_eq_true.1 h1
      obtain rfl : x.1 = i := by simpa using he
      exact .inl ⟨x.2, hx, hkd' x hx⟩
    · have h2 : i ∈ st := by simpa using h1
      have := List.all_eq_true.1 hsd i h2
      exact .inr ⟨h2, by simpa using this⟩
  have hszl : ∀ i d, dstOf l.toArray i = some d → i < l.toArray.size := fun i d hd => by
    unfold dstOf at hd
    cases ho : l.toArray[i]? with
    | none => rw [ho] at hd; cases hd
    | some o => exact (Array.getElem?_eq_some_iff.1 ho).1
  have hin : ∀ i d, dstOf l.toArray i = some d → (i, d) ∈ kd := fun i d hd => by
    rcases hcase i (hszl i d hd) with ⟨d', h1, h2⟩ | ⟨_, h2⟩
    · obtain rfl : d' = d := Option.some.inj (h2.symm.trans hd)
      exact h1
    · rw [hd] at h2
      cases h2
  have hdsz : ∀ i d, dstOf l.toArray i = some d → d < a.tmps.size := fun i d hd => h.sz _ (hin i d hd)
  have hinj : ∀ (r : List (Nat × Tmp)), (r.map (·.2)).Nodup → ∀ x ∈ r, ∀ y ∈ r, x.2 = y.2 → x = y := fun r => by
    induction r with
    | nil => intro _ x hx; cases hx
    | cons z r ih =>
      intro hr x hx y hy e
      rw [List.map_cons, List.nodup_cons] at hr
      rcases List.mem_cons.1 hx with hx1 | hx1
      · rcases List.mem_cons.1 hy with hy1 | hy1
        · rw [hx1, hy1]
        · exact absurd (by rw [← hx1, e]; exact List.mem_map_of_mem (f := (·.2)) hy1) hr.1
      · rcases List.mem_cons.1 hy with hy1 | hy1
        · exact absurd (by rw [← hy1, ← e]; exact List.mem_map_of_mem (f := (·.2)) hx1) hr.1
        · exact ih hr.2 x hx1 y hy1 e
  have hdd : ∀ i j d, dstOf l.toArray i = some d → dstOf l.toArray j = some d → i = j := fun i j d hi hj => congrArg (·.1) (hinj kd hnd (i, d) (hin i d hi) (j, d) (hin j d hj) rfl)
  have hkr : ∀ x ∈ kd, x.1 ∈ List.range l.toArray.size := fun x hx => List.mem_range.2 (of_decide_eq_true (List.all_eq_true.1 hlt x hx))
  have conv : ∀ (X : Γ) (D : Nat → Bool) (pre : Nat → Prop) (a' : Act) (w' : World), StabIn l.toArray (List.range l.toArray.size) (fun _ _ => True) (S X D) (Φ X) a w.drew pre a' w' → StabAt kd (fun _ _ => True) (S X D) (Φ X) a w.drew pre a' w' := fun X D pre a' w' hI => by
    refine ⟨hI.world, hI.hold, fun t v h0 ht => ?_, fun x hx hp => hI.val x.1 (hkr x hx) hp x.2 (hkd' x hx)⟩
    refine (hI.out t fun j hj e => ?_).trans h0
    have := List.all_eq_true.1 ht _ (hin j t e)
    simp at this
  have h0 : ∀ j, (Array.replicate l.toArray.size false).getD j false = false := fun j => by
    simp only [Array.getD_eq_getD_getElem?, Array.getElem?_replicate]
    split <;> rfl
  have h0' : (fun j => (Array.replicate l.toArray.size false).getD j false) = fun _ => false := funext h0
  refine wpAny_gh (P := P) (SX := S) (Q := NoPanic Q) (md := .any) (ops := l.toArray) (a0 := a) (w0 := w.drew) hst hdsz hdd htopo (fun X D i hi hD a' w' K hI hK => ?_) (fun X D a' w' hDa hI => ?_) _ γ0 _ a w.drew (by simp) ?_ ⟨trivial, by rw [h0']; exact hS, rfl, rfl, fun _ _ => rfl, fun i _ hl => by rw [h0] at hl; cases hl⟩
  · rcases hcase i hi with ⟨d, h1, h2⟩ | ⟨h1, h2⟩
    · refine h.op X D (i, d) h1 hD a' w' K (conv _ _ _ _ _ hI) fun v w'' X' g1 g2 g3 => ?_
      have := hK v w'' X' g1 g2 fun _ _ => g3
      rw [h2] at this
      exact this
    · refine h.st X D i h1 hD a' w' K (conv _ _ _ _ _ hI) fun w'' X' g1 g2 => ?_
      have := hK undef w'' X' g1 g2 fun d hd => by rw [h2] at hd; cases hd
      rw [h2] at this
      exact this
  · have e : a' = putK l.toArray (fun i => a'.eval (.tmp ((dstOf l.toArray i).getD 0))) (kd.map (·.1)) a := by
      have h1 : a'.tmps = (putK l.toArray (fun i => a'.eval (.tmp ((dstOf l.toArray i).getD 0))) (kd.map (·.1)) a).tmps := by
        apply Array.ext_getElem?
        intro t
        by_cases hx : ∃ i ∈ kd.map (·.1), dstOf l.toArray i = some t
        · obtain ⟨i, hi, hd⟩ := hx
          have ht : t < a.tmps.size := hdsz i t hd
          rw [putK_in _ t i (kd.map (·.1)) a hi hd ht fun j hj e => hdd j i t (by rw [e, hd]) hd]
          simp only [hd, Option.getD_some]
          have ht' : t < a'.tmps.size := by rw [hI.size]; exact ht
          simp [Act.eval, ht']
        · have hno : ∀ i ∈ kd.map (·.1), dstOf l.toArray i ≠ some t := fun i hi e => hx ⟨i, hi, e⟩
          rw [putK_out _ t (kd.map (·.1)) a hno]
          exact hI.out t fun i _ e => hno i (List.mem_map_of_mem (f := (·.1)) (hin i t e)) e
      have h2 : a'.defers = (putK l.toArray (fun i => a'.eval (.tmp ((dstOf l.toArray i).getD 0))) (kd.map (·.1)) a).defers := by rw [putK_defers]; exact hI.defers
      revert h1 h2
      generalize putK l.toArray (fun i => a'.eval (.tmp ((dstOf l.toArray i).getD 0))) (kd.map (·.1)) a = b
      intro h1 h2
      cases a'
      cases b
      simp only at h1 h2
      rw [h1, h2]
    rw [e, putD_eq _ kd a hkd']
    refine NoPanic.normal (h.fin X D _ w' hDa hI.hold fun x hx => ?_)
    obtain ⟨u, h1, h2⟩ := hI.val x.1 (hkr x hx) trivial x.2 (hkd' x hx)
    simp only [hkd' x hx, Option.getD_some, Act.eval, Array.getD_eq_getD_getElem?, h1]
    exact h2
  · have hf : ((List.range l.toArray.size).filter fun i => !(Array.replicate l.toArray.size false).getD i false) = List.range l.toArray.size := by
      rw [List.filter_eq_self]
      intro i _
      rw [h0]
      rfl
    rw [hf, List.length_range]
end
end
end Go.Proofs.YtkggmckfdkpldaaDoor
