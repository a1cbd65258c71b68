/-
  A region that draws its order, walked once for all orders: each operation's value has a property that stands whatever the others do.
  Conditions: the Bool over the region ('stabB'), which the kernel reckons; the properties stand when the world goes on.
-/
import Derived.Test.YtkggmckfdkpldaaDoorBsch
namespace Go.Proofs.YtkggmckfdkpldaaDoor
open Go Go.Sort Go.RowKit

section
variable {P : Program} {ops : Array Oper} {md : Region.Mode} {S : World → Prop} {Q : Exit → Act → World → Prop}

def dstOf (ops : Array Oper) (i : Nat) : Option Tmp := (ops[i]?).bind (·.dst)
def lstAt (n : Nat) (is : List Nat) : Array Bool := is.foldl (fun l i => l.setIfInBounds i true) (Array.replicate n false)
theorem lst_size : ∀ (is : List Nat) (l : Array Bool), (is.foldl (fun l i => l.setIfInBounds i true) l).size = l.size
  | [], l => rfl
  | i :: r, l => by
    rw [List.foldl_cons, lst_size r]
    simp
theorem lst_get : ∀ (is : List Nat) (l : Array Bool) (j : Nat), j < l.size → (is.foldl (fun l i => l.setIfInBounds i true) l)[j]? = some (l.getD j false || decide (j ∈ is))
  | [], l, j, h => by simp [h]
  | i :: r, l, j, h => by
    rw [List.foldl_cons, lst_get r _ j (by simpa using h)]
    by_cases hij : i = j
    · subst hij
      simp [h]
    · have : (l.setIfInBounds i true).getD j false = l.getD j false := getD_set_ne false hij
      rw [this]
      simp [Ne.symm hij]
theorem lstAt_size (n : Nat) (is : List Nat) : (lstAt n is).size = n := by
  unfold lstAt
  rw [lst_size]
  simp
theorem lstAt_get {n : Nat} {is : List Nat} {j : Nat} (h : j < n) : (lstAt n is)[j]? = some (decide (j ∈ is)) := by
  unfold lstAt
  rw [lst_get _ _ _ (by simpa using h)]
  simp [h]

/-- What stands while the region goes on: a is what it was but for values of ks. -/
structure StabIn (ops : Array Oper) (ks : List Nat) (R : World → World → Prop) (S : World → Prop) (Φ : Nat → Value → World → Prop) (a0 : Act) (w0 : World) (pre : Nat → Prop) (a : Act) (w : World) : Prop where
  world : R w0 w
  hold : S w
  size : a.tmps.size = a0.tmps.size
  defers : a.defers = a0.defers
  out : ∀ t : Nat, (∀ i ∈ ks, dstOf ops i ≠ some t) → a.tmps[t]? = a0.tmps[t]?
  val : ∀ i ∈ ks, pre i → ∀ d, dstOf ops i = some d → ∃ v, a.tmps[d]? = some v ∧ Φ i v w

def topoB (md : Region.Mode) (ops : Array Oper) : List Nat → List Nat → Bool
  | _, [] => true
  | dn, i :: r => (match ops[i]? with
    | some o => o.after.all fun e => !Region.binds md e || dn.contains e.on
    | none => false) && topoB md ops (i :: dn) r
theorem topo_ready {L : Array Bool} (hL : L.size = ops.size) : ∀ (l dn : List Nat), topoB md ops dn l = true → (∀ j ∈ dn, L.getD j false = true) → (∃ i ∈ l, L.getD i false = false) → ∃ i ∈ l, i ∈ Region.ready md ops L
  | [], _, _, _, h => by
    obtain ⟨i, hi, _⟩ := h
    cases hi
  | i :: r, dn, hB, hd, h => by
    simp only [topoB, Bool.and_eq_true] at hB
    obtain ⟨h1, h2⟩ := hB
    cases ho : ops[i]? with
    | none => rw [ho] at h1; cases h1
    | some o =>
      rw [ho] at h1
      simp only at h1
      have hi := (Array.getElem?_eq_some_iff.1 ho).1
      have hiL : i < L.size := by rw [hL]; exact hi
      cases hf : L.getD i false with
      | false =>
        have hl : L.getD i true = false := by
          simp [hiL] at hf ⊢
          exact hf
        refine ⟨i, by simp, mem_ready.2 ⟨hl, o, ho, fun e he hb => ?_⟩⟩
        have := (Array.all_eq_true'.1 h1) e he
        simp only [hb, Bool.not_true, Bool.false_or, List.contains_iff_mem] at this
        exact hd _ this
      | true =>
        obtain ⟨k, hk, hu⟩ := h
        have hki' : k ∈ r := by
          rcases List.mem_cons.1 hk with e | e
          · subst e
            rw [hf] at hu
            cases hu
          · exact e
        obtain ⟨m, hm, hr⟩ := topo_ready hL r (i :: dn) h2 (fun j hj => by
          rcases List.mem_cons.1 hj with rfl | hj
          · exact hf
          · exact hd j hj) ⟨k, hki', hu⟩
        exact ⟨m, List.mem_cons_of_mem _ hm, hr⟩

theorem filter_one {ks : List Nat} (hn : ks.Nodup) {p q : Nat → Bool} {i : Nat} (hi : i ∈ ks) (hp : p i = true) (hq : q i = false) (h : ∀ j ∈ ks, j ≠ i → q j = p j) : (ks.filter q).length + 1 = (ks.filter p).length := by
  induction ks with
  | nil => cases hi
  | cons k r ih =>
    have hn' := List.nodup_cons.1 hn
    by_cases hk : k = i
    · subst hk
      rw [List.filter_cons_of_pos hp, List.filter_cons_of_neg (by simp [hq]), List.length_cons]
      congr 1
      congr 1
      refine List.filter_congr fun j hj => h j (List.mem_cons_of_mem _ hj) fun e => hn'.1 (e ▸ hj)
    · have hir : i ∈ r := by
        rcases List.mem_cons.1 hi with e | e
        · exact absurd e.symm hk
        · exact e
      have := ih hn'.2 hir fun j hj hne => h j (List.mem_cons_of_mem _ hj) hne
      have hkq := h k (by simp) hk
      cases hpk : p k with
      | true =>
        rw [List.filter_cons_of_pos hpk, List.filter_cons_of_pos (by rw [hkq]; exact hpk), List.length_cons, List.length_cons]
        omega
      | false =>
        rw [List.filter_cons_of_neg (by rw [hkq, hpk]; decide), List.filter_cons_of_neg (by rw [hpk]; decide)]
        exact this

/-- The state of the walk: what is listed. -/
structure StabL (md : Region.Mode) (ops : Array Oper) (ls ks tl : List Nat) (n : Nat) (L : Array Bool) : Prop where
  heads : Heads md ops (ls ++ ks) tl L
  size : L.size = ops.size
  lsIn : ∀ i ∈ ls, L.getD i false = true
  tlOut : ∀ t, t < ops.size → t ∉ ls → t ∉ ks → L.getD t false = false
  cnt : (ks.filter fun i => !L.getD i false).length = n

theorem wpHs_stab {ls ks tl : List Nat} {R : World → World → Prop} {Φ : Nat → Value → World → Prop} {a0 : Act} {w0 : World}
    (hRt : ∀ a b c, R a b → R b c → R a c) (hst : ∀ i v w w', Φ i v w → R w w' → Φ i v w')
    (hdst : ∀ i ∈ ks, ∃ d, dstOf ops i = some d ∧ d < a0.tmps.size) (hdd : ∀ i ∈ ks, ∀ j ∈ ks, dstOf ops i = dstOf ops j → i = j) (hn : ks.Nodup) (hlt : ∀ i ∈ ls ++ ks, i < ops.size)
    (htopo : topoB md ops ls ks = true) (hseq : seqL md ops (ls ++ ks) tl (lstAt ops.size (ls ++ ks)) = true)
    (hop : ∀ i ∈ ks, ∀ (a : Act) (w : World) (K : Act → World → Prop), StabIn ops ks R S Φ a0 w0 (fun j => Region.waitsFor md ops i j = true) a w → (∀ v w', R w w' → S w' → Φ i v w' → K (a.put (dstOf ops i) v) w') → wpOp P ops Q i K a w)
    (hend : ∀ (a : Act) (w : World), StabIn ops ks R S Φ a0 w0 (fun _ => True) a w → wpList P ops Q (opsAt ops tl) a w) :
    ∀ (n : Nat) (L : Array Bool) (a : Act) (w : World), StabL md ops ls ks tl n L → StabIn ops ks R S Φ a0 w0 (fun j => L.getD j false = true) a w →
      wpHs P md ops Q S (ls ++ ks) (fun L' a' w' => seqL md ops (ls ++ ks) tl L' = true ∧ wpList P ops Q (opsAt ops tl) a' w') n L a w
  | 0, L, a, w, hL, hI => by
    have hall : ∀ i ∈ ks, L.getD i false = true := fun i hi => by
      have h0 := List.eq_nil_of_length_eq_zero hL.cnt
      have := List.filter_eq_nil_iff.1 h0 i hi
      simpa using this
    have hLe : L = lstAt ops.size (ls ++ ks) := by
      apply Array.ext
      · rw [lstAt_size, hL.size]
      · intro j h1 h2
        have hj : j < ops.size := by rw [← hL.size]; exact h1
        have e1 := lstAt_get (is := ls ++ ks) hj
        rw [Array.getElem?_eq_getElem h2] at e1
        have e2 : L.getD j false = L[j] := by simp [h1]
        rw [Option.some.inj e1, ← e2]
        by_cases hm : j ∈ ls ++ ks
        · rw [decide_eq_true hm]
          rcases List.mem_append.1 hm with h | h
          · exact hL.lsIn j h
          · exact hall j h
        · rw [decide_eq_false hm]
          exact hL.tlOut j hj (fun h => hm (List.mem_append.2 (.inl h))) (fun h => hm (List.mem_append.2 (.inr h)))
    refine ⟨by rw [hLe]; exact hseq, hend a w ⟨hI.world, hI.hold, hI.size, hI.defers, hI.out, fun i hi _ => hI.val i hi (hall i hi)⟩⟩
  | n + 1, L, a, w, hL, hI => by
    have hex : ∃ i ∈ ks, L.getD i false = false := by
      have h0 : (ks.filter fun i => !L.getD i false) ≠ [] := fun e => by have := hL.cnt; rw [e] at this; cases this
      obtain ⟨i, hi⟩ := List.exists_mem_of_ne_nil _ h0
      obtain ⟨h1, h2⟩ := List.mem_filter.1 hi
      exact ⟨i, h1, by simpa using h2⟩
    obtain ⟨i0, hi0, hr0⟩ := topo_ready hL.size ks ls htopo hL.lsIn hex
    refine ⟨fun e => (by rw [e] at hr0; cases hr0), fun i hi => ?_⟩
    have hihd := hL.heads.in_ (List.mem_append.2 (.inr hi0)) (mem_ready.1 hr0).1 i hi
    refine ⟨hihd, ?_⟩
    obtain ⟨hu, oi, hoi, hafter⟩ := mem_ready.1 hi
    have hik : i ∈ ks := by
      rcases List.mem_append.1 hihd with h | h
      · have := hL.lsIn i h
        rw [getD_both hu] at this
        cases this
      · exact h
    have hisz : i < L.size := by rw [hL.size]; exact (Array.getElem?_eq_some_iff.1 hoi).1
    obtain ⟨d, hd, hdsz⟩ := hdst i hik
    refine hop i hik a w _ ⟨hI.world, hI.hold, hI.size, hI.defers, hI.out, fun j hj hw => hI.val j hj ?_⟩ fun v w' hR hS' hΦ => ⟨hS', ?_⟩
    · obtain ⟨o', ho', e, he, hb, hon⟩ := Region.waitsFor_spec hw
      obtain rfl : o' = oi := Option.some.inj (ho'.symm.trans hoi)
      rw [← hon]
      exact hafter e he hb
    · have hset : ∀ j, j ≠ i → (L.setIfInBounds i true).getD j false = L.getD j false := fun j hj => getD_set_ne false (Ne.symm hj)
      have hseti : (L.setIfInBounds i true).getD i false = true := by simp [hisz]
      refine wpHs_stab hRt hst hdst hdd hn hlt htopo hseq hop hend n _ _ w' ⟨hL.heads.set hi, by simpa using hL.size, fun j hj => getD_set_true (hL.lsIn j hj), fun t ht h1 h2 => ?_, ?_⟩ ⟨hRt _ _ _ hI.world hR, hS', ?_, ?_, fun t ht => ?_, fun j hj hl dj hdj => ?_⟩
      · rw [hset t fun e => h2 (e ▸ hik)]
        exact hL.tlOut t ht h1 h2
      · have hc := filter_one hn (p := fun i => !L.getD i false) (q := fun j => !(L.setIfInBounds i true).getD j false) hik (by simp [getD_both hu]) (by simp [hseti]) (fun j _ hne => by simp only [hset j hne])
        have := hL.cnt
        omega
      · rw [hd]
        simp [Act.put, hI.size]
      · rw [hd]
        simp [Act.put, hI.defers]
      · have hne : d ≠ t := fun e => ht i hik (by rw [hd, e])
        rw [hd]
        simp only [Act.put]
        rw [Array.getElem?_setIfInBounds_ne hne]
        exact hI.out t ht
      · by_cases hji : j = i
        · subst hji
          obtain rfl : d = dj := Option.some.inj (hd.symm.trans hdj)
          refine ⟨v, ?_, hΦ⟩
          rw [hd]
          simp [Act.put, hI.size, hdsz]
        · have hne : d ≠ dj := fun e => hji (hdd j hj i hik (by rw [hd, hdj, e]))
          rw [hset j hji] at hl
          obtain ⟨u, h1, h2⟩ := hI.val j hj hl dj hdj
          refine ⟨u, ?_, hst _ _ _ _ h2 hR⟩
          rw [hd]
          simp only [Act.put]
          rw [Array.getElem?_setIfInBounds_ne hne]
          exact h1

def putK (ops : Array Oper) (vs : Nat → Value) : List Nat → Act → Act
  | [], a => a
  | i :: r, a => putK ops vs r (a.put (dstOf ops i) (vs i))
theorem putK_defers (vs : Nat → Value) : ∀ (ks : List Nat) (a : Act), (putK ops vs ks a).defers = a.defers
  | [], a => rfl
  | i :: r, a => by
    rw [putK, putK_defers vs r]
    cases dstOf ops i <;> rfl
theorem putK_size (vs : Nat → Value) : ∀ (ks : List Nat) (a : Act), (putK ops vs ks a).tmps.size = a.tmps.size
  | [], a => rfl
  | i :: r, a => by
    rw [putK, putK_size vs r]
    cases dstOf ops i <;> simp [Act.put]
theorem putK_out (vs : Nat → Value) (t : Nat) : ∀ (ks : List Nat) (a : Act), (∀ i ∈ ks, dstOf ops i ≠ some t) → (putK ops vs ks a).tmps[t]? = a.tmps[t]?
  | [], a, _ => rfl
  | i :: r, a, h => by
    rw [putK, putK_out vs t r _ fun j hj => h j (List.mem_cons_of_mem _ hj)]
    have := h i (by simp)
    cases hd : dstOf ops i with
    | none => rfl
    | some d =>
      simp only [Act.put]
      exact Array.getElem?_setIfInBounds_ne fun e => this (by rw [hd, e])
theorem putK_in (vs : Nat → Value) (t i : Nat) : ∀ (ks : List Nat) (a : Act), i ∈ ks → dstOf ops i = some t → t < a.tmps.size → (∀ j ∈ ks, dstOf ops j = dstOf ops i → j = i) → (putK ops vs ks a).tmps[t]? = some (vs i)
  | [], a, h, _, _, _ => by cases h
  | k :: r, a, h, hd, ht, hu => by
    rw [putK]
    by_cases hr : i ∈ r
    · refine putK_in vs t i r _ hr hd ?_ fun j hj => hu j (List.mem_cons_of_mem _ hj)
      cases dstOf ops k <;> simpa [Act.put] using ht
    · obtain rfl : i = k := by
        rcases List.mem_cons.1 h with e | e
        · exact e
        · exact absurd e hr
      rw [putK_out vs t r _ fun j hj e => hr (hu j (List.mem_cons_of_mem _ hj) (by rw [e, hd]) ▸ hj), hd]
      simp [Act.put, ht]

def stabH (md : Region.Mode) (ops : Array Oper) (ls ks tl : List Nat) (listed : Array Bool) : Bool :=
  closedB md ops listed && ((List.range ops.size).all fun j => listed.getD j true || (ls ++ ks).contains j || tl.contains j) && (tl.all fun t => (ls ++ ks).all fun i => waitsStar md ops ops.size t i) && loadG md ops (ls ++ ks) (fun l => decide (l = lstAt ops.size ls)) ls listed
def stabB (ops : Array Oper) (ls ks tl : List Nat) : Bool :=
  Region.noSelect ops && decide ((ls.length + ks.length) + tl.length = ops.size) && stabH .any ops ls ks tl (Array.replicate ops.size false) && closedB .any ops (lstAt ops.size ls) && topoB .any ops ls ks && seqL .any ops (ls ++ ks) tl (lstAt ops.size (ls ++ ks)) &&
    ((ls ++ ks).all fun i => decide (i < ops.size)) && decide (ks.Nodup) && (ls.all fun i => !ks.contains i) && (ks.all fun i => ks.all fun j => dstOf ops i != dstOf ops j || i == j) && (ks.all fun i => (dstOf ops i).isSome)

/-- The state, as one operation sees it. -/
structure StabAt (kd : List (Nat × Tmp)) (R : World → World → Prop) (S : World → Prop) (Φ : Nat → Value → World → Prop) (a0 : Act) (w0 : World) (pre : Nat → Prop) (a : Act) (w : World) : Prop where
  world : R w0 w
  hold : S w
  old : ∀ (t : Nat) (v : Value), a0.tmps[t]? = some v → (kd.all fun x => x.2 != t) = true → a.tmps[t]? = some v
  new : ∀ x ∈ kd, pre x.1 → ∃ v, a.tmps[x.2]? = some v ∧ Φ x.1 v w
/-- What is to be shown of one operation. -/
def stabOp (P : Program) (ops : Array Oper) (Q : Exit → Act → World → Prop) (kd : List (Nat × Tmp)) (R : World → World → Prop) (S : World → Prop) (Φ : Nat → Value → World → Prop) (a0 : Act) (w0 : World) (i : Nat) (d : Tmp) : Prop :=
  ∀ (a : Act) (w : World) (K : Act → World → Prop), StabAt kd R S Φ a0 w0 (fun j => Region.waitsFor .any ops i j = true) a w → (∀ v w', R w w' → S w' → Φ i v w' → K (a.put (some d) v) w') → wpOp P ops Q i K a w
def putD (vs : Nat → Value) : List (Nat × Tmp) → Act → Act
  | [], a => a
  | x :: r, a => putD vs r (a.put (some x.2) (vs x.1))
theorem putD_eq (vs : Nat → Value) : ∀ (kd : List (Nat × Tmp)) (a : Act), (∀ x ∈ kd, dstOf ops x.1 = some x.2) → putK ops vs (kd.map (·.1)) a = putD vs kd a
  | [], a, _ => rfl
  | x :: r, a, h => by
    rw [List.map_cons, putK, putD, h x (by simp)]
    exact putD_eq vs r _ fun y hy => h y (List.mem_cons_of_mem _ hy)
/-- What is left behind the loads. -/
structure StabGo (P : Program) (ops : Array Oper) (Q : Exit → Act → World → Prop) (kd : List (Nat × Tmp)) (tl : List Nat) (R : World → World → Prop) (S : World → Prop) (Φ : Nat → Value → World → Prop) (w0 : World) (a0 : Act) : Prop where
  sz : ∀ x ∈ kd, x.2 < a0.tmps.size
  op : ∀ x ∈ kd, stabOp P ops (NoPanic Q) kd R S Φ a0 w0 x.1 x.2
  fin : ∀ (vs : Nat → Value) (w' : World), R w0 w' → S w' → (∀ x ∈ kd, Φ x.1 (vs x.1) w') → wpList P ops (NoPanic Q) (opsAt ops tl) (putD vs kd a0) w'

/-- ls: loads, under S, taken first; ks: what may come in any order: each has its property Φ, which stands while R goes on; tl: what writes, one by one. -/
theorem wp_region_stable {id : Nat} {a : Act} {w : World} {l : List Oper} (S : World → Prop) (R : World → World → Prop) (Φ : Nat → Value → World → Prop) (ls : List Nat) (kd : List (Nat × Tmp)) (tl : List Nat) (hm : P.follows .mixedOrders = true) (hB : stabB l.toArray ls (kd.map (·.1)) tl = true) (hkd : (kd.all fun x => dstOf l.toArray x.1 == some x.2) = true)
    (hRr : R w.drew w.drew) (hRt : ∀ a b c, R a b → R b c → R a c) (hst : ∀ i v w w', Φ i v w → R w w' → Φ i v w') (hS : S w.drew)
    (h : wpLoad P l.toArray S (StabGo P l.toArray Q kd tl R S Φ w.drew) (opsAt l.toArray ls) a) : (Code.region id l.toArray true).wp P Q a w := by
  refine wp_region_noPanic ?_
  have hkd' : ∀ x ∈ kd, dstOf l.toArray x.1 = some x.2 := fun x hx => by
    have := List.all_eq_true.1 hkd x hx
    simpa using this
  obtain ⟨ks, hks⟩ : ∃ ks, ks = kd.map (·.1) := ⟨_, rfl⟩
  rw [← hks] at hB
  have hin : ∀ i ∈ ks, ∃ d, (i, d) ∈ kd ∧ dstOf l.toArray i = some d := fun i hi => by
    rw [hks] at hi
    obtain ⟨x, hx, rfl⟩ := List.mem_map.1 hi
    exact ⟨x.2, hx, hkd' x hx⟩
  have hto : ∀ x ∈ kd, x.1 ∈ ks := fun x hx => by rw [hks]; exact List.mem_map_of_mem (f := (·.1)) hx
  simp only [stabB, stabH, Bool.and_eq_true, decide_eq_true_eq] at hB
  obtain ⟨⟨⟨⟨⟨⟨⟨⟨⟨⟨hsel, hn⟩, ⟨⟨⟨hc, hv⟩, hl⟩, hx⟩⟩, hc2⟩, htopo⟩, hseq⟩, hlt⟩, hnd⟩, hdis⟩, hdd⟩, hsome⟩ := hB
  refine wp_region_any hm ?_
  have hv' : ∀ j, j < l.toArray.size → j ∈ ls ++ ks ∨ j ∈ tl := fun j hj => by
    have := List.all_eq_true.1 hv j (List.mem_range.2 hj)
    have h0 : (Array.replicate l.toArray.size false).getD j true = false := by
      have : j < l.length := by simpa using hj
      simp [this]
    simp only [h0, Bool.false_or, Bool.or_eq_true, List.contains_iff_mem] at this
    exact this
  have hl' : ∀ t ∈ tl, ∀ i ∈ ls ++ ks, waitsStar .any l.toArray l.toArray.size t i = true := fun t ht i hi => List.all_eq_true.1 (List.all_eq_true.1 hl t ht) i hi
  have inv : Heads .any l.toArray (ls ++ ks) tl (Array.replicate l.toArray.size false) := ⟨closed_of hc, fun j hj _ => hv' j hj, hl'⟩
  have hlt' : ∀ i ∈ ls ++ ks, i < l.toArray.size := fun i hi => of_decide_eq_true (List.all_eq_true.1 hlt i hi)
  have hdis' : ∀ i ∈ ls, i ∉ ks := fun i hi hk => by
    have := List.all_eq_true.1 hdis i hi
    simp [hk] at this
  have hdd' : ∀ i ∈ ks, ∀ j ∈ ks, dstOf l.toArray i = dstOf l.toArray j → i = j := fun i hi j hj e => by
    have := List.all_eq_true.1 (List.all_eq_true.1 hdd i hi) j hj
    rw [e] at this
    simpa using this
  have H := wpHs_loadG (P := P) (S := S) (Q := NoPanic Q) (n := ks.length) hsel (fun _ _ _ _ _ h => h) hS (fun listed a0 hf hg => by
    obtain rfl := of_decide_eq_true hf
    obtain ⟨hsz', hop', hend'⟩ := hg
    have hsz : ∀ i ∈ ks, ∀ d, dstOf l.toArray i = some d → d < a0.tmps.size := fun i hi d hd => by
      obtain ⟨d', h1, h2⟩ := hin i hi
      obtain rfl : d' = d := Option.some.inj (h2.symm.trans hd)
      exact hsz' _ h1
    have hdst : ∀ i ∈ ks, ∃ d, dstOf l.toArray i = some d ∧ d < a0.tmps.size := fun i hi => by
      have := List.all_eq_true.1 hsome i hi
      obtain ⟨d, hd⟩ := Option.isSome_iff_exists.1 this
      exact ⟨d, hd, hsz i hi d hd⟩
    have hget : ∀ j, j < l.toArray.size → (lstAt l.toArray.size ls).getD j false = decide (j ∈ ls) := fun j hj => by
      have := lstAt_get (is := ls) hj
      rw [Array.getD_eq_getD_getElem?, this]
      rfl
    refine wpHs_stab hRt hst hdst hdd' hnd hlt' htopo hseq (fun i hi a' w' K hI hK => ?_) (fun a' w' hI => ?_) ks.length _ a0 w.drew ⟨⟨closed_of hc2, fun j hj _ => hv' j hj, hl'⟩, lstAt_size _ _, fun i hi => ?_, fun t ht h1 _ => ?_, ?_⟩ ⟨hRr, hS, rfl, rfl, fun _ _ => rfl, fun i hi hl => ?_⟩
    · obtain ⟨d, h1, h2⟩ := hin i hi
      refine hop' _ h1 a' w' K ⟨hI.world, hI.hold, fun t v h0 ht => ?_, fun x hx hp => hI.val x.1 (hto x hx) hp x.2 (hkd' x hx)⟩ fun v w'' g1 g2 g3 => ?_
      · refine (hI.out t fun j hj e => ?_).trans h0
        obtain ⟨d', h3, h4⟩ := hin j hj
        obtain rfl : d' = t := Option.some.inj (h4.symm.trans e)
        have := List.all_eq_true.1 ht _ h3
        simp at this
      · have := hK v w'' g1 g2 g3
        rw [h2] at this
        exact this
    · have e : a' = putK l.toArray (fun i => a'.eval (.tmp ((dstOf l.toArray i).getD 0))) ks a0 := by
        have h1 : a'.tmps = (putK l.toArray (fun i => a'.eval (.tmp ((dstOf l.toArray i).getD 0))) ks a0).tmps := by
          apply Array.ext_getElem?
          intro t
          by_cases hin : ∃ i ∈ ks, dstOf l.toArray i = some t
          · obtain ⟨i, hi, hd⟩ := hin
            have ht : t < a0.tmps.size := hsz i hi t hd
            rw [putK_in _ t i ks a0 hi hd ht fun j hj e => hdd' j hj i hi e]
            simp only [hd, Option.getD_some]
            have ht' : t < a'.tmps.size := by rw [hI.size]; exact ht
            simp [Act.eval, ht']
          · have hno : ∀ i ∈ ks, dstOf l.toArray i ≠ some t := fun i hi e => hin ⟨i, hi, e⟩
            rw [putK_out _ t ks a0 hno]
            exact hI.out t hno
        have h2 : a'.defers = (putK l.toArray (fun i => a'.eval (.tmp ((dstOf l.toArray i).getD 0))) ks a0).defers := by rw [putK_defers]; exact hI.defers
        revert h1 h2
        generalize putK l.toArray (fun i => a'.eval (.tmp ((dstOf l.toArray i).getD 0))) ks a0 = b
        intro h1 h2
        cases a'
        cases b
        simp only at h1 h2
        rw [h1, h2]
      rw [e, hks, putD_eq _ kd a0 hkd']
      refine hend' _ w' hI.world hI.hold fun x hx => ?_
      obtain ⟨u, h1, h2⟩ := hI.val x.1 (hto x hx) trivial x.2 (hkd' x hx)
      simp only [hkd' x hx, Option.getD_some, Act.eval, Array.getD_eq_getD_getElem?, h1]
      exact h2
    · rw [hget i (hlt' i (List.mem_append.2 (.inl hi)))]
      exact decide_eq_true hi
    · rw [hget t ht]
      exact decide_eq_false h1
    · congr 1
      rw [List.filter_eq_self]
      intro i hi
      rw [hget i (hlt' i (List.mem_append.2 (.inr hi)))]
      simp only [Bool.not_eq_true', decide_eq_false_iff_not]
      exact fun h => hdis' i h hi
    · rw [hget i (hlt' i (List.mem_append.2 (.inr hi)))] at hl
      exact absurd hi (hdis' i (of_decide_eq_true hl))) ls _ a inv hx h
  have := wpAny_of_wpHs (fun listed' a' w' hL => wpAny_of_seqL tl listed' a' w' hL.1 hL.2) (ls.length + ks.length) _ a w.drew H
  rw [hn] at this
  exact this

theorem wpOp_go {i : Nat} {o : Oper} {K : Act → World → Prop} {a : Act} {w : World} (h0 : ops[i]? = some o) (hw : Region.wanted o (yielded ops a.tmps) = true) (h : Oper.wp P o a w K Q) : wpOp P ops Q i K a w := by
  unfold wpOp
  simp only [h0, hw, if_true]
  exact .inl h
theorem wpOp_pass {i : Nat} {o : Oper} {K : Act → World → Prop} {a : Act} {w : World} (h0 : ops[i]? = some o) (hw : Region.wanted o (yielded ops a.tmps) = false) (h : K (a.put o.dst undef) w) : wpOp P ops Q i K a w := by
  unfold wpOp
  simp only [h0, hw]
  exact h
theorem yielded_at {j d : Nat} {b : Bool} {a : Act} (hd : dstOf ops j = some d) (h : a.tmps[d]? = some (.bool b)) : yielded ops a.tmps j = some b := by
  unfold yielded
  unfold dstOf at hd
  rw [hd]
  simp [h]
end
end Go.Proofs.YtkggmckfdkpldaaDoor
