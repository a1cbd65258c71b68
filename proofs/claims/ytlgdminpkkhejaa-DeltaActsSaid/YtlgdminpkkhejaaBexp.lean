/-
  A region that draws its order, walked once for all orders: what is pure is taken first as soon as it can come; each other operation has a property that stands whatever the others do; what writes comes last, one by one.
  Conditions: the Bool over the region ('expB'), which the kernel reckons; the properties stand when the world goes on.
-/
import Derived.Test.YtlgdminpkkhejaaBms
namespace Go.Proofs.Ytlgdminpkkhejaa
open Go Go.Sort Go.RowKit

section
variable {P : Program} {ops : Array Oper} {md : Region.Mode} {S : World → Prop} {Q : Exit → Act → World → Prop}

theorem wpAny_first {i : Nat} {oi : Oper} {v : Value} (hi : ops[i]? = some oi) (hsel : ∀ (j : Nat) (o : Oper) cs b, ops[j]? = some o → o.op ≠ .select cs b)
    (hQ : ∀ c a d v w, Q (.panic c) (a.put d v) w → Q (.panic c) a w) :
    ∀ (f : Nat) (listed : Array Bool) (a : Act) (w : World),
      (∀ j oj, ops[j]? = some oj → j ≠ i → listed.getD j true = false → (∀ e ∈ oj.after, Region.binds md e = true → e.on ≠ i) → oi.apart ops oj = true) →
      i ∈ Region.ready md ops listed → YieldsIf P ops (fun _ => True) oi v a →
      wpAny P md ops Q f (listed.setIfInBounds i true) (a.put oi.dst v) w → wpAny P md ops Q (f + 1) listed a w := by
  intro f
  induction f with
  | zero =>
    intro listed a w _ hr hy H
    refine ⟨fun h => (by rw [h] at hr; cases hr), fun j hj => ?_⟩
    by_cases hji : j = i
    · subst hji
      exact hy.wpOp hi trivial H
    · have := ready_mono hj hji
      rw [H.1] at this
      cases this
  | succ f ih =>
    intro listed a w hfree hr hy H
    have hun := (mem_ready.1 hr).1
    refine ⟨fun h => (by rw [h] at hr; cases hr), fun j hj => ?_⟩
    by_cases hji : j = i
    · subst hji
      exact hy.wpOp hi trivial H
    · have h1 := H.2 j (ready_mono hj hji)
      obtain ⟨hjun, oj, hoj, hall⟩ := mem_ready.1 hj
      have hnot : ∀ e ∈ oj.after, Region.binds md e = true → e.on ≠ i := fun e he hb heq => by
        have h1 := hall e he hb
        rw [heq, getD_both hun] at h1
        cases h1
      have h2 := wpOp_putIf hoj (hfree j oj hoj hji hjun hnot) (fun cs b => hsel i oi cs b hi) (fun cs b => hsel j oj cs b hoj) (fun c a w => hQ c a _ _ w) hy h1
      have hfree' : ∀ k ok, ops[k]? = some ok → k ≠ i → (listed.setIfInBounds j true).getD k true = false →
          (∀ e ∈ ok.after, Region.binds md e = true → e.on ≠ i) → oi.apart ops ok = true := fun k ok hk hki hun hno => by
        refine hfree k ok hk hki ?_ hno
        by_cases hjk : j = k
        · subst hjk; exact hjun
        · rw [getD_set_ne true hjk] at hun; exact hun
      refine wpOp_mono (fun a' w' h3 => ih (listed.setIfInBounds j true) a' w' hfree' (ready_mono hr (Ne.symm hji)) h3.1 ?_) h2
      rw [Array.setIfInBounds_comm _ _ hji]
      exact h3.2

def expL (md : Region.Mode) (ops : Array Oper) (ps ks tl : List Nat) : Nat → Array Bool → Bool
  | 0, L => seqL md ops ks tl L
  | n + 1, L => match ps.find? (fun k => (Region.ready md ops L).contains k) with
    | some k => ks.contains k && Region.free md ops L k && expL md ops ps ks tl n (L.setIfInBounds k true)
    | none => !(Region.ready md ops L).isEmpty && (Region.ready md ops L).all fun i => ks.contains i && expL md ops ps ks tl n (L.setIfInBounds i true)

theorem wpAny_exp {ps ks tl : List Nat} {R : World → World → Prop} {Φ : Nat → Value → World → Prop} {a0 : Act} {w0 : World}
    (hsel : Region.noSelect ops = true) (hQ : ∀ c a d v w, Q (.panic c) (a.put d v) w → Q (.panic c) a w)
    (hRr : ∀ a, R a a) (hRt : ∀ a b c, R a b → R b c → R a c) (hst : ∀ i v w w', Φ i v w → R w w' → Φ i v w')
    (hdst : ∀ i ∈ ks, ∃ d, dstOf ops i = some d ∧ d < a0.tmps.size) (hdd : ∀ i ∈ ks, ∀ j ∈ ks, dstOf ops i = dstOf ops j → i = j) (hn : ks.Nodup)
    (hop : ∀ i ∈ ks, i ∉ ps → ∀ (a : Act) (w : World) (K : Act → World → Prop), StabIn ops ks R S Φ a0 w0 (fun j => Region.waitsFor md ops i j = true) a w → (∀ v w', R w w' → S w' → Φ i v w' → K (a.put (dstOf ops i) v) w') → wpOp P ops Q i K a w)
    (hpu : ∀ i ∈ ks, i ∈ ps → ∀ (a : Act) (w : World), StabIn ops ks R S Φ a0 w0 (fun j => Region.waitsFor md ops i j = true) a w → ∃ o v, ops[i]? = some o ∧ YieldsIf P ops (fun _ => True) o v a ∧ Φ i v w)
    (hend : ∀ (a : Act) (w : World), StabIn ops ks R S Φ a0 w0 (fun _ => True) a w → wpList P ops Q (opsAt ops tl) a w) :
    ∀ (n : Nat) (L : Array Bool) (a : Act) (w : World), L.size = ops.size → (ks.filter fun i => !L.getD i false).length = n → expL md ops ps ks tl n L = true → StabIn ops ks R S Φ a0 w0 (fun j => L.getD j false = true) a w →
      wpAny P md ops Q (n + tl.length) L a w
  | 0, L, a, w, hsz, hc, hB, hI => by
    have hall : ∀ i ∈ ks, L.getD i false = true := fun i hi => by
      have h0 := List.eq_nil_of_length_eq_zero hc
      have := List.filter_eq_nil_iff.1 h0 i hi
      simpa using this
    rw [Nat.zero_add]
    exact wpAny_of_seqL tl L a w hB (hend a w ⟨hI.world, hI.hold, hI.size, hI.defers, hI.out, fun i hi _ => hI.val i hi (hall i hi)⟩)
  | n + 1, L, a, w, hsz, hc, hB, hI => by
    rw [show n + 1 + tl.length = (n + tl.length) + 1 by omega]
    have step : ∀ i, i ∈ Region.ready md ops L → i ∈ ks → expL md ops ps ks tl n (L.setIfInBounds i true) = true → ∀ v w', R w w' → S w' → Φ i v w' →
        wpAny P md ops Q (n + tl.length) (L.setIfInBounds i true) (a.put (dstOf ops i) v) w' := fun i hi hik hBi v w' hR hS' hΦ => by
      obtain ⟨hu, oi, hoi, hafter⟩ := mem_ready.1 hi
      have hisz : i < L.size := by rw [hsz]; exact (Array.getElem?_eq_some_iff.1 hoi).1
      obtain ⟨d, hd, hdsz⟩ := hdst i hik
      have hset : ∀ j, j ≠ i → (L.setIfInBounds i true).getD j false = L.getD j false := fun j hj => getD_set_ne false (Ne.symm hj)
      have hseti : (L.setIfInBounds i true).getD i false = true := by simp [hisz]
      refine wpAny_exp hsel hQ hRr hRt hst hdst hdd hn hop hpu hend n _ _ w' (by simpa using hsz) ?_ hBi ⟨hRt _ _ _ hI.world hR, hS', ?_, ?_, fun t ht => ?_, fun j hj hl dj hdj => ?_⟩
      · have hc' := filter_one hn (p := fun i => !L.getD i false) (q := fun j => !(L.setIfInBounds i true).getD j false) hik (by simp [getD_both hu]) (by simp [hseti]) (fun j _ hne => by simp only [hset j hne])
        omega
      · rw [hd]
        simp [Act.put, hI.size]
      · rw [hd]
        simp [Act.put, hI.defers]
      · have hne : d ≠ t := fun e => ht i hik (by rw [hd, e])
        rw [hd]
        simp only [Act.put]
        rw [Array.getElem?_setIfInBounds_ne hne]
        exact hI.out t ht
      · by_cases hji : j = i
        · subst hji
          obtain rfl : d = dj := Option.some.inj (hd.symm.trans hdj)
          refine ⟨v, ?_, hΦ⟩
          rw [hd]
          simp [Act.put, hI.size, hdsz]
        · have hne : d ≠ dj := fun e => hji (hdd j hj i hik (by rw [hd, hdj, e]))
          rw [hset j hji] at hl
          obtain ⟨u, h1, h2⟩ := hI.val j hj hl dj hdj
          refine ⟨u, ?_, hst _ _ _ _ h2 hR⟩
          rw [hd]
          simp only [Act.put]
          rw [Array.getElem?_setIfInBounds_ne hne]
          exact h1
    have pre : ∀ i, i ∈ Region.ready md ops L → StabIn ops ks R S Φ a0 w0 (fun j => Region.waitsFor md ops i j = true) a w := fun i hi => by
      obtain ⟨hu, oi, hoi, hafter⟩ := mem_ready.1 hi
      refine ⟨hI.world, hI.hold, hI.size, hI.defers, hI.out, fun j hj hw => hI.val j hj ?_⟩
      obtain ⟨o', ho', e, he, hb, hon⟩ := Region.waitsFor_spec hw
      obtain rfl : o' = oi := Option.some.inj (ho'.symm.trans hoi)
      rw [← hon]
      exact hafter e he hb
    unfold expL at hB
    cases hf : ps.find? (fun k => (Region.ready md ops L).contains k) with
    | some k =>
      rw [hf] at hB
      simp only [Bool.and_eq_true] at hB
      obtain ⟨⟨hk, hfr⟩, hB⟩ := hB
      have hks : k ∈ ks := by simpa using hk
      have hkr : k ∈ Region.ready md ops L := by
        have := List.find?_some hf
        simpa using this
      have hkp := List.mem_of_find?_eq_some hf
      obtain ⟨o, v, ho, hy, hΦ⟩ := hpu k hks hkp a w (pre k hkr)
      refine wpAny_first ho (Region.noSelect_spec hsel) hQ _ L a w (Region.free_spec ho hfr) hkr hy ?_
      have := step k hkr hks hB v w (hRr _) hI.hold hΦ
      rw [show dstOf ops k = o.dst by unfold dstOf; rw [ho]; rfl] at this
      exact this
    | none =>
      rw [hf] at hB
      simp only [Bool.and_eq_true, List.all_eq_true, Bool.not_eq_true', List.isEmpty_eq_false_iff] at hB
      obtain ⟨hne, hB⟩ := hB
      refine ⟨fun h => absurd h hne, fun i hi => ?_⟩
      obtain ⟨hk, hBi⟩ := hB i hi
      have hks : i ∈ ks := by simpa using hk
      have hnp : i ∉ ps := fun hp => by
        have := List.find?_eq_none.1 hf i hp
        simp at this
        exact this hi
      exact hop i hks hnp a w _ (pre i hi) fun v w' hR hS' hΦ => step i hi hks hBi v w' hR hS' hΦ

def expB (ops : Array Oper) (ps ks tl : List Nat) : Bool :=
  Region.noSelect ops && decide (ks.length + tl.length = ops.size) && expL .any ops ps ks tl ks.length (Array.replicate ops.size false) && decide (ks.Nodup) && (ks.all fun i => decide (i < ops.size)) && (ks.all fun i => ks.all fun j => dstOf ops i != dstOf ops j || i == j) && (ks.all fun i => (dstOf ops i).isSome)

/-- What is to be shown of one pure operation. -/
def pureOp (P : Program) (ops : Array Oper) (kd : List (Nat × Tmp)) (R : World → World → Prop) (S : World → Prop) (Φ : Nat → Value → World → Prop) (a0 : Act) (w0 : World) (i : Nat) : Prop :=
  ∀ (a : Act) (w : World), StabAt kd R S Φ a0 w0 (fun j => Region.waitsFor .any ops i j = true) a w → ∃ o v, ops[i]? = some o ∧ YieldsIf P ops (fun _ => True) o v a ∧ Φ i v w
/-- What is left. -/
structure ExpGo (P : Program) (ops : Array Oper) (Q : Exit → Act → World → Prop) (ps : List Nat) (kd : List (Nat × Tmp)) (tl : List Nat) (R : World → World → Prop) (S : World → Prop) (Φ : Nat → Value → World → Prop) (w0 : World) (a0 : Act) : Prop where
  sz : ∀ x ∈ kd, x.2 < a0.tmps.size
  op : ∀ x ∈ kd, x.1 ∉ ps → stabOp P ops (NoPanic Q) kd R S Φ a0 w0 x.1 x.2
  pu : ∀ i ∈ ps, pureOp P ops kd R S Φ a0 w0 i
  fin : ∀ (vs : Nat → Value) (w' : World), R w0 w' → S w' → (∀ x ∈ kd, Φ x.1 (vs x.1) w') → wpList P ops (NoPanic Q) (opsAt ops tl) (putD vs kd a0) w'

/-- ps: what is pure (a part of kd), taken first; kd: all but the tail, in any order, each with its property Φ, which stands while R goes on; tl: what writes, one by one. -/
theorem wp_region_exp {id : Nat} {a : Act} {w : World} {l : List Oper} (S : World → Prop) (R : World → World → Prop) (Φ : Nat → Value → World → Prop) (ps : List Nat) (kd : List (Nat × Tmp)) (tl : List Nat) (hm : P.follows .mixedOrders = true) (hB : expB l.toArray ps (kd.map (·.1)) tl = true) (hkd : (kd.all fun x => dstOf l.toArray x.1 == some x.2) = true)
    (hRr : ∀ a, R a a) (hRt : ∀ a b c, R a b → R b c → R a c) (hst : ∀ i v w w', Φ i v w → R w w' → Φ i v w') (hS : S w.drew)
    (h : ExpGo P l.toArray Q ps kd tl R S Φ w.drew a) : (Code.region id l.toArray true).wp P Q a w := by
  refine wp_region_noPanic ?_
  have hkd' : ∀ x ∈ kd, dstOf l.toArray x.1 = some x.2 := fun x hx => by
    have := List.all_eq_true.1 hkd x hx
    simpa using this
  obtain ⟨ks, hks⟩ : ∃ ks, ks = kd.map (·.1) := ⟨_, rfl⟩
  rw [← hks] at hB
  have hin : ∀ i ∈ ks, ∃ d, (i, d) ∈ kd ∧ dstOf l.toArray i = some d := fun i hi => by
    rw [hks] at hi
    obtain ⟨x, hx, rfl⟩ := List.mem_map.1 hi
    exact ⟨x.2, hx, hkd' x hx⟩
  have hto : ∀ x ∈ kd, x.1 ∈ ks := fun x hx => by rw [hks]; exact List.mem_map_of_mem (f := (·.1)) hx
  simp only [expB, Bool.and_eq_true, decide_eq_true_eq] at hB
  obtain ⟨⟨⟨⟨⟨⟨hsel, hn⟩, hx⟩, hnd⟩, hlt⟩, hdd⟩, hsome⟩ := hB
  refine wp_region_any hm ?_
  have hdd' : ∀ i ∈ ks, ∀ j ∈ ks, dstOf l.toArray i = dstOf l.toArray j → i = j := fun i hi j hj e => by
    have := List.all_eq_true.1 (List.all_eq_true.1 hdd i hi) j hj
    rw [e] at this
    simpa using this
  obtain ⟨hsz', hop', hpu', hend'⟩ := h
  have hsz : ∀ i ∈ ks, ∀ d, dstOf l.toArray i = some d → d < a.tmps.size := fun i hi d hd => by
    obtain ⟨d', h1, h2⟩ := hin i hi
    obtain rfl : d' = d := Option.some.inj (h2.symm.trans hd)
    exact hsz' _ h1
  have hdst : ∀ i ∈ ks, ∃ d, dstOf l.toArray i = some d ∧ d < a.tmps.size := fun i hi => by
    have := List.all_eq_true.1 hsome i hi
    obtain ⟨d, hd⟩ := Option.isSome_iff_exists.1 this
    exact ⟨d, hd, hsz i hi d hd⟩
  have conv : ∀ (pre : Nat → Prop) (a' : Act) (w' : World), StabIn l.toArray ks R S Φ a w.drew pre a' w' → StabAt kd R S Φ a w.drew pre a' w' := fun pre a' w' hI => by
    refine ⟨hI.world, hI.hold, fun t v h0 ht => ?_, fun x hx hp => hI.val x.1 (hto x hx) hp x.2 (hkd' x hx)⟩
    refine (hI.out t fun j hj e => ?_).trans h0
    obtain ⟨d', h3, h4⟩ := hin j hj
    obtain rfl : d' = t := Option.some.inj (h4.symm.trans e)
    have := List.all_eq_true.1 ht _ h3
    simp at this
  have h0 : ∀ j, (Array.replicate l.toArray.size false).getD j false = false := fun j => by
    simp only [Array.getD_eq_getD_getElem?, Array.getElem?_replicate]
    split <;> rfl
  have H := wpAny_exp (P := P) (S := S) (Q := NoPanic Q) (md := .any) (ops := l.toArray) (ps := ps) (ks := ks) (tl := tl) (a0 := a) (w0 := w.drew) hsel (fun _ _ _ _ _ h => h) hRr hRt hst hdst hdd' hnd
    (fun i hi hnp a' w' K hI hK => by
      obtain ⟨d, h1, h2⟩ := hin i hi
      refine hop' _ h1 hnp a' w' K (conv _ _ _ hI) fun v w'' g1 g2 g3 => ?_
      have := hK v w'' g1 g2 g3
      rw [h2] at this
      exact this)
    (fun i hi hp a' w' hI => hpu' i hp a' w' (conv _ _ _ hI))
    (fun a' w' hI => by
      have e : a' = putK l.toArray (fun i => a'.eval (.tmp ((dstOf l.toArray i).getD 0))) ks a := by
        have h1 : a'.tmps = (putK l.toArray (fun i => a'.eval (.tmp ((dstOf l.toArray i).getD 0))) ks a).tmps := by
          apply Array.ext_getElem?
          intro t
          by_cases hin : ∃ i ∈ ks, dstOf l.toArray i = some t
          · obtain ⟨i, hi, hd⟩ := hin
            have ht : t < a.tmps.size := hsz i hi t hd
            rw [putK_in _ t i ks a hi hd ht fun j hj e => hdd' j hj i hi e]
            simp only [hd, Option.getD_some]
            have ht' : t < a'.tmps.size := by rw [hI.size]; exact ht
            simp [Act.eval, ht']
          · have hno : ∀ i ∈ ks, dstOf l.toArray i ≠ some t := fun i hi e => hin ⟨i, hi, e⟩
            rw [putK_out _ t ks a hno]
            exact hI.out t hno
        have h2 : a'.defers = (putK l.toArray (fun i => a'.eval (.tmp ((dstOf l.toArray i).getD 0))) ks a).defers := by rw [putK_defers]; exact hI.defers
        revert h1 h2
        generalize putK l.toArray (fun i => a'.eval (.tmp ((dstOf l.toArray i).getD 0))) ks a = b
        intro h1 h2
        cases a'
        cases b
        simp only at h1 h2
        rw [h1, h2]
      rw [e, hks, putD_eq _ kd a hkd']
      refine hend' _ w' hI.world hI.hold fun x hx => ?_
      obtain ⟨u, h1, h2⟩ := hI.val x.1 (hto x hx) trivial x.2 (hkd' x hx)
      simp only [hkd' x hx, Option.getD_some, Act.eval, Array.getD_eq_getD_getElem?, h1]
      exact h2)
    ks.length (Array.replicate l.toArray.size false) a w.drew (by simp) (by
      congr 1
      rw [List.filter_eq_self]
      intro i hi
      rw [h0]
      rfl) hx ⟨hRr _, hS, rfl, rfl, fun _ _ => rfl, fun i hi hl => by rw [h0] at hl; cases hl⟩
  rw [hn] at H
  exact H

def fexpL (md : Region.Mode) (ops : Array Oper) (ps ks tl : List Nat) : List Nat → Array Bool → Bool
  | [], L => expL md ops ps ks tl ks.length L && (ks.all fun i => !L.getD i false)
  | k :: r, L => (Region.ready md ops L).contains k && Region.free md ops L k && fexpL md ops ps ks tl r (L.setIfInBounds k true)
def fexpB (ops : Array Oper) (fl ps ks tl : List Nat) : Bool :=
  Region.noSelect ops && decide (fl.length + (ks.length + tl.length) = ops.size) && fexpL .any ops ps ks tl fl (Array.replicate ops.size false) && decide (ks.Nodup) && (ks.all fun i => decide (i < ops.size)) && (ks.all fun i => ks.all fun j => dstOf ops i != dstOf ops j || i == j) && (ks.all fun i => (dstOf ops i).isSome)

theorem wpAny_fexp {ps ks tl : List Nat} {G : Act → Prop} {n : Nat} {w : World} (hsel : Region.noSelect ops = true) (hQ : ∀ c a d v w, Q (.panic c) (a.put d v) w → Q (.panic c) a w)
    (hend : ∀ (L : Array Bool) (a : Act), L.size = ops.size → expL md ops ps ks tl ks.length L = true → (∀ i ∈ ks, L.getD i false = false) → G a → wpAny P md ops Q n L a w) :
    ∀ (fl : List Nat) (L : Array Bool) (a : Act), L.size = ops.size → fexpL md ops ps ks tl fl L = true → wpFloat P ops G (opsAt ops fl) a → wpAny P md ops Q (fl.length + n) L a w
  | [], L, a, hs, hB, h => by
    simp only [fexpL, Bool.and_eq_true, List.all_eq_true, Bool.not_eq_true'] at hB
    rw [List.length_nil, Nat.zero_add]
    exact hend L a hs hB.1 hB.2 h
  | k :: fl, L, a, hs, hB, h => by
    simp only [fexpL, Bool.and_eq_true] at hB
    obtain ⟨⟨hr, hf⟩, hB⟩ := hB
    have hr' : k ∈ Region.ready md ops L := by simpa using hr
    obtain ⟨o, h0⟩ := ready_lt hr'
    have e : opsAt ops (k :: fl) = o :: opsAt ops fl := by simp [opsAt, h0]
    rw [e] at h
    obtain ⟨v, hy, hK⟩ := h
    rw [List.length_cons, show fl.length + 1 + n = (fl.length + n) + 1 by omega]
    exact wpAny_first h0 (Region.noSelect_spec hsel) hQ _ L a w (Region.free_spec h0 hf) hr' (hy.imp (fun h => ⟨h.1, fun w _ => h.2 w⟩) id) (wpAny_fexp hsel hQ hend fl _ _ (by simpa using hs) hB hK)

/-- fl: pure operations, taken first, with their values; ps: what else is pure (a part of kd), taken as soon as it can come; kd: all but the tail, in any order, each with its property Φ, which stands while R goes on; tl: what writes, one by one. -/
theorem wp_region_fexp {id : Nat} {a : Act} {w : World} {l : List Oper} (S : World → Prop) (R : World → World → Prop) (Φ : Nat → Value → World → Prop) (fl ps : List Nat) (kd : List (Nat × Tmp)) (tl : List Nat) (hm : P.follows .mixedOrders = true) (hB : fexpB l.toArray fl ps (kd.map (·.1)) tl = true) (hkd : (kd.all fun x => dstOf l.toArray x.1 == some x.2) = true)
    (hRr : ∀ a, R a a) (hRt : ∀ a b c, R a b → R b c → R a c) (hst : ∀ i v w w', Φ i v w → R w w' → Φ i v w') (hS : S w.drew)
    (h : wpFloat P l.toArray (ExpGo P l.toArray Q ps kd tl R S Φ w.drew) (opsAt l.toArray fl) a) : (Code.region id l.toArray true).wp P Q a w := by
  refine wp_region_noPanic ?_
  have hkd' : ∀ x ∈ kd, dstOf l.toArray x.1 = some x.2 := fun x hx => by
    have := List.all_eq_true.1 hkd x hx
    simpa using this
  obtain ⟨ks, hks⟩ : ∃ ks, ks = kd.map (·.1) := ⟨_, rfl⟩
  rw [← hks] at hB
  have hin : ∀ i ∈ ks, ∃ d, (i, d) ∈ kd ∧ dstOf l.toArray i = some d := fun i hi => by
    rw [hks] at hi
    obtain ⟨x, hx, rfl⟩ := List.mem_map.1 hi
    exact ⟨x.2, hx, hkd' x hx⟩
  have hto : ∀ x ∈ kd, x.1 ∈ ks := fun x hx => by rw [hks]; exact List.mem_map_of_mem (f := (·.1)) hx
  simp only [fexpB, Bool.and_eq_true, decide_eq_true_eq] at hB
  obtain ⟨⟨⟨⟨⟨⟨hsel, hn⟩, hx⟩, hnd⟩, hlt⟩, hdd⟩, hsome⟩ := hB
  refine wp_region_any hm ?_
  have hdd' : ∀ i ∈ ks, ∀ j ∈ ks, dstOf l.toArray i = dstOf l.toArray j → i = j := fun i hi j hj e => by
    have := List.all_eq_true.1 (List.all_eq_true.1 hdd i hi) j hj
    rw [e] at this
    simpa using this
  have H := wpAny_fexp (P := P) (Q := NoPanic Q) (md := .any) (ops := l.toArray) (ps := ps) (ks := ks) (tl := tl) (n := ks.length + tl.length) (w := w.drew) hsel (fun _ _ _ _ _ h => h) (fun L a hLs hLB hLk h => ?_) fl _ a (by simp) hx h
  · rw [hn] at H
    exact H
  obtain ⟨hsz', hop', hpu', hend'⟩ := h
  have hsz : ∀ i ∈ ks, ∀ d, dstOf l.toArray i = some d → d < a.tmps.size := fun i hi d hd => by
    obtain ⟨d', h1, h2⟩ := hin i hi
    obtain rfl : d' = d := Option.some.inj (h2.symm.trans hd)
    exact hsz' _ h1
  have hdst : ∀ i ∈ ks, ∃ d, dstOf l.toArray i = some d ∧ d < a.tmps.size := fun i hi => by
    have := List.all_eq_true.1 hsome i hi
    obtain ⟨d, hd⟩ := Option.isSome_iff_exists.1 this
    exact ⟨d, hd, hsz i hi d hd⟩
  have conv : ∀ (pre : Nat → Prop) (a' : Act) (w' : World), StabIn l.toArray ks R S Φ a w.drew pre a' w' → StabAt kd R S Φ a w.drew pre a' w' := fun pre a' w' hI => by
    refine ⟨hI.world, hI.hold, fun t v h0 ht => ?_, fun x hx hp => hI.val x.1 (hto x hx) hp x.2 (hkd' x hx)⟩
    refine (hI.out t fun j hj e => ?_).trans h0
    obtain ⟨d', h3, h4⟩ := hin j hj
    obtain rfl : d' = t := Option.some.inj (h4.symm.trans e)
    have := List.all_eq_true.1 ht _ h3
    simp at this
  have H := wpAny_exp (P := P) (S := S) (Q := NoPanic Q) (md := .any) (ops := l.toArray) (ps := ps) (ks := ks) (tl := tl) (a0 := a) (w0 := w.drew) hsel (fun _ _ _ _ _ h => h) hRr hRt hst hdst hdd' hnd
    (fun i hi hnp a' w' K hI hK => by
      obtain ⟨d, h1, h2⟩ := hin i hi
      refine hop' _ h1 hnp a' w' K (conv _ _ _ hI) fun v w'' g1 g2 g3 => ?_
      have := hK v w'' g1 g2 g3
      rw [h2] at this
      exact this)
    (fun i hi hp a' w' hI => hpu' i hp a' w' (conv _ _ _ hI))
    (fun a' w' hI => by
      have e : a' = putK l.toArray (fun i => a'.eval (.tmp ((dstOf l.toArray i).getD 0))) ks a := by
        have h1 : a'.tmps = (putK l.toArray (fun i => a'.eval (.tmp ((dstOf l.toArray i).getD 0))) ks a).tmps := by
          apply Array.ext_getElem?
          intro t
          by_cases hin : ∃ i ∈ ks, dstOf l.toArray i = some t
          · obtain ⟨i, hi, hd⟩ := hin
            have ht : t < a.tmps.size := hsz i hi t hd
            rw [putK_in _ t i ks a hi hd ht fun j hj e => hdd' j hj i hi e]
            simp only [hd, Option.getD_some]
            have ht' : t < a'.tmps.size := by rw [hI.size]; exact ht
            simp [Act.eval, ht']
          · have hno : ∀ i ∈ ks, dstOf l.toArray i ≠ some t := fun i hi e => hin ⟨i, hi, e⟩
            rw [putK_out _ t ks a hno]
            exact hI.out t hno
        have h2 : a'.defers = (putK l.toArray (fun i => a'.eval (.tmp ((dstOf l.toArray i).getD 0))) ks a).defers := by rw [putK_defers]; exact hI.defers
        revert h1 h2
        generalize putK l.toArray (fun i => a'.eval (.tmp ((dstOf l.toArray i).getD 0))) ks a = b
        intro h1 h2
        cases a'
        cases b
        simp only at h1 h2
        rw [h1, h2]
      rw [e, hks, putD_eq _ kd a hkd']
      refine hend' _ w' hI.world hI.hold fun x hx => ?_
      obtain ⟨u, h1, h2⟩ := hI.val x.1 (hto x hx) trivial x.2 (hkd' x hx)
      simp only [hkd' x hx, Option.getD_some, Act.eval, Array.getD_eq_getD_getElem?, h1]
      exact h2)
    ks.length L a w.drew hLs (by
      congr 1
      rw [List.filter_eq_self]
      intro i hi
      rw [hLk i hi]
      rfl) hLB ⟨hRr _, hS, rfl, rfl, fun _ _ => rfl, fun i hi hl => by rw [hLk i hi] at hl; cases hl⟩
  exact H

theorem eval_tmp {a : Act} {t : Tmp} {v : Value} (h : a.tmps[t]? = some v) : a.eval (.tmp t) = v := by
  simp [Act.eval, Array.getD_eq_getD_getElem?, h]
/-- A pure operation yields v. -/
theorem pu_go {i : Nat} {o : Oper} {a : Act} {w : World} {Φ : Nat → Value → World → Prop} (v : Value) (h0 : ops[i]? = some o) (hw : Region.wanted o (yielded ops a.tmps) = true) (hy : ∀ w, (execOp a.eval o).run P w = .ok (.value v) w) (hΦ : Φ i v w) : ∃ o v, ops[i]? = some o ∧ YieldsIf P ops (fun _ => True) o v a ∧ Φ i v w :=
  ⟨o, v, h0, .inl ⟨hw, fun w _ => hy w⟩, hΦ⟩
theorem pu_pass {i : Nat} {o : Oper} {a : Act} {w : World} {Φ : Nat → Value → World → Prop} (h0 : ops[i]? = some o) (hw : Region.wanted o (yielded ops a.tmps) = false) (hΦ : Φ i undef w) : ∃ o v, ops[i]? = some o ∧ YieldsIf P ops (fun _ => True) o v a ∧ Φ i v w :=
  ⟨o, undef, h0, .inr ⟨hw, rfl⟩, hΦ⟩
end
end Go.Proofs.Ytlgdminpkkhejaa
