/-
  A region that draws its order: first what yields under S, or what alone can come, one by one; then what may come in any order (each with its property); then what writes.
  Conditions: the Bool over the region ('mstabB'), which the kernel reckons; the properties stand when the world goes on.
-/
import Derived.Test.YtkggmckfdkpldaaDoorBtwk
import Derived.Test.YtkggmckfdkpldaaDoorBstab
namespace Go.Proofs.YtkggmckfdkpldaaDoor
open Go Go.Sort Go.RowKit

section
variable {P : Program} {ops : Array Oper} {md : Region.Mode} {S : World → Prop} {Q : Exit → Act → World → Prop}

def mixG (md : Region.Mode) (ops : Array Oper) (hd : List Nat) (fin : Array Bool → Bool) : List (Bool × Nat) → Array Bool → Bool
  | [], listed => fin listed
  | (true, k) :: r, listed => hd.contains k && (Region.ready md ops listed).contains k && Region.free md ops listed k && mixG md ops hd fin r (listed.setIfInBounds k true)
  | (false, k) :: r, listed => decide (Region.ready md ops listed = [k]) && hd.contains k && mixG md ops hd fin r (listed.setIfInBounds k true)

theorem wpHs_mixG {hd tl : List Nat} {n : Nat} {fin : Array Bool → Bool} {G : Act → World → Prop} {K : Act → World → Prop} (hsel : Region.noSelect ops = true) (hQ : ∀ c a d v w, Q (.panic c) (a.put d v) w → Q (.panic c) a w)
    (hfin : ∀ listed a w, S w → fin listed = true → G a w → wpHs P md ops Q S hd (fun listed' a' w' => seqL md ops hd tl listed' = true ∧ K a' w') n listed a w) :
    ∀ (l : List (Bool × Nat)) (listed : Array Bool) (a : Act) (w : World), Heads md ops hd tl listed → S w → mixG md ops hd fin l listed = true → wpMix P ops Q S G (mixAt ops l) a w →
    wpHs P md ops Q S hd (fun listed' a' w' => seqL md ops hd tl listed' = true ∧ K a' w') (l.length + n) listed a w
  | [], listed, a, w, _, hS, hB, h => by
    rw [List.length_nil, Nat.zero_add]
    exact hfin listed a w hS hB h
  | (true, k) :: l, listed, a, w, inv, hS, hB, h => by
    simp only [mixG, Bool.and_eq_true] at hB
    obtain ⟨⟨⟨hk, hr⟩, hf⟩, hB'⟩ := hB
    have hr' : k ∈ Region.ready md ops listed := by simpa using hr
    obtain ⟨o, h0⟩ := ready_lt hr'
    have e : mixAt ops ((true, k) :: l) = (true, o) :: mixAt ops l := by simp [mixAt, h0]
    rw [e] at h
    obtain ⟨v, hy, hK⟩ := h
    rw [List.length_cons, show l.length + 1 + n = (l.length + n) + 1 by omega]
    exact wpHs_first h0 (Region.noSelect_spec hsel) hQ (by simpa using hk) (fun listed' a' w' hL => seqL_ready hL.1) (l.length + n) listed a w inv (Region.free_spec h0 hf) hr' hy hS
      (wpHs_mixG hsel hQ hfin l _ _ w (inv.set hr') hS hB' hK)
  | (false, k) :: l, listed, a, w, inv, hS, hB, h => by
    simp only [mixG, Bool.and_eq_true, decide_eq_true_eq] at hB
    obtain ⟨⟨hr, hk⟩, hB⟩ := hB
    rw [List.length_cons, show l.length + 1 + n = (l.length + n) + 1 by omega]
    refine ⟨fun h1 => (by rw [hr] at h1; cases h1), fun i hi => ?_⟩
    have hi0 := hi
    obtain ⟨o, h0⟩ := ready_lt hi
    rw [hr] at hi
    have hik : i = k := by simpa using hi
    subst hik
    have e : mixAt ops ((false, i) :: l) = (false, o) :: mixAt ops l := by simp [mixAt, h0]
    rw [e] at h
    refine ⟨by simpa using hk, ?_⟩
    have hw : wpOp P ops Q i (fun a' w' => S w' ∧ wpMix P ops Q S G (mixAt ops l) a' w') a w := by
      unfold wpOp
      simp only [h0, h.1, if_true]
      exact .inl h.2
    exact wpOp_mono (fun a' w' h' => ⟨h'.1, wpHs_mixG hsel hQ hfin l _ a' w' (inv.set hi0) h'.1 hB h'.2⟩) hw

def mstabH (md : Region.Mode) (ops : Array Oper) (ms : List (Bool × Nat)) (ks tl : List Nat) (listed : Array Bool) : Bool :=
  closedB md ops listed && ((List.range ops.size).all fun j => listed.getD j true || (ms.map (·.2) ++ ks).contains j || tl.contains j) && (tl.all fun t => (ms.map (·.2) ++ ks).all fun i => waitsStar md ops ops.size t i) && mixG md ops (ms.map (·.2) ++ ks) (fun l => decide (l = lstAt ops.size (ms.map (·.2)))) ms listed
def mstabB (ops : Array Oper) (ms : List (Bool × Nat)) (ks tl : List Nat) : Bool :=
  Region.noSelect ops && decide (((ms.map (·.2)).length + ks.length) + tl.length = ops.size) && mstabH .any ops ms ks tl (Array.replicate ops.size false) && closedB .any ops (lstAt ops.size (ms.map (·.2))) && topoB .any ops (ms.map (·.2)) ks && seqL .any ops (ms.map (·.2) ++ ks) tl (lstAt ops.size (ms.map (·.2) ++ ks)) &&
    ((ms.map (·.2) ++ ks).all fun i => decide (i < ops.size)) && decide (ks.Nodup) && ((ms.map (·.2)).all fun i => !ks.contains i) && (ks.all fun i => ks.all fun j => dstOf ops i != dstOf ops j || i == j) && (ks.all fun i => (dstOf ops i).isSome)

/-- ms: one by one, what yields under S (true), or the only one that can come (false), S behind each; kd: what may come in any order: each has its property Φ, which stands while R goes on; tl: what writes, one by one. -/
theorem wp_region_mstab {id : Nat} {a : Act} {w : World} {l : List Oper} (S : World → Prop) (R : World → World → Prop) (Φ : Nat → Value → World → Prop) (ms : List (Bool × Nat)) (kd : List (Nat × Tmp)) (tl : List Nat) (hm : P.follows .mixedOrders = true) (hB : mstabB l.toArray ms (kd.map (·.1)) tl = true) (hkd : (kd.all fun x => dstOf l.toArray x.1 == some x.2) = true)
    (hRr : ∀ a, R a a) (hRt : ∀ a b c, R a b → R b c → R a c) (hst : ∀ i v w w', Φ i v w → R w w' → Φ i v w') (hS : S w.drew)
    (h : wpMix P l.toArray (NoPanic Q) S (fun a' w' => StabGo P l.toArray Q kd tl R S Φ w' a') (mixAt l.toArray ms) a w.drew) : (Code.region id l.toArray true).wp P Q a w := by
  refine wp_region_noPanic ?_
  have hkd' : ∀ x ∈ kd, dstOf l.toArray x.1 = some x.2 := fun x hx => by
    have := List.all_eq_true.1 hkd x hx
    simpa using this
  obtain ⟨ks, hks⟩ : ∃ ks, ks = kd.map (·.1) := ⟨_, rfl⟩
  rw [← hks] at hB
  have hin : ∀ i ∈ ks, ∃ d, (i, d) ∈ kd ∧ dstOf l.toArray i = some d := fun i hi => by
    rw [hks] at hi
    obtain ⟨x, hx, rfl⟩ := List.mem_map.1 hi
    exact ⟨x.2, hx, hkd' x hx⟩
  have hto : ∀ x ∈ kd, x.1 ∈ ks := fun x hx => by rw [hks]; exact List.mem_map_of_mem (f := (·.1)) hx
  simp only [mstabB, mstabH, Bool.and_eq_true, decide_eq_true_eq] at hB
  have hml : ms.length = (ms.map (·.2)).length := by simp
  generalize hls : ms.map (·.2) = ls at *
  obtain ⟨⟨⟨⟨⟨⟨⟨⟨⟨⟨hsel, hn⟩, ⟨⟨⟨hc, hv⟩, hl⟩, hx⟩⟩, hc2⟩, htopo⟩, hseq⟩, hlt⟩, hnd⟩, hdis⟩, hdd⟩, hsome⟩ := hB
  refine wp_region_any hm ?_
  have hv' : ∀ j, j < l.toArray.size → j ∈ ls ++ ks ∨ j ∈ tl := fun j hj => by
    have := List.all_eq_true.1 hv j (List.mem_range.2 hj)
    have h0 : (Array.replicate l.toArray.size false).getD j true = false := by
      have : j < l.length := by simpa using hj
      simp [this]
    simp only [h0, Bool.false_or, Bool.or_eq_true, List.contains_iff_mem] at this
    exact this
  have hl' : ∀ t ∈ tl, ∀ i ∈ ls ++ ks, waitsStar .any l.toArray l.toArray.size t i = true := fun t ht i hi => List.all_eq_true.1 (List.all_eq_true.1 hl t ht) i hi
  have inv : Heads .any l.toArray (ls ++ ks) tl (Array.replicate l.toArray.size false) := ⟨closed_of hc, fun j hj _ => hv' j hj, hl'⟩
  have hlt' : ∀ i ∈ ls ++ ks, i < l.toArray.size := fun i hi => of_decide_eq_true (List.all_eq_true.1 hlt i hi)
  have hdis' : ∀ i ∈ ls, i ∉ ks := fun i hi hk => by
    have := List.all_eq_true.1 hdis i hi
    simp [hk] at this
  have hdd' : ∀ i ∈ ks, ∀ j ∈ ks, dstOf l.toArray i = dstOf l.toArray j → i = j := fun i hi j hj e => by
    have := List.all_eq_true.1 (List.all_eq_true.1 hdd i hi) j hj
    rw [e] at this
    simpa using this
  have H := wpHs_mixG (P := P) (S := S) (Q := NoPanic Q) (n := ks.length) hsel (fun _ _ _ _ _ h => h) (fun listed a0 wS hS hf hg => by
    obtain rfl := of_decide_eq_true hf
    obtain ⟨hsz', hop', hend'⟩ := hg
    have hsz : ∀ i ∈ ks, ∀ d, dstOf l.toArray i = some d → d < a0.tmps.size := fun i hi d hd => by
      obtain ⟨d', h1, h2⟩ := hin i hi
      obtain rfl : d' = d := Option.some.inj (h2.symm.trans hd)
      exact hsz' _ h1
    have hdst : ∀ i ∈ ks, ∃ d, dstOf l.toArray i = some d ∧ d < a0.tmps.size := fun i hi => by
      have := List.all_eq_true.1 hsome i hi
      obtain ⟨d, hd⟩ := Option.isSome_iff_exists.1 this
      exact ⟨d, hd, hsz i hi d hd⟩
    have hget : ∀ j, j < l.toArray.size → (lstAt l.toArray.size ls).getD j false = decide (j ∈ ls) := fun j hj => by
      have := lstAt_get (is := ls) hj
      rw [Array.getD_eq_getD_getElem?, this]
      rfl
    refine wpHs_stab hRt hst hdst hdd' hnd hlt' htopo hseq (fun i hi a' w' K hI hK => ?_) (fun a' w' hI => ?_) ks.length _ a0 wS ⟨⟨closed_of hc2, fun j hj _ => hv' j hj, hl'⟩, lstAt_size _ _, fun i hi => ?_, fun t ht h1 _ => ?_, ?_⟩ ⟨hRr _, hS, rfl, rfl, fun _ _ => rfl, fun i hi hl => ?_⟩
    · obtain ⟨d, h1, h2⟩ := hin i hi
      refine hop' _ h1 a' w' K ⟨hI.world, hI.hold, fun t v h0 ht => ?_, fun x hx hp => hI.val x.1 (hto x hx) hp x.2 (hkd' x hx)⟩ fun v w'' g1 g2 g3 => ?_
      · refine (hI.out t fun j hj e => ?_).trans h0
        obtain ⟨d', h3, h4⟩ := hin j hj
        obtain rfl : d' = t := Option.some.inj (h4.symm.trans e)
        have := List.all_eq_true.1 ht _ h3
        simp at this
      · have := hK v w'' g1 g2 g3
        rw [h2] at this
        exact this
    · have e : a' = putK l.toArray (fun i => a'.eval (.tmp ((dstOf l.toArray i).getD 0))) ks a0 := by
        have h1 : a'.tmps = (putK l.toArray (fun i => a'.eval (.tmp ((dstOf l.toArray i).getD 0))) ks a0).tmps := by
          apply Array.ext_getElem?
          intro t
          by_cases hin : ∃ i ∈ ks, dstOf l.toArray i = some t
          · obtain ⟨i, hi, hd⟩ := hin
            have ht : t < a0.tmps.size := hsz i hi t hd
            rw [putK_in _ t i ks a0 hi hd ht fun j hj e => hdd' j hj i hi e]
            simp only [hd, Option.getD_some]
            have ht' : t < a'.tmps.size := by rw [hI.size]; exact ht
            simp [Act.eval, ht']
          · have hno : ∀ i ∈ ks, dstOf l.toArray i ≠ some t := fun i hi e => hin ⟨i, hi, e⟩
            rw [putK_out _ t ks a0 hno]
            exact hI.out t hno
        have h2 : a'.defers = (putK l.toArray (fun i => a'.eval (.tmp ((dstOf l.toArray i).getD 0))) ks a0).defers := by rw [putK_defers]; exact hI.defers
        revert h1 h2
        generalize putK l.toArray (fun i => a'.eval (.tmp ((dstOf l.toArray i).getD 0))) ks a0 = b
        intro h1 h2
        cases a'
        cases b
        simp only at h1 h2
        rw [h1, h2]
      rw [e, hks, putD_eq _ kd a0 hkd']
      refine hend' _ w' hI.world hI.hold fun x hx => ?_
      obtain ⟨u, h1, h2⟩ := hI.val x.1 (hto x hx) trivial x.2 (hkd' x hx)
      simp only [hkd' x hx, Option.getD_some, Act.eval, Array.getD_eq_getD_getElem?, h1]
      exact h2
    · rw [hget i (hlt' i (List.mem_append.2 (.inl hi)))]
      exact decide_eq_true hi
    · rw [hget t ht]
      exact decide_eq_false h1
    · congr 1
      rw [List.filter_eq_self]
      intro i hi
      rw [hget i (hlt' i (List.mem_append.2 (.inr hi)))]
      simp only [Bool.not_eq_true', decide_eq_false_iff_not]
      exact fun h => hdis' i h hi
    · rw [hget i (hlt' i (List.mem_append.2 (.inr hi)))] at hl
      exact absurd hi (hdis' i (of_decide_eq_true hl))) ms _ a w.drew inv hS hx h
  rw [hml] at H
  have := wpAny_of_wpHs (fun listed' a' w' hL => wpAny_of_seqL tl listed' a' w' hL.1 hL.2) (ls.length + ks.length) _ a w.drew H
  rw [hn] at this
  exact this

/-- A guard that stands open, or closed, by the value in its slot. -/
theorem wanted_open {o : Oper} {g : Nat} {b : Bool} {d : Tmp} {a : Act} (ho : o.guard = some (g, b)) (hd : dstOf ops g = some d) (h : a.tmps[d]? = some (.bool b)) : Region.wanted o (yielded ops a.tmps) = true := by
  have : yielded ops a.tmps g = some b := by
    unfold yielded
    unfold dstOf at hd
    rw [hd]
    simp [h]
  unfold Region.wanted
  rw [ho]
  simp [this]
theorem wanted_shut {o : Oper} {g : Nat} {b c : Bool} {d : Tmp} {a : Act} (ho : o.guard = some (g, b)) (hd : dstOf ops g = some d) (h : a.tmps[d]? = some (.bool c)) (hc : c ≠ b) : Region.wanted o (yielded ops a.tmps) = false := by
  have : yielded ops a.tmps g = some c := by
    unfold yielded
    unfold dstOf at hd
    rw [hd]
    simp [h]
  unfold Region.wanted
  rw [ho]
  simp [this, hc]
end
end Go.Proofs.YtkggmckfdkpldaaDoor
