/-
  identity.pairs, the plain part: what the map of shapes holds, and what is written.
  No condition beyond those of each theorem.
-/
import Derived.Test.YtmnhgkhidepojaaIdP
namespace Go.Proofs.Ytmnhgkhidepojaa
open Go.RowKit

/-- What is known of a shape. -/
structure Sd where
  items : Int
  olds : Int
  item : Int
  id : Int

def isN (s : List UInt8) (p : Int × It) : Bool := decide (p.1 = 0 ∧ p.2.sh = s)
def cz (zs : List (Int × It)) (s : List UInt8) : Nat := zs.countP (isN s)
def isO (s : List UInt8) (y : Idn) : Bool := decide (y.it.sh = s)
def co (old : List Idn) (s : List UInt8) : Nat := old.countP (isO s)
def gpid (zs : List (Int × It)) (old : List Idn) (s : List UInt8) : Int :=
  match old.filter (isO s) with
  | [y] => if cz zs s = 1 then y.id else 0
  | _ => 0

/-- The map of shapes behind k items and j identities. -/
def SdOk (zs : List (Int × It)) (old : List Idn) (k j : Nat) (s : List UInt8) (d : Sd) : Prop :=
  0 < cz (zs.take k) s ∧ d.items = cz (zs.take k) s ∧ d.olds = co (old.take j) s ∧ (∃ (i : Nat) (p : Int × It), i < k ∧ d.item = i ∧ zs[i]? = some p ∧ isN s p = true) ∧ (0 < co (old.take j) s → ∃ y ∈ old.take j, isO s y = true ∧ d.id = y.id)
def PInv (zs : List (Int × It)) (old : List Idn) (k j : Nat) (G : List UInt8 → Option Sd) : Prop := ∀ s, (G s = none → cz (zs.take k) s = 0) ∧ ∀ d, G s = some d → SdOk zs old k j s d

theorem PInv.start (zs : List (Int × It)) (old : List Idn) : PInv zs old 0 0 fun _ => none := fun s => ⟨fun _ => by simp [cz], fun d h => by cases h⟩

theorem cz_snoc (zs : List (Int × It)) (p : Int × It) (s : List UInt8) : cz (zs ++ [p]) s = cz zs s + if isN s p = true then 1 else 0 := by
  unfold cz
  rw [List.countP_append, List.countP_cons, List.countP_nil]
  simp
theorem co_snoc (zs : List Idn) (p : Idn) (s : List UInt8) : co (zs ++ [p]) s = co zs s + if isO s p = true then 1 else 0 := by
  unfold co
  rw [List.countP_append, List.countP_cons, List.countP_nil]
  simp
theorem take_snoc {α : Type} {l : List α} {k : Nat} {x : α} (h : l[k]? = some x) : l.take (k + 1) = l.take k ++ [x] := by rw [List.take_add_one, h]; rfl

/-- One more item: without a number it is counted; with one nothing turns. -/
theorem PInv.pass {zs : List (Int × It)} {old : List Idn} {k : Nat} {G : List UInt8 → Option Sd} {p : Int × It} (h : PInv zs old k 0 G) (hp : zs[k]? = some p) (h0 : p.1 ≠ 0) : PInv zs old (k + 1) 0 G := by
  intro s
  have hn : isN s p = false := by simp [isN, h0]
  have e : cz (zs.take (k + 1)) s = cz (zs.take k) s := by rw [take_snoc hp, cz_snoc, hn]; rfl
  refine ⟨fun hg => by rw [e]; exact (h s).1 hg, fun d hd => ?_⟩
  obtain ⟨h1, h2, h3, ⟨i, q, hi, h4⟩, h5⟩ := (h s).2 d hd
  exact ⟨by rw [e]; exact h1, by rw [e]; exact h2, h3, ⟨i, q, by omega, h4⟩, h5⟩
theorem PInv.item {zs : List (Int × It)} {old : List Idn} {k : Nat} {G : List UInt8 → Option Sd} {p : Int × It} (h : PInv zs old k 0 G) (hp : zs[k]? = some p) (h0 : p.1 = 0) (d0 : Sd) (hd0 : d0 = ((G p.2.sh).getD ⟨0, 0, 0, 0⟩)) :
    PInv zs old (k + 1) 0 fun s => if s = p.2.sh then some ⟨d0.items + 1, d0.olds, k, d0.id⟩ else G s := by
  intro s
  by_cases hs : s = p.2.sh
  · subst hs
    have hn : isN p.2.sh p = true := by simp [isN, h0]
    have e : cz (zs.take (k + 1)) p.2.sh = cz (zs.take k) p.2.sh + 1 := by rw [take_snoc hp, cz_snoc, hn]; rfl
    refine ⟨fun hg => by simp at hg, fun d hd => ?_⟩
    have hd := (if_pos rfl).symm.trans hd
    obtain rfl := Option.some.inj hd
    refine ⟨by omega, ?_, ?_, ⟨k, p, by omega, rfl, hp, hn⟩, fun hc => by simp [co] at hc⟩
    · rw [e]
      cases hg : G p.2.sh with
      | none => rw [hd0, hg, (h _).1 hg]; rfl
      | some dd =>
        rw [hd0, hg]
        have := ((h _).2 dd hg).2.1
        simp only [Option.getD_some]
        omega
    · cases hg : G p.2.sh with
      | none => rw [hd0, hg]; simp [co]
      | some dd =>
        rw [hd0, hg]
        exact ((h _).2 dd hg).2.2.1
  · have hn : isN s p = false := by simp [isN]; intro _; exact fun e => hs e.symm
    have e : cz (zs.take (k + 1)) s = cz (zs.take k) s := by rw [take_snoc hp, cz_snoc, hn]; rfl
    simp only [hs, if_false]
    refine ⟨fun hg => by rw [e]; exact (h s).1 hg, fun d hd => ?_⟩
    obtain ⟨h1, h2, h3, ⟨i, q, hi, h4⟩, h5⟩ := (h s).2 d hd
    exact ⟨by rw [e]; exact h1, by rw [e]; exact h2, h3, ⟨i, q, by omega, h4⟩, h5⟩
/-- One more identity. -/
theorem PInv.none {zs : List (Int × It)} {old : List Idn} {k j : Nat} {G : List UInt8 → Option Sd} {y : Idn} (h : PInv zs old k j G) (hy : old[j]? = some y) (hg : G y.it.sh = none) : PInv zs old k (j + 1) G := by
  intro s
  refine ⟨(h s).1, fun d hd => ?_⟩
  have hs : isO s y = false := by
    unfold isO
    rw [decide_eq_false_iff_not]
    intro e
    rw [← e, hg] at hd
    cases hd
  have e : co (old.take (j + 1)) s = co (old.take j) s := by rw [take_snoc hy, co_snoc, hs]; rfl
  obtain ⟨h1, h2, h3, h4, h5⟩ := (h s).2 d hd
  refine ⟨h1, h2, by rw [e]; exact h3, h4, fun hc => ?_⟩
  rw [e] at hc
  obtain ⟨z, hz, h6⟩ := h5 hc
  exact ⟨z, by rw [take_snoc hy]; simp [hz], h6⟩
theorem PInv.old {zs : List (Int × It)} {old : List Idn} {k j : Nat} {G : List UInt8 → Option Sd} {y : Idn} (h : PInv zs old k j G) (hy : old[j]? = some y) (d0 : Sd) (hg : G y.it.sh = some d0) :
    PInv zs old k (j + 1) fun s => if s = y.it.sh then some ⟨d0.items, d0.olds + 1, d0.item, y.id⟩ else G s := by
  intro s
  by_cases hs : s = y.it.sh
  · subst hs
    have ho : isO y.it.sh y = true := by simp [isO]
    have e : co (old.take (j + 1)) y.it.sh = co (old.take j) y.it.sh + 1 := by rw [take_snoc hy, co_snoc, ho]; rfl
    refine ⟨fun hg => by simp at hg, fun d hd => ?_⟩
    have hd := (if_pos rfl).symm.trans hd
    obtain rfl := Option.some.inj hd
    obtain ⟨h1, h2, h3, h4, h5⟩ := (h _).2 d0 hg
    exact ⟨h1, h2, by rw [e]; simp only; omega, h4, fun _ => ⟨y, by rw [take_snoc hy]; simp, ho, rfl⟩⟩
  · simp only [hs, if_false]
    refine ⟨(h s).1, fun d hd => ?_⟩
    have ho : isO s y = false := by
      unfold isO
      rw [decide_eq_false_iff_not]
      exact fun e => hs e.symm
    have e : co (old.take (j + 1)) s = co (old.take j) s := by rw [take_snoc hy, co_snoc, ho]; rfl
    obtain ⟨h1, h2, h3, h4, h5⟩ := (h s).2 d hd
    refine ⟨h1, h2, by rw [e]; exact h3, h4, fun hc => ?_⟩
    rw [e] at hc
    obtain ⟨z, hz, h6⟩ := h5 hc
    exact ⟨z, by rw [take_snoc hy]; simp [hz], h6⟩

theorem filter_single {old : List Idn} {s : List UInt8} (h : co old s = 1) : ∃ y, old.filter (isO s) = [y] ∧ y ∈ old ∧ isO s y = true := by
  unfold co at h
  rw [List.countP_eq_length_filter] at h
  obtain ⟨y, hy⟩ := List.length_eq_one_iff.1 h
  have hm : y ∈ old.filter (isO s) := by rw [hy]; simp
  exact ⟨y, hy, (List.mem_filter.1 hm).1, (List.mem_filter.1 hm).2⟩
theorem gpid_one {zs : List (Int × It)} {old : List Idn} {s : List UInt8} {d : Sd} (h : SdOk zs old zs.length old.length s d) (h1 : d.items = 1) (h2 : d.olds = 1) : gpid zs old s = d.id := by
  obtain ⟨a1, a2, a3, a4, a5⟩ := h
  rw [List.take_length] at a1 a2 a3 a5
  have hc : co old s = 1 := by omega
  obtain ⟨y, hy, hm, hs⟩ := filter_single hc
  obtain ⟨z, hz, hzs, hzi⟩ := a5 (by omega)
  have : z ∈ old.filter (isO s) := List.mem_filter.2 ⟨hz, hzs⟩
  rw [hy] at this
  obtain rfl := List.mem_singleton.1 this
  unfold gpid
  rw [hy]
  simp only
  rw [if_pos (by omega), hzi]
theorem gpid_not {zs : List (Int × It)} {old : List Idn} {s : List UInt8} {d : Sd} (h : SdOk zs old zs.length old.length s d) (hn : ¬ (d.items = 1 ∧ d.olds = 1)) : gpid zs old s = 0 := by
  obtain ⟨a1, a2, a3, a4, a5⟩ := h
  rw [List.take_length] at a1 a2 a3 a5
  unfold gpid
  split
  · rename_i y hy
    have hc : co old s = 1 := by unfold co; rw [List.countP_eq_length_filter, hy]; rfl
    rw [if_neg (by omega)]
  · rfl

/-- The numbers behind some shapes. -/
def curI (zs : List (Int × It)) (old : List Idn) (D : List UInt8 → Prop) (cur : List Int) : Prop :=
  cur.length = zs.length ∧ ∀ (i : Nat) (p : Int × It) (c : Int), zs[i]? = some p → cur[i]? = some c → (p.1 ≠ 0 → c = p.1) ∧ (p.1 = 0 → D p.2.sh → c = gpid zs old p.2.sh) ∧ (p.1 = 0 → ¬ D p.2.sh → c = 0)
theorem curI.ext {zs : List (Int × It)} {old : List Idn} {D D' : List UInt8 → Prop} {cur : List Int} (h : curI zs old D cur) (he : ∀ s, D s ↔ D' s) : curI zs old D' cur :=
  ⟨h.1, fun i p c hp hc => by
    obtain ⟨h1, h2, h3⟩ := h.2 i p c hp hc
    exact ⟨h1, fun h0 hD => h2 h0 ((he _).2 hD), fun h0 hD => h3 h0 fun e => hD ((he _).1 e)⟩⟩
theorem curI.start (zs : List (Int × It)) (old : List Idn) : curI zs old (fun _ => False) (zs.map (·.1)) := by
  refine ⟨by simp, fun i p c hp hc => ?_⟩
  rw [List.getElem?_map, hp] at hc
  obtain rfl := Option.some.inj hc
  exact ⟨fun _ => rfl, fun _ h => h.elim, fun h _ => h⟩
theorem curI.skip {zs : List (Int × It)} {old : List Idn} {D : List UInt8 → Prop} {cur : List Int} {s : List UInt8} {d : Sd} (h : curI zs old D cur) (hd : SdOk zs old zs.length old.length s d) (hn : ¬ (d.items = 1 ∧ d.olds = 1)) : curI zs old (fun t => t = s ∨ D t) cur := by
  refine ⟨h.1, fun i p c hp hc => ?_⟩
  obtain ⟨h1, h2, h3⟩ := h.2 i p c hp hc
  have hz := gpid_not hd hn
  refine ⟨h1, fun h0 hD => ?_, fun h0 hD => h3 h0 fun e => hD (.inr e)⟩
  rcases hD with e | e
  · by_cases hD' : D p.2.sh
    · exact h2 h0 hD'
    · rw [h3 h0 hD', e, hz]
  · exact h2 h0 e
theorem curI.write {zs : List (Int × It)} {old : List Idn} {D : List UInt8 → Prop} {cur : List Int} {s : List UInt8} {d : Sd} (h : curI zs old D cur) (hd : SdOk zs old zs.length old.length s d) (h1 : d.items = 1) (h2 : d.olds = 1) :
    ∃ i : Nat, d.item = i ∧ i < zs.length ∧ curI zs old (fun t => t = s ∨ D t) (cur.set i d.id) := by
  have hg := gpid_one hd h1 h2
  obtain ⟨a1, a2, a3, ⟨i, q, hi, hii, hq, hqs⟩, a5⟩ := hd
  rw [List.take_length] at a1 a2
  refine ⟨i, hii, hi, by simp [h.1], fun j p c hp hc => ?_⟩
  rw [List.getElem?_set] at hc
  by_cases hij : i = j
  · subst hij
    rw [hq] at hp
    obtain rfl := Option.some.inj hp
    rw [if_pos rfl, if_pos (by rw [h.1]; exact hi)] at hc
    obtain rfl := Option.some.inj hc
    have hqq : q.1 = 0 ∧ q.2.sh = s := by simpa [isN] using hqs
    refine ⟨fun e => absurd hqq.1 e, fun _ _ => by rw [hqq.2, hg], fun _ hD => absurd (.inl hqq.2) hD⟩
  · rw [if_neg hij] at hc
    obtain ⟨g1, g2, g3⟩ := h.2 j p c hp hc
    have hne : p.1 = 0 → p.2.sh ≠ s := fun h0 hs => by
      have hps : isN s p = true := by simp [isN, h0, hs]
      have : 2 ≤ cz zs s := by
        rcases Nat.lt_or_gt_of_ne hij with hlt | hlt
        · exact countP_two hlt hq hp hqs hps
        · exact countP_two hlt hp hq hps hqs
      omega
    refine ⟨g1, fun h0 hD => ?_, fun h0 hD => g3 h0 fun e => hD (.inr e)⟩
    rcases hD with e | e
    · exact absurd e (hne h0)
    · exact g2 h0 e
end Go.Proofs.Ytmnhgkhidepojaa
