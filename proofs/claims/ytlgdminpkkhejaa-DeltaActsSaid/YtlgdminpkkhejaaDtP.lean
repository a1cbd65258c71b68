/-
  Messages, the plain law: their order, sorted lists, what is left of one list without another, how messages that are alike are paired.
  No condition beyond those of each theorem.
-/
import Derived.Test.YtlgdminpkkhejaaBkey
namespace Go.Proofs.Ytlgdminpkkhejaa
open Go.RowKit

/-- A message: its place, its code, its text. -/
abbrev Msg := Int × Int × List UInt8
def ltM (a b : Msg) : Bool := decide (a.1 < b.1) || (decide (a.1 = b.1) && (decide (a.2.1 < b.2.1) || (decide (a.2.1 = b.2.1) && Op.bytesLess a.2.2 b.2.2)))
theorem ltM_irr (a : Msg) : ltM a a = false := by simp [ltM, bytesLess_irr]
theorem ltM_trans {a b c : Msg} (h : ltM a b = true) (h' : ltM b c = true) : ltM a c = true := by
  simp only [ltM, Bool.or_eq_true, Bool.and_eq_true, decide_eq_true_eq] at h h' ⊢
  rcases h with h | ⟨e, h⟩
  · rcases h' with h' | ⟨e', _⟩
    · exact .inl (by omega)
    · exact .inl (by omega)
  · rcases h' with h' | ⟨e', h'⟩
    · exact .inl (by omega)
    · refine .inr ⟨by omega, ?_⟩
      rcases h with h | ⟨f, h⟩
      · rcases h' with h' | ⟨f', _⟩
        · exact .inl (by omega)
        · exact .inl (by omega)
      · rcases h' with h' | ⟨f', h'⟩
        · exact .inl (by omega)
        · exact .inr ⟨by omega, bytesLess_trans h h'⟩
theorem ltM_tot {a b : Msg} (h : ltM a b = false) (h' : ltM b a = false) : a = b := by
  simp only [ltM, Bool.or_eq_false_iff, Bool.and_eq_false_iff, decide_eq_false_iff_not] at h h'
  have h1 : a.1 = b.1 := by omega
  have h2 : ¬ a.2.1 < b.2.1 ∧ (¬ a.2.1 = b.2.1 ∨ Op.bytesLess a.2.2 b.2.2 = false) := by
    rcases h.2 with h | h
    · exact absurd h1 h
    · exact h
  have h3 : ¬ b.2.1 < a.2.1 ∧ (¬ b.2.1 = a.2.1 ∨ Op.bytesLess b.2.2 a.2.2 = false) := by
    rcases h'.2 with h | h
    · exact absurd h1.symm h
    · exact h
  have h4 : a.2.1 = b.2.1 := by omega
  have h5 : Op.bytesLess a.2.2 b.2.2 = false := by
    rcases h2.2 with h | h
    · exact absurd h4 h
    · exact h
  have h6 : Op.bytesLess b.2.2 a.2.2 = false := by
    rcases h3.2 with h | h
    · exact absurd h4.symm h
    · exact h
  exact Prod.ext h1 (Prod.ext h4 (bytesLess_tot h5 h6))
theorem ltM_asym {a b : Msg} (h : ltM a b = true) : ltM b a = false := by
  cases hb : ltM b a with
  | false => rfl
  | true => have := ltM_trans h hb; rw [ltM_irr] at this; cases this
theorem ltM_ntrans {a b c : Msg} (h : ltM a b = false) (h' : ltM b c = false) : ltM a c = false := by
  cases hc : ltM a c with
  | false => rfl
  | true =>
    cases h3 : ltM b a with
    | true => have := ltM_trans h3 hc; rw [h'] at this; cases this
    | false =>
      have := ltM_tot h h3
      subst this
      rw [hc] at h'
      cases h'

/-! ### Sorted lists -/
def Srt (l : List Msg) : Prop := l.Pairwise fun a b => ltM b a = false
theorem Srt.unique : ∀ {l l' : List Msg}, Srt l → Srt l' → l.Perm l' → l = l'
  | [], l', _, _, h => (List.nil_perm.1 h).symm
  | a :: r, [], _, _, h => by have := h.length_eq; simp at this
  | a :: r, b :: s, h1, h2, h => by
    obtain ⟨p1, q1⟩ := List.pairwise_cons.1 h1
    obtain ⟨p2, q2⟩ := List.pairwise_cons.1 h2
    have hab : a = b := by
      rcases List.mem_cons.1 (h.subset (List.mem_cons_self)) with e | e
      · exact e
      · rcases List.mem_cons.1 (h.symm.subset (List.mem_cons_self)) with e' | e'
        · exact e'.symm
        · exact ltM_tot (p2 a e) (p1 b e')
    subst hab
    rw [Srt.unique q1 q2 (List.perm_cons a |>.1 h)]
theorem Srt.sub {l l' : List Msg} (h : Srt l) (hs : l'.Sublist l) : Srt l' := h.sublist hs
theorem Srt.counts {l l' : List Msg} (h : Srt l) (h' : Srt l') (hc : ∀ m, l.count m = l'.count m) : l = l' := h.unique h' (List.perm_iff_count.2 hc)
/-- A message in its place, after equal ones. -/
def insM (m : Msg) : List Msg → List Msg
  | [] => [m]
  | x :: r => if ltM m x = true then m :: x :: r else x :: insM m r
theorem insM_perm (m : Msg) : ∀ l : List Msg, (insM m l).Perm (m :: l)
  | [] => List.Perm.refl _
  | x :: r => by
    unfold insM
    by_cases h : ltM m x = true
    · rw [if_pos h]
    · rw [if_neg h]
      exact ((insM_perm m r).cons x).trans (List.Perm.swap m x r)
theorem insM_srt (m : Msg) : ∀ {l : List Msg}, Srt l → Srt (insM m l)
  | [], _ => List.pairwise_singleton _ _
  | x :: r, h => by
    obtain ⟨p, q⟩ := List.pairwise_cons.1 h
    unfold insM
    by_cases hx : ltM m x = true
    · rw [if_pos hx]
      refine List.pairwise_cons.2 ⟨fun y hy => ?_, h⟩
      rcases List.mem_cons.1 hy with rfl | hy
      · exact ltM_asym hx
      · exact ltM_ntrans (p y hy) (ltM_asym hx)
    · rw [if_neg hx]
      refine List.pairwise_cons.2 ⟨fun y hy => ?_, insM_srt m q⟩
      rcases List.mem_cons.1 ((insM_perm m r).subset hy) with rfl | hy
      · simpa using hx
      · exact p y hy
theorem insM_split (m : Msg) (l : List Msg) (i : Nat) (h1 : ∀ x ∈ l.take i, ltM m x = false) (h2 : ∀ x, l[i]? = some x → ltM m x = true) : insM m l = l.take i ++ m :: l.drop i := by
  induction l generalizing i with
  | nil => simp [insM]
  | cons x r ih =>
    cases i with
    | zero =>
      unfold insM
      rw [if_pos (h2 x rfl)]
      rfl
    | succ i =>
      unfold insM
      rw [if_neg (by rw [h1 x (by simp)]; simp), ih i (fun y hy => h1 y (by simp [hy])) (fun y hy => h2 y (by simpa using hy))]
      rfl
def insAll (l : List Msg) (ms : List Msg) : List Msg := ms.foldl (fun acc m => insM m acc) l
def srtM (l : List Msg) : List Msg := insAll [] l
theorem insAll_snoc (l ms : List Msg) (m : Msg) : insAll l (ms ++ [m]) = insM m (insAll l ms) := by simp [insAll, List.foldl_append]
theorem insAll_app (l ms ms' : List Msg) : insAll l (ms ++ ms') = insAll (insAll l ms) ms' := by simp [insAll, List.foldl_append]
theorem insAll_perm : ∀ (ms l : List Msg), (insAll l ms).Perm (l ++ ms)
  | [], l => by simp [insAll]
  | m :: r, l => by
    have h1 := insAll_perm r (insM m l)
    refine h1.trans ?_
    exact ((insM_perm m l).append_right r).trans (List.perm_middle.symm)
theorem insAll_srt : ∀ (ms : List Msg) {l : List Msg}, Srt l → Srt (insAll l ms)
  | [], _, h => h
  | m :: r, _, h => insAll_srt r (insM_srt m h)
theorem srt_nil : Srt [] := List.Pairwise.nil
theorem srtM_srt (l : List Msg) : Srt (srtM l) := insAll_srt l srt_nil
theorem srtM_perm (l : List Msg) : (srtM l).Perm l := insAll_perm l []
theorem srtM_count (l : List Msg) (m : Msg) : (srtM l).count m = l.count m := (srtM_perm l).count_eq m
theorem srtM_len (l : List Msg) : (srtM l).length = l.length := (srtM_perm l).length_eq
theorem srtM_of {l l' : List Msg} (h : Srt l') (hp : l'.Perm l) : l' = srtM l := h.unique (srtM_srt l) (hp.trans (srtM_perm l).symm)
theorem srtM_congr {l l' : List Msg} (h : l.Perm l') : srtM l = srtM l' := (srtM_srt l).unique (srtM_srt l') ((srtM_perm l).trans (h.trans (srtM_perm l').symm))
theorem insAll_is {l ms : List Msg} (h : Srt l) : insAll l ms = srtM (l ++ ms) := srtM_of (insAll_srt ms h) (insAll_perm ms l)

/-! ### What is left -/
/-- One list without the messages of another, one for each. -/
def dif (l : List Msg) : List Msg → List Msg
  | [] => l
  | m :: o => dif (l.erase m) o
/-- How many were not there. -/
def miss (l : List Msg) : List Msg → Nat
  | [] => 0
  | m :: o => (if m ∈ l then 0 else 1) + miss (l.erase m) o
/-- What of a list is not in the other, taken one after the other. -/
def rest (l : List Msg) : List Msg → List Msg
  | [] => []
  | m :: o => if m ∈ l then rest (l.erase m) o else m :: rest l o
theorem dif_snoc : ∀ (o l : List Msg) (m : Msg), dif l (o ++ [m]) = (dif l o).erase m
  | [], _, _ => rfl
  | x :: o, l, m => dif_snoc o (l.erase x) m
theorem dif_app : ∀ (o o' l : List Msg), dif l (o ++ o') = dif (dif l o) o'
  | [], _, _ => rfl
  | x :: o, o', l => dif_app o o' (l.erase x)
theorem miss_snoc : ∀ (o l : List Msg) (m : Msg), miss l (o ++ [m]) = miss l o + if m ∈ dif l o then 0 else 1
  | [], l, m => by
    rw [List.nil_append]
    show (if m ∈ l then 0 else 1) + 0 = 0 + (if m ∈ l then 0 else 1)
    rw [Nat.zero_add, Nat.add_zero]
  | x :: o, l, m => by
    show (if x ∈ l then 0 else 1) + miss (l.erase x) (o ++ [m]) = (if x ∈ l then 0 else 1) + miss (l.erase x) o + _
    rw [miss_snoc o (l.erase x) m, Nat.add_assoc]
    rfl
theorem miss_le : ∀ (o l : List Msg), miss l o ≤ o.length
  | [], _ => Nat.le_refl _
  | x :: o, l => by
    have := miss_le o (l.erase x)
    simp only [miss, List.length_cons]
    split <;> omega
theorem dif_sub : ∀ (o l : List Msg), (dif l o).Sublist l
  | [], _ => List.Sublist.refl _
  | x :: o, l => (dif_sub o (l.erase x)).trans List.erase_sublist
theorem rest_sub : ∀ (o l : List Msg), (rest l o).Sublist o
  | [], _ => List.Sublist.refl _
  | x :: o, l => by
    unfold rest
    split
    · exact (rest_sub o _).trans (List.sublist_cons_self _ _)
    · exact (rest_sub o l).cons_cons x
theorem dif_count (m : Msg) : ∀ (o l : List Msg), (dif l o).count m = l.count m - o.count m
  | [], l => by simp [dif]
  | x :: o, l => by
    rw [dif, dif_count m o, List.count_erase, List.count_cons]
    omega
theorem rest_count (m : Msg) : ∀ (o l : List Msg), (rest l o).count m = o.count m - l.count m
  | [], l => by simp [rest]
  | x :: o, l => by
    unfold rest
    by_cases h : x ∈ l
    · rw [if_pos h, rest_count m o, List.count_erase, List.count_cons]
      by_cases e : x = m
      · subst e
        have := List.count_pos_iff.2 h
        simp
        omega
      · simp [e]
    · rw [if_neg h, List.count_cons, List.count_cons, rest_count m o]
      by_cases e : x = m
      · subst e
        have := List.count_eq_zero.2 h
        simp
        omega
      · simp [e]
theorem dif_len : ∀ (o l : List Msg), (dif l o).length + o.length = l.length + miss l o
  | [], l => by simp [dif, miss]
  | x :: o, l => by
    have := dif_len o (l.erase x)
    simp only [dif, miss, List.length_cons]
    by_cases h : x ∈ l
    · rw [if_pos h]
      have h1 := List.length_erase_of_mem h
      have h2 := List.length_pos_of_mem h
      omega
    · rw [if_neg h, List.erase_of_not_mem h] at *
      omega
theorem miss_zero : ∀ (o l : List Msg), (∀ m, o.count m ≤ l.count m) → miss l o = 0
  | [], _, _ => rfl
  | x :: o, l, h => by
    have hx := h x
    rw [List.count_cons_self] at hx
    have hm : x ∈ l := List.count_pos_iff.1 (by omega)
    rw [miss, if_pos hm, Nat.zero_add]
    refine miss_zero o (l.erase x) fun m => ?_
    have := h m
    rw [List.count_cons] at this
    rw [List.count_erase]
    omega
theorem dif_srt {l : List Msg} (o : List Msg) (h : Srt l) : Srt (dif l o) := h.sub (dif_sub o l)
theorem dif_perm {l o o' : List Msg} (h : Srt l) (hp : o.Perm o') : dif l o = dif l o' := (dif_srt o h).counts (dif_srt o' h) fun m => by rw [dif_count, dif_count, hp.count_eq]
theorem rest_is {l o : List Msg} (h : Srt o) : rest l o = dif o l := (h.sub (rest_sub o l)).counts (dif_srt l h) fun m => by rw [rest_count, dif_count]
/-- One list without as many as the numbers say. -/
def wgo : List Msg → (Msg → Nat) → List Msg
  | [], _ => []
  | m :: l, n => if 0 < n m then wgo l (fun x => if x = m then n x - 1 else n x) else m :: wgo l n
theorem wgo_sub : ∀ (l : List Msg) (n : Msg → Nat), (wgo l n).Sublist l
  | [], _ => List.Sublist.refl _
  | m :: l, n => by
    unfold wgo
    split
    · exact (wgo_sub l _).trans (List.sublist_cons_self _ _)
    · exact (wgo_sub l n).cons_cons m
theorem wgo_count (x : Msg) : ∀ (l : List Msg) (n : Msg → Nat), (wgo l n).count x = l.count x - n x
  | [], n => by simp [wgo]
  | m :: l, n => by
    unfold wgo
    by_cases h : 0 < n m
    · rw [if_pos h, wgo_count x l, List.count_cons]
      by_cases e : m = x
      · subst e
        simp
        omega
      · have e' : ¬ x = m := fun h => e h.symm
        simp [e, e']
    · rw [if_neg h, List.count_cons, wgo_count x l, List.count_cons]
      by_cases e : m = x
      · subst e
        simp
        omega
      · simp [e]
theorem wgo_is {l o : List Msg} (h : Srt l) : wgo l (fun m => o.count m) = dif l o := (h.sub (wgo_sub l _)).counts (dif_srt o h) fun m => by rw [wgo_count, dif_count]

/-! ### Pairs that are alike -/
abbrev alk (m x : Msg) : Bool := decide (x.2 = m.2)
def mate : List Msg → List Msg → List Msg × List (Msg × Msg) × List Msg
  | [], L => ([], [], L)
  | m :: r, L => match L.find? (alk m) with
    | none => (m :: (mate r L).1, (mate r L).2.1, (mate r L).2.2)
    | some x => ((mate r (L.erase x)).1, (x, m) :: (mate r (L.erase x)).2.1, (mate r (L.erase x)).2.2)
theorem mate_none {m : Msg} {r L : List Msg} (h : L.find? (alk m) = none) : mate (m :: r) L = (m :: (mate r L).1, (mate r L).2.1, (mate r L).2.2) := by rw [mate, h]
theorem mate_some {m x : Msg} {r L : List Msg} (h : L.find? (alk m) = some x) : mate (m :: r) L = ((mate r (L.erase x)).1, (x, m) :: (mate r (L.erase x)).2.1, (mate r (L.erase x)).2.2) := by rw [mate, h]
/-- The messages of a kind. -/
def fk (k : Int × List UInt8) (l : List Msg) : List Msg := l.filter fun x => decide (x.2 = k)
theorem fk_find {L : List Msg} {m x : Msg} (h : L.find? (alk m) = some x) : x.2 = m.2 ∧ x ∈ L ∧ fk m.2 L = x :: fk m.2 (L.erase x) ∧ ∀ k, k ≠ m.2 → fk k (L.erase x) = fk k L := by
  induction L with
  | nil => cases h
  | cons y r ih =>
    rw [List.find?_cons] at h
    by_cases hy : y.2 = m.2
    · rw [show alk m y = true by simpa using hy] at h
      obtain rfl : y = x := Option.some.inj h
      refine ⟨hy, by simp, ?_, fun k hk => ?_⟩
      · simp [fk, hy]
      · have : ¬ y.2 = k := fun e => hk (by rw [← e, hy])
        simp [fk, this]
    · rw [show alk m y = false by simpa using hy] at h
      obtain ⟨h1, h2, h3, h4⟩ := ih h
      have hyx : ¬ y = x := fun e => hy (by rw [e, h1])
      have he : (y :: r).erase x = y :: r.erase x := by rw [List.erase_cons]; simp [hyx]
      refine ⟨h1, by simp [h2], ?_, fun k hk => ?_⟩
      · rw [he]
        simp only [fk, List.filter_cons, hy] at h3 ⊢
        simpa using h3
      · rw [he]
        have := h4 k hk
        simp only [fk, List.filter_cons] at this ⊢
        rw [this]
theorem fk_nofind {L : List Msg} {m : Msg} (h : L.find? (alk m) = none) : fk m.2 L = [] := by
  rw [List.find?_eq_none] at h
  exact List.filter_eq_nil_iff.2 fun x hx => by simpa using h x hx
/-- What pairing gives, kind by kind. -/
theorem mate_kind (k : Int × List UInt8) : ∀ (C L : List Msg),
    fk k (mate C L).1 = (fk k C).drop (fk k L).length ∧ fk k ((mate C L).2.1.map (·.2)) = (fk k C).take (fk k L).length ∧ fk k ((mate C L).2.1.map (·.1)) = (fk k L).take (fk k C).length ∧ fk k (mate C L).2.2 = (fk k L).drop (fk k C).length
  | [], L => by simp [mate, fk]
  | m :: r, L => by
    cases h : L.find? (alk m) with
    | none =>
      obtain ⟨h1, h2, h3, h4⟩ := mate_kind k r L
      rw [mate_none h]
      by_cases e : m.2 = k
      · have hL : fk k L = [] := by rw [← e]; exact fk_nofind h
        have hc : ∀ l, fk k (m :: l) = m :: fk k l := fun l => by simp [fk, e]
        rw [hL] at h1 h2 h3 h4 ⊢
        simp only [hc] at *
        simp at h1 h2 h3 h4 ⊢
        exact ⟨h1, h2, h3, h4⟩
      · have hc : ∀ l, fk k (m :: l) = fk k l := fun l => by simp [fk, e]
        simp only [hc]
        exact ⟨h1, h2, h3, h4⟩
    | some x =>
      obtain ⟨h1, h2, h3, h4⟩ := mate_kind k r (L.erase x)
      obtain ⟨g1, g2, g3, g4⟩ := fk_find h
      rw [mate_some h]
      by_cases e : m.2 = k
      · subst e
        have hc : ∀ l, fk m.2 (m :: l) = m :: fk m.2 l := fun l => by simp [fk]
        have hx : ∀ l, fk m.2 (x :: l) = x :: fk m.2 l := fun l => by simp [fk, g1]
        simp only [List.map_cons, hc, hx, g3, List.length_cons, List.drop_succ_cons, List.take_succ_cons, h1, h2, h3, h4]
        simp
      · have hc : ∀ l, fk k (m :: l) = fk k l := fun l => by simp [fk, e]
        have hx : ∀ l, fk k (x :: l) = fk k l := fun l => by simp [fk, g1, e]
        rw [g4 k (fun h => e h.symm)] at h1 h2 h3 h4
        simp only [List.map_cons, hc, hx, h1, h2, h3, h4]
        simp
theorem mate_left : ∀ (C L : List Msg), (mate C L).2.2 = dif L ((mate C L).2.1.map (·.1))
  | [], L => rfl
  | m :: r, L => by
    cases h : L.find? (alk m) with
    | none =>
      rw [mate_none h]
      exact mate_left r L
    | some x =>
      rw [mate_some h]
      exact mate_left r (L.erase x)
theorem mate_mem : ∀ (C L : List Msg), ∀ p ∈ (mate C L).2.1, p.1 ∈ L ∧ p.2 ∈ C ∧ p.1.2 = p.2.2
  | [], L, p, h => by simp [mate] at h
  | m :: r, L, p, hp => by
    cases h : L.find? (alk m) with
    | none =>
      rw [mate_none h] at hp
      obtain ⟨h1, h2, h3⟩ := mate_mem r L p hp
      exact ⟨h1, by simp [h2], h3⟩
    | some x =>
      rw [mate_some h] at hp
      rcases List.mem_cons.1 hp with rfl | hp
      · obtain ⟨g1, g2, _⟩ := fk_find h
        exact ⟨g2, by simp, g1⟩
      · obtain ⟨h1, h2, h3⟩ := mate_mem r (L.erase x) p hp
        exact ⟨List.mem_of_mem_erase h1, by simp [h2], h3⟩
theorem mate_come : ∀ (C L : List Msg), (mate C L).1.Sublist C
  | [], L => List.Sublist.refl _
  | m :: r, L => by
    cases h : L.find? (alk m) with
    | none => rw [mate_none h]; exact (mate_come r L).cons_cons m
    | some x => rw [mate_some h]; exact (mate_come r (L.erase x)).trans (List.sublist_cons_self _ _)
theorem first_least {L : List Msg} {m x y : Msg} (hL : Srt L) (h : L.find? (alk m) = some x) (hy : y ∈ L) (hk : y.2 = m.2) : x.1 ≤ y.1 := by
  induction L with
  | nil => cases h
  | cons z r ih =>
    obtain ⟨p, q⟩ := List.pairwise_cons.1 hL
    rw [List.find?_cons] at h
    by_cases hz : z.2 = m.2
    · rw [show alk m z = true by simpa using hz] at h
      obtain rfl : z = x := Option.some.inj h
      rcases List.mem_cons.1 hy with rfl | hy
      · exact Int.le_refl _
      · have := p y hy
        simp only [ltM, Bool.or_eq_false_iff, decide_eq_false_iff_not] at this
        omega
    · rw [show alk m z = false by simpa using hz] at h
      rcases List.mem_cons.1 hy with rfl | hy
      · exact absurd hk hz
      · exact ih q h hy
/-- Moves in order: by their messages, then by where they come from. -/
def leV (a b : Msg × Msg) : Prop := ltM b.2 a.2 = false ∧ (a.2 = b.2 → a.1.1 ≤ b.1.1)
theorem mate_order : ∀ (C L : List Msg), Srt C → Srt L → ((mate C L).2.1).Pairwise leV
  | [], L, _, _ => List.Pairwise.nil
  | m :: r, L, hC, hL => by
    obtain ⟨p, q⟩ := List.pairwise_cons.1 hC
    cases h : L.find? (alk m) with
    | none => rw [mate_none h]; exact mate_order r L q hL
    | some x =>
      rw [mate_some h]
      refine List.pairwise_cons.2 ⟨fun y hy => ?_, mate_order r (L.erase x) q (hL.sub List.erase_sublist)⟩
      obtain ⟨h1, h2, h3⟩ := mate_mem r _ y hy
      exact ⟨p _ h2, fun e => first_least hL h (List.mem_of_mem_erase h1) (by rw [h3, ← e])⟩

/-! ### The difference of two lists, and what it makes of a list -/
/-- A move: from, to, the message. -/
abbrev Mv := Int × Int × Msg
structure Dl where
  gone : List Msg
  come : List Msg
  moved : List Mv
def mvOf (p : Msg × Msg) : Mv := (p.1.1, p.2.1, p.2)
def srcOf (v : Mv) : Msg := (v.1, v.2.2.2)
theorem src_mv {p : Msg × Msg} (h : p.1.2 = p.2.2) : srcOf (mvOf p) = p.1 := by
  unfold srcOf mvOf
  exact Prod.ext rfl h.symm
def goneM (old now : List Msg) : List Msg := dif (srtM old) now
def mateM (old now : List Msg) : List Msg × List (Msg × Msg) × List Msg := mate (goneM now old) (goneM old now)
def ofM (old now : List Msg) : Dl := ⟨(mateM old now).2.2, (mateM old now).1, (mateM old now).2.1.map mvOf⟩
def awayM (d : Dl) : List Msg := d.gone ++ d.moved.map srcOf
def moreM (d : Dl) : List Msg := d.come ++ d.moved.map (·.2.2)
def applyM (old : List Msg) (d : Dl) : Option (List Msg) := if miss (srtM old) (awayM d) = 0 then some (srtM (dif (srtM old) (awayM d) ++ moreM d)) else none
end Go.Proofs.Ytlgdminpkkhejaa
