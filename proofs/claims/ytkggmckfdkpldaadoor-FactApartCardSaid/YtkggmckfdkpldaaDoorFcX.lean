/-
  Plain facts on packs of strings: the decimal numeral, its reading, and that a pack can be taken apart in one way alone. No program is in sight.
  Conditions: lengths below 2^63 where a numeral is read as an int64.
  Plain facts on the strings of facts: which lists a pack holds, numbers, operations and code. No program is in sight.
  Conditions: ints lie in the range of an int64.
-/
import Derived.Lib.AtoiAllCases
import Derived.Lib.ItoaMem
import Derived.Lib.ItoaLen
import Derived.Lib.IndexMore
import Derived.Lib.IndexLaws
namespace Go.Proofs.YtkggmckfdkpldaaDoor
section
open Go.Lib
def IsDig (b : UInt8) : Prop := 48 ≤ b.toNat ∧ b.toNat ≤ 57

theorem dec_digs (n : Nat) : ∀ b ∈ decDigits n, IsDig b := by
  induction n using Nat.strongRecOn with
  | _ n ih =>
    intro b hb
    rw [decDigits] at hb
    split at hb
    · rename_i h
      simp only [List.mem_singleton] at hb
      subst hb
      unfold IsDig
      rw [UInt8.toNat_ofNat']
      omega
    · rename_i h
      rcases List.mem_append.1 hb with hb | hb
      · exact ih _ (by omega) b hb
      · simp only [List.mem_singleton] at hb
        subst hb
        unfold IsDig
        rw [UInt8.toNat_ofNat']
        omega

theorem dec_ne (n : Nat) : decDigits n ≠ [] := by
  intro h
  have h1 := decDigits_length n
  have h2 := nDigits_pos n
  rw [h] at h1
  simp at h1
  omega

def valFrom (acc : Nat) (l : List UInt8) : Nat := l.foldl (fun a b => a * 10 + (b.toNat - 48)) acc

theorem valFrom_nil (acc : Nat) : valFrom acc [] = acc := by unfold valFrom; rw [List.foldl_nil]
theorem valFrom_cons (acc : Nat) (b : UInt8) (r : List UInt8) : valFrom acc (b :: r) = valFrom (acc * 10 + (b.toNat - 48)) r := by unfold valFrom; rw [List.foldl_cons]
theorem dig_val (n : Nat) (h : n < 10) : (UInt8.ofNat (48 + n)).toNat - 48 = n := by
  rw [UInt8.toNat_ofNat']
  omega

theorem valFrom_append (l m : List UInt8) (acc : Nat) : valFrom acc (l ++ m) = valFrom (valFrom acc l) m := by unfold valFrom; rw [List.foldl_append]

theorem valFrom_dec (n : Nat) : valFrom 0 (decDigits n) = n := by
  induction n using Nat.strongRecOn with
  | _ n ih =>
    rw [decDigits]
    split
    · rename_i h
      rw [valFrom_cons, valFrom_nil, dig_val n h]
      omega
    · rename_i h
      rw [valFrom_append, ih _ (by omega), valFrom_cons, valFrom_nil, dig_val _ (by omega)]
      omega

theorem valFrom_ge (l : List UInt8) : ∀ acc : Nat, acc ≤ valFrom acc l := by
  induction l with
  | nil => intro acc; rw [valFrom_nil]; exact Nat.le_refl _
  | cons b r ih =>
    intro acc
    rw [valFrom_cons]
    have := ih (acc * 10 + (b.toNat - 48))
    omega

theorem parse_step (acc d : Nat) (c : UInt8) (r : List UInt8) (hd : d = c.toNat - 48) (h0 : 48 ≤ c.toNat ∧ c.toNat ≤ 57) (h : acc * 10 + d < 18446744073709551616) :
    parseUint10 acc (c :: r) = parseUint10 (acc * 10 + d) r := by
  subst hd
  rw [parseUint10, if_pos h0, if_neg (by omega), if_neg (by omega)]

theorem parse_digs (l : List UInt8) : ∀ (acc : Nat), (∀ b ∈ l, IsDig b) → valFrom acc l < 18446744073709551616 → parseUint10 acc l = .ok (valFrom acc l) := by
  induction l with
  | nil => intro acc _ _; rw [valFrom_nil, parseUint10]
  | cons b r ih =>
    intro acc hd hv
    have hb : 48 ≤ b.toNat ∧ b.toNat ≤ 57 := hd b (by simp)
    have hg := valFrom_ge r (acc * 10 + (b.toNat - 48))
    rw [valFrom_cons] at hv ⊢
    rw [parse_step acc _ b r rfl hb (by omega)]
    exact ih _ (fun c hc => hd c (by simp [hc])) hv

theorem parseMag_dec (n : Nat) (h : n < 18446744073709551616) : parseMag (decDigits n) = .ok n := by
  unfold parseMag
  rw [if_neg (dec_ne n), parse_digs _ _ (dec_digs n) (by rw [valFrom_dec]; exact h), valFrom_dec]

theorem atoi_itoa (n : Int) (h0 : -9223372036854775808 ≤ n) (h1 : n ≤ 9223372036854775807) : atoiAll (itoa n) = .ok n := by
  by_cases hneg : n < 0
  · obtain ⟨u, rfl⟩ : ∃ u : Nat, n = -(u : Int) := ⟨n.natAbs, by omega⟩
    rw [itoa_neg u (by omega), atoiAll_minus, parseMag_dec u (by omega)]
    simp only [signed]
    rw [if_neg (by omega)]
  · obtain ⟨u, rfl⟩ : ∃ u : Nat, n = u := ⟨n.toNat, by omega⟩
    rw [itoa_nonneg]
    obtain ⟨c, r, hcr⟩ : ∃ c r, decDigits u = c :: r := by
      cases h : decDigits u with
      | nil => exact absurd h (dec_ne u)
      | cons c r => exact ⟨c, r, rfl⟩
    have hc : IsDig c := dec_digs u c (by rw [hcr]; simp)
    unfold IsDig at hc
    rw [hcr, atoiAll_plain c r (by omega) (by omega), ← hcr, parseMag_dec u (by omega)]
    simp only [signless]
    rw [if_neg (by omega)]

/-- What fact.number returns of a word. -/
def numv (w : List UInt8) : Int × Bool :=
  match atoiAll w with
  | .ok v => if itoa v = w then (v, true) else (0, false)
  | _ => (0, false)

theorem numv_itoa (n : Int) (h0 : -9223372036854775808 ≤ n) (h1 : n ≤ 9223372036854775807) : numv (itoa n) = (n, true) := by
  unfold numv
  rw [atoi_itoa n h0 h1]
  simp

theorem numv_true {w : List UInt8} (h : (numv w).2 = true) : w = itoa (numv w).1 ∧ -9223372036854775808 ≤ (numv w).1 ∧ (numv w).1 ≤ 9223372036854775807 := by
  unfold numv at h ⊢
  cases ha : atoiAll w with
  | ok v =>
    rw [ha] at h
    simp only at h ⊢
    have hb := atoiAll_bounds ha
    by_cases hi : itoa v = w
    · rw [if_pos hi]
      exact ⟨hi.symm, hb⟩
    · rw [if_neg hi] at h
      cases h
  | _ => rw [ha] at h; cases h

theorem numv_bd (w : List UInt8) : -9223372036854775808 ≤ (numv w).1 ∧ (numv w).1 ≤ 9223372036854775807 := by
  unfold numv
  cases ha : atoiAll w with
  | ok v =>
    simp only
    have hb := atoiAll_bounds ha
    split
    · exact hb
    · exact ⟨by decide, by decide⟩
  | _ => exact ⟨by simp, by simp⟩

/-! ### Packs -/

def pk (a : List UInt8) : List UInt8 := decDigits a.length ++ 58 :: a
def pack (l : List (List UInt8)) : List UInt8 := l.flatMap pk

theorem pack_nil : pack [] = [] := rfl
theorem pack_cons (a : List UInt8) (l : List (List UInt8)) : pack (a :: l) = pk a ++ pack l := rfl
theorem pack_append (l m : List (List UInt8)) : pack (l ++ m) = pack l ++ pack m := by unfold pack; rw [List.flatMap_append]
theorem pack_snoc (l : List (List UInt8)) (a : List UInt8) : pack (l ++ [a]) = pack l ++ pk a := by rw [pack_append, pack_cons, pack_nil, List.append_nil]
theorem pk_ne (a : List UInt8) : pk a ≠ [] := by unfold pk; simp
theorem pk_length (a : List UInt8) : (pk a).length = (decDigits a.length).length + 1 + a.length := by
  unfold pk
  simp
  omega

theorem colon_not (n : Nat) : (58 : UInt8) ∉ decDigits n := by
  intro h
  have := dec_digs n 58 h
  unfold IsDig at this
  have e : (58 : UInt8).toNat = 58 := rfl
  omega

/-- What stands before the first colon, and behind it, is one thing alone. -/
theorem split_unique : ∀ (w w' r r' : List UInt8), (58 : UInt8) ∉ w → (58 : UInt8) ∉ w' → w ++ 58 :: r = w' ++ 58 :: r' → w = w' ∧ r = r'
  | [], [], r, r', _, _, h => by
    simp only [List.nil_append, List.cons.injEq, true_and] at h
    exact ⟨rfl, h⟩
  | [], c :: w', r, r', _, h2, h => by
    simp only [List.nil_append, List.cons_append, List.cons.injEq] at h
    exact absurd (by rw [← h.1]; simp) h2
  | c :: w, [], r, r', h1, _, h => by
    simp only [List.nil_append, List.cons_append, List.cons.injEq] at h
    exact absurd (by rw [h.1]; simp) h1
  | c :: w, c' :: w', r, r', h1, h2, h => by
    simp only [List.cons_append, List.cons.injEq] at h
    obtain ⟨rfl, h⟩ := h
    have := split_unique w w' r r' (fun hm => h1 (by simp [hm])) (fun hm => h2 (by simp [hm])) h
    exact ⟨by rw [this.1], this.2⟩

theorem dec_inj {a b : Nat} (h : decDigits a = decDigits b) : a = b := by
  have := valFrom_dec a
  rw [h, valFrom_dec] at this
  exact this.symm

theorem pk_unique (a b r r' : List UInt8) (h : pk a ++ r = pk b ++ r') : a = b ∧ r = r' := by
  unfold pk at h
  simp only [List.append_assoc, List.cons_append] at h
  obtain ⟨h1, h2⟩ := split_unique _ _ _ _ (colon_not _) (colon_not _) h
  have hl := dec_inj h1
  exact List.append_inj h2 hl

theorem pack_inj : ∀ (l m : List (List UInt8)), pack l = pack m → l = m
  | [], [], _ => rfl
  | [], b :: m, h => by
    rw [pack_nil, pack_cons] at h
    have := pk_ne b
    simp_all
  | a :: l, [], h => by
    rw [pack_nil, pack_cons] at h
    have := pk_ne a
    simp_all
  | a :: l, b :: m, h => by
    rw [pack_cons, pack_cons] at h
    obtain ⟨rfl, h2⟩ := pk_unique _ _ _ _ h
    rw [pack_inj l m h2]

/-- A pack that begins with a pack goes on with a pack. -/
theorem pack_rest : ∀ (acc L : List (List UInt8)) (s : List UInt8), pack acc ++ s = pack L → ∃ M, L = acc ++ M ∧ s = pack M
  | [], L, s, h => ⟨L, rfl, by simpa [pack_nil] using h⟩
  | a :: acc, [], s, h => by
    rw [pack_cons, pack_nil] at h
    have := pk_ne a
    simp_all
  | a :: acc, b :: L, s, h => by
    rw [pack_cons, pack_cons, List.append_assoc] at h
    obtain ⟨rfl, h2⟩ := pk_unique _ _ _ _ h
    obtain ⟨M, h3, h4⟩ := pack_rest acc L s h2
    exact ⟨M, by rw [h3]; rfl, h4⟩

/-- If what is left is not empty and does not begin with a packed string, the whole is no pack. -/
theorem no_pack {acc : List (List UInt8)} {s : List UInt8} (hs : s ≠ []) (h : ∀ a r, s ≠ pk a ++ r) : ∀ L, pack acc ++ s ≠ pack L := by
  intro L hL
  obtain ⟨M, _, h4⟩ := pack_rest acc L s hL
  cases M with
  | nil => exact hs h4
  | cons a M => exact h a (pack M) h4

/-! ### Cut at the first colon -/

theorem index_colon : ∀ s : List UInt8, (∃ w r, s = w ++ 58 :: r ∧ (58 : UInt8) ∉ w ∧ index s [58] = (w.length : Int)) ∨ ((58 : UInt8) ∉ s ∧ index s [58] = -1)
  | [] => .inr ⟨by simp, rfl⟩
  | b :: l => by
    unfold index
    by_cases hb : b = 58
    · subst hb
      exact .inl ⟨[], l, rfl, by simp, by simp⟩
    · have hp : ([58] : List UInt8).isPrefixOf (b :: l) = false := by
        simp [List.isPrefixOf]
        exact fun h => hb h.symm
      rw [hp]
      simp only [Bool.false_eq_true, if_false]
      rcases index_colon l with ⟨w, r, hl, hn, hi⟩ | ⟨hn, hi⟩
      · left
        refine ⟨b :: w, r, by rw [hl]; rfl, ?_, ?_⟩
        · simp only [List.mem_cons, not_or]
          exact ⟨fun h => hb h.symm, hn⟩
        · rw [hi]
          have : (((w.length : Int) == -1) = false) := by simp
          rw [this]
          simp
      · right
        refine ⟨?_, ?_⟩
        · simp only [List.mem_cons, not_or]
          exact ⟨fun h => hb h.symm, hn⟩
        · rw [hi]; simp

theorem cut_hit (w r : List UInt8) (h : (58 : UInt8) ∉ w) : cut (w ++ 58 :: r) [58] = (w, r, true) := by
  rcases index_colon (w ++ 58 :: r) with ⟨w', r', hs, hn, hi⟩ | ⟨hn, _⟩
  · obtain ⟨rfl, rfl⟩ := split_unique _ _ _ _ h hn hs
    unfold cut
    rw [hi, if_pos (by omega)]
    simp
  · exact absurd (List.mem_append_right _ List.mem_cons_self) hn

theorem cut_cases (s : List UInt8) : (∃ w r, s = w ++ 58 :: r ∧ (58 : UInt8) ∉ w ∧ cut s [58] = (w, r, true)) ∨ ((58 : UInt8) ∉ s ∧ cut s [58] = (s, [], false)) := by
  rcases index_colon s with ⟨w, r, rfl, hn, _⟩ | ⟨hn, hi⟩
  · exact .inl ⟨w, r, rfl, hn, cut_hit w r hn⟩
  · refine .inr ⟨hn, ?_⟩
    unfold cut
    rw [hi, if_neg (by decide)]

/-! ### One step of Unpack -/

/-- A word that is read as a number from 0 on is that number's numeral. -/
theorem word_dec {w : List UInt8} (h : (numv w).2 = true) (h0 : 0 ≤ (numv w).1) : w = decDigits (numv w).1.toNat := by
  have h1 := (numv_true h).1
  obtain ⟨n, hn⟩ : ∃ n, n = (numv w).1 := ⟨_, rfl⟩
  rw [← hn] at h0 h1 ⊢
  obtain ⟨u, rfl⟩ := Int.eq_ofNat_of_zero_le h0
  rw [h1, itoa_nonneg, Int.toNat_natCast]

theorem step_yes {w r : List UInt8} (h : (numv w).2 = true) (h0 : 0 ≤ (numv w).1) (h1 : (numv w).1 ≤ r.length) :
    w ++ 58 :: r = pk (r.take (numv w).1.toNat) ++ r.drop (numv w).1.toNat := by
  have hw := word_dec h h0
  unfold pk
  have hl : (r.take (numv w).1.toNat).length = (numv w).1.toNat := by rw [List.length_take]; omega
  rw [hl, ← hw]
  simp

theorem step_word (a r : List UInt8) (h : a.length < 9223372036854775808) : cut (pk a ++ r) [58] = (decDigits a.length, a ++ r, true) ∧ numv (decDigits a.length) = ((a.length : Int), true) := by
  refine ⟨?_, ?_⟩
  · unfold pk
    rw [List.append_assoc, List.cons_append]
    exact cut_hit _ _ (colon_not _)
  · rw [← itoa_nonneg]
    exact numv_itoa _ (by omega) (by omega)

theorem step_no_cut {s : List UInt8} (h : (58 : UInt8) ∉ s) : ∀ a r, s ≠ pk a ++ r := by
  rintro a r rfl
  exact h (by simp [pk])

theorem step_no {w r : List UInt8} (hw : (58 : UInt8) ∉ w) (hl : r.length < 9223372036854775808) (h : (numv w).2 = false ∨ (numv w).1 < 0 ∨ (r.length : Int) < (numv w).1) : ∀ a t, w ++ 58 :: r ≠ pk a ++ t := by
  intro a t he
  unfold pk at he
  rw [List.append_assoc, List.cons_append] at he
  obtain ⟨rfl, rfl⟩ := split_unique _ _ _ _ hw (colon_not _) he
  have hla : a.length < 9223372036854775808 := by simp at hl; omega
  have hn := numv_itoa (a.length : Int) (by omega) (by omega)
  rw [itoa_nonneg] at hn
  rw [hn] at h
  rcases h with h | h | h
  · cases h
  · simp at h; omega
  · simp at h; omega
end

section
open Classical in
/-- The strings of a pack. -/
noncomputable def unpk (s : List UInt8) : List (List UInt8) × Bool := if h : ∃ L, s = pack L then (h.choose, true) else ([], false)
theorem unpk_pack (L : List (List UInt8)) : unpk (pack L) = (L, true) := by
  unfold unpk
  have h : ∃ L', pack L = pack L' := ⟨L, rfl⟩
  rw [dif_pos h]
  exact Prod.ext (pack_inj _ _ h.choose_spec).symm rfl
theorem unpk_no {s : List UInt8} (h : ∀ L, s ≠ pack L) : unpk s = ([], false) := by
  unfold unpk
  rw [dif_neg fun ⟨L, e⟩ => h L e]
theorem unpk_cases (s : List UInt8) : (∃ L, s = pack L ∧ unpk s = (L, true)) ∨ ((∀ L, s ≠ pack L) ∧ unpk s = ([], false)) := by
  by_cases h : ∃ L, s = pack L
  · obtain ⟨L, rfl⟩ := h
    exact .inl ⟨L, rfl, unpk_pack L⟩
  · exact .inr ⟨fun L e => h ⟨L, e⟩, unpk_no fun L e => h ⟨L, e⟩⟩
/-- A list of things is read out of a pack. -/
noncomputable def rdList {α : Type} (f : List UInt8 → α × Bool) (s : List UInt8) : List α × Bool :=
  if (unpk s).2 = true ∧ ∀ x ∈ (unpk s).1, (f x).2 = true then ((unpk s).1.map fun x => (f x).1, true) else ([], false)
theorem rdList_yes {α : Type} {f : List UInt8 → α × Bool} {L : List (List UInt8)} (h : ∀ x ∈ L, (f x).2 = true) : rdList f (pack L) = (L.map fun x => (f x).1, true) := by
  unfold rdList
  rw [unpk_pack, if_pos ⟨rfl, h⟩]
theorem rdList_bad {α : Type} {f : List UInt8 → α × Bool} {s : List UInt8} (h : ∀ L, s ≠ pack L) : rdList f s = ([], false) := by
  unfold rdList
  rw [unpk_no h, if_neg (by simp)]
theorem rdList_no {α : Type} {f : List UInt8 → α × Bool} {L : List (List UInt8)} {x : List UInt8} (hx : x ∈ L) (h : (f x).2 = false) : rdList f (pack L) = ([], false) := by
  unfold rdList
  rw [unpk_pack, if_neg fun e => by have := e.2 x hx; rw [h] at this; cases this]
/-- What was written is read again. -/
theorem rdList_map {α : Type} {f : List UInt8 → α × Bool} {g : α → List UInt8} {l : List α} (h : ∀ x ∈ l, f (g x) = (x, true)) : rdList f (pack (l.map g)) = (l, true) := by
  rw [rdList_yes fun x hx => by obtain ⟨y, hy, rfl⟩ := List.mem_map.1 hx; rw [h y hy]]
  rw [List.map_map]
  congr 1
  exact (List.map_congr_left fun y hy => by simp [h y hy]).trans (List.map_id _)
def I64f (n : Int) : Prop := -9223372036854775808 ≤ n ∧ n ≤ 9223372036854775807

/-- An operation. -/
structure OpF where
  kind : Int
  a : Int
  b : Int
  c : Int
  list : List Int
  sym : List UInt8
def OpF.zero : OpF := ⟨0, 0, 0, 0, [], []⟩
def OpF.fits (o : OpF) : Prop := I64f o.kind ∧ I64f o.a ∧ I64f o.b ∧ I64f o.c ∧ ∀ x ∈ o.list, I64f x
/-- A code. -/
structure CdF where
  params : Int
  regs : Int
  ops : List OpF
def CdF.zero : CdF := ⟨0, 0, []⟩
def CdF.fits (c : CdF) : Prop := I64f c.params ∧ I64f c.regs ∧ ∀ o ∈ c.ops, o.fits
def numsS (l : List Int) : List UInt8 := pack (l.map Lib.itoa)
def opS (o : OpF) : List UInt8 := pack [Lib.itoa o.kind, Lib.itoa o.a, Lib.itoa o.b, Lib.itoa o.c, numsS o.list, o.sym]
def cdS (c : CdF) : List UInt8 := pack [Lib.itoa c.params, Lib.itoa c.regs, pack (c.ops.map opS)]
noncomputable def opR (s : List UInt8) : OpF × Bool :=
  match unpk s with
  | ([k, a, b, c, l, y], true) => if (numv k).2 = true ∧ (numv a).2 = true ∧ (numv b).2 = true ∧ (numv c).2 = true ∧ (rdList numv l).2 = true then (⟨(numv k).1, (numv a).1, (numv b).1, (numv c).1, (rdList numv l).1, y⟩, true) else (OpF.zero, false)
  | _ => (OpF.zero, false)
noncomputable def cdR (s : List UInt8) : CdF × Bool :=
  match unpk s with
  | ([p, r, o], true) => if (numv p).2 = true ∧ (numv r).2 = true ∧ (rdList opR o).2 = true then (⟨(numv p).1, (numv r).1, (rdList opR o).1⟩, true) else (CdF.zero, false)
  | _ => (CdF.zero, false)
theorem numv_fit {n : Int} (h : I64f n) : numv (Lib.itoa n) = (n, true) := numv_itoa n h.1 h.2
theorem nums_back {l : List Int} (h : ∀ x ∈ l, I64f x) : rdList numv (numsS l) = (l, true) := rdList_map fun x hx => numv_fit (h x hx)
theorem op_back {o : OpF} (h : o.fits) : opR (opS o) = (o, true) := by
  obtain ⟨h1, h2, h3, h4, h5⟩ := h
  unfold opR opS
  rw [unpk_pack]
  simp only [numv_fit h1, numv_fit h2, numv_fit h3, numv_fit h4, nums_back h5, and_self, if_true]
theorem cd_back {c : CdF} (h : c.fits) : cdR (cdS c) = (c, true) := by
  obtain ⟨h1, h2, h3⟩ := h
  unfold cdR cdS
  rw [unpk_pack]
  simp only [numv_fit h1, numv_fit h2, rdList_map fun o ho => op_back (h3 o ho), and_self, if_true]
theorem cd_inj {c d : CdF} (hc : c.fits) (hd : d.fits) (h : cdS c = cdS d) : c = d := by
  have h1 := cd_back hc
  rw [h, cd_back hd] at h1
  exact (Prod.mk.inj h1).1.symm
end
end Go.Proofs.YtkggmckfdkpldaaDoor
