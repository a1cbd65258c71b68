/-
  The walks of recompileref04.Digits and ReadDigits: the decimal numeral of an int, and which texts are numerals.
  Conditions: the number is an int; the text is of at most 10^9 bytes.
-/
import Derived.Test.YtkggmckfdkpldaaDoorFcU
namespace Go.Proofs.YtkggmckfdkpldaaDoor
open Go.RowKit

set_option maxRecDepth 100000 in
theorem dec_small {n : Nat} (h : n < 10) : Lib.decDigits n = [UInt8.ofNat (48 + n)] := Lib.decDigits_one h
set_option maxRecDepth 100000 in
theorem dec_big {n : Nat} (h : ¬ n < 10) : Lib.decDigits n = Lib.decDigits (n / 10) ++ Lib.decDigits (n % 10) := by
  rw [Lib.decDigits, dif_neg h, dec_small (n := n % 10) (by omega)]

set_option maxRecDepth 100000 in
theorem ret_str {a b : ByteArray} (h : a = b) : Ending.returned (.string a) = .returned (.string b) := by rw [h]
set_option maxRecDepth 100000 in
theorem bs_append (a b : List UInt8) : bs (a ++ b) = bs a ++ bs b := by
  unfold bs
  apply ByteArray.ext
  simp

set_option maxHeartbeats 400000 in
set_option maxRecDepth 100000 in
theorem digits_small (n : Nat) (w : World) (h : n < 10) :
    Calls Tryd.prog 49 #[.int .i64 (n : Int)] w fun e w' => e = .returned (sv (Lib.decDigits n)) ∧ Below w.heap.size w w' := by
  have hcv : (convert 83 9 (.slice (some ⟨w.heap.size, 0, none⟩) 1 1)).run Tryd.prog (w.alloc (.cells #[.int .u8 (48 + (n : Int))] 5)) = .ok (sv (Lib.decDigits n)) (w.alloc (.cells #[.int .u8 (48 + (n : Int))] 5)) := by
    rw [dec_small h]
    exact run_convert_bytes_back _ _ _ 5 _ 1 [UInt8.ofNat (48 + n)] Tryd.underlying83 Tryd.underlying5 Tryd.underlying9 (fun j hj => by
      have : j = 0 := by simpa using hj
      subst this
      simp [go_sem]
      omega)
  go_enter Tryd.func49, Tryd.ntmps49
  go_wp2
  go_ret
  exact ⟨rfl, (Below.refl _ _).alloc (Nat.le_refl _) _⟩

set_option maxHeartbeats 400000 in
set_option maxRecDepth 100000 in
theorem digits_nat (k : Nat) : ∀ (n : Int) (w : World), 0 ≤ n → n ≤ 9223372036854775807 → n.toNat ≤ k →
    Calls Tryd.prog 49 #[.int .i64 n] w fun e w' => e = .returned (sv (Lib.decDigits n.toNat)) ∧ Below w.heap.size w w' := by
  induction k with
  | zero =>
    intro n w h0 h1 hk
    obtain ⟨m, rfl⟩ := Int.eq_ofNat_of_zero_le h0
    rw [Int.toNat_natCast] at hk ⊢
    exact digits_small m w (by omega)
  | succ k ih =>
    intro n w h0 h1 hk
    by_cases hs : n < 10
    · obtain ⟨m, rfl⟩ := Int.eq_ofNat_of_zero_le h0
      rw [Int.toNat_natCast] at hk ⊢
      exact digits_small m w (by omega)
    · have IH := Lib.hid ih
      clear ih
      go_enter Tryd.func49, Tryd.ntmps49
      obtain ⟨m, rfl⟩ := Int.eq_ofNat_of_zero_le h0
      have hbig : ¬ m < 10 := by omega
      have hd1 : (bs (Lib.decDigits (m / 10))).size ≤ 21 := by
        rw [bs_size, ← Lib.itoa_nonneg]
        exact Lib.itoa_length_le _ (by omega) (by omega)
      have hd2 : (bs (Lib.decDigits (m % 10))).size ≤ 21 := by
        rw [bs_size, ← Lib.itoa_nonneg]
        exact Lib.itoa_length_le _ (by omega) (by omega)
      go_wp2_with fail
      refine (IH.out _ _ (by omega) (by omega) (by omega)).mono ?_
      rintro e w1 ⟨rfl, hb1⟩
      rw [show ((m : Int) / 10).toNat = m / 10 from by omega]
      go_wp2_with fail
      refine (IH.out _ _ (by omega) (by omega) (by omega)).mono ?_
      rintro e w2 ⟨rfl, hb2⟩
      rw [show ((m : Int) % 10).toNat = m % 10 from by omega]
      go_wp2
      go_ret
      exact ⟨ret_str (by rw [Int.toNat_natCast, dec_big hbig, bs_append]), hb1.trans (hb2.mono hb1.size)⟩

set_option maxRecDepth 100000 in
theorem itoa_min : Lib.itoa (-9223372036854775808) = [45, 57, 50, 50, 51, 51, 55, 50, 48, 51, 54, 56, 53, 52, 55, 55, 53, 56, 48, 56] := by
  have e : (-9223372036854775808 : Int) = -((9223372036854775808 : Nat) : Int) := rfl
  rw [e, Lib.itoa_neg _ (by decide), Lib.decDigits_eq]
  have hn : Lib.nDigits 9223372036854775808 = 19 := Lib.nDigits_unique 18 _ (by decide) (by decide)
  rw [hn]
  decide +kernel
set_option maxRecDepth 100000 in
theorem min_bs : (⟨#[45, 57, 50, 50, 51, 51, 55, 50, 48, 51, 54, 56, 53, 52, 55, 55, 53, 56, 48, 56]⟩ : ByteArray) = bs (Lib.itoa (-9223372036854775808)) := by
  rw [itoa_min]
  rfl

set_option maxHeartbeats 400000 in
set_option maxRecDepth 100000 in
theorem digits_min (w : World) :
    Calls Tryd.prog 49 #[.int .i64 (-9223372036854775808)] w fun e w' => e = .returned (sv (Lib.itoa (-9223372036854775808))) ∧ Below w.heap.size w w' := by
  have hq : ((-9223372036854775808 : Int) == wrap64 9223372036854775808) = true := by unfold wrap64; decide
  go_enter Tryd.func49, Tryd.ntmps49
  go_wp2_with fail
  go_ret
  exact ⟨ret_str min_bs, Below.refl _ _⟩

set_option maxHeartbeats 400000 in
set_option maxRecDepth 100000 in
theorem digits_neg (m : Nat) (w : World) (h0 : 1 ≤ m) (h1 : m ≤ 9223372036854775807) :
    Calls Tryd.prog 49 #[.int .i64 (-(m : Int))] w fun e w' => e = .returned (sv (Lib.itoa (-(m : Int)))) ∧ Below w.heap.size w w' := by
  have hq : (-(m : Int) == (m : Int)) = false := by simp; omega
  have hd1 : (bs (Lib.decDigits m)).size ≤ 21 := by
    rw [bs_size, ← Lib.itoa_nonneg]
    exact Lib.itoa_length_le _ (by omega) (by omega)
  go_enter Tryd.func49, Tryd.ntmps49
  go_wp2_with fail
  refine (digits_nat m (m : Int) w (by omega) (by omega) (by omega)).mono ?_
  rintro e w1 ⟨rfl, hb1⟩
  rw [Int.toNat_natCast]
  go_wp2
  go_ret
  exact ⟨ret_str (by rw [Lib.itoa_neg m h0]; exact (bs_append [45] _).symm), hb1⟩

set_option maxRecDepth 100000 in
theorem digits_any (n : Int) (w : World) (h0 : -9223372036854775808 ≤ n) (h1 : n ≤ 9223372036854775807) :
    Calls Tryd.prog 49 #[.int .i64 n] w fun e w' => e = .returned (sv (Lib.itoa n)) ∧ Below w.heap.size w w' := by
  by_cases hn : n < 0
  · by_cases hm : n = -9223372036854775808
    · subst hm
      exact digits_min w
    · obtain ⟨m, rfl⟩ : ∃ m : Nat, n = -(m : Int) := ⟨n.natAbs, by omega⟩
      exact digits_neg m w (by omega) (by omega)
  · obtain ⟨m, rfl⟩ := Int.eq_ofNat_of_zero_le (a := n) (by omega)
    have := digits_nat m (m : Int) w (by omega) (by omega) (by omega)
    rw [Int.toNat_natCast] at this
    rw [Lib.itoa_nonneg]
    exact this

/-! ### ReadDigits -/

def rdStep (x : Int) (c : UInt8) : Int := if 48 ≤ (c.toNat : Int) ∧ (c.toNat : Int) ≤ 57 then wrap64 (wrap64 (x * 10) - ((c.toNat : Int) - 48)) else x
def rdFold (l : List UInt8) : Int := l.foldl rdStep 0
def rdv (s : List UInt8) : Int := if s = [] ∨ s[0]? = some 45 then rdFold s else wrap64 (-(rdFold s))

set_option maxRecDepth 100000 in
theorem wrap64_bd (x : Int) : -9223372036854775808 ≤ wrap64 x ∧ wrap64 x ≤ 9223372036854775807 := by unfold wrap64; omega
set_option maxRecDepth 100000 in
theorem rdFold_snoc (l : List UInt8) (c : UInt8) : rdFold (l ++ [c]) = rdStep (rdFold l) c := by
  unfold rdFold
  rw [List.foldl_append]
  rfl
set_option maxRecDepth 100000 in
theorem foldl_bd (l : List UInt8) : ∀ x : Int, -9223372036854775808 ≤ x → x ≤ 9223372036854775807 → -9223372036854775808 ≤ l.foldl rdStep x ∧ l.foldl rdStep x ≤ 9223372036854775807 := by
  induction l with
  | nil => intro x h0 h1; exact ⟨h0, h1⟩
  | cons c l ih =>
    intro x h0 h1
    rw [List.foldl_cons]
    have : -9223372036854775808 ≤ rdStep x c ∧ rdStep x c ≤ 9223372036854775807 := by
      unfold rdStep
      split
      · exact wrap64_bd _
      · exact ⟨h0, h1⟩
    exact ih _ this.1 this.2
set_option maxRecDepth 100000 in
theorem rdFold_bd (l : List UInt8) : -9223372036854775808 ≤ rdFold l ∧ rdFold l ≤ 9223372036854775807 := foldl_bd l 0 (by omega) (by omega)
set_option maxRecDepth 100000 in
theorem wrap_step (a b d : Int) (h : a = wrap64 (-b)) : wrap64 (wrap64 (a * 10) - d) = wrap64 (-(b * 10 + d)) := by
  subst h
  unfold wrap64
  omega
set_option maxRecDepth 100000 in
theorem foldl_digs (l : List UInt8) : ∀ (x : Int) (v : Nat), (∀ c ∈ l, IsDig c) → x = wrap64 (-(v : Int)) → l.foldl rdStep x = wrap64 (-(valFrom v l : Nat)) := by
  induction l with
  | nil => intro x v _ hx; rw [valFrom_nil]; exact hx
  | cons c l ih =>
    intro x v h hx
    have hc : 48 ≤ c.toNat ∧ c.toNat ≤ 57 := h c (by simp)
    rw [List.foldl_cons, valFrom_cons]
    refine ih _ _ (fun d hd => h d (by simp [hd])) ?_
    unfold rdStep
    rw [if_pos ⟨by omega, by omega⟩, wrap_step _ _ _ hx]
    congr 2
    omega
set_option maxRecDepth 100000 in
theorem rdFold_digs (l : List UInt8) (h : ∀ c ∈ l, IsDig c) : rdFold l = wrap64 (-(valFrom 0 l : Nat)) := foldl_digs l 0 0 h (by unfold wrap64; decide)

set_option maxRecDepth 100000 in
theorem pow_le_nDigits (m : Nat) : 0 < m → 10 ^ (Lib.nDigits m - 1) ≤ m := by
  induction m using Nat.strongRecOn with
  | _ m ih =>
    intro h
    by_cases hs : m < 10
    · rw [Lib.nDigits_small hs]
      have : 10 ^ (1 - 1) = 1 := rfl
      omega
    · have h2 := ih (m / 10) (by omega) (by omega)
      have h3 := Lib.nDigits_pos (m / 10)
      rw [Lib.nDigits_big hs]
      obtain ⟨j, hj⟩ : ∃ j, Lib.nDigits (m / 10) = j + 1 := ⟨Lib.nDigits (m / 10) - 1, by omega⟩
      rw [hj] at h2 ⊢
      simp only [Nat.add_sub_cancel] at h2 ⊢
      rw [Nat.pow_succ]
      omega

set_option maxRecDepth 100000 in
theorem rdv_itoa (n : Int) (h0 : -9223372036854775808 ≤ n) (h1 : n ≤ 9223372036854775807) : rdv (Lib.itoa n) = n := by
  unfold rdv
  by_cases hn : n < 0
  · obtain ⟨m, rfl⟩ : ∃ m : Nat, n = -(m : Int) := ⟨n.natAbs, by omega⟩
    rw [Lib.itoa_neg m (by omega), if_pos (.inr rfl)]
    have e : rdFold (45 :: Lib.decDigits m) = rdFold (Lib.decDigits m) := rfl
    rw [e, rdFold_digs _ (dec_digs m), valFrom_dec]
    unfold wrap64
    omega
  · obtain ⟨m, rfl⟩ := Int.eq_ofNat_of_zero_le (a := n) (by omega)
    rw [Lib.itoa_nonneg, rdFold_digs _ (dec_digs m), valFrom_dec, if_neg]
    · unfold wrap64
      omega
    · rintro (h | h)
      · exact dec_ne m h
      · have := dec_digs m 45 (List.mem_of_getElem? h)
        unfold IsDig at this
        have e : (45 : UInt8).toNat = 45 := rfl
        omega
set_option maxRecDepth 100000 in
theorem itoa_len20 (n : Int) (h0 : -9223372036854775808 ≤ n) (h1 : n ≤ 9223372036854775807) : (Lib.itoa n).length ≤ 20 := by
  have key : ∀ m : Nat, m < 10000000000000000000 → Lib.nDigits m ≤ 19 := by
    intro m hm
    rcases Nat.lt_or_ge 19 (Lib.nDigits m) with h | h
    · exfalso
      have h2 := Lib.decDigits_length m
      have h3 : 10 ^ (Lib.nDigits m - 1) ≤ m := by
        rcases Nat.eq_zero_or_pos m with h0 | h0
        · subst h0
          rw [Lib.nDigits_small (by omega)] at h
          omega
        · exact pow_le_nDigits m h0
      have h4 : 10 ^ 19 ≤ 10 ^ (Lib.nDigits m - 1) := Nat.pow_le_pow_right (by decide) (by omega)
      have h5 : (10 : Nat) ^ 19 = 10000000000000000000 := by decide
      omega
    · exact h
  by_cases hn : n < 0
  · obtain ⟨m, rfl⟩ : ∃ m : Nat, n = -(m : Int) := ⟨n.natAbs, by omega⟩
    have := key m (by omega)
    rw [Lib.itoa_neg m (by omega), List.length_cons, Lib.decDigits_length]
    omega
  · obtain ⟨m, rfl⟩ := Int.eq_ofNat_of_zero_le (a := n) (by omega)
    have := key m (by omega)
    rw [Lib.itoa_nonneg, Lib.decDigits_length]
    omega

/-- How ReadDigits ends. -/
def RdEnd (s : List UInt8) (w : World) (e : Ending) (w' : World) : Prop :=
  ∃ b : Bool, e = .returned (.tuple #[.int .i64 (rdv s), .bool b]) ∧ (b = true ↔ (s ≠ [] ∧ s.length ≤ 20 ∧ Lib.itoa (rdv s) = s)) ∧ Below w.heap.size w w'

set_option maxRecDepth 100000 in
theorem rdv_plus {s : List UInt8} (h : 0 < (bs s).size) (h' : (((bs s)[0].toNat : Int) != 45) = true) : wrap64 (-rdFold s) = rdv s := by
  unfold rdv
  rw [if_neg]
  rintro (hn | hn)
  · subst hn
    exact absurd h (by decide)
  · have e : s[0]? = some (bs s)[0] := by
      rw [bs_size] at h
      rw [List.getElem?_eq_getElem h]
      rfl
    rw [e] at hn
    rw [Option.some.inj hn] at h'
    exact absurd h' (by decide)
set_option maxRecDepth 100000 in
theorem rdv_minus {s : List UInt8} (h : 0 < (bs s).size) (h' : (((bs s)[0].toNat : Int) != 45) = false) : rdFold s = rdv s := by
  unfold rdv
  rw [if_pos]
  right
  have e : s[0]? = some (bs s)[0] := by
    rw [bs_size] at h
    rw [List.getElem?_eq_getElem h]
    rfl
  rw [e]
  have h2 : ((bs s)[0].toNat : Int) = 45 := by
    rw [bne_eq_false_iff_eq] at h'
    exact h'
  congr 1
  apply UInt8.toNat_inj.1
  have e : (45 : UInt8).toNat = 45 := rfl
  omega
set_option maxRecDepth 100000 in
theorem rdv_nil {s : List UInt8} (h : ¬ 0 < (bs s).size) : s = [] ∧ rdFold s = rdv s := by
  rw [bs_size] at h
  have hs : s = [] := List.eq_nil_of_length_eq_zero (by omega)
  subst hs
  exact ⟨rfl, rfl⟩
set_option maxRecDepth 100000 in
theorem rdv_bd (s : List UInt8) : -9223372036854775808 ≤ rdv s ∧ rdv s ≤ 9223372036854775807 := by
  unfold rdv
  split
  · exact rdFold_bd s
  · exact wrap64_bd _
set_option maxRecDepth 100000 in
theorem ret_pair {a b : Int} (v : Value) (h : a = b) : Ending.returned (.tuple #[.int .i64 a, v]) = .returned (.tuple #[.int .i64 b, v]) := by rw [h]
set_option maxRecDepth 100000 in
theorem rd_long {s : List UInt8} (h : (20 : Int) < ((bs s).size : Int)) : (false = true ↔ (s ≠ [] ∧ s.length ≤ 20 ∧ Lib.itoa (rdv s) = s)) := by
  rw [bs_size] at h
  constructor
  · intro h'; cases h'
  · rintro ⟨_, h2, _⟩
    omega
set_option maxRecDepth 100000 in
theorem rd_short {s : List UInt8} (h0 : 0 < (bs s).size) (h : ((bs s).size : Int) ≤ 20) : (((bs (Lib.itoa (rdv s))).toList == (bs s).toList) = true ↔ (s ≠ [] ∧ s.length ≤ 20 ∧ Lib.itoa (rdv s) = s)) := by
  rw [bs_size] at h h0
  rw [Lib.toList_data, Lib.toList_data, bs_data, bs_data, beq_iff_eq]
  constructor
  · intro h'
    exact ⟨fun hn => (by rw [hn] at h0; simp at h0), by omega, h'⟩
  · rintro ⟨_, _, h3⟩
    exact h3

set_option maxHeartbeats 400000 in
set_option maxRecDepth 100000 in
theorem readDigits_any (s : List UInt8) (w : World) (hs : s.length ≤ 1000000000) :
    Calls Tryd.prog 65 #[sv s] w (RdEnd s w) := by
  go_enter Tryd.func65, Tryd.ntmps65
  have hsz := bs_size s
  have hs1 : (bs s).size ≤ 1000000000 := by omega
  have Hsz := Lib.hid hsz
  clear hsz
  go_wp2_with fail
  go_loop [4, 5] (fun n i => ∃ k : Nat, k ≤ (bs s).size ∧ i = .int .i64 k ∧ n = .int .i64 (rdFold (s.take k))) (fun _ i => (bs s).size - (intOf i).toNat)
  case atStart => exact ⟨0, Nat.zero_le _, rfl, rfl⟩
  case round =>
    obtain ⟨k, hk, rfl, rfl⟩ := hrel
    by_cases hlt : k < (bs s).size
    · obtain ⟨hx0, hx1⟩ := rdFold_bd (s.take k)
      have hstep : rdFold (s.take (k + 1)) = rdStep (rdFold (s.take k)) (bs s)[k] := by
        have hk2 : k < s.length := by rw [← Hsz.out]; exact hlt
        rw [List.take_succ_eq_append_getElem hk2, rdFold_snoc]
        rfl
      have Hstep := Lib.hid hstep
      clear hstep
      go_wp2_with fail
      all_goals
        go_round
        case rel => exact ⟨k + 1, by omega, by go_num, by
          rw [Hstep.out]
          unfold rdStep
          first | rw [if_pos ⟨‹_›, ‹_›⟩] | rw [if_neg (by omega)]⟩
        case measure => simp [intOf]; omega
    · obtain rfl : k = (bs s).size := by omega
      have hk3 : s.take (bs s).size = s := List.take_of_length_le (by rw [Hsz.out]; exact Nat.le_refl _)
      rw [hk3]
      clear hk3 hlt hk
      obtain ⟨hv0, hv1⟩ := rdv_bd s
      go_wp2_with fail
      · have h1 : 0 < (bs s).size := by assumption
        have h2 : (((bs s)[0].toNat : Int) != 45) = true := by assumption
        have h3 : ((bs s).size : Int) ≤ 20 := by assumption
        rw [rdv_plus h1 h2]
        refine (digits_any _ _ hv0 hv1).mono ?_
        rintro e w1 ⟨rfl, hb⟩
        go_wp2
        go_ret2
        exact ⟨_, rfl, rd_short h1 h3, hb⟩
      · have h1 : 0 < (bs s).size := by assumption
        have h2 : (((bs s)[0].toNat : Int) != 45) = true := by assumption
        have h3 : (20 : Int) < ((bs s).size : Int) := by assumption
        go_ret2
        exact ⟨_, ret_pair _ (rdv_plus h1 h2), rd_long h3, Below.refl _ _⟩
      · have h1 : 0 < (bs s).size := by assumption
        have h2 : (((bs s)[0].toNat : Int) != 45) = false := by assumption
        have h3 : ((bs s).size : Int) ≤ 20 := by assumption
        rw [rdv_minus h1 h2]
        refine (digits_any _ _ hv0 hv1).mono ?_
        rintro e w1 ⟨rfl, hb⟩
        go_wp2
        go_ret2
        exact ⟨_, rfl, rd_short h1 h3, hb⟩
      · have h1 : 0 < (bs s).size := by assumption
        have h2 : (((bs s)[0].toNat : Int) != 45) = false := by assumption
        have h3 : (20 : Int) < ((bs s).size : Int) := by assumption
        go_ret2
        exact ⟨_, ret_pair _ (rdv_minus h1 h2), rd_long h3, Below.refl _ _⟩
      · have h1 : ¬ 0 < (bs s).size := by assumption
        obtain ⟨h4, h5⟩ := rdv_nil h1
        go_ret2
        exact ⟨false, ret_pair _ h5, ⟨fun h => (by cases h), fun h => absurd h4 h.1⟩, Below.refl _ _⟩

set_option maxRecDepth 100000 in
theorem rd_numv (s : List UInt8) : (s ≠ [] ∧ s.length ≤ 20 ∧ Lib.itoa (rdv s) = s) ↔ (numv s).2 = true := by
  obtain ⟨h0, h1⟩ := rdv_bd s
  constructor
  · rintro ⟨_, _, h⟩
    have := numv_itoa (rdv s) h0 h1
    rw [h] at this
    rw [this]
  · intro h
    obtain ⟨h2, h3, h4⟩ := numv_true h
    have h5 := rdv_itoa _ h3 h4
    rw [← h2] at h5
    have h6 := itoa_len20 _ h3 h4
    rw [← h2] at h6
    refine ⟨?_, h6, by rw [h5, ← h2]⟩
    intro hn
    have h7 := congrArg List.length h2
    rw [hn] at h7
    by_cases hneg : (numv s).1 < 0
    · obtain ⟨m, hm⟩ : ∃ m : Nat, (numv s).1 = -(m : Int) := ⟨(numv s).1.natAbs, by omega⟩
      rw [hn] at hm hneg
      rw [hm, Lib.itoa_neg m (by omega)] at h7
      simp at h7
    · obtain ⟨m, hm⟩ := Int.eq_ofNat_of_zero_le (a := (numv s).1) (by omega)
      rw [hn] at hm
      rw [hm, Lib.itoa_nonneg, Lib.decDigits_length] at h7
      have := Lib.nDigits_pos m
      simp at h7
      omega
set_option maxRecDepth 100000 in
theorem rdv_numv {s : List UInt8} (h : (numv s).2 = true) : rdv s = (numv s).1 := by
  obtain ⟨h2, h3, h4⟩ := numv_true h
  have h5 := rdv_itoa _ h3 h4
  rw [← h2] at h5
  exact h5

set_option maxRecDepth 100000 in
theorem readDigits_yes (s : List UInt8) (n : Int) (w : World) (hs : s.length ≤ 1000000000) (hn : numv s = (n, true)) :
    Calls Tryd.prog 65 #[sv s] w fun e w' => e = .returned (.tuple #[.int .i64 n, .bool true]) ∧ Below w.heap.size w w' :=
  (readDigits_any s w hs).mono fun e w' h => by
    obtain ⟨b, he, hb, hw⟩ := h
    have h2 : (numv s).2 = true := by rw [hn]
    have h3 := rdv_numv h2
    rw [hn] at h3
    have h4 : b = true := hb.2 ((rd_numv s).2 h2)
    rw [h3, h4] at he
    exact ⟨he, hw⟩
set_option maxRecDepth 100000 in
theorem readDigits_no (s : List UInt8) (w : World) (hs : s.length ≤ 1000000000) (hn : (numv s).2 = false) :
    Calls Tryd.prog 65 #[sv s] w fun e w' => e = .returned (.tuple #[.int .i64 (rdv s), .bool false]) ∧ Below w.heap.size w w' :=
  (readDigits_any s w hs).mono fun e w' h => by
    obtain ⟨b, he, hb, hw⟩ := h
    have h4 : b = false := by
      cases b
      · rfl
      · have := (rd_numv s).1 (hb.1 rfl)
        rw [hn] at this
        cases this
    rw [h4] at he
    exact ⟨he, hw⟩
end Go.Proofs.YtkggmckfdkpldaaDoor
