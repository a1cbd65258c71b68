/-
  The walks of recompileref04.Digits and ReadDigits: the decimal numeral of an int, and which texts are numerals.
  Conditions: the number is an int; the text is of at most 10^9 bytes.
  The walks of made.Digits, law09's v and ref09.Variable.
  Conditions: the number is below 100; the name is no variable's, or that of a variable below 100.
  The walk of ref09.get: the type of a variable.
  Conditions: the solution is of at most 4000000 types.
-/
import Derived.Test.YtndhglcdkegigaaDoorRMap
import Derived.Test.YtndhglcdkegigaaDoorVals
import Derived.Test.YtndhglcdkegigaaDoorStr
import Derived.Test.YtndhglcdkegigaaDoorSv
import Derived.Test.YtndhglcdkegigaaDoorNod
namespace Go.Proofs.YtndhglcdkegigaaDoor
section
open Go.RowKit
theorem dec_small {n : Nat} (h : n < 10) : Lib.decDigits n = [UInt8.ofNat (48 + n)] := Lib.decDigits_one h
theorem dec_big {n : Nat} (h : ¬ n < 10) : Lib.decDigits n = Lib.decDigits (n / 10) ++ Lib.decDigits (n % 10) := by
  rw [Lib.decDigits, dif_neg h, dec_small (n := n % 10) (by omega)]

theorem ret_str {a b : ByteArray} (h : a = b) : Ending.returned (.string a) = .returned (.string b) := by rw [h]
theorem bs_append (a b : List UInt8) : bs (a ++ b) = bs a ++ bs b := by
  unfold bs
  apply ByteArray.ext
  simp

set_option maxHeartbeats 4000000 in
set_option maxRecDepth 100000 in
theorem digits_small (n : Nat) (w : World) (h : n < 10) :
    Calls Tryd.prog 89 #[.int .i64 (n : Int)] w fun e w' => e = .returned (sv (Lib.decDigits n)) ∧ Below w.heap.size w w' := by
  have hcv : (convert 26 9 (.slice (some ⟨w.heap.size, 0, none⟩) 1 1)).run Tryd.prog (w.alloc (.cells #[.int .u8 (48 + (n : Int))] 5)) = .ok (sv (Lib.decDigits n)) (w.alloc (.cells #[.int .u8 (48 + (n : Int))] 5)) := by
    rw [dec_small h]
    exact run_convert_bytes_back _ _ _ 5 _ 1 [UInt8.ofNat (48 + n)] Tryd.underlying26 Tryd.underlying5 Tryd.underlying9 (fun j hj => by
      have : j = 0 := by simpa using hj
      subst this
      simp [go_sem]
      omega)
  go_enter Tryd.func89, Tryd.ntmps89
  go_wp2
  go_ret
  exact ⟨rfl, (Below.refl _ _).alloc (Nat.le_refl _) _⟩

set_option maxHeartbeats 4000000 in
set_option maxRecDepth 100000 in
theorem digits_nat (k : Nat) : ∀ (n : Int) (w : World), 0 ≤ n → n ≤ 9223372036854775807 → n.toNat ≤ k →
    Calls Tryd.prog 89 #[.int .i64 n] w fun e w' => e = .returned (sv (Lib.decDigits n.toNat)) ∧ Below w.heap.size w w' := by
  induction k with
  | zero =>
    intro n w h0 h1 hk
    obtain ⟨m, rfl⟩ := Int.eq_ofNat_of_zero_le h0
    rw [Int.toNat_natCast] at hk ⊢
    exact digits_small m w (by omega)
  | succ k ih =>
    intro n w h0 h1 hk
    by_cases hs : n < 10
    · obtain ⟨m, rfl⟩ := Int.eq_ofNat_of_zero_le h0
      rw [Int.toNat_natCast] at hk ⊢
      exact digits_small m w (by omega)
    · have IH := Lib.hid ih
      clear ih
      go_enter Tryd.func89, Tryd.ntmps89
      obtain ⟨m, rfl⟩ := Int.eq_ofNat_of_zero_le h0
      have hbig : ¬ m < 10 := by omega
      have hd1 : (bs (Lib.decDigits (m / 10))).size ≤ 21 := by
        rw [bs_size, ← Lib.itoa_nonneg]
        exact Lib.itoa_length_le _ (by omega) (by omega)
      have hd2 : (bs (Lib.decDigits (m % 10))).size ≤ 21 := by
        rw [bs_size, ← Lib.itoa_nonneg]
        exact Lib.itoa_length_le _ (by omega) (by omega)
      go_wp2_with fail
      refine (IH.out _ _ (by omega) (by omega) (by omega)).mono ?_
      rintro e w1 ⟨rfl, hb1⟩
      rw [show ((m : Int) / 10).toNat = m / 10 from by omega]
      go_wp2_with fail
      refine (IH.out _ _ (by omega) (by omega) (by omega)).mono ?_
      rintro e w2 ⟨rfl, hb2⟩
      rw [show ((m : Int) % 10).toNat = m % 10 from by omega]
      go_wp2
      go_ret
      exact ⟨ret_str (by rw [Int.toNat_natCast, dec_big hbig, bs_append]), hb1.trans (hb2.mono hb1.size)⟩

theorem itoa_min : Lib.itoa (-9223372036854775808) = [45, 57, 50, 50, 51, 51, 55, 50, 48, 51, 54, 56, 53, 52, 55, 55, 53, 56, 48, 56] := by
  have e : (-9223372036854775808 : Int) = -((9223372036854775808 : Nat) : Int) := rfl
  rw [e, Lib.itoa_neg _ (by decide), Lib.decDigits_eq]
  have hn : Lib.nDigits 9223372036854775808 = 19 := Lib.nDigits_unique 18 _ (by decide) (by decide)
  rw [hn]
  decide +kernel
theorem min_bs : (⟨#[45, 57, 50, 50, 51, 51, 55, 50, 48, 51, 54, 56, 53, 52, 55, 55, 53, 56, 48, 56]⟩ : ByteArray) = bs (Lib.itoa (-9223372036854775808)) := by
  rw [itoa_min]
  rfl

set_option maxHeartbeats 4000000 in
set_option maxRecDepth 100000 in
theorem digits_min (w : World) :
    Calls Tryd.prog 89 #[.int .i64 (-9223372036854775808)] w fun e w' => e = .returned (sv (Lib.itoa (-9223372036854775808))) ∧ Below w.heap.size w w' := by
  have hq : ((-9223372036854775808 : Int) == wrap64 9223372036854775808) = true := by unfold wrap64; decide
  go_enter Tryd.func89, Tryd.ntmps89
  go_wp2_with fail
  go_ret
  exact ⟨ret_str min_bs, Below.refl _ _⟩

set_option maxHeartbeats 4000000 in
set_option maxRecDepth 100000 in
theorem digits_neg (m : Nat) (w : World) (h0 : 1 ≤ m) (h1 : m ≤ 9223372036854775807) :
    Calls Tryd.prog 89 #[.int .i64 (-(m : Int))] w fun e w' => e = .returned (sv (Lib.itoa (-(m : Int)))) ∧ Below w.heap.size w w' := by
  have hq : (-(m : Int) == (m : Int)) = false := by simp; omega
  have hd1 : (bs (Lib.decDigits m)).size ≤ 21 := by
    rw [bs_size, ← Lib.itoa_nonneg]
    exact Lib.itoa_length_le _ (by omega) (by omega)
  go_enter Tryd.func89, Tryd.ntmps89
  go_wp2_with fail
  refine (digits_nat m (m : Int) w (by omega) (by omega) (by omega)).mono ?_
  rintro e w1 ⟨rfl, hb1⟩
  rw [Int.toNat_natCast]
  go_wp2
  go_ret
  exact ⟨ret_str (by rw [Lib.itoa_neg m h0]; exact (bs_append [45] _).symm), hb1⟩

theorem digits_any (n : Int) (w : World) (h0 : -9223372036854775808 ≤ n) (h1 : n ≤ 9223372036854775807) :
    Calls Tryd.prog 89 #[.int .i64 n] w fun e w' => e = .returned (sv (Lib.itoa n)) ∧ Below w.heap.size w w' := by
  by_cases hn : n < 0
  · by_cases hm : n = -9223372036854775808
    · subst hm
      exact digits_min w
    · obtain ⟨m, rfl⟩ : ∃ m : Nat, n = -(m : Int) := ⟨n.natAbs, by omega⟩
      exact digits_neg m w (by omega) (by omega)
  · obtain ⟨m, rfl⟩ := Int.eq_ofNat_of_zero_le (a := n) (by omega)
    have := digits_nat m (m : Int) w (by omega) (by omega) (by omega)
    rw [Int.toNat_natCast] at this
    rw [Lib.itoa_nonneg]
    exact this

/-! ### ReadDigits -/

def rdStep (x : Int) (c : UInt8) : Int := if 48 ≤ (c.toNat : Int) ∧ (c.toNat : Int) ≤ 57 then wrap64 (wrap64 (x * 10) - ((c.toNat : Int) - 48)) else x
def rdFold (l : List UInt8) : Int := l.foldl rdStep 0
def rdv (s : List UInt8) : Int := if s = [] ∨ s[0]? = some 45 then rdFold s else wrap64 (-(rdFold s))

theorem wrap64_bd (x : Int) : -9223372036854775808 ≤ wrap64 x ∧ wrap64 x ≤ 9223372036854775807 := by unfold wrap64; omega
theorem rdFold_snoc (l : List UInt8) (c : UInt8) : rdFold (l ++ [c]) = rdStep (rdFold l) c := by
  unfold rdFold
  rw [List.foldl_append]
  rfl
theorem foldl_bd (l : List UInt8) : ∀ x : Int, -9223372036854775808 ≤ x → x ≤ 9223372036854775807 → -9223372036854775808 ≤ l.foldl rdStep x ∧ l.foldl rdStep x ≤ 9223372036854775807 := by
  induction l with
  | nil => intro x h0 h1; exact ⟨h0, h1⟩
  | cons c l ih =>
    intro x h0 h1
    rw [List.foldl_cons]
    have : -9223372036854775808 ≤ rdStep x c ∧ rdStep x c ≤ 9223372036854775807 := by
      unfold rdStep
      split
      · exact wrap64_bd _
      · exact ⟨h0, h1⟩
    exact ih _ this.1 this.2
theorem rdFold_bd (l : List UInt8) : -9223372036854775808 ≤ rdFold l ∧ rdFold l ≤ 9223372036854775807 := foldl_bd l 0 (by omega) (by omega)
theorem wrap_step (a b d : Int) (h : a = wrap64 (-b)) : wrap64 (wrap64 (a * 10) - d) = wrap64 (-(b * 10 + d)) := by
  subst h
  unfold wrap64
  omega
theorem foldl_digs (l : List UInt8) : ∀ (x : Int) (v : Nat), (∀ c ∈ l, IsDig c) → x = wrap64 (-(v : Int)) → l.foldl rdStep x = wrap64 (-(valFrom v l : Nat)) := by
  induction l with
  | nil => intro x v _ hx; rw [valFrom_nil]; exact hx
  | cons c l ih =>
    intro x v h hx
    have hc : 48 ≤ c.toNat ∧ c.toNat ≤ 57 := h c (by simp)
    rw [List.foldl_cons, valFrom_cons]
    refine ih _ _ (fun d hd => h d (by simp [hd])) ?_
    unfold rdStep
    rw [if_pos ⟨by omega, by omega⟩, wrap_step _ _ _ hx]
    congr 2
    omega
theorem rdFold_digs (l : List UInt8) (h : ∀ c ∈ l, IsDig c) : rdFold l = wrap64 (-(valFrom 0 l : Nat)) := foldl_digs l 0 0 h (by unfold wrap64; decide)

theorem pow_le_nDigits (m : Nat) : 0 < m → 10 ^ (Lib.nDigits m - 1) ≤ m := by
  induction m using Nat.strongRecOn with
  | _ m ih =>
    intro h
    by_cases hs : m < 10
    · rw [Lib.nDigits_small hs]
      have : 10 ^ (1 - 1) = 1 := rfl
      omega
    · have h2 := ih (m / 10) (by omega) (by omega)
      have h3 := Lib.nDigits_pos (m / 10)
      rw [Lib.nDigits_big hs]
      obtain ⟨j, hj⟩ : ∃ j, Lib.nDigits (m / 10) = j + 1 := ⟨Lib.nDigits (m / 10) - 1, by omega⟩
      rw [hj] at h2 ⊢
      simp only [Nat.add_sub_cancel] at h2 ⊢
      rw [Nat.pow_succ]
      omega

theorem rdv_itoa (n : Int) (h0 : -9223372036854775808 ≤ n) (h1 : n ≤ 9223372036854775807) : rdv (Lib.itoa n) = n := by
  unfold rdv
  by_cases hn : n < 0
  · obtain ⟨m, rfl⟩ : ∃ m : Nat, n = -(m : Int) := ⟨n.natAbs, by omega⟩
    rw [Lib.itoa_neg m (by omega), if_pos (.inr rfl)]
    have e : rdFold (45 :: Lib.decDigits m) = rdFold (Lib.decDigits m) := rfl
    rw [e, rdFold_digs _ (dec_digs m), valFrom_dec]
    unfold wrap64
    omega
  · obtain ⟨m, rfl⟩ := Int.eq_ofNat_of_zero_le (a := n) (by omega)
    rw [Lib.itoa_nonneg, rdFold_digs _ (dec_digs m), valFrom_dec, if_neg]
    · unfold wrap64
      omega
    · rintro (h | h)
      · exact dec_ne m h
      · have := dec_digs m 45 (List.mem_of_getElem? h)
        unfold IsDig at this
        have e : (45 : UInt8).toNat = 45 := rfl
        omega
theorem itoa_len20 (n : Int) (h0 : -9223372036854775808 ≤ n) (h1 : n ≤ 9223372036854775807) : (Lib.itoa n).length ≤ 20 := by
  have key : ∀ m : Nat, m < 10000000000000000000 → Lib.nDigits m ≤ 19 := by
    intro m hm
    rcases Nat.lt_or_ge 19 (Lib.nDigits m) with h | h
    · exfalso
      have h2 := Lib.decDigits_length m
      have h3 : 10 ^ (Lib.nDigits m - 1) ≤ m := by
        rcases Nat.eq_zero_or_pos m with h0 | h0
        · subst h0
          rw [Lib.nDigits_small (by omega)] at h
          omega
        · exact pow_le_nDigits m h0
      have h4 : 10 ^ 19 ≤ 10 ^ (Lib.nDigits m - 1) := Nat.pow_le_pow_right (by decide) (by omega)
      have h5 : (10 : Nat) ^ 19 = 10000000000000000000 := by decide
      omega
    · exact h
  by_cases hn : n < 0
  · obtain ⟨m, rfl⟩ : ∃ m : Nat, n = -(m : Int) := ⟨n.natAbs, by omega⟩
    have := key m (by omega)
    rw [Lib.itoa_neg m (by omega), List.length_cons, Lib.decDigits_length]
    omega
  · obtain ⟨m, rfl⟩ := Int.eq_ofNat_of_zero_le (a := n) (by omega)
    have := key m (by omega)
    rw [Lib.itoa_nonneg, Lib.decDigits_length]
    omega

/-- How ReadDigits ends. -/
def RdEnd (s : List UInt8) (w : World) (e : Ending) (w' : World) : Prop :=
  ∃ b : Bool, e = .returned (.tuple #[.int .i64 (rdv s), .bool b]) ∧ (b = true ↔ (s ≠ [] ∧ s.length ≤ 20 ∧ Lib.itoa (rdv s) = s)) ∧ Below w.heap.size w w'

theorem rdv_plus {s : List UInt8} (h : 0 < (bs s).size) (h' : (((bs s)[0].toNat : Int) != 45) = true) : wrap64 (-rdFold s) = rdv s := by
  unfold rdv
  rw [if_neg]
  rintro (hn | hn)
  · subst hn
    exact absurd h (by decide)
  · have e : s[0]? = some (bs s)[0] := by
      rw [bs_size] at h
      rw [List.getElem?_eq_getElem h]
      rfl
    rw [e] at hn
    rw [Option.some.inj hn] at h'
    exact absurd h' (by decide)
theorem rdv_minus {s : List UInt8} (h : 0 < (bs s).size) (h' : (((bs s)[0].toNat : Int) != 45) = false) : rdFold s = rdv s := by
  unfold rdv
  rw [if_pos]
  right
  have e : s[0]? = some (bs s)[0] := by
    rw [bs_size] at h
    rw [List.getElem?_eq_getElem h]
    rfl
  rw [e]
  have h2 : ((bs s)[0].toNat : Int) = 45 := by
    rw [bne_eq_false_iff_eq] at h'
    exact h'
  congr 1
  apply UInt8.toNat_inj.1
  have e : (45 : UInt8).toNat = 45 := rfl
  omega
theorem rdv_nil {s : List UInt8} (h : ¬ 0 < (bs s).size) : s = [] ∧ rdFold s = rdv s := by
  rw [bs_size] at h
  have hs : s = [] := List.eq_nil_of_length_eq_zero (by omega)
  subst hs
  exact ⟨rfl, rfl⟩
theorem rdv_bd (s : List UInt8) : -9223372036854775808 ≤ rdv s ∧ rdv s ≤ 9223372036854775807 := by
  unfold rdv
  split
  · exact rdFold_bd s
  · exact wrap64_bd _
theorem ret_pair {a b : Int} (v : Value) (h : a = b) : Ending.returned (.tuple #[.int .i64 a, v]) = .returned (.tuple #[.int .i64 b, v]) := by rw [h]
theorem rd_long {s : List UInt8} (h : (20 : Int) < ((bs s).size : Int)) : (false = true ↔ (s ≠ [] ∧ s.length ≤ 20 ∧ Lib.itoa (rdv s) = s)) := by
  rw [bs_size] at h
  constructor
  · intro h'; cases h'
  · rintro ⟨_, h2, _⟩
    omega
theorem rd_short {s : List UInt8} (h0 : 0 < (bs s).size) (h : ((bs s).size : Int) ≤ 20) : (((bs (Lib.itoa (rdv s))).toList == (bs s).toList) = true ↔ (s ≠ [] ∧ s.length ≤ 20 ∧ Lib.itoa (rdv s) = s)) := by
  rw [bs_size] at h h0
  rw [Lib.toList_data, Lib.toList_data, bs_data, bs_data, beq_iff_eq]
  constructor
  · intro h'
    exact ⟨fun hn => (by rw [hn] at h0; simp at h0), by omega, h'⟩
  · rintro ⟨_, _, h3⟩
    exact h3

set_option maxHeartbeats 4000000 in
set_option maxRecDepth 100000 in
theorem readDigits_any (s : List UInt8) (w : World) (hs : s.length ≤ 1000000000) :
    Calls Tryd.prog 79 #[sv s] w (RdEnd s w) := by
  go_enter Tryd.func79, Tryd.ntmps79
  have hsz := bs_size s
  have hs1 : (bs s).size ≤ 1000000000 := by omega
  have Hsz := Lib.hid hsz
  clear hsz
  go_wp2_with fail
  go_loop [4, 5] (fun n i => ∃ k : Nat, k ≤ (bs s).size ∧ i = .int .i64 k ∧ n = .int .i64 (rdFold (s.take k))) (fun _ i => (bs s).size - (intOf i).toNat)
  case atStart => exact ⟨0, Nat.zero_le _, rfl, rfl⟩
  case round =>
    obtain ⟨k, hk, rfl, rfl⟩ := hrel
    by_cases hlt : k < (bs s).size
    · obtain ⟨hx0, hx1⟩ := rdFold_bd (s.take k)
      have hstep : rdFold (s.take (k + 1)) = rdStep (rdFold (s.take k)) (bs s)[k] := by
        have hk2 : k < s.length := by rw [← Hsz.out]; exact hlt
        rw [List.take_succ_eq_append_getElem hk2, rdFold_snoc]
        rfl
      have Hstep := Lib.hid hstep
      clear hstep
      go_wp2_with fail
      all_goals
        go_round
        case rel => exact ⟨k + 1, by omega, by go_num, by
          rw [Hstep.out]
          unfold rdStep
          first | rw [if_pos ⟨‹_›, ‹_›⟩] | rw [if_neg (by omega)]⟩
        case measure => simp [intOf]; omega
    · obtain rfl : k = (bs s).size := by omega
      have hk3 : s.take (bs s).size = s := List.take_of_length_le (by rw [Hsz.out]; exact Nat.le_refl _)
      rw [hk3]
      clear hk3 hlt hk
      obtain ⟨hv0, hv1⟩ := rdv_bd s
      go_wp2_with fail
      · have h1 : 0 < (bs s).size := by assumption
        have h2 : (((bs s)[0].toNat : Int) != 45) = true := by assumption
        have h3 : ((bs s).size : Int) ≤ 20 := by assumption
        rw [rdv_plus h1 h2]
        refine (digits_any _ _ hv0 hv1).mono ?_
        rintro e w1 ⟨rfl, hb⟩
        go_wp2
        go_ret2
        exact ⟨_, rfl, rd_short h1 h3, hb⟩
      · have h1 : 0 < (bs s).size := by assumption
        have h2 : (((bs s)[0].toNat : Int) != 45) = true := by assumption
        have h3 : (20 : Int) < ((bs s).size : Int) := by assumption
        go_ret2
        exact ⟨_, ret_pair _ (rdv_plus h1 h2), rd_long h3, Below.refl _ _⟩
      · have h1 : 0 < (bs s).size := by assumption
        have h2 : (((bs s)[0].toNat : Int) != 45) = false := by assumption
        have h3 : ((bs s).size : Int) ≤ 20 := by assumption
        rw [rdv_minus h1 h2]
        refine (digits_any _ _ hv0 hv1).mono ?_
        rintro e w1 ⟨rfl, hb⟩
        go_wp2
        go_ret2
        exact ⟨_, rfl, rd_short h1 h3, hb⟩
      · have h1 : 0 < (bs s).size := by assumption
        have h2 : (((bs s)[0].toNat : Int) != 45) = false := by assumption
        have h3 : (20 : Int) < ((bs s).size : Int) := by assumption
        go_ret2
        exact ⟨_, ret_pair _ (rdv_minus h1 h2), rd_long h3, Below.refl _ _⟩
      · have h1 : ¬ 0 < (bs s).size := by assumption
        obtain ⟨h4, h5⟩ := rdv_nil h1
        go_ret2
        exact ⟨false, ret_pair _ h5, ⟨fun h => (by cases h), fun h => absurd h4 h.1⟩, Below.refl _ _⟩
end

section
open Go.RowKit
set_option maxHeartbeats 4000000 in
set_option maxRecDepth 100000 in
theorem mdig_small (n : Nat) (w : World) (h : n < 10) :
    Calls Tryd.prog 48 #[.int .i64 (n : Int)] w fun e w' => e = .returned (sv (Lib.decDigits n)) ∧ Below w.heap.size w w' := by
  have hcv : (convert 26 9 (.slice (some ⟨w.heap.size, 0, none⟩) 1 1)).run Tryd.prog (w.alloc (.cells #[.int .u8 (48 + (n : Int))] 5)) = .ok (sv (Lib.decDigits n)) (w.alloc (.cells #[.int .u8 (48 + (n : Int))] 5)) := by
    rw [dec_small h]
    exact run_convert_bytes_back _ _ _ 5 _ 1 [UInt8.ofNat (48 + n)] Tryd.underlying26 Tryd.underlying5 Tryd.underlying9 (fun j hj => by
      have : j = 0 := by simpa using hj
      subst this
      simp [go_sem]
      omega)
  go_enter Tryd.func48, Tryd.ntmps48
  go_wp2
  go_ret
  exact ⟨rfl, (Below.refl _ _).alloc (Nat.le_refl _) _⟩

set_option maxHeartbeats 4000000 in
set_option maxRecDepth 100000 in
theorem mdig_any (n : Nat) (w : World) (h : n < 100) :
    Calls Tryd.prog 48 #[.int .i64 (n : Int)] w fun e w' => e = .returned (sv (Lib.decDigits n)) ∧ Below w.heap.size w w' := by
  by_cases hs : n < 10
  · exact mdig_small n w hs
  · have hd1 : (bs (Lib.decDigits (n / 10))).size ≤ 2 := by rw [bs_size]; exact dec_len (by omega)
    have hd2 : (bs (Lib.decDigits (n % 10))).size ≤ 2 := by rw [bs_size]; exact dec_len (by omega)
    go_enter Tryd.func48, Tryd.ntmps48
    go_wp2_with fail
    refine (mdig_small (n / 10) w (by omega)).mono ?_
    rintro e w1 ⟨rfl, hb1⟩
    go_wp2_with fail
    refine (mdig_small (n % 10) w1 (by omega)).mono ?_
    rintro e w2 ⟨rfl, hb2⟩
    go_wp2
    go_ret
    exact ⟨ret_str (by rw [dec_big hs, bs_append]), hb1.trans (hb2.mono hb1.size)⟩

set_option maxHeartbeats 4000000 in
set_option maxRecDepth 100000 in
theorem v_any (n : Nat) (w : World) (h : n < 100) :
    Calls Tryd.prog 24 #[.int .i64 (n : Int)] w fun e w' => e = .returned (.agg #[sv (vname n), .slice none 0 0]) ∧ Below w.heap.size w w' := by
  have hd : (bs (Lib.decDigits n)).size ≤ 2 := by rw [bs_size]; exact dec_len h
  have hR0 := alloc1 w (.cells #[.string ⟨#[]⟩, .slice none 0 0] 30)
  have hb0 : Below w.heap.size w (w.alloc (.cells #[.string ⟨#[]⟩, .slice none 0 0] 30)) := (Below.refl _ _).alloc (Nat.le_refl _) _
  go_enter Tryd.func24, Tryd.ntmps24
  go_wp2_with fail
  refine (mdig_any n _ h).mono ?_
  rintro e w1 ⟨rfl, hb1⟩
  have hR1 := (hb1.block _ (lt_of_heap hR0)).trans hR0
  have r0 : w1.cell? ⟨w.heap.size, 0, none⟩ = some (.string ⟨#[]⟩) := (Lib.cell_of_heap hR1 _).trans rfl
  have r1 : w1.cell? ⟨w.heap.size, 1, none⟩ = some (.slice none 0 0) := (Lib.cell_of_heap hR1 _).trans rfl
  have z0 : w1.frozen? ⟨w.heap.size, 0, none⟩ = false := Lib.frozen_of_heap hR1 0
  have z1 : w1.frozen? ⟨w.heap.size, 1, none⟩ = false := Lib.frozen_of_heap hR1 1
  have HB := Lib.hid (hb0.trans (hb1.mono hb0.size))
  clear hb1 hb0 hR0
  have he : (⟨#[63]⟩ : ByteArray) ++ bs (Lib.decDigits n) = bs (vname n) := (bs_append [63] (Lib.decDigits n)).symm
  have HE := Lib.hid he
  have HR1 := Lib.hid hR1
  clear he hR1
  go_wp2_with fail
  have hR3 : ((w1.setCell ⟨w.heap.size, 0, none⟩ (.string (⟨#[63]⟩ ++ bs (Lib.decDigits n)))).setCell ⟨w.heap.size, 1, none⟩ (.slice none 0 0)).heap[w.heap.size]? = some (.cells #[.string (⟨#[63]⟩ ++ bs (Lib.decDigits n)), .slice none 0 0] 30 (0, 0)) := setCell_heap (setCell_heap HR1.out)
  have q0 : ((w1.setCell ⟨w.heap.size, 0, none⟩ (.string (⟨#[63]⟩ ++ bs (Lib.decDigits n)))).setCell ⟨w.heap.size, 1, none⟩ (.slice none 0 0)).cell? ⟨w.heap.size, 0, none⟩ = some (.string (⟨#[63]⟩ ++ bs (Lib.decDigits n))) := (Lib.cell_of_heap hR3 _).trans rfl
  have q1 : ((w1.setCell ⟨w.heap.size, 0, none⟩ (.string (⟨#[63]⟩ ++ bs (Lib.decDigits n)))).setCell ⟨w.heap.size, 1, none⟩ (.slice none 0 0)).cell? ⟨w.heap.size, 1, none⟩ = some (.slice none 0 0) := (Lib.cell_of_heap hR3 _).trans rfl
  refine bodyPost_ret (v := .agg #[.string (⟨#[63]⟩ ++ bs (Lib.decDigits n)), .slice none 0 0]) ?_ rfl ⟨by rw [HE.out], ?_⟩
  · clear HE HR1 hR3 HB
    simp [results, Tryd.results24, go_sem, q0, q1]
  · exact (HB.out.setCell (Nat.le_refl _) _).setCell (Nat.le_refl _) _
theorem cut_wrest (a r : List UInt8) : (bs (a ++ r)).extract a.length (bs (a ++ r)).size = bs r := by
  rw [bs_size]
  unfold bs
  apply ByteArray.ext
  simp
theorem itoa_nat (j : Nat) (h : j < 100) : rdv (Lib.decDigits j) = (j : Int) := by
  have := rdv_itoa (j : Int) (by omega) (by omega)
  rwa [Lib.itoa_nonneg] at this
theorem rd_name (j : Nat) (w : World) (h : j < 100) :
    Calls Tryd.prog 79 #[sv (Lib.decDigits j)] w fun e w' => e = .returned (.tuple #[.int .i64 (j : Int), .bool true]) ∧ Below w.heap.size w w' := by
  have hl := dec_len h
  refine (readDigits_any (Lib.decDigits j) w (by omega)).mono ?_
  rintro e w' ⟨b, rfl, hb, hbl⟩
  rw [itoa_nat j h] at hb ⊢
  have : b = true := hb.2 ⟨dec_ne j, by omega, Lib.itoa_nonneg j⟩
  subst this
  exact ⟨rfl, hbl⟩

set_option maxHeartbeats 4000000 in
set_option maxRecDepth 100000 in
theorem rvar_any (n : List UInt8) (A : Option Addr) (k c : Nat) (w : World) (hg : GoodN n) (hk : k ≤ 4000000) :
    Calls Tryd.prog 68 #[.agg #[sv n, .slice A k c]] w (VarRes (varV n k) w) := by
  rcases hg with hg | ⟨j, hj, rfl⟩
  · have hv : varV n k = none := by
      unfold varV
      split
      · exact hg
      · rfl
    rw [hv]
    cases n with
    | nil =>
      clear hg hv
      go_enter Tryd.func68, Tryd.ntmps68
      go_wp2_with fail
      all_goals
        go_ret2
        exact ⟨rfl, (Below.refl _ _).alloc (Nat.le_refl _) _⟩
    | cons ch r =>
      have hc : ch ≠ 63 := by
        intro e
        simp [vnum, e] at hg
      have hc63 : ((ch.toNat : Int) != 63) = true := by
        have h2 : ch.toNat ≠ 63 := fun e => hc (UInt8.toNat_inj.1 (by rw [e]; rfl))
        simp only [bne_iff_ne, ne_eq]
        omega
      have hget : ∀ h : 0 < (bs (ch :: r)).size, (bs (ch :: r))[0] = ch := fun _ => rfl
      clear hg hv hc
      go_enter Tryd.func68, Tryd.ntmps68
      go_wp2_with fail
      all_goals
        go_ret2
        exact ⟨rfl, (Below.refl _ _).alloc (Nat.le_refl _) _⟩
  · have hl := dec_len hj
    have hl1 : 1 ≤ (Lib.decDigits j).length := Nat.pos_of_ne_zero fun h => dec_ne j (List.eq_nil_of_length_eq_zero h)
    have hsz : (bs (63 :: Lib.decDigits j)).size = (Lib.decDigits j).length + 1 := by rw [bs_size]; rfl
    have h2 : (2 : Int) ≤ ((bs (63 :: Lib.decDigits j)).size : Int) := by omega
    have h8 : ((bs (63 :: Lib.decDigits j)).size : Int) ≤ 8 := by omega
    have h0 : 0 < (bs (63 :: Lib.decDigits j)).size := by omega
    have hx1 : 1 ≤ (bs (63 :: Lib.decDigits j)).size := by omega
    clear hsz
    have hn : vname j = 63 :: Lib.decDigits j := rfl
    by_cases hk0 : k = 0
    · subst hk0
      have hv : varV (vname j) 0 = some j := by simp [varV, vnum_name]
      rw [hv, hn]
      clear hv hn
      go_enter Tryd.func68, Tryd.ntmps68
      go_wp2_with fail
      have hcut : (bs (63 :: Lib.decDigits j)).extract 1 (bs (63 :: Lib.decDigits j)).size = bs (Lib.decDigits j) := cut_wrest [63] (Lib.decDigits j)
      rw [hcut]
      refine (rd_name j _ hj).mono ?_
      rintro e w1 ⟨rfl, hb1⟩
      have HB := Lib.hid (((Below.refl w.heap.size w).alloc (Nat.le_refl _) (.cells #[sv (63 :: Lib.decDigits j), .slice A 0 c] 30)).trans (hb1.mono ((Below.refl w.heap.size w).alloc (Nat.le_refl _) (.cells #[sv (63 :: Lib.decDigits j), .slice A 0 c] 30)).size))
      clear hb1 hcut
      have hj1 : decide ((j : Int) ≥ 0) = true := by simp
      have hj2 : decide ((j : Int) ≤ 1000000) = true := by simp; omega
      go_wp2_with fail
      go_ret2
      exact ⟨rfl, HB.out⟩
    · have hv : varV (vname j) k = none := by simp [varV, hk0]
      rw [hv, hn]
      have hkg : (k : Int) > 0 := by omega
      clear hv hn
      go_enter Tryd.func68, Tryd.ntmps68
      go_wp2_with fail
      all_goals
        go_ret2
        exact ⟨rfl, (Below.refl _ _).alloc (Nat.le_refl _) _⟩
end

section
open Go.RowKit
def RGot (S : Nat → Prop) (o : Option Ty) (w : World) (e : Ending) (w' : World) : Prop :=
  Below w.heap.size w w' ∧ match o with
  | none => e = .returned (.tuple #[.agg #[.string ⟨#[]⟩, .slice none 0 0], .bool false])
  | some u => ∃ un vv, e = .returned (.tuple #[.agg #[un, vv], .bool true]) ∧ TyIs w S u un vv

set_option maxHeartbeats 4000000 in
set_option maxRecDepth 100000 in
theorem rget_any (n : Nat) (S : Nat → Prop) (L : List Ty) (LA : Option Addr) (lc : Nat) (vs : List (Value × Value)) (w : World) (hT : Tys w S LA L vs) (hSl : ∀ b, S b → b < w.heap.size) (hn : n ≤ 4000000) :
    Calls Tryd.prog 69 #[.slice LA L.length lc, .int .i64 (n : Int)] w (RGot S (solv L n) w) := by
  obtain ⟨m, hm⟩ : ∃ m, m = L.length := ⟨_, rfl⟩
  rw [← hm]
  have HM := Lib.hid hm
  clear hm
  by_cases hlt : n < m
  · have hnl : n < L.length := by rw [← HM.out]; exact hlt
    obtain ⟨ad, u, v, rfl, hS, e0, e1, hty⟩ := hT.at_ (List.getElem?_eq_getElem hnl)
    obtain ⟨A, c, vs', rfl, rfl, h1, h2, h3, h4, _⟩ := hty.open_
    have hge : decide ((n : Int) < (m : Int)) = true := by simp; omega
    have hik : (0 : Int) ≤ (n : Int) ∧ (n : Int) < (m : Int) := ⟨by omega, by omega⟩
    have hk0 := (kept_below ((Below.refl w.heap.size w).alloc (Nat.le_refl _) (.cells #[.string ⟨#[]⟩, .slice none 0 0] 30))).sub hSl
    have e0' := (hk0 _ (by rw [blkAdd]; exact hS)).trans e0
    have e1' := (hk0 ⟨(ad.add (n * 2)).block, (ad.add (n * 2)).off + 1, none⟩ (by rw [blkAdd]; exact hS)).trans e1
    clear hk0 e0 e1
    generalize ht : L[n] = t at *
    have HTY := Lib.hid hty
    have HLN : Hid (L[n]? = some t) := Lib.hid (by rw [List.getElem?_eq_getElem hnl, ht])
    clear hty ht hT
    by_cases hnm : t.name = []
    · have hb1 : ((bs t.name).toList == []) = true := by rw [Lib.toList_data, bs_data]; simp [hnm]
      have hb2 : ((bs t.name).toList != []) = false := by rw [bne, hb1]; rfl
      obtain ⟨l, hl⟩ : ∃ l, l = t.args.length := ⟨_, rfl⟩
      rw [← hl] at e1' h2 h3
      have HTY2 : Hid (TyIs w S t (sv t.name) (.slice A l c)) := Lib.hid (by rw [hl]; exact HTY.out)
      have HL := Lib.hid hl
      have HNM := Lib.hid hnm
      clear hl hnm HTY
      by_cases hz : l = 0
      · have hz0 : decide ((l : Int) > 0) = false := by simp [hz]
        have hz1 : ¬ 0 < l := by omega
        have hsn : solv L n = none := by
          unfold solv
          rw [HLN.out]
          obtain ⟨tn, tk⟩ := t
          have a1 := HNM.out
          have a2 := List.eq_nil_of_length_eq_zero (HL.out.symm.trans hz)
          simp only [Ty.name, Ty.args] at a1 a2
          subst a1 a2
          rfl
        rw [hsn]
        clear hsn
        go_enter Tryd.func69, Tryd.ntmps69
        go_wp2
        refine bodyPost_ret (v := .tuple #[.agg #[.string ⟨#[]⟩, .slice none 0 0], .bool false]) (by first | (simp [results, Tryd.results69, go_sem]; done) | (simp [results, Tryd.results69, go_sem]; rfl)) rfl ?_
        exact ⟨(Below.refl _ _).alloc (Nat.le_refl _) _, rfl⟩
      · have hsn : solv L n = some t := solv_of HLN.out fun e => by
          have := HL.out
          rw [e] at this
          exact hz (by rw [this]; rfl)
        rw [hsn]
        have hz0 : decide ((l : Int) > 0) = true := by simp; omega
        have hz1 : 0 < l := by omega
        clear hsn
        go_enter Tryd.func69, Tryd.ntmps69
        go_wp2
        refine bodyPost_ret (v := .tuple #[.agg #[sv t.name, .slice A l c], .bool true]) (by first | (simp [results, Tryd.results69, go_sem]; done) | (simp [results, Tryd.results69, go_sem]; rfl)) rfl ?_
        exact ⟨(Below.refl _ _).alloc (Nat.le_refl _) _, _, _, rfl, HTY2.out⟩
    · have hb1 : ((bs t.name).toList == []) = false := by rw [Lib.toList_data, bs_data]; simp [hnm]
      have hb2 : ((bs t.name).toList != []) = true := by rw [bne, hb1]; rfl
      have hsn : solv L n = some t := solv_of HLN.out fun e => hnm (by rw [e]; rfl)
      rw [hsn]
      clear hsn hnm
      go_enter Tryd.func69, Tryd.ntmps69
      go_wp2
      refine bodyPost_ret (v := .tuple #[.agg #[sv t.name, .slice A t.args.length c], .bool true]) (by first | (simp [results, Tryd.results69, go_sem]; done) | (simp [results, Tryd.results69, go_sem]; rfl)) rfl ?_
      exact ⟨(Below.refl _ _).alloc (Nat.le_refl _) _, _, _, rfl, HTY.out⟩
  · have hge : decide ((n : Int) < (m : Int)) = false := by simp; omega
    have hsn : solv L n = none := by
      unfold solv
      rw [List.getElem?_eq_none (by rw [← HM.out]; omega)]
    rw [hsn]
    have hmn : m ≤ n := by omega
    clear hsn
    go_enter Tryd.func69, Tryd.ntmps69
    go_wp2
    refine bodyPost_ret (v := .tuple #[.agg #[.string ⟨#[]⟩, .slice none 0 0], .bool false]) (by first | (simp [results, Tryd.results69, go_sem]; done) | (simp [results, Tryd.results69, go_sem]; rfl)) rfl ?_
    exact ⟨(Below.refl _ _).alloc (Nat.le_refl _) _, rfl⟩
end
end Go.Proofs.YtndhglcdkegigaaDoor
