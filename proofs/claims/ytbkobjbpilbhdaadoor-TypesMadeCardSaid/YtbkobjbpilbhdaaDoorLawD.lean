/-
  How large a made type is, and what becomes of it by Put (plain).
  The walk of recompilelaw09.TypesMade (printed by genLawD.py).
  Conditions: the numbers are ints.
-/
import Derived.Test.YtbkobjbpilbhdaaDoorDType
import Derived.Test.YtbkobjbpilbhdaaDoorParse
import Derived.Test.YtbkobjbpilbhdaaDoorSays
import Derived.Test.YtbkobjbpilbhdaaDoorVals
import Derived.Test.YtbkobjbpilbhdaaDoorAwk
namespace Go.Proofs.YtbkobjbpilbhdaaDoor
section

mutual
/-- A sum over the nodes of a type. -/
def wt (c : List UInt8 → Nat) : Ty → Nat
  | .mk n ks => c n + wtL c ks
def wtL (c : List UInt8 → Nat) : List Ty → Nat
  | [] => 0
  | a :: r => wt c a + wtL c r
end
abbrev lng (n : List UInt8) : Nat := n.length + 2
theorem wt_size (t : Ty) : wt (fun _ => 1) t = t.size := by
  induction t using Ty.ind with | h n ks ih => ?_
  have : wtL (fun _ => 1) ks = sizeL ks := by
    induction ks with
    | nil => rfl
    | cons a r ihr => rw [wtL, sizeL, ih a (by simp), ihr fun b hb => ih b (by simp [hb])]
  rw [wt, Ty.size, this]
theorem prn_wt (t : Ty) : (prn t).length + 1 ≤ wt lng t := by
  induction t using Ty.ind with | h n ks ih => ?_
  have : ∀ c, (prnL ks c).length ≤ wtL lng ks := by
    induction ks with
    | nil => intro c; simp [prnL]
    | cons a r ihr =>
      intro c
      have h1 := ih a (by simp)
      have h2 := ihr (fun b hb => ih b (by simp [hb])) 44
      rw [prnL, wtL]
      simp only [List.length_cons, List.length_append]
      omega
  have h := this 60
  rw [prn, wt]
  simp only [List.length_append]
  have h3 : lng n = n.length + 2 := rfl
  split <;> simp only [List.length_nil, List.length_cons] <;> omega
theorem parIx_mem {ns : List (List UInt8)} {ls : List Ty} {n : List UInt8} {k : Nat} {t : Ty} (h : parIx ns ls n k = some t) : t ∈ ls := by
  unfold parIx at h
  split at h
  · split at h
    · exact List.mem_of_getElem? h
    · cases h
  · cases h
theorem dname_lng {n : List UInt8} (h : n ∈ dnames) : lng n ≤ 8 := by
  have : ∀ n ∈ dnames, lng n ≤ 8 := by decide
  exact this n h
theorem size_one (t : Ty) : 1 ≤ t.size := by cases t; rw [Ty.size]; omega
theorem wtL_le {c : List UInt8 → Nat} {M : Nat} : ∀ (ks : List Ty), (∀ a ∈ ks, wt c a ≤ M * a.size) → wtL c ks ≤ M * sizeL ks
  | [], _ => by simp [wtL]
  | a :: r, h => by
    have h1 := h a (by simp)
    have h2 := wtL_le r fun b hb => h b (by simp [hb])
    rw [wtL, sizeL, Nat.mul_add]
    omega
theorem DTy.wt_put {d : Nat} {t : Ty} (h : DTy d t) (c : List UInt8 → Nat) (ns : List (List UInt8)) (ls : List Ty) (M : Nat) (hc : ∀ n ∈ dnames, c n ≤ M) (hl : ∀ a ∈ ls, wt c a ≤ M) : wt c (putN ns ls t) ≤ M * t.size := by
  induction h with
  | mk d n ks hn hk h0 h ih =>
    cases hp : parIx ns ls n ks.length with
    | some t' =>
      rw [putN_some hp]
      exact Nat.le_trans (hl t' (parIx_mem hp)) (Nat.le_mul_of_pos_right _ (size_one _))
    | none =>
      rw [putN_none hp, wt, Ty.size]
      have h1 : wtL c (ks.map (putN ns ls)) ≤ M * sizeL ks := by
        clear hp h0 hk h
        induction ks with
        | nil => simp [wtL]
        | cons a r ihr =>
          have h1 := ih a (by simp)
          have h2 := ihr fun b hb => ih b (by simp [hb])
          rw [List.map_cons, wtL, sizeL, Nat.mul_add]
          omega
      have h2 := hc n hn
      rw [Nat.mul_add]
      omega
theorem DTy.wt_le {d : Nat} {t : Ty} (h : DTy d t) : wt lng t ≤ 8 * t.size := by
  induction h with
  | mk d n ks hn hk h0 h ih =>
    have h1 := wtL_le (c := lng) (M := 8) ks ih
    have h2 := dname_lng hn
    rw [wt, Ty.size, Nat.mul_add]
    omega
/-- Three deep, with types that are two deep at most. -/
theorem put_small {a t1 t2 : Ty} (ha : DTy 3 a) (h1 : DTy 2 t1) (h2 : DTy 1 t2) (ns : List (List UInt8)) (ls : List Ty) (hl : ∀ x ∈ ls, x = t1 ∨ x = t2) : (putN ns ls a).size ≤ 1000000 ∧ (prn (putN ns ls a)).length ≤ 1000000 := by
  have s0 := ha.size
  have s1 := h1.size
  have s2 := h2.size
  have w1 := h1.wt_le
  have w2 := h2.wt_le
  refine ⟨?_, ?_⟩
  · have := ha.wt_put (fun _ => 1) ns ls 100 (fun _ _ => by omega) fun x hx => by
      rw [wt_size]
      rcases hl x hx with rfl | rfl <;> omega
    rw [wt_size] at this
    omega
  · have := ha.wt_put lng ns ls 100 (fun n hn => by have := dname_lng hn; omega) fun x hx => by
      rcases hl x hx with rfl | rfl <;> omega
    have := prn_wt (putN ns ls a)
    omega
theorem made_small {d : Nat} {a : Ty} (hd : d ≤ 3) (ha : DTy d a) : a.size ≤ 1000000 ∧ (prn a).length ≤ 1000000 := by
  have s0 := ha.size
  have h1 := ha.wt_le
  have h2 := prn_wt a
  have : 2 ^ d ≤ 2 ^ 3 := Nat.pow_le_pow_right (by omega) hd
  exact ⟨by omega, by omega⟩
end

section
open Go.RowKit
theorem tys_one {w : World} {S : Nat → Prop} {A : Option Addr} {t : Ty} {r : List Ty} {vs : List (Value × Value)} (h : Tys w S A (t :: r) vs) : ∃ p, Tys w S A [t] [p] := by
  cases vs with
  | nil => have := h.len; simp at this
  | cons p vs' =>
    refine ⟨p, rfl, ?_, fun i t' p' ht hp => ?_⟩
    · have hf : flat2 (p :: vs') = flat2 [p] ++ flat2 vs' := by simp [flat2]
      rcases h.row with h0 | ⟨ad, rfl, hS, hc⟩
      · simp [flat2] at h0
      · refine .inr ⟨ad, rfl, hS, fun j u hj => hc j u ?_⟩
        rw [hf, List.getElem?_append_left (List.getElem?_eq_some_iff.1 hj).1]
        exact hj
    · match i, ht, hp with
      | 0, ht, hp => exact h.each 0 t' p' (by simpa using ht) (by simpa using hp)
      | k + 1, ht, hp => simp at ht
theorem small_le {y n m b : Nat} (h : y < n) (h1 : n ≤ b) (h2 : n ≤ m) : y < m ∧ y ≠ b := ⟨by omega, by omega⟩

set_option maxHeartbeats 16000000 in
set_option maxRecDepth 100000 in
theorem made_light (xs : List Int) (TA : Option Addr) (tc : Nat) (w : World) (hA : Row w (Lt w.heap.size) TA (xs.map (Value.int .i64))) (hn : xs.length ≤ 400) (hf : ∀ x ∈ xs, -9223372036854775808 ≤ x ∧ x ≤ 9223372036854775807) :
    Calls Tryd.prog 3 #[.slice TA xs.length tc] w fun e w' => e = .returned (.bool true) ∧ Below w.heap.size w w' := by
  have hli := light_any xs.length TA tc w
  rw [show decide (xs.length ≤ 400) = true by simpa using hn] at hli
  have hro := roll_any xs TA tc w hA hn hf
  have HLI := Lib.hid hli
  have HRO := Lib.hid hro
  clear hli hro hA hf
  generalize xs.length = n at *
  go_enter Tryd.func3, Tryd.ntmps3
  go_wp2_with fail
  refine HLI.out.mono ?_
  rintro e w0 ⟨rfl, rfl⟩
  go_wp2_with fail
  refine HRO.out.mono ?_
  rintro e w1 ⟨rfl, hD1, hb1⟩
  obtain ⟨dd, hdd⟩ : ∃ dd, dd = w.heap.size := ⟨_, rfl⟩
  rw [← hdd] at hD1 ⊢
  have HDD := Lib.hid hdd
  clear hdd
  have hdl1 := hD1.lt
  have HB1 := Lib.hid hb1
  clear hb1 HLI HRO
  go_wp2_with fail
  refine (dtype_any 3 dd xs w1 (by omega) hD1).mono ?_
  intro e w2 hres
  obtain ⟨a, v, rfl, hda, hav, hD2, hK2⟩ := TyV.made (e := dd) hdl1 hdl1 hres
  have hdl2 := hD2.lt
  have HDA := Lib.hid hda
  have HAV := Lib.hid hav
  have HK2 := Lib.hid hK2
  clear hres hda hav hK2 hD1
  go_wp2_with fail
  refine (dtype_any 3 dd xs w2 (by omega) hD2).mono ?_
  intro e w3 hres
  obtain ⟨b, v3, rfl, hdb, hbv, hD3, hK3⟩ := TyV.made (e := dd) hdl2 hdl2 hres
  obtain ⟨an, as', rfl, ha3⟩ := HAV.out.keep hK3
  obtain ⟨bn, bs', rfl, hb3⟩ := hbv
  have hdl3 := hD3.lt
  have HDB := Lib.hid hdb
  have HA3 := Lib.hid ha3
  have HB3 := Lib.hid hb3
  have HK3 := Lib.hid hK3
  have HD3 := Lib.hid hD3
  clear hres hdb ha3 hb3 hK3 hD2 HAV hD3
  go_wp2_with fail
  obtain ⟨b4, hb4⟩ : ∃ n, n = w3.heap.size := ⟨_, rfl⟩
  obtain ⟨b5, hb5⟩ : ∃ n, n = w3.heap.size + 1 := ⟨_, rfl⟩
  obtain ⟨b6, hb6⟩ : ∃ n, n = w3.heap.size + 1 + 1 := ⟨_, rfl⟩
  have hal := alloc3 w3 (.cells #[sv an, .slice as'.1 as'.2.1 as'.2.2] 29) (.cells #[sv bn, .slice bs'.1 bs'.2.1 bs'.2.2] 29) (.cells #[.string ⟨#[84]⟩, .string ⟨#[85]⟩, .string ⟨#[84]⟩] 9)
  have hbe : Below w3.heap.size w3 (((w3.alloc (.cells #[sv an, .slice as'.1 as'.2.1 as'.2.2] 29)).alloc (.cells #[sv bn, .slice bs'.1 bs'.2.1 bs'.2.2] 29)).alloc (.cells #[.string ⟨#[84]⟩, .string ⟨#[85]⟩, .string ⟨#[84]⟩] 9)) := (((Below.refl _ _).alloc (Nat.le_refl _) _).alloc (by simp) _).alloc (by simp; omega) _
  have hD4 := HD3.out.below hbe
  rw [show w3.heap.size + 2 = w3.heap.size + 1 + 1 from rfl, ← hb6, ← hb5, ← hb4] at hal
  rw [← hb6, ← hb5, ← hb4]
  have hd4 : b4 ≠ dd := by omega
  have hd5 : b5 ≠ dd := by omega
  have hd6 : b6 ≠ dd := by omega
  generalize hw4 : ((w3.alloc (.cells #[sv an, .slice as'.1 as'.2.1 as'.2.2] 29)).alloc (.cells #[sv bn, .slice bs'.1 bs'.2.1 bs'.2.2] 29)).alloc (.cells #[.string ⟨#[84]⟩, .string ⟨#[85]⟩, .string ⟨#[84]⟩] 9) = w4 at *
  have hk34 : Kp (fun y => y = dd) w3 w4 := Kp.ofBelow hbe
  obtain ⟨h4, h5, h6⟩ := hal
  have HA4 := Lib.hid ((HA3.out.keep (kept_off hk34)).more (off_more hk34))
  have HB4 := Lib.hid ((HB3.out.keep (kept_off hk34)).more (off_more hk34))
  have HK4 := Lib.hid hk34
  have H4 := Lib.hid h4
  have H5 := Lib.hid h5
  have H6 := Lib.hid h6
  have hdl4 := hD4.lt
  have HD4 := Lib.hid hD4
  clear hb4 hb5 hb6 hbe hw4 h4 h5 h6 hk34 HA3 HB3 HD3 hD4
  refine (dtype_any 2 dd xs w4 (by omega) HD4.out).mono ?_
  intro e w5 hres
  obtain ⟨t1, v5, rfl, hd1, ht1, hD5, hK5⟩ := TyV.made (e := dd) hdl4 hdl4 hres
  have hdl5 := hD5.lt
  have HD1 := Lib.hid hd1
  have HT1 := Lib.hid ht1
  have HK5 := Lib.hid hK5
  clear hres hd1 ht1 hK5
  go_wp2_with fail
  refine (dtype_any 1 dd xs w5 (by omega) hD5).mono ?_
  intro e w6 hres
  obtain ⟨t2, v6, rfl, hd2, ht2, hD6, hK6⟩ := TyV.made (e := dd) hdl5 hdl5 hres
  obtain ⟨n1, s1, rfl, ht1⟩ := HT1.out.keep hK6
  obtain ⟨n2, s2, rfl, ht2⟩ := ht2
  have hdl6 := hD6.lt
  have HD2 := Lib.hid hd2
  have HL0 := Lib.hid (TysV.two hdl6 hdl6 ht1 ht2)
  have HK6 := Lib.hid (HK5.out.one hK6)
  have HD6 := Lib.hid hD6
  clear hres hd2 ht1 ht2 hK6 hD5 hD6 HT1 HK5
  have hk7 : Kp (fun y => y = dd) w6 (w6.alloc (.cells #[sv n1, .slice s1.1 s1.2.1 s1.2.2, sv n2, .slice s2.1 s2.2.1 s2.2.2] 29)) := kp_alloc _
  have hk47 := HK6.out.one hk7
  have h4 := hk47.heap H4.out hd4
  have c40 : (w6.alloc (.cells #[sv n1, .slice s1.1 s1.2.1 s1.2.2, sv n2, .slice s2.1 s2.2.1 s2.2.2] 29)).cell? ⟨b4, 0, none⟩ = some (sv an) := (Lib.cell_of_heap h4 _).trans rfl
  have c41 : (w6.alloc (.cells #[sv n1, .slice s1.1 s1.2.1 s1.2.2, sv n2, .slice s2.1 s2.2.1 s2.2.2] 29)).cell? ⟨b4, 1, none⟩ = some (.slice as'.1 as'.2.1 as'.2.2) := (Lib.cell_of_heap h4 _).trans rfl
  obtain ⟨b7, hb7⟩ : ∃ n, n = w6.heap.size := ⟨_, rfl⟩
  obtain ⟨w7, hw7⟩ : ∃ w7, w7 = w6.alloc (.cells #[sv n1, .slice s1.1 s1.2.1 s1.2.2, sv n2, .slice s2.1 s2.2.1 s2.2.2] 29) := ⟨_, rfl⟩
  have HB7 := Lib.hid hb7
  have HW7 := Lib.hid hw7
  have hL7 := HL0.out
  rw [← hb7, ← hw7] at hL7
  rw [← hw7] at hk47
  have HA7 := Lib.hid ((HA4.out.keep (kept_off hk47)).more (off_more hk47))
  have HBB7 := Lib.hid ((HB4.out.keep (kept_off hk47)).more (off_more hk47))
  have HL7 : Hid (TysV dd dd [t1, t2] (.slice (some ⟨b7, 0, none⟩) 2 2) w7) := Lib.hid hL7
  have hd7 := (HD6.out.below ((Below.refl _ _).alloc (Nat.le_refl _) (.cells #[sv n1, .slice s1.1 s1.2.1 s1.2.2, sv n2, .slice s2.1 s2.2.1 s2.2.2] 29)))
  rw [← hw7] at hd7
  have HD7 := Lib.hid hd7
  have HN7 : Hid (Row w7 (Off dd dd w7) (some ⟨b6, 0, none⟩) (([[84], [85], [84]] : List (List UInt8)).map sv)) := Lib.hid (row_cells (hk47.heap H6.out hd6) rfl ⟨lt_of_heap (hk47.heap H6.out hd6), hd6, hd6⟩)
  have HK47 := Lib.hid hk47
  have HP7 : Hid (Calls Tryd.prog 8 #[.agg #[sv an, .slice as'.1 as'.2.1 as'.2.2], .slice (some ⟨b6, 0, none⟩) 3 3, .slice (some ⟨b7, 0, none⟩) 2 2] w7 (RefPutRes (Off dd dd w7) (putN [[84], [85], [84]] [t1, t2] a) w7)) := Lib.hid (by
    obtain ⟨b7', vs, hv, hT⟩ := HL7.out
    cases hv
    have := refPut_any (Off dd dd w7) [[84], [85], [84]] [t1, t2] (by decide) a _ _ (some ⟨b6, 0, none⟩) (some ⟨b7, 0, none⟩) 3 2 vs w7 (fun y hy => hy.1) HA7.out HN7.out hT
    simpa only [List.length_cons, List.length_nil, Nat.zero_add, Nat.reduceAdd] using this)
  clear hb7 hw7 hk7 hk47 h4 hL7 hd7 HL0 HD6 HA4 HB4
  go_wp2_with fail
  rw [← HB7.out, ← HW7.out]
  refine HP7.out.mono ?_
  rintro e w8 ⟨xu, xv, rfl, hx8, hb8⟩
  clear c40 c41
  obtain ⟨xn, xs1, rfl, rfl⟩ := hx8.shape
  obtain ⟨b8, hbb8⟩ : ∃ n, n = w8.heap.size := ⟨_, rfl⟩
  have hdl7 := HD7.out.lt
  have HGE : Hid (w7.heap.size ≤ b8) := Lib.hid (by rw [hbb8]; exact hb8.size)
  have hd8 : b8 ≠ dd := by have := hb8.size; omega
  have hk78 : Kp (fun y => y = dd) w7 w8 := Kp.ofBelow hb8
  have HX8 : Hid (TyIs w8 (Off dd dd w8) (putN [[84], [85], [84]] [t1, t2] a) (sv xn) (.slice xs1.1 xs1.2.1 xs1.2.2)) := Lib.hid (hx8.more fun y hy => by
    rcases hy with hy | hy
    · exact off_more hk78 y hy
    · exact ⟨hy.2, by have := hy.1; omega, by have := hy.1; omega⟩)
  have HK78 := Lib.hid hk78
  have B45 : Hid (b4 ≠ b8 ∧ b5 ≠ b8) := Lib.hid ⟨by have := lt_of_heap (HK47.out.heap H4.out hd4); have := HGE.out; omega, by have := lt_of_heap (HK47.out.heap H5.out hd5); have := HGE.out; omega⟩
  have BD8 : Hid (w.heap.size ≤ b8) := Lib.hid (by have := HDD.out; have := HGE.out; omega)
  have HBB8 := Lib.hid hbb8
  have HD8 := Lib.hid (HD7.out.below hb8)
  clear hx8 hb8 hk78 hbb8 HP7
  go_wp2_with fail
  rw [← HBB8.out]
  have hk89 : Kp (fun y => y = dd) w8 (w8.alloc (.cells #[sv xn, .slice xs1.1 xs1.2.1 xs1.2.2] 29)) := kp_alloc _
  have h8 := alloc1 w8 (.cells #[sv xn, .slice xs1.1 xs1.2.1 xs1.2.2] 29)
  rw [← HBB8.out] at h8
  have hx9 := (HX8.out.keep (kept_off hk89)).more (off_more hk89)
  have hD9 := HD8.out.below ((Below.refl _ _).alloc (Nat.le_refl _) (.cells #[sv xn, .slice xs1.1 xs1.2.1 xs1.2.2] 29))
  have hk79 := HK78.out.one hk89
  generalize w8.alloc (.cells #[sv xn, .slice xs1.1 xs1.2.1 xs1.2.2] 29) = w9 at *
  have HK79 := Lib.hid hk79
  have HX9 := Lib.hid hx9
  have HD9 := Lib.hid hD9
  have H8 := Lib.hid h8
  clear hk89 h8 hx9 hD9 hk79 HX8 HD8 HK78 HBB8 HW7 HB7
  have hone := one_any 4 dd xs w9 (by omega) (by omega) HD9.out
  have HONE := Lib.hid hone
  clear hone
  refine HONE.out.mono ?_
  rintro e w10 ⟨c, rfl, hD10, hK10⟩
  have HK710 := Lib.hid (HK79.out.one hK10)
  have hk410 := HK47.out.one HK710.out
  have hx10 := (HX9.out.keep (kept_off hK10)).more (off_more hK10)
  have HX10 := Lib.hid hx10
  have hA10 := (HA7.out.keep (kept_off HK710.out)).more (off_more HK710.out)
  have hB10 := (HBB7.out.keep (kept_off HK710.out)).more (off_more HK710.out)
  have HA10 := Lib.hid hA10
  have HB10 := Lib.hid hB10
  have G4 := Lib.hid (hk410.heap H4.out hd4)
  have G5 := Lib.hid (hk410.heap H5.out hd5)
  have H8' := Lib.hid (hK10.heap H8.out hd8)
  obtain ⟨b7', vsl, hv, hT⟩ := HL7.out
  cases hv
  have HT7 := Lib.hid hT
  have GSA : Hid (a.size ≤ 1000000 ∧ (prn a).length ≤ 1000000) := Lib.hid (made_small (by omega) HDA.out)
  have GW0 : Hid (Below w.heap.size w w10) := Lib.hid (by
    have hdd := HDD.out
    have hb1 := HB1.out
    have hk := ((HK2.out.one HK3.out).one HK4.out).one hk410
    exact hb1.trans ⟨hk.os, hk.tape, hk.output, hk.size, fun y hy => hk.block y (by have := hb1.size; omega) (by omega)⟩)
  clear hk410 hx10 hA10 hB10 hT hD10 HK4 HK47 HK6 H4 H5 HD9 HD4 HD7 HL7 HX9 hK10
  have hsz710 := HK710.out.size
  cases c with
  | false =>
    obtain ⟨WW, hWW⟩ : ∃ WW, WW = w10 := ⟨_, rfl⟩
    rw [← hWW]
    rw [← hWW] at HK710 HX10 HA10 HB10 G4 G5 H8' GW0 hsz710
    clear hWW
    obtain ⟨yn, hyn⟩ : ∃ yn, yn = xn := ⟨_, rfl⟩
    obtain ⟨ys1, hys⟩ : ∃ ys1, ys1 = xs1 := ⟨_, rfl⟩
    obtain ⟨y, hy⟩ : ∃ y, y = putN [[84], [85], [84]] [t1, t2] a := ⟨_, rfl⟩
    rw [← hyn, ← hys, ← hy] at HX10
    rw [← hyn, ← hys] at H8'
    have GSY : Hid (y.size ≤ 1000000 ∧ (prn y).length ≤ 1000000) := Lib.hid (by rw [hy]; exact put_small HDA.out HD1.out HD2.out _ _ (by simp))
    have GA := Lib.hid (HA10.out.more fun _ h => h.1 : TyIs WW (Lt WW.heap.size) a _ _)
    have GB := Lib.hid (HB10.out.more fun _ h => h.1 : TyIs WW (Lt WW.heap.size) b _ _)
    have GX := Lib.hid (HX10.out.more fun _ h => h.1 : TyIs WW (Lt WW.heap.size) y _ _)
    have GN := Lib.hid ((HN7.out.keep (kept_off HK710.out)).more fun _ h => Nat.lt_of_lt_of_le h.1 hsz710 : Row WW (Lt WW.heap.size) (some ⟨b6, 0, none⟩) (([[84], [85], [84]] : List (List UInt8)).map sv))
    have GL := Lib.hid ((HT7.out.keep (kept_off HK710.out)).more fun _ h => Nat.lt_of_lt_of_le h.1 hsz710 : Tys WW (Lt WW.heap.size) (some ⟨b7, 0, none⟩) [t1, t2] vsl)
    have G8 := H8'
    have GW := GW0
    clear hyn hys hy
    have p40 : WW.cell? ⟨b4, 0, none⟩ = some (sv an) := (Lib.cell_of_heap G4.out _).trans rfl
    have p41 : WW.cell? ⟨b4, 1, none⟩ = some (.slice as'.1 as'.2.1 as'.2.2) := (Lib.cell_of_heap G4.out _).trans rfl
    have p50 : WW.cell? ⟨b5, 0, none⟩ = some (sv bn) := (Lib.cell_of_heap G5.out _).trans rfl
    have p51 : WW.cell? ⟨b5, 1, none⟩ = some (.slice bs'.1 bs'.2.1 bs'.2.2) := (Lib.cell_of_heap G5.out _).trans rfl
    have p80 : WW.cell? ⟨b8, 0, none⟩ = some (sv yn) := (Lib.cell_of_heap G8.out _).trans rfl
    have p81 : WW.cell? ⟨b8, 1, none⟩ = some (.slice ys1.1 ys1.2.1 ys1.2.2) := (Lib.cell_of_heap G8.out _).trans rfl
    go_wp2_with fail
    refine (awake_any WW).mono ?_
    rintro e v1 ⟨rfl, hb⟩
    have V1B := Lib.hid hb
    have V14 := Lib.hid ((hb.block _ (lt_of_heap G4.out)).trans G4.out)
    have V15 := Lib.hid ((hb.block _ (lt_of_heap G5.out)).trans G5.out)
    have V18 := Lib.hid ((hb.block _ (lt_of_heap G8.out)).trans G8.out)
    clear p40 p41 p50 p51 p80 p81 hb
    have q40 : v1.cell? ⟨b4, 0, none⟩ = some (sv an) := (Lib.cell_of_heap V14.out _).trans rfl
    have q41 : v1.cell? ⟨b4, 1, none⟩ = some (.slice as'.1 as'.2.1 as'.2.2) := (Lib.cell_of_heap V14.out _).trans rfl
    have q50 : v1.cell? ⟨b5, 0, none⟩ = some (sv bn) := (Lib.cell_of_heap V15.out _).trans rfl
    have q51 : v1.cell? ⟨b5, 1, none⟩ = some (.slice bs'.1 bs'.2.1 bs'.2.2) := (Lib.cell_of_heap V15.out _).trans rfl
    have q80 : v1.cell? ⟨b8, 0, none⟩ = some (sv yn) := (Lib.cell_of_heap V18.out _).trans rfl
    have q81 : v1.cell? ⟨b8, 1, none⟩ = some (.slice ys1.1 ys1.2.1 ys1.2.2) := (Lib.cell_of_heap V18.out _).trans rfl
    have A1 := Lib.hid (agrees_any a b [[84], [85], [84]] [t1, t2] _ _ _ _ (some ⟨b6, 0, none⟩) (some ⟨b7, 0, none⟩) 3 2 vsl v1 (mk_now GA.out V1B.out) (mk_now GB.out V1B.out) (row_now GN.out V1B.out) (GL.out.now (Nat.le_refl _) V1B.out) GSA.out.1 GSA.out.2 (by decide))
    simp only [List.length_cons, List.length_nil, Nat.zero_add, Nat.reduceAdd] at A1
    go_wp2_with fail
    refine A1.out.mono ?_
    rintro e v2 ⟨rfl, hb⟩
    have V2B := Lib.hid (V1B.out.trans (hb.mono V1B.out.size))
    have V24 := Lib.hid ((hb.block _ (lt_of_heap V14.out)).trans V14.out)
    have V25 := Lib.hid ((hb.block _ (lt_of_heap V15.out)).trans V15.out)
    have V28 := Lib.hid ((hb.block _ (lt_of_heap V18.out)).trans V18.out)
    clear q40 q41 q50 q51 q80 q81 hb A1
    have q40 : v2.cell? ⟨b4, 0, none⟩ = some (sv an) := (Lib.cell_of_heap V24.out _).trans rfl
    have q41 : v2.cell? ⟨b4, 1, none⟩ = some (.slice as'.1 as'.2.1 as'.2.2) := (Lib.cell_of_heap V24.out _).trans rfl
    have q50 : v2.cell? ⟨b5, 0, none⟩ = some (sv bn) := (Lib.cell_of_heap V25.out _).trans rfl
    have q51 : v2.cell? ⟨b5, 1, none⟩ = some (.slice bs'.1 bs'.2.1 bs'.2.2) := (Lib.cell_of_heap V25.out _).trans rfl
    have q80 : v2.cell? ⟨b8, 0, none⟩ = some (sv yn) := (Lib.cell_of_heap V28.out _).trans rfl
    have q81 : v2.cell? ⟨b8, 1, none⟩ = some (.slice ys1.1 ys1.2.1 ys1.2.2) := (Lib.cell_of_heap V28.out _).trans rfl
    have A2 := Lib.hid (agrees_any a y [[84], [85], [84]] [t1, t2] _ _ _ _ (some ⟨b6, 0, none⟩) (some ⟨b7, 0, none⟩) 3 2 vsl v2 (mk_now GA.out V2B.out) (mk_now GX.out V2B.out) (row_now GN.out V2B.out) (GL.out.now (Nat.le_refl _) V2B.out) GSA.out.1 GSA.out.2 (by decide))
    simp only [List.length_cons, List.length_nil, Nat.zero_add, Nat.reduceAdd] at A2
    go_wp2_with fail
    refine A2.out.mono ?_
    rintro e v3 ⟨rfl, hb⟩
    have V3B := Lib.hid (V2B.out.trans (hb.mono V2B.out.size))
    have V34 := Lib.hid ((hb.block _ (lt_of_heap V24.out)).trans V24.out)
    have V35 := Lib.hid ((hb.block _ (lt_of_heap V25.out)).trans V25.out)
    have V38 := Lib.hid ((hb.block _ (lt_of_heap V28.out)).trans V28.out)
    clear q40 q41 q50 q51 q80 q81 hb A2
    have q40 : v3.cell? ⟨b4, 0, none⟩ = some (sv an) := (Lib.cell_of_heap V34.out _).trans rfl
    have q41 : v3.cell? ⟨b4, 1, none⟩ = some (.slice as'.1 as'.2.1 as'.2.2) := (Lib.cell_of_heap V34.out _).trans rfl
    have q50 : v3.cell? ⟨b5, 0, none⟩ = some (sv bn) := (Lib.cell_of_heap V35.out _).trans rfl
    have q51 : v3.cell? ⟨b5, 1, none⟩ = some (.slice bs'.1 bs'.2.1 bs'.2.2) := (Lib.cell_of_heap V35.out _).trans rfl
    have q80 : v3.cell? ⟨b8, 0, none⟩ = some (sv yn) := (Lib.cell_of_heap V38.out _).trans rfl
    have q81 : v3.cell? ⟨b8, 1, none⟩ = some (.slice ys1.1 ys1.2.1 ys1.2.2) := (Lib.cell_of_heap V38.out _).trans rfl
    obtain ⟨v4, hv4⟩ : ∃ v4, v4 = v3.alloc (.cells #[.string ⟨#[85]⟩] 9) := ⟨_, rfl⟩
    have hbu : Below v3.heap.size v3 v4 := by rw [hv4]; exact (Below.refl _ _).alloc (Nat.le_refl _) _
    have hu := alloc1 v3 (.cells #[.string ⟨#[85]⟩] 9)
    rw [← hv4] at hu
    have HU := Lib.hid hu
    have V4B := Lib.hid (V3B.out.trans (hbu.mono V3B.out.size))
    have HV4 := Lib.hid hv4
    have V44 := Lib.hid ((hbu.block _ (lt_of_heap V34.out)).trans V34.out)
    have V45 := Lib.hid ((hbu.block _ (lt_of_heap V35.out)).trans V35.out)
    have V48 := Lib.hid ((hbu.block _ (lt_of_heap V38.out)).trans V38.out)
    obtain ⟨b9, hb9⟩ : ∃ n, n = v3.heap.size := ⟨_, rfl⟩
    rw [← hb9] at hu
    have HB9 := Lib.hid hb9
    clear hbu HU hv4 hb9
    have HU := Lib.hid hu
    clear hu
    have A3 := Lib.hid (agrees_any y a [[85]] [t1, t2] _ _ _ _ (some ⟨b9, 0, none⟩) (some ⟨b7, 0, none⟩) 1 2 vsl v4 (mk_now GX.out V4B.out) (mk_now GA.out V4B.out) (row_cells HU.out rfl (lt_of_heap HU.out)) (GL.out.now (Nat.le_refl _) V4B.out) GSY.out.1 GSY.out.2 (by decide))
    simp only [List.length_cons, List.length_nil, Nat.zero_add, Nat.reduceAdd] at A3
    go_wp2_with fail
    rw [← HB9.out, ← HV4.out]
    refine A3.out.mono ?_
    rintro e v5 ⟨rfl, hb⟩
    have V5B := Lib.hid (V4B.out.trans (hb.mono V4B.out.size))
    clear q40 q41 q50 q51 q80 q81 hb A3
    go_wp2
    refine bodyPost_ret (by first | (simp [results, go_sem]; done) | (simp [results, go_sem]; rfl)) rfl ?_
    exact ⟨rfl, GW.out.trans (V5B.out.mono GW.out.size)⟩
  | true =>
    have hge := HGE.out
    obtain ⟨p1, hT1⟩ := tys_one HT7.out
    have HT1 := Lib.hid hT1
    have HDR : Hid (Below w10.heap.size w10 w10.drew) := Lib.hid ⟨rfl, rfl, rfl, Nat.le_refl _, fun _ _ => rfl⟩
    have hS : ∀ w', Below w10.heap.size w10 w' → w'.cell? ⟨b4, 0, none⟩ = some (sv an) ∧ w'.cell? ⟨b4, 1, none⟩ = some (.slice as'.1 as'.2.1 as'.2.2) := fun w' hb => by
      have h4 := (hb.block _ (lt_of_heap G4.out)).trans G4.out
      exact ⟨(Lib.cell_of_heap h4 _).trans rfl, (Lib.cell_of_heap h4 _).trans rfl⟩
    have HS := Lib.hid hS
    clear hS hT1
    go_wp2_with fail
    refine wp_region_mix (fun w' => Below w10.heap.size w10 w') [(true, 0), (true, 1), (true, 2), (true, 3), (false, 4)] [5] (by kernel_rfl) (by kernel_rfl) HDR.out ?h0
    simp only [mixAt, opsAt, List.filterMap_cons, List.filterMap_nil, List.getElem?_toArray, List.getElem?_cons_succ, List.getElem?_cons_zero, Option.map_some]
    obtain ⟨w11, hw11⟩ : ∃ w11, w11 = w10.drew := ⟨_, rfl⟩
    have HB11 : Hid (Below w10.heap.size w10 w11) := Lib.hid (by rw [hw11]; exact HDR.out)
    rw [← hw11]
    clear hw11 HDR
    refine wpMix_load ?v0 rfl (fun w' hS => ?y0) ?k0
    case y0 =>
      obtain ⟨h1, h2⟩ := HS.out w' hS
      go_simp
      try rfl
    case k0 =>
    go_simp
    refine wpMix_load ?v1 rfl (fun w' hS => ?y1) ?k1
    case y1 =>
      obtain ⟨h1, h2⟩ := HS.out w' hS
      go_simp
      try rfl
    case k1 =>
    go_simp
    refine wpMix_load ?v2 rfl (fun w' hS => ?y2) ?k2
    case y2 =>
      obtain ⟨h1, h2⟩ := HS.out w' hS
      go_simp
      try rfl
    case k2 =>
    go_simp
    refine wpMix_load ?v3 rfl (fun w' hS => ?y3) ?k3
    case y3 =>
      obtain ⟨h1, h2⟩ := HS.out w' hS
      go_simp
      try rfl
    case k3 =>
    go_simp
    have hsz11 := HB11.out.size
    have hk711 := HK710.out.one (Kp.ofBelow HB11.out)
    have hoff : ∀ y, Off dd dd w7 y → y < w11.heap.size ∧ y ≠ b8 := fun y hy => small_le hy.1 hge (Nat.le_trans hsz710 hsz11)
    have HA11 := Lib.hid ((HA7.out.keep (kept_off hk711)).more hoff)
    have HBB11 := Lib.hid ((HBB7.out.keep (kept_off hk711)).more hoff)
    have HN11 := Lib.hid ((HN7.out.keep (kept_off hk711)).more hoff)
    have HT11 := Lib.hid ((HT7.out.keep (kept_off hk711)).more hoff)
    have HT12 := Lib.hid ((HT1.out.keep (kept_off hk711)).more hoff)
    have hput := refPut_any (fun y => y < w11.heap.size ∧ y ≠ b8) [[84], [85], [84]] [t1] (by decide) a _ _ (some ⟨b6, 0, none⟩) (some ⟨b7, 0, none⟩) 3 2 [p1] w11 (fun y hy => hy.1) HA11.out HN11.out HT12.out
    simp only [List.length_cons, List.length_nil, Nat.zero_add, Nat.reduceAdd] at hput
    have HPUT := Lib.hid hput
    clear hk711 hoff hput
    refine wpMix_keep rfl ?_
    go_simp
    refine HPUT.out.mono ?_
    rintro e w12 ⟨yu, yv, rfl, hy12, hb12⟩
    obtain ⟨yn, ys1, rfl, rfl⟩ := hy12.shape
    obtain ⟨y, hy⟩ : ∃ y, y = putN [[84], [85], [84]] [t1] a := ⟨_, rfl⟩
    rw [← hy] at hy12
    have GSY : Hid (y.size ≤ 1000000 ∧ (prn y).length ≤ 1000000) := Lib.hid (by rw [hy]; exact put_small HDA.out HD1.out HD2.out _ _ (by simp))
    have hb1012 := HB11.out.trans (hb12.mono HB11.out.size)
    have h8 := (hb1012.block _ (lt_of_heap H8'.out)).trans H8'.out
    have hb8l := lt_of_heap H8'.out
    have c80 : w12.cell? ⟨b8, 0, none⟩ = some (sv xn) := (Lib.cell_of_heap h8 _).trans rfl
    have c81 : w12.cell? ⟨b8, 1, none⟩ = some (.slice xs1.1 xs1.2.1 xs1.2.2) := (Lib.cell_of_heap h8 _).trans rfl
    have g0 : w12.frozen? ⟨b8, 0, none⟩ = false := Lib.frozen_of_heap h8 0
    have g1 : w12.frozen? ⟨b8, 1, none⟩ = false := Lib.frozen_of_heap h8 1
    obtain ⟨WW, hWW⟩ : ∃ WW, WW = (w12.setCell ⟨b8, 0, none⟩ (sv yn)).setCell ⟨b8, 1, none⟩ (.slice ys1.1 ys1.2.1 ys1.2.2) := ⟨_, rfl⟩
    have hks : Kp (fun y => y = b8) w12 WW := by rw [hWW]; exact ((Kp.refl (fun y => y = b8) w12).setCell (fun _ => rfl) _).setCell (fun _ => rfl) _
    have h8' : WW.heap[b8]? = some (.cells #[sv yn, .slice ys1.1 ys1.2.1 ys1.2.2] 29 (0, 0)) := by rw [hWW]; exact setCell_heap (setCell_heap h8)
    have hsz12 := hb12.size
    have hszW := hks.size
    have hoff : ∀ y, y < w11.heap.size ∧ y ≠ b8 → y < w12.heap.size ∧ ¬ y = b8 := fun y hy => ⟨Nat.lt_of_lt_of_le hy.1 hsz12, hy.2⟩
    have hlt : ∀ y, y < w11.heap.size ∧ y ≠ b8 → y < WW.heap.size := fun y hy => by have := hy.1; omega
    have hkk : Kept (fun y => y < w11.heap.size ∧ y ≠ b8) w11 WW := ((kept_below hb12).sub fun _ h => h.1).trans (hks.kept hoff)
    have GA := Lib.hid ((HA11.out.keep hkk).more hlt : TyIs WW (Lt WW.heap.size) a _ _)
    have GB := Lib.hid ((HBB11.out.keep hkk).more hlt : TyIs WW (Lt WW.heap.size) b _ _)
    have GN := Lib.hid ((HN11.out.keep hkk).more hlt : Row WW (Lt WW.heap.size) (some ⟨b6, 0, none⟩) (([[84], [85], [84]] : List (List UInt8)).map sv))
    have GL := Lib.hid ((HT11.out.keep hkk).more hlt : Tys WW (Lt WW.heap.size) (some ⟨b7, 0, none⟩) [t1, t2] vsl)
    have hy12' : TyIs w12 (fun y => y < w12.heap.size ∧ ¬ y = b8) y (sv yn) (.slice ys1.1 ys1.2.1 ys1.2.2) := hy12.more fun z hz => by
      rcases hz with hz | hz
      · exact hoff z hz
      · exact ⟨hz.2, by have := hz.1; omega⟩
    have GX := Lib.hid ((hy12'.keep (hks.kept fun _ h => h)).more fun z hz => Nat.lt_of_lt_of_le hz.1 hszW : TyIs WW (Lt WW.heap.size) y _ _)
    have hb45 : b4 ≠ b8 ∧ b5 ≠ b8 := B45.out
    have G4' := Lib.hid (hks.heap ((hb1012.block _ (lt_of_heap G4.out)).trans G4.out) hb45.1)
    have G5' := Lib.hid (hks.heap ((hb1012.block _ (lt_of_heap G5.out)).trans G5.out) hb45.2)
    have HB1012 := Lib.hid hb1012
    clear G4 G5
    obtain ⟨G4, G5⟩ : (Hid (WW.heap[b4]? = some (.cells #[sv an, .slice as'.1 as'.2.1 as'.2.2] 29 (0, 0)))) ∧ (Hid (WW.heap[b5]? = some (.cells #[sv bn, .slice bs'.1 bs'.2.1 bs'.2.2] 29 (0, 0)))) := ⟨G4', G5'⟩
    have G8 := Lib.hid h8'
    have GW := Lib.hid (show Below w.heap.size w WW by
      have h0 := GW0.out.trans (hb1012.mono GW0.out.size)
      have h1 := GW0.out.size
      have h2 := BD8.out
      exact ⟨hks.os.trans h0.os, hks.tape.trans h0.tape, hks.output.trans h0.output, Nat.le_trans h0.size hks.size, fun z hz => (hks.block z (Nat.lt_of_lt_of_le hz h0.size) (by omega)).trans (h0.block z hz)⟩)
    have HWW := Lib.hid hWW
    clear hWW hks h8' hoff hlt hkk hy12' hy12 hb12 hb1012 h8 hy hb45 G4' G5' HA11 HBB11 HN11 HT11 HT12 HPUT HS
    refine ⟨HB1012.out, ?_⟩
    refine wpMix_nil ?_
    go_wp2
    refine NoPanic.normal ?_
    rw [← HWW.out]
    clear c80 c81 g0 g1
    have p40 : WW.cell? ⟨b4, 0, none⟩ = some (sv an) := (Lib.cell_of_heap G4.out _).trans rfl
    have p41 : WW.cell? ⟨b4, 1, none⟩ = some (.slice as'.1 as'.2.1 as'.2.2) := (Lib.cell_of_heap G4.out _).trans rfl
    have p50 : WW.cell? ⟨b5, 0, none⟩ = some (sv bn) := (Lib.cell_of_heap G5.out _).trans rfl
    have p51 : WW.cell? ⟨b5, 1, none⟩ = some (.slice bs'.1 bs'.2.1 bs'.2.2) := (Lib.cell_of_heap G5.out _).trans rfl
    have p80 : WW.cell? ⟨b8, 0, none⟩ = some (sv yn) := (Lib.cell_of_heap G8.out _).trans rfl
    have p81 : WW.cell? ⟨b8, 1, none⟩ = some (.slice ys1.1 ys1.2.1 ys1.2.2) := (Lib.cell_of_heap G8.out _).trans rfl
    go_wp2_with fail
    refine (awake_any WW).mono ?_
    rintro e v1 ⟨rfl, hb⟩
    have V1B := Lib.hid hb
    have V14 := Lib.hid ((hb.block _ (lt_of_heap G4.out)).trans G4.out)
    have V15 := Lib.hid ((hb.block _ (lt_of_heap G5.out)).trans G5.out)
    have V18 := Lib.hid ((hb.block _ (lt_of_heap G8.out)).trans G8.out)
    clear p40 p41 p50 p51 p80 p81 hb
    have q40 : v1.cell? ⟨b4, 0, none⟩ = some (sv an) := (Lib.cell_of_heap V14.out _).trans rfl
    have q41 : v1.cell? ⟨b4, 1, none⟩ = some (.slice as'.1 as'.2.1 as'.2.2) := (Lib.cell_of_heap V14.out _).trans rfl
    have q50 : v1.cell? ⟨b5, 0, none⟩ = some (sv bn) := (Lib.cell_of_heap V15.out _).trans rfl
    have q51 : v1.cell? ⟨b5, 1, none⟩ = some (.slice bs'.1 bs'.2.1 bs'.2.2) := (Lib.cell_of_heap V15.out _).trans rfl
    have q80 : v1.cell? ⟨b8, 0, none⟩ = some (sv yn) := (Lib.cell_of_heap V18.out _).trans rfl
    have q81 : v1.cell? ⟨b8, 1, none⟩ = some (.slice ys1.1 ys1.2.1 ys1.2.2) := (Lib.cell_of_heap V18.out _).trans rfl
    have A1 := Lib.hid (agrees_any a b [[84], [85], [84]] [t1, t2] _ _ _ _ (some ⟨b6, 0, none⟩) (some ⟨b7, 0, none⟩) 3 2 vsl v1 (mk_now GA.out V1B.out) (mk_now GB.out V1B.out) (row_now GN.out V1B.out) (GL.out.now (Nat.le_refl _) V1B.out) GSA.out.1 GSA.out.2 (by decide))
    simp only [List.length_cons, List.length_nil, Nat.zero_add, Nat.reduceAdd] at A1
    go_wp2_with fail
    refine A1.out.mono ?_
    rintro e v2 ⟨rfl, hb⟩
    have V2B := Lib.hid (V1B.out.trans (hb.mono V1B.out.size))
    have V24 := Lib.hid ((hb.block _ (lt_of_heap V14.out)).trans V14.out)
    have V25 := Lib.hid ((hb.block _ (lt_of_heap V15.out)).trans V15.out)
    have V28 := Lib.hid ((hb.block _ (lt_of_heap V18.out)).trans V18.out)
    clear q40 q41 q50 q51 q80 q81 hb A1
    have q40 : v2.cell? ⟨b4, 0, none⟩ = some (sv an) := (Lib.cell_of_heap V24.out _).trans rfl
    have q41 : v2.cell? ⟨b4, 1, none⟩ = some (.slice as'.1 as'.2.1 as'.2.2) := (Lib.cell_of_heap V24.out _).trans rfl
    have q50 : v2.cell? ⟨b5, 0, none⟩ = some (sv bn) := (Lib.cell_of_heap V25.out _).trans rfl
    have q51 : v2.cell? ⟨b5, 1, none⟩ = some (.slice bs'.1 bs'.2.1 bs'.2.2) := (Lib.cell_of_heap V25.out _).trans rfl
    have q80 : v2.cell? ⟨b8, 0, none⟩ = some (sv yn) := (Lib.cell_of_heap V28.out _).trans rfl
    have q81 : v2.cell? ⟨b8, 1, none⟩ = some (.slice ys1.1 ys1.2.1 ys1.2.2) := (Lib.cell_of_heap V28.out _).trans rfl
    have A2 := Lib.hid (agrees_any a y [[84], [85], [84]] [t1, t2] _ _ _ _ (some ⟨b6, 0, none⟩) (some ⟨b7, 0, none⟩) 3 2 vsl v2 (mk_now GA.out V2B.out) (mk_now GX.out V2B.out) (row_now GN.out V2B.out) (GL.out.now (Nat.le_refl _) V2B.out) GSA.out.1 GSA.out.2 (by decide))
    simp only [List.length_cons, List.length_nil, Nat.zero_add, Nat.reduceAdd] at A2
    go_wp2_with fail
    refine A2.out.mono ?_
    rintro e v3 ⟨rfl, hb⟩
    have V3B := Lib.hid (V2B.out.trans (hb.mono V2B.out.size))
    have V34 := Lib.hid ((hb.block _ (lt_of_heap V24.out)).trans V24.out)
    have V35 := Lib.hid ((hb.block _ (lt_of_heap V25.out)).trans V25.out)
    have V38 := Lib.hid ((hb.block _ (lt_of_heap V28.out)).trans V28.out)
    clear q40 q41 q50 q51 q80 q81 hb A2
    have q40 : v3.cell? ⟨b4, 0, none⟩ = some (sv an) := (Lib.cell_of_heap V34.out _).trans rfl
    have q41 : v3.cell? ⟨b4, 1, none⟩ = some (.slice as'.1 as'.2.1 as'.2.2) := (Lib.cell_of_heap V34.out _).trans rfl
    have q50 : v3.cell? ⟨b5, 0, none⟩ = some (sv bn) := (Lib.cell_of_heap V35.out _).trans rfl
    have q51 : v3.cell? ⟨b5, 1, none⟩ = some (.slice bs'.1 bs'.2.1 bs'.2.2) := (Lib.cell_of_heap V35.out _).trans rfl
    have q80 : v3.cell? ⟨b8, 0, none⟩ = some (sv yn) := (Lib.cell_of_heap V38.out _).trans rfl
    have q81 : v3.cell? ⟨b8, 1, none⟩ = some (.slice ys1.1 ys1.2.1 ys1.2.2) := (Lib.cell_of_heap V38.out _).trans rfl
    obtain ⟨v4, hv4⟩ : ∃ v4, v4 = v3.alloc (.cells #[.string ⟨#[85]⟩] 9) := ⟨_, rfl⟩
    have hbu : Below v3.heap.size v3 v4 := by rw [hv4]; exact (Below.refl _ _).alloc (Nat.le_refl _) _
    have hu := alloc1 v3 (.cells #[.string ⟨#[85]⟩] 9)
    rw [← hv4] at hu
    have HU := Lib.hid hu
    have V4B := Lib.hid (V3B.out.trans (hbu.mono V3B.out.size))
    have HV4 := Lib.hid hv4
    have V44 := Lib.hid ((hbu.block _ (lt_of_heap V34.out)).trans V34.out)
    have V45 := Lib.hid ((hbu.block _ (lt_of_heap V35.out)).trans V35.out)
    have V48 := Lib.hid ((hbu.block _ (lt_of_heap V38.out)).trans V38.out)
    obtain ⟨b9, hb9⟩ : ∃ n, n = v3.heap.size := ⟨_, rfl⟩
    rw [← hb9] at hu
    have HB9 := Lib.hid hb9
    clear hbu HU hv4 hb9
    have HU := Lib.hid hu
    clear hu
    have A3 := Lib.hid (agrees_any y a [[85]] [t1, t2] _ _ _ _ (some ⟨b9, 0, none⟩) (some ⟨b7, 0, none⟩) 1 2 vsl v4 (mk_now GX.out V4B.out) (mk_now GA.out V4B.out) (row_cells HU.out rfl (lt_of_heap HU.out)) (GL.out.now (Nat.le_refl _) V4B.out) GSY.out.1 GSY.out.2 (by decide))
    simp only [List.length_cons, List.length_nil, Nat.zero_add, Nat.reduceAdd] at A3
    go_wp2_with fail
    rw [← HB9.out, ← HV4.out]
    refine A3.out.mono ?_
    rintro e v5 ⟨rfl, hb⟩
    have V5B := Lib.hid (V4B.out.trans (hb.mono V4B.out.size))
    clear q40 q41 q50 q51 q80 q81 hb A3
    go_wp2
    refine bodyPost_ret (by first | (simp [results, go_sem]; done) | (simp [results, go_sem]; rfl)) rfl ?_
    exact ⟨rfl, GW.out.trans (V5B.out.mono GW.out.size)⟩
end
end Go.Proofs.YtbkobjbpilbhdaaDoor
