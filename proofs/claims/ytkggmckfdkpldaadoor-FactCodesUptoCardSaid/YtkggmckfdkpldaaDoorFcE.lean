/-
  The walks of what reads a pack's fields: fact.open, text.
  Conditions: 'Env'; texts of at most 10^9 bytes.
-/
import Derived.Test.YtkggmckfdkpldaaDoorFcA
import Derived.Test.YtkggmckfdkpldaaDoorFcU
namespace Go.Proofs.YtkggmckfdkpldaaDoor
open Go.RowKit

/-- The fields that are still to be read, in block fb. -/
structure FAt (B fb : Nat) (w : World) (L : List (List UInt8)) (ok : Bool) : Prop where
  low : B ≤ fb
  at_ : ∃ A c, L.length ≤ c ∧ c ≤ maxLen ∧ w.heap[fb]? = some (.cells #[.slice A L.length c, .bool ok] 104 (0, 0)) ∧ Row w (fun b => b < w.heap.size ∧ b ≠ fb) A (L.map sv)
theorem FAt.kp {B fb : Nat} {w w' : World} {L : List (List UInt8)} {ok : Bool} (h : FAt B fb w L ok) (hb : Below w.heap.size w w') : FAt B fb w' L ok := by
  obtain ⟨hl, A, c, h1, h2, h3, h4⟩ := h
  refine ⟨hl, A, c, h1, h2, (hb.block _ (lt_of_heap h3)).trans h3, (h4.keep fun p hp => hb.cell hp.1).more fun _ hy => ⟨Nat.lt_of_lt_of_le hy.1 hb.size, hy.2⟩⟩
/-- The fields that open gives. -/
noncomputable def opn (s : List UInt8) (n : Nat) : List (List UInt8) × Bool := if (unpk s).2 = true ∧ (unpk s).1.length = n then ((unpk s).1, true) else (List.replicate n [], false)
theorem opn_len (s : List UInt8) (n : Nat) : (opn s n).1.length = n := by
  unfold opn
  by_cases h : (unpk s).2 = true ∧ (unpk s).1.length = n
  · rw [if_pos h]; exact h.2
  · rw [if_neg h]; simp
theorem opn_le {s : List UInt8} {n : Nat} {x : List UInt8} (h : x ∈ (opn s n).1) : x.length ≤ s.length := by
  unfold opn at h
  by_cases hc : (unpk s).2 = true ∧ (unpk s).1.length = n
  · rw [if_pos hc] at h
    rcases unpk_cases s with ⟨L, rfl, e⟩ | ⟨_, e⟩
    · rw [e] at h
      obtain ⟨k, hk⟩ := List.getElem?_of_mem h
      exact pack_elem hk
    · rw [e] at hc
      cases hc.1
  · rw [if_neg hc] at h
    rw [List.eq_of_mem_replicate h]
    exact Nat.zero_le _
theorem str1 (s : List UInt8) : ([sv s] : List Value).length = 1 := rfl
theorem flt1 (ss : List (List UInt8)) : flt (fun s => [sv s]) ss = ss.map sv := by
  induction ss with
  | nil => rfl
  | cons a r ih => rw [flt_cons, ih]; rfl
theorem setKp (fb o : Nat) (w : World) (v : Value) : Kp (fun y => y = fb) w (w.setCell ⟨fb, o, none⟩ v) := Kp.setCell (M := fun y => y = fb) (Kp.refl _ _) (fun _ => rfl) v
theorem fat_put {B fb : Nat} {w : World} {v0 : Value} {ok : Bool} {A : Option Addr} {L : List (List UInt8)} {c : Nat} (hl : B ≤ fb) (hh : w.heap[fb]? = some (.cells #[v0, .bool ok] 104 (0, 0))) (hr : Row w (fun b => b < w.heap.size ∧ b ≠ fb) A (L.map sv)) (hc : L.length ≤ c) (hcm : c ≤ maxLen) :
    FAt B fb (w.setCell ⟨fb, 0, none⟩ (.slice A L.length c)) L ok := by
  have hk := setKp fb 0 w (.slice A L.length c)
  refine ⟨hl, A, c, hc, hcm, ?_, (hr.keep (hk.kept fun b hb => hb)).more fun b hb => ⟨Nat.lt_of_lt_of_le hb.1 hk.size, hb.2⟩⟩
  rw [setCell_heap hh]
  rfl
theorem fat_ok {B fb : Nat} {w : World} {ok : Bool} {L : List (List UInt8)} (h : FAt B fb w L ok) (b : Bool) : FAt B fb (w.setCell ⟨fb, 1, none⟩ (.bool b)) L b := by
  obtain ⟨hl, A, c, hc, hcm, hh, hr⟩ := h
  have hk := setKp fb 1 w (.bool b)
  refine ⟨hl, A, c, hc, hcm, ?_, (hr.keep (hk.kept fun b hb => hb)).more fun b hb => ⟨Nat.lt_of_lt_of_le hb.1 hk.size, hb.2⟩⟩
  rw [setCell_heap hh]
  rfl
theorem FAt.okCell {B fb : Nat} {w : World} {ok : Bool} {L : List (List UInt8)} (h : FAt B fb w L ok) : w.cell? ⟨fb, 1, none⟩ = some (.bool ok) ∧ w.frozen? ⟨fb, 1, none⟩ = false := by
  obtain ⟨hl, A, c, hc, hcm, hh, hr⟩ := h
  exact ⟨(Lib.cell_of_heap hh _).trans rfl, Lib.frozen_of_heap hh 1⟩
/-- How a field is read: the rest is left, ok as it was. -/
def TextRes (B fb : Nat) (w : World) (x : List UInt8) (L : List (List UInt8)) (ok : Bool) (e : Ending) (w' : World) : Prop :=
  e = .returned (sv x) ∧ FAt B fb w' L ok ∧ Kp (fun y => y = fb) w w'
set_option maxHeartbeats 1600000 in
set_option maxRecDepth 100000 in
theorem text_any (B fb : Nat) (x : List UInt8) (L : List (List UInt8)) (ok : Bool) (w : World) (h : FAt B fb w (x :: L) ok) :
    Calls Tryd.prog 58 #[.pointer (some ⟨fb, 0, none⟩)] w (TextRes B fb w x L ok) := by
  obtain ⟨hl, A, c, hc, hcm, hh, hr⟩ := h
  obtain ⟨ad, hA, hS, a0⟩ := hr.at_ (k := 0) (u := sv x) rfl
  have hbk : Row w (fun b => b < w.heap.size ∧ b ≠ fb) (backOf A 1 c 1) (L.map sv) := by
    have := back_row (f := fun s => [sv s]) (s := 1) str1 (ys := x :: L) (OA := A) (w := w) (S := fun b => b < w.heap.size ∧ b ≠ fb) (by rw [flt1]; exact hr) rfl hc 1
    rw [flt1] at this
    exact this
  subst hA
  have hlt := lt_of_heap hh
  obtain ⟨n, hn⟩ : ∃ n, n = L.length := ⟨_, rfl⟩
  rw [List.length_cons, ← hn] at hc hh
  have HN := Lib.hid hn
  have HBK := Lib.hid hbk
  have HH := Lib.hid hh
  have c0 : w.cell? ⟨fb, 0, none⟩ = some (.slice (some ad) (n + 1) c) := (Lib.cell_of_heap hh _).trans rfl
  have f0 : w.frozen? ⟨fb, 0, none⟩ = false := Lib.frozen_of_heap hh 0
  rw [show ad.add 0 = ad by simp [Addr.add]] at a0
  clear hn hbk hr hh hS
  by_cases hc1 : c = 1
  · subst hc1
    obtain rfl : n = 0 := by omega
    have HRES : Hid (TextRes B fb w x L ok (.returned (sv x)) (w.setCell ⟨fb, 0, none⟩ (.slice (some ad) 0 0))) := Lib.hid ⟨rfl, by
      have hbk := HBK.out
      have := fat_put (L := L) (c := 0) hl HH.out hbk (by rw [← HN.out]; exact Nat.le_refl _) (Nat.zero_le _)
      rw [← HN.out] at this
      exact this, setKp _ _ _ _⟩
    go_enter Tryd.func58, Tryd.ntmps58
    go_wp2
    go_ret
    exact HRES.out
  · have HRES : Hid (TextRes B fb w x L ok (.returned (sv x)) (w.setCell ⟨fb, 0, none⟩ (.slice (some ⟨ad.block, ad.off + 1, none⟩) n (c - 1)))) := Lib.hid ⟨rfl, by
      have hbk := HBK.out
      unfold backOf at hbk
      rw [if_neg hc1] at hbk
      have := fat_put (L := L) (c := c - 1) hl HH.out hbk (by rw [← HN.out]; omega) (by omega)
      rw [← HN.out] at this
      exact this, setKp _ _ _ _⟩
    go_enter Tryd.func58, Tryd.ntmps58
    go_wp2
    go_ret
    exact HRES.out
/-- How open ends: the fields in a block of their own. -/
def OpenRes (s : List UInt8) (n : Nat) (w : World) (e : Ending) (w' : World) : Prop :=
  ∃ fb, e = .returned (.pointer (some ⟨fb, 0, none⟩)) ∧ fb < w'.heap.size ∧ FAt w.heap.size fb w' (opn s n).1 (opn s n).2 ∧ Below w.heap.size w w'
set_option maxHeartbeats 1600000 in
set_option maxRecDepth 100000 in
theorem open_any (s : List UInt8) (n : Nat) (w : World) (he : Env w) (hs : s.length ≤ 1000000000) (hn : n ≤ 10) :
    Calls Tryd.prog 38 #[sv s, .int .i64 n] w (OpenRes s n w) := by
  obtain ⟨i0, hi, hz0, hz1, hz2⟩ := info_parts infoS
  have HU := Lib.hid (unpack_any s w he hs)
  clear he
  go_enter Tryd.func38, Tryd.ntmps38
  go_wp2_with fail
  refine HU.out.mono ?_
  rintro e w1 ⟨hend, hb⟩
  have HB := Lib.hid hb
  rcases hend with ⟨L, v, rfl, rfl, hown⟩ | ⟨hno, rfl⟩
  · obtain ⟨A, c, rfl, _⟩ := own_slice hown
    have HO := Lib.hid hown
    obtain ⟨m, hm⟩ : ∃ m, m = L.length := ⟨_, rfl⟩
    rw [← hm] at hown ⊢
    have HM := Lib.hid hm
    by_cases hq : m = n
    · subst hq
      have hle := own_le hown
      have hop : opn (pack L) m = (L, true) := by
        unfold opn
        rw [unpk_pack, if_pos ⟨rfl, hm.symm⟩]
      have hrow : Row w1 (Lt w1.heap.size) A (L.map sv) := by rw [hm] at hown; exact Row.ofOwn hown fun _ _ _ h => h
      have HRES : Hid (OpenRes (pack L) m w (.returned (.pointer (some ⟨w1.heap.size, 0, none⟩))) (w1.alloc (.cells #[.slice A m c, .bool true] 104))) := Lib.hid ⟨w1.heap.size, rfl, by simp, by
        rw [hop]
        refine ⟨hb.size, A, c, by rw [← hm]; exact hle.1, hle.2, by rw [← hm]; exact alloc1 _ _, (hrow.keep (kept_below ((Below.refl _ w1).alloc (Nat.le_refl _) _))).more fun b hb => ⟨by simp; exact Nat.lt_succ_of_lt hb, Nat.ne_of_lt hb⟩⟩, hb.alloc hb.size _⟩
      clear hown hm hle hop hrow hb
      go_wp2
      go_ret
      exact HRES.out
    · have hop : opn (pack L) n = (List.replicate n [], false) := by
        unfold opn
        rw [unpk_pack, if_neg fun e => hq (hm.trans e.2)]
      have hmn : (m : Int) ≠ (n : Int) := fun e => hq (by omega)
      obtain ⟨wc, hmk, hown2, hgr⟩ := run_make_full (P := Tryd.prog) w1 w1.heap.size 28 9 i0 _ 1 Tryd.underlying28 hi hz0 hz1 .i64 .i64 n (by rw [hz2]; omega) (by unfold maxLen; omega) (by omega)
      have hbc : Below w1.heap.size w1 wc := ⟨hgr.os, hgr.tape, hgr.output, hgr.size, fun y hy => hgr.block y hy (by simp)⟩
      rw [madeS] at hown2
      have hrow : Row wc (Lt wc.heap.size) (some ⟨w1.heap.size, 0, none⟩) ((List.replicate n ([] : List UInt8)).map sv) := by
        rw [List.map_replicate]
        exact Row.ofOwn hown2 fun _ _ _ h => h
      have hle := own_le hown2
      have HRES : Hid (OpenRes (pack L) n w (.returned (.pointer (some ⟨wc.heap.size, 0, none⟩))) (wc.alloc (.cells #[.slice (some ⟨w1.heap.size, 0, none⟩) n n, .bool false] 104))) := Lib.hid ⟨wc.heap.size, rfl, by simp, by
        rw [hop]
        refine ⟨Nat.le_trans HB.out.size hbc.size, some ⟨w1.heap.size, 0, none⟩, n, by simp, hle.2, by simp only [List.length_replicate]; exact alloc1 _ _, (hrow.keep (kept_below ((Below.refl _ wc).alloc (Nat.le_refl _) _))).more fun b hb => ⟨by simp; exact Nat.lt_succ_of_lt hb, Nat.ne_of_lt hb⟩⟩, ((HB.out.trans (hbc.mono HB.out.size)).alloc (Nat.le_trans HB.out.size hbc.size) _)⟩
      clear hown2 hgr hbc hrow hle hop
      go_wp2
      go_ret
      exact HRES.out
  · have hop : opn s n = (List.replicate n [], false) := by
      unfold opn
      rw [unpk_no hno, if_neg (by simp)]
    obtain ⟨wc, hmk, hown2, hgr⟩ := run_make_full (P := Tryd.prog) w1 w1.heap.size 28 9 i0 _ 1 Tryd.underlying28 hi hz0 hz1 .i64 .i64 n (by rw [hz2]; omega) (by unfold maxLen; omega) (by omega)
    have hbc : Below w1.heap.size w1 wc := ⟨hgr.os, hgr.tape, hgr.output, hgr.size, fun y hy => hgr.block y hy (by simp)⟩
    rw [madeS] at hown2
    have hrow : Row wc (Lt wc.heap.size) (some ⟨w1.heap.size, 0, none⟩) ((List.replicate n ([] : List UInt8)).map sv) := by
      rw [List.map_replicate]
      exact Row.ofOwn hown2 fun _ _ _ h => h
    have hle := own_le hown2
    have HRES : Hid (OpenRes s n w (.returned (.pointer (some ⟨wc.heap.size, 0, none⟩))) (wc.alloc (.cells #[.slice (some ⟨w1.heap.size, 0, none⟩) n n, .bool false] 104))) := Lib.hid ⟨wc.heap.size, rfl, by simp, by
      rw [hop]
      refine ⟨Nat.le_trans HB.out.size hbc.size, some ⟨w1.heap.size, 0, none⟩, n, by simp, hle.2, by simp only [List.length_replicate]; exact alloc1 _ _, (hrow.keep (kept_below ((Below.refl _ wc).alloc (Nat.le_refl _) _))).more fun b hb => ⟨by simp; exact Nat.lt_succ_of_lt hb, Nat.ne_of_lt hb⟩⟩, ((HB.out.trans (hbc.mono HB.out.size)).alloc (Nat.le_trans HB.out.size hbc.size) _)⟩
    clear hown2 hgr hbc hrow hle hop
    go_wp2
    go_ret
    exact HRES.out
end Go.Proofs.YtkggmckfdkpldaaDoor
