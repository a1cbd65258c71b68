/-
  The walks of recompileref09.print and Print.
  Conditions: the argument reads as a type whose text is at most 4000000 bytes long.
  The walks of recompilelaw09.sameTexts, recompileref09.SameList, types.Size.
  Conditions: the arguments read as what they are.
-/
import Derived.Test.YtndhglcdkegigaaDoorPrint
import Derived.Lib.BufferRead
import Derived.Test.YtndhglcdkegigaaDoorRefSame
import Derived.Test.YtndhglcdkegigaaDoorMatchE
import Derived.Test.YtndhglcdkegigaaDoorDice
namespace Go.Proofs.YtndhglcdkegigaaDoor
section
open Go.RowKit Go.Sort
/-- string(b) where b is a row of the call's own. -/
theorem own_convert {w : World} {base : Nat} {v : Value} {l : List UInt8} (h : w.ownsRow base 5 1 v l.length (Lib.byteCells l)) :
    (convert 26 9 v).run Tryd.prog w = .ok (sv l) w := by
  rcases h.2 with ⟨rfl, h0⟩ | ⟨g, cap, cur, rfl, _⟩
  · have : l = [] := List.eq_nil_of_length_eq_zero h0
    subst this
    exact Lib.run_convert_nil_bytes w _ _ 5 0 Tryd.underlying26 Tryd.underlying5 Tryd.underlying9
  · refine run_convert_bytes_back w _ _ 5 _ cap l Tryd.underlying26 Tryd.underlying5 Tryd.underlying9 (fun j hj => ?_)
    exact h.cells (g := g) rfl j _ (by unfold Lib.byteCells; rw [List.getElem?_map, List.getElem?_eq_getElem hj]; rfl)
theorem str_cells (m l : List UInt8) : Lib.byteCells m ++ Lib.strCells (bs l) = Lib.byteCells (m ++ l) := by
  rw [Lib.strCells_eq, bs_data, Lib.byteCells_append]

/-- What was there is as it was, but for rows of bytes above a mark. -/
def Pd (B : Nat) (w w' : World) : Prop := Kp (fun y => B ≤ y ∧ U8At w y) w w'
theorem Pd.refl (B : Nat) (w : World) : Pd B w w := Kp.refl _ _
theorem Pd.trans {B : Nat} {w w1 w2 : World} (h : Pd B w w1) (h1 : Pd B w1 w2) : Pd B w w2 := by
  refine Kp.trans h h1 fun x hx hM => ?_
  obtain ⟨hB, cs, fr, hc⟩ := hM
  rcases Classical.em (B ≤ x ∧ U8At w x) with h2 | h2
  · exact h2
  · exact ⟨hB, cs, fr, (h.block x hx h2).symm.trans hc⟩
theorem Pd.below {B : Nat} {w w' : World} (h : Pd B w w') (hw : B ≤ w.heap.size) : Below B w w' := ⟨h.os, h.tape, h.output, h.size, fun x hx => h.block x (by omega) (fun e => by omega)⟩
theorem Pd.alloc {B : Nat} {w w1 : World} (h : Pd B w w1) (o : Obj) : Pd B w (w1.alloc o) := Kp.alloc h o
theorem Pd.grow {B : Nat} {w w1 w2 : World} {v : Value} {n : Nat} {xs : List Value} (h : Pd B w w1) (ho : w1.ownsRow B TU 1 v n xs) (hg : w1.grownBy w2 v.ownBlock) : Pd B w w2 := by
  refine h.trans (⟨hg.os, hg.tape, hg.output, hg.size, fun x hx hM => hg.block x hx fun e => hM ?_⟩ : Pd B w1 w2)
  rcases ho.2 with ⟨rfl, _⟩ | ⟨g, cap, cur, rfl, hb, hgg, _⟩
  · cases e
  · cases e
    exact ⟨hb, _, _, hgg⟩
theorem Pd.heap {B y : Nat} {w w' : World} {cs : Array Value} {T : TypeId} {fr : Nat × Nat} (h : Pd B w w') (hb : w.heap[y]? = some (.cells cs T fr)) (hT : T ≠ TU) : w'.heap[y]? = some (.cells cs T fr) := by
  refine (h.block y (lt_of_heap hb) fun e => ?_).trans hb
  obtain ⟨_, cs', fr', e⟩ := e
  rw [hb] at e
  cases e
  exact hT rfl
def PrnRes (B : Nat) (l : List UInt8) (w : World) (e : Ending) (w' : World) : Prop :=
  ∃ bv', e = .returned bv' ∧ w'.ownsRow B 5 1 bv' l.length (Lib.byteCells l) ∧ Pd B w w'

set_option maxHeartbeats 8000000 in
set_option maxRecDepth 100000 in
theorem refPrn_any (B : Nat) (t : Ty) : ∀ (l : List UInt8) (bv u v : Value) (w : World), B ≤ w.heap.size → TyIs w (Lt B) t u v → w.ownsRow B 5 1 bv l.length (Lib.byteCells l) → l.length + (prn t).length ≤ 4000000 →
    Calls Tryd.prog 27 #[bv, .agg #[u, v]] w (PrnRes B (l ++ prn t) w) := by
  induction t using Ty.ind with | h n ks ih => ?_
  intro l bv u v w hB ht hown hlen
  obtain ⟨A, c, vs, rfl, rfl, hn, hz, hc1, hc2, hT⟩ := ht.open_
  simp only [Ty.name, Ty.args] at hn hz hc1 hT ⊢
  obtain ⟨m, hm⟩ : ∃ m, m = ks.length := ⟨_, rfl⟩
  rw [← hm]
  rw [← hm] at hz hc1
  have hprn : prn (.mk n ks) = n ++ prnL ks 60 ++ (if ks = [] then [] else [62]) := by rw [prn]
  have hple : ∀ k, l.length + n.length + (prnL (ks.take k) 60).length ≤ 4000000 := fun k => by
    have := prnL_take_le ks 60 k
    rw [hprn] at hlen
    simp only [List.length_append] at hlen
    omega
  have hn1 : l.length + n.length ≤ 4000000 := by have := hple 0; omega
  have HM := Lib.hid hm
  have HPLE := Lib.hid hple
  have HPRN := Lib.hid hprn
  have HLEN := Lib.hid hlen
  have IH := Lib.hid ih
  have HBX := Lib.hid (alloc1 w (.cells #[sv n, .slice A m c] 30))
  have HPA := Lib.hid ((Pd.refl B w).alloc (.cells #[sv n, .slice A m c] 30))
  have hown1 := hown.alloc (.cells #[sv n, .slice A m c] 30)
  obtain ⟨a, hal⟩ : ∃ a, a = l.length := ⟨_, rfl⟩
  rw [← hal] at hown1 hn1
  have HAL := Lib.hid hal
  have HBN := Lib.hid (bs_size n)
  have HOW := Lib.hid hown1
  clear hm hple hprn hlen ih hal ht hown hown1
  obtain ⟨i0, hi, hz0, hz1, hz2⟩ := info_parts infoU
  go_enter Tryd.func27, Tryd.ntmps27
  go_wp2_with (at_builtin; refine Lib.wpList_append_own_string _ rfl (.tmp 6) (.tmp 8) 26 9 rfl B 5 i0 Tryd.underlying26 Tryd.underlying9 hi hz0 hz1 hz2 _ _ _ rfl HOW.out (bs n) rfl ?c3 ?c4 ?c5 ?_)
  case c3 => have := HBN.out; unfold maxLen; omega
  case c4 => have := HBN.out; omega
  case c5 => simp; omega
  intro v' w2 hown2 hgrow _
  rw [str_cells, HBN.out, HAL.out] at hown2
  have hpd0 := (Pd.refl B (w.alloc (.cells #[sv n, .slice A m c] 30))).grow HOW.out hgrow
  have hX2 := hpd0.heap HBX.out (by decide)
  have hP2 := HPA.out.trans hpd0
  have x1 : w2.cell? ⟨w.heap.size, 1, none⟩ = some (.slice A m c) := (Lib.cell_of_heap hX2 _).trans rfl
  have HOWN := Lib.hid hown2
  have HX2 := Lib.hid hX2
  have HP2 := Lib.hid hP2
  clear hown2 hgrow hpd0 hX2 hP2
  go_wp2_with fail
  go_loopw [0, 5] (fun bvk i wr => ∃ k : Nat, k ≤ m ∧ i = .int .i64 k ∧ wr.ownsRow B 5 1 bvk (l ++ n ++ prnL (ks.take k) 60).length (Lib.byteCells (l ++ n ++ prnL (ks.take k) 60)) ∧ wr.heap[w.heap.size]? = some (.cells #[sv n, .slice A m c] 30 (0, 0)) ∧ Pd B w wr) (fun _ i _ => m - (intOf i).toNat)
  case atStart => exact ⟨0, Nat.zero_le _, rfl, by simpa [prnL] using HOWN.out, HX2.out, HP2.out⟩
  case round =>
    obtain ⟨k, hk, rfl, hown, hX, hW⟩ := hrel
    have x1 : wr.cell? ⟨w.heap.size, 1, none⟩ = some (.slice A m c) := (Lib.cell_of_heap hX _).trans rfl
    have hxl := lt_of_heap hX
    have hbr := hW.below hB
    have hszr := hW.size
    have hTr := hT.keep (kept_below hbr)
    by_cases hlt : k < m
    · have hki : k < ks.length := by rw [← HM.out]; exact hlt
      obtain ⟨ad, u, v, rfl, hS, e0, e1, hty⟩ := hTr.at_ (List.getElem?_eq_getElem hki)
      obtain ⟨u, v, rfl, rfl⟩ := hty.shape
      have hst : prnL (ks.take (k + 1)) 60 = prnL (ks.take k) 60 ++ ((if ks.take k = [] then 60 else 44) :: prn ks[k]) := by rw [List.take_succ_eq_append_getElem hki, prnL_snoc]
      have hle := HPLE.out (k + 1)
      rw [hst] at hle
      simp only [List.length_append, List.length_cons] at hle
      have HXA := Lib.hid hX
      have HOA := Lib.hid hown
      have HWA := Lib.hid hW
      have HTY := Lib.hid hty
      have HST := Lib.hid hst
      obtain ⟨q, hq⟩ : ∃ q, q = (l ++ n ++ prnL (ks.take k) 60).length := ⟨_, rfl⟩
      have hll : q + 1 ≤ 4000000 := by rw [hq]; simp only [List.length_append]; omega
      have HLL := Lib.hid (show l.length + n.length + (prnL (ks.take k) 60).length + 1 + (prn ks[k]).length ≤ 4000000 by omega)
      rw [← hq] at hown
      have HQ := Lib.hid hq
      have fin : ∀ (x : UInt8) (bv4 : Value) (w4 : World), (if ks.take k = [] then (60 : UInt8) else 44) = x → w4.ownsRow B 5 1 bv4 (q + 1) (Lib.byteCells (l ++ n ++ prnL (ks.take k) 60) ++ [.int .u8 (x.toNat : Int)]) → Pd B wr w4 →
          Calls Tryd.prog 27 #[bv4, .agg #[sv u, .slice v.1 v.2.1 v.2.2]] w4 (PrnRes B (l ++ n ++ prnL (ks.take (k + 1)) 60) w4) := by
        intro x bv4 w4 hx hB4 hW4
        have hs4 := hW4.size
        have := IH.out ks[k] (List.getElem_mem hki) (l ++ n ++ prnL (ks.take k) 60 ++ [x]) bv4 (sv u) (.slice v.1 v.2.1 v.2.2) w4 (by omega) (HTY.out.keep (kept_below (hW4.below (by omega)))) (by rw [← cells_snoc]; rw [List.length_append, ← HQ.out]; exact hB4) (by have := HLL.out; simp only [List.length_append, List.length_cons, List.length_nil]; omega)
        rw [HST.out, hx]
        simpa using this
      have FIN := Lib.hid fin
      have HOQ := Lib.hid (hown.alloc (.cells #[.int .u8 60] 5))
      have HOQ2 := Lib.hid (hown.alloc (.cells #[.int .u8 44] 5))
      clear fin hst hle hown hX hW hbr hTr hty hq
      rcases Nat.eq_zero_or_pos k with h0 | h0
      · have h0e : ((k : Int) == 0) = true := by simp [h0]
        have hif : (if ks.take k = [] then (60 : UInt8) else 44) = 60 := by simp [h0]
        clear h0
        go_wp2_with (at_builtin; refine wpList_append_own _ rfl _ _ 26 rfl B 5 i0 _ 1 1 Tryd.underlying26 hi hz0 hz1 hz2 rfl (by omega) _ q _ rfl HOQ.out ⟨wr.heap.size, 0, none⟩ 1 1 [.int .u8 60] rfl rfl ?d1 ?d2 ?d3 ?d4 ?d5 ?_)
        case d1 => exact World.news_of_block (cs := #[.int .u8 60]) (heap_alloc_new wr _)
        case d2 => simp [Value.oneCell']
        case d3 => unfold maxLen; omega
        case d4 => omega
        case d5 => simp; omega
        intro v4 w4 hown4 hgrow _
        have hpd := ((Pd.refl B wr).alloc (.cells #[.int .u8 60] 5)).grow HOQ.out hgrow
        have hX4 := hpd.heap HXA.out (by decide)
        have x14 : w4.cell? ⟨w.heap.size, 1, none⟩ = some (.slice (some ad) m c) := (Lib.cell_of_heap hX4 _).trans rfl
        have hkb := kept_below (hpd.below (by omega))
        have e04 := (hkb (ad.add (k * 2)) (by unfold Addr.add; split <;> exact hS)).trans e0
        have e14 := (hkb ⟨(ad.add (k * 2)).block, (ad.add (k * 2)).off + 1, none⟩ (by unfold Addr.add; split <;> exact hS)).trans e1
        have HF := Lib.hid (FIN.out 60 v4 w4 hif (by simpa [List.append_assoc] using hown4) hpd)
        have HX4 := Lib.hid hX4
        have HP4 := Lib.hid (HWA.out.trans hpd)
        clear hgrow hpd hX4 hkb hown4
        go_wp2_with fail
        refine HF.out.mono ?_
        rintro e w5 ⟨bv5, rfl, hown5, hpd5⟩
        have hX5 := hpd5.heap HX4.out (by decide)
        have HX5 := Lib.hid hX5
        have HP5 := Lib.hid (HP4.out.trans hpd5)
        have HO5 := Lib.hid hown5
        have hk1 : k + 1 ≤ m := hlt
        clear hX5 hpd5 hown5
        go_wp2_with fail
        go_roundw
        case rel => exact ⟨k + 1, hk1, by go_num, HO5.out, HX5.out, HP5.out⟩
        case measure => simp [intOf]; omega
      · have h0e : ((k : Int) == 0) = false := by simp; omega
        have hif : (if ks.take k = [] then (60 : UInt8) else 44) = 44 := by
          have : ks.take k ≠ [] := by
            intro h
            have := congrArg List.length h
            simp only [List.length_take, List.length_nil] at this
            omega
          simp [this]
        clear h0
        go_wp2_with (at_builtin; refine wpList_append_own _ rfl _ _ 26 rfl B 5 i0 _ 1 1 Tryd.underlying26 hi hz0 hz1 hz2 rfl (by omega) _ q _ rfl HOQ2.out ⟨wr.heap.size, 0, none⟩ 1 1 [.int .u8 44] rfl rfl ?f1 ?f2 ?f3 ?f4 ?f5 ?_)
        case f1 => exact World.news_of_block (cs := #[.int .u8 44]) (heap_alloc_new wr _)
        case f2 => simp [Value.oneCell']
        case f3 => unfold maxLen; omega
        case f4 => omega
        case f5 => simp; omega
        intro v4 w4 hown4 hgrow _
        have hpd := ((Pd.refl B wr).alloc (.cells #[.int .u8 44] 5)).grow HOQ2.out hgrow
        have hX4 := hpd.heap HXA.out (by decide)
        have x14 : w4.cell? ⟨w.heap.size, 1, none⟩ = some (.slice (some ad) m c) := (Lib.cell_of_heap hX4 _).trans rfl
        have hkb := kept_below (hpd.below (by omega))
        have e04 := (hkb (ad.add (k * 2)) (by unfold Addr.add; split <;> exact hS)).trans e0
        have e14 := (hkb ⟨(ad.add (k * 2)).block, (ad.add (k * 2)).off + 1, none⟩ (by unfold Addr.add; split <;> exact hS)).trans e1
        have HF := Lib.hid (FIN.out 44 v4 w4 hif (by simpa [List.append_assoc] using hown4) hpd)
        have HX4 := Lib.hid hX4
        have HP4 := Lib.hid (HWA.out.trans hpd)
        clear hgrow hpd hX4 hkb hown4
        go_wp2_with fail
        refine HF.out.mono ?_
        rintro e w5 ⟨bv5, rfl, hown5, hpd5⟩
        have hX5 := hpd5.heap HX4.out (by decide)
        have HX5 := Lib.hid hX5
        have HP5 := Lib.hid (HP4.out.trans hpd5)
        have HO5 := Lib.hid hown5
        have hk1 : k + 1 ≤ m := hlt
        clear hX5 hpd5 hown5
        go_wp2_with fail
        go_roundw
        case rel => exact ⟨k + 1, hk1, by go_num, HO5.out, HX5.out, HP5.out⟩
        case measure => simp [intOf]; omega
    · have hkm : k = m := by omega
      subst hkm
      have hall : ks.take k = ks := List.take_of_length_le (by rw [← HM.out]; exact Nat.le_refl _)
      rw [hall] at hown
      have hle := HPLE.out k
      rw [hall] at hle
      obtain ⟨q, hq⟩ : ∃ q, q = (l ++ n ++ prnL ks 60).length := ⟨_, rfl⟩
      have hll : q ≤ 4000000 := by rw [hq]; simp only [List.length_append]; omega
      rw [← hq] at hown
      have HOWN' := Lib.hid hown
      have HQ := Lib.hid hq
      have HW := Lib.hid hW
      have HOQ := Lib.hid (hown.alloc (.cells #[.int .u8 62] 5))
      clear hown hX hW hbr hTr hT hq
      by_cases hz0' : 0 < k
      · have hif : (if ks = [] then [] else [(62 : UInt8)]) = [62] := by
          have : ks ≠ [] := by
            rintro rfl
            have := HM.out
            simp only [List.length_nil] at this
            omega
          simp [this]
        have HIF := Lib.hid hif
        clear hif
        go_wp2_with (at_builtin; refine wpList_append_own _ rfl _ _ 26 rfl B 5 i0 _ 1 1 Tryd.underlying26 hi hz0 hz1 hz2 rfl (by omega) _ q _ rfl HOQ.out ⟨wr.heap.size, 0, none⟩ 1 1 [.int .u8 62] rfl rfl ?g1 ?g2 ?g3 ?g4 ?g5 ?_)
        case g1 => exact World.news_of_block (cs := #[.int .u8 62]) (heap_alloc_new wr _)
        case g2 => simp [Value.oneCell']
        case g3 => unfold maxLen; omega
        case g4 => omega
        case g5 => simp; omega
        intro v4 w4 hown4 hgrow _
        have hpd := ((Pd.refl B wr).alloc (.cells #[.int .u8 62] 5)).grow HOQ.out hgrow
        have hO4 : w4.ownsRow B 5 1 v4 (l ++ prn (Ty.mk n ks)).length (Lib.byteCells (l ++ prn (Ty.mk n ks))) := by
          have e1 : l ++ prn (Ty.mk n ks) = (l ++ n ++ prnL ks 60) ++ [62] := by rw [HPRN.out, HIF.out]; simp [List.append_assoc]
          rw [e1, ← cells_snoc, List.length_append, ← HQ.out]
          simpa [List.append_assoc] using hown4
        have HEND : Hid (PrnRes B (l ++ prn (Ty.mk n ks)) w (.returned v4) w4) := Lib.hid ⟨v4, rfl, hO4, HW.out.trans hpd⟩
        clear hO4 hpd hgrow hown4
        go_wp2_with fail
        refine bodyPost_ret (by first | (simp [results, go_sem]; done) | (simp [results, go_sem]; rfl)) rfl HEND.out
      · have hif : (if ks = [] then [] else [(62 : UInt8)]) = [] := by
          have : ks = [] := List.length_eq_zero_iff.1 (by rw [← HM.out]; omega)
          simp [this]
        have HEND : Hid (PrnRes B (l ++ prn (Ty.mk n ks)) w (.returned u0) wr) := Lib.hid ⟨u0, rfl, by
          have e1 : l ++ prn (Ty.mk n ks) = l ++ n ++ prnL ks 60 := by rw [HPRN.out, hif]; simp [List.append_assoc]
          rw [e1, ← HQ.out]
          exact HOWN'.out, HW.out⟩
        clear hif
        go_wp2_with fail
        refine bodyPost_ret (by first | (simp [results, go_sem]; done) | (simp [results, go_sem]; rfl)) rfl HEND.out

set_option maxHeartbeats 8000000 in
set_option maxRecDepth 100000 in
theorem refPrint_any (t : Ty) (u v : Value) (w : World) (ht : TyIs w (Lt w.heap.size) t u v) (hlen : (prn t).length ≤ 4000000) :
    Calls Tryd.prog 10 #[.agg #[u, v]] w fun e w' => e = .returned (.string (bs (prn t))) ∧ Below w.heap.size w w' := by
  obtain ⟨u, v, rfl, rfl⟩ := ht.shape
  have hb1 : Below w.heap.size w (w.alloc (.cells #[sv u, .slice v.1 v.2.1 v.2.2] 30)) := (Below.refl _ _).alloc (Nat.le_refl _) _
  go_enter Tryd.func10, Tryd.ntmps10
  go_wp2_with fail
  refine (refPrn_any w.heap.size t [] _ _ _ _ ?_ ?_ (World.ownsRow_nil _ _ _ _) (by simpa using hlen)).mono ?_
  · simp
  · exact ht.keep (kept_below hb1)
  rintro e w2 ⟨bv, rfl, hown, hpd⟩
  have HB2 := Lib.hid (hb1.trans (hpd.below (by simp)))
  have hconv := own_convert hown
  rw [List.nil_append] at hconv
  clear hpd hown
  go_wp2_with fail
  refine bodyPost_ret (by first | (simp [results, go_sem]; done) | (simp [results, go_sem]; rfl)) rfl ⟨rfl, HB2.out⟩
end

section
open Go.RowKit
set_option maxHeartbeats 2000000 in
set_option maxRecDepth 100000 in
theorem sameTexts_any (xs1 bs' : List (List UInt8)) (A B : Option Addr) (c c' : Nat) (w : World) (hA : Row w (Lt w.heap.size) A (xs1.map sv)) (hB : Row w (Lt w.heap.size) B (bs'.map sv)) (ha : xs1.length ≤ 4000000) :
    Calls Tryd.prog 41 #[.slice A xs1.length c, .slice B bs'.length c'] w (Says (xs1 = bs') w) := by
  obtain ⟨n, hn⟩ : ∃ n, n = xs1.length := ⟨_, rfl⟩
  by_cases hl : xs1.length = bs'.length
  · rw [← hl, ← hn]
    rw [← hn] at ha
    have HN := Lib.hid hn
    have HL := Lib.hid hl
    clear hn hl
    go_enter Tryd.func41, Tryd.ntmps41
    go_wp2_with fail
    go_loopw [5] (fun i wr => ∃ k : Nat, k ≤ n ∧ i = .int .i64 k ∧ xs1.take k = bs'.take k ∧ Below w.heap.size w wr) (fun i _ => n - (intOf i).toNat)
    case atStart => exact ⟨0, Nat.zero_le _, rfl, rfl, Below.refl _ _⟩
    case round =>
      obtain ⟨k, hk, rfl, hx, hbr⟩ := hrel
      have HX := Lib.hid hx
      clear hx
      by_cases hlt : k < n
      · have h1 : k < xs1.length := by rw [← HN.out]; exact hlt
        have h2 : k < bs'.length := by rw [← HL.out, ← HN.out]; exact hlt
        obtain ⟨ad, rfl, _, e1⟩ := (hA.keep (kept_below hbr)).at_ (k := k) (u := sv xs1[k]) (by simp [h1])
        obtain ⟨ad', rfl, _, e2⟩ := (hB.keep (kept_below hbr)).at_ (k := k) (u := sv bs'[k]) (by simp [h2])
        have t1 : xs1.take (k + 1) = xs1.take k ++ [xs1[k]] := List.take_succ_eq_append_getElem h1
        have t2 : bs'.take (k + 1) = bs'.take k ++ [bs'[k]] := List.take_succ_eq_append_getElem h2
        have T1 := Lib.hid t1
        have T2 := Lib.hid t2
        have hne : Hid (xs1[k] ≠ bs'[k] → xs1 ≠ bs') := Lib.hid fun h e => h (by subst e; rfl)
        clear t1 t2
        generalize xs1[k] = x at *
        generalize bs'[k] = y at *
        have hik : (0 : Int) ≤ (k : Int) ∧ (k : Int) < (n : Int) := ⟨by omega, by omega⟩
        have HBR := Lib.hid hbr
        clear hbr h1 h2
        by_cases he : x = y
        · have hbq : ((bs x).toList != (bs y).toList) = false := by rw [he]; simp
          go_wp2_with fail
          refine wp_region_held' (fun w' => w'.cell? (ad.add k) = some (sv x) ∧ w'.cell? (ad'.add k) = some (sv y)) [] [0, 1, 2, 3, 4, 5, 6, 7, 8] [] [] (by kernel_rfl) (by kernel_rfl) ?sa ?ha
          case sa => exact ⟨e1, e2⟩
          case ha =>
          simp only [opsAt, List.filterMap_cons, List.filterMap_nil, List.getElem?_toArray, List.getElem?_cons_succ, List.getElem?_cons_zero]
          refine wpFloat_nil ?_
          refine wpLoad_step ?va0 rfl (fun w' hS => ?ya0) ?ka0
          case ya0 =>
            obtain ⟨h1, h2⟩ := hS
            go_simp
            try rfl
          case ka0 =>
          go_simp
          refine wpLoad_step ?va1 rfl (fun w' hS => ?ya1) ?ka1
          case ya1 =>
            obtain ⟨h1, h2⟩ := hS
            go_simp
            try rfl
          case ka1 =>
          go_simp
          refine wpLoad_step ?va2 rfl (fun w' hS => ?ya2) ?ka2
          case ya2 =>
            obtain ⟨h1, h2⟩ := hS
            go_simp
            try rfl
          case ka2 =>
          go_simp
          refine wpLoad_step ?va3 rfl (fun w' hS => ?ya3) ?ka3
          case ya3 =>
            obtain ⟨h1, h2⟩ := hS
            go_simp
            try rfl
          case ka3 =>
          go_simp
          refine wpLoad_step ?va4 rfl (fun w' hS => ?ya4) ?ka4
          case ya4 =>
            obtain ⟨h1, h2⟩ := hS
            go_simp
            try rfl
          case ka4 =>
          go_simp
          refine wpLoad_step ?va5 rfl (fun w' hS => ?ya5) ?ka5
          case ya5 =>
            obtain ⟨h1, h2⟩ := hS
            go_simp
            try rfl
          case ka5 =>
          go_simp
          refine wpLoad_step ?va6 rfl (fun w' hS => ?ya6) ?ka6
          case ya6 =>
            obtain ⟨h1, h2⟩ := hS
            go_simp
            try rfl
          case ka6 =>
          go_simp
          refine wpLoad_step ?va7 rfl (fun w' hS => ?ya7) ?ka7
          case ya7 =>
            obtain ⟨h1, h2⟩ := hS
            go_simp
            try rfl
          case ka7 =>
          go_simp
          refine wpLoad_step (.bool false) rfl (fun w' hS => ?ya8) ?ka8
          case ya8 =>
            obtain ⟨h1, h2⟩ := hS
            go_simp
            try (first | exact hbq | (simpa [bne] using hbq))
          case ka8 =>
          go_simp
          refine wpLoad_nil ?_
          refine wpKeep_nil ?_
          go_wp2
          refine NoPanic.normal ?_
          go_wp2
          go_roundw
          case rel => exact ⟨k + 1, by omega, by go_num, by rw [T1.out, T2.out, HX.out, he], HBR.out.drew⟩
          case measure => simp [intOf]; omega
        · have hbe := bytesNe he
          have hbq : ((bs x).toList != (bs y).toList) = true := by
            rw [bne, hbe]
            rfl
          have HNE : Hid (¬ xs1 = bs') := Lib.hid (hne.out he)
          clear hne he
          go_wp2_with fail
          refine wp_region_held' (fun w' => w'.cell? (ad.add k) = some (sv x) ∧ w'.cell? (ad'.add k) = some (sv y)) [] [0, 1, 2, 3, 4, 5, 6, 7, 8] [] [] (by kernel_rfl) (by kernel_rfl) ?sb ?hb
          case sb => exact ⟨e1, e2⟩
          case hb =>
          simp only [opsAt, List.filterMap_cons, List.filterMap_nil, List.getElem?_toArray, List.getElem?_cons_succ, List.getElem?_cons_zero]
          refine wpFloat_nil ?_
          refine wpLoad_step ?vb0 rfl (fun w' hS => ?yb0) ?kb0
          case yb0 =>
            obtain ⟨h1, h2⟩ := hS
            go_simp
            try rfl
          case kb0 =>
          go_simp
          refine wpLoad_step ?vb1 rfl (fun w' hS => ?yb1) ?kb1
          case yb1 =>
            obtain ⟨h1, h2⟩ := hS
            go_simp
            try rfl
          case kb1 =>
          go_simp
          refine wpLoad_step ?vb2 rfl (fun w' hS => ?yb2) ?kb2
          case yb2 =>
            obtain ⟨h1, h2⟩ := hS
            go_simp
            try rfl
          case kb2 =>
          go_simp
          refine wpLoad_step ?vb3 rfl (fun w' hS => ?yb3) ?kb3
          case yb3 =>
            obtain ⟨h1, h2⟩ := hS
            go_simp
            try rfl
          case kb3 =>
          go_simp
          refine wpLoad_step ?vb4 rfl (fun w' hS => ?yb4) ?kb4
          case yb4 =>
            obtain ⟨h1, h2⟩ := hS
            go_simp
            try rfl
          case kb4 =>
          go_simp
          refine wpLoad_step ?vb5 rfl (fun w' hS => ?yb5) ?kb5
          case yb5 =>
            obtain ⟨h1, h2⟩ := hS
            go_simp
            try rfl
          case kb5 =>
          go_simp
          refine wpLoad_step ?vb6 rfl (fun w' hS => ?yb6) ?kb6
          case yb6 =>
            obtain ⟨h1, h2⟩ := hS
            go_simp
            try rfl
          case kb6 =>
          go_simp
          refine wpLoad_step ?vb7 rfl (fun w' hS => ?yb7) ?kb7
          case yb7 =>
            obtain ⟨h1, h2⟩ := hS
            go_simp
            try rfl
          case kb7 =>
          go_simp
          refine wpLoad_step (.bool true) rfl (fun w' hS => ?yb8) ?kb8
          case yb8 =>
            obtain ⟨h1, h2⟩ := hS
            go_simp
            try (first | exact hbq | (simpa [bne] using hbq))
          case kb8 =>
          go_simp
          refine wpLoad_nil ?_
          refine wpKeep_nil ?_
          go_wp2
          refine NoPanic.normal ?_
          go_wp2
          go_ret
          exact ⟨false, rfl, ⟨(fun h => by cases h), fun h => absurd h HNE.out⟩, HBR.out.drew⟩
      · obtain rfl : k = n := by omega
        have HEQ : Hid (xs1 = bs') := Lib.hid (by
          have hx := HX.out
          rwa [List.take_of_length_le (by rw [← HN.out]; exact Nat.le_refl _), List.take_of_length_le (by rw [← HL.out, ← HN.out]; exact Nat.le_refl _)] at hx)
        go_wp2
        go_ret
        exact ⟨true, rfl, ⟨fun _ => HEQ.out, fun _ => rfl⟩, hbr⟩
  · have HNE : Hid (¬ xs1 = bs') := Lib.hid fun e => hl (by rw [e])
    have hne : ((xs1.length : Int) != (bs'.length : Int)) = true := by rw [bne_iff_ne]; omega
    clear hn hl hA hB
    generalize xs1.length = l1 at *
    generalize bs'.length = l2 at *
    go_enter Tryd.func41, Tryd.ntmps41
    go_wp2
    go_ret
    exact ⟨false, rfl, ⟨(fun h => by cases h), fun h => absurd h HNE.out⟩, Below.refl _ _⟩

set_option maxHeartbeats 4000000 in
set_option maxRecDepth 100000 in
theorem sameList_any (xs1 cs : List Ty) (A B : Option Addr) (c c' : Nat) (vs vs' : List (Value × Value)) (w : World) (hA : Tys w (Lt w.heap.size) A xs1 vs) (hB : Tys w (Lt w.heap.size) B cs vs') (ha : xs1.length ≤ 4000000) (hb : cs.length ≤ 4000000) (hc : xs1.length ≤ c ∧ c ≤ maxLen) (hc' : cs.length ≤ c' ∧ c' ≤ maxLen) :
    Calls Tryd.prog 42 #[.slice A xs1.length c, .slice B cs.length c'] w (Says (xs1 = cs) w) := by
  have hs := refSame_any (.mk [] xs1) (.mk [] cs) _ _ _ _ w (hA.close (n := []) (by simp) ha hc) (hB.close (n := []) (by simp) hb hc')
  have HS := Lib.hid hs
  clear hs hA hB ha hb hc hc'
  generalize xs1.length = l1 at *
  generalize cs.length = l2 at *
  go_enter Tryd.func42, Tryd.ntmps42
  go_wp2_with fail
  refine HS.out.mono ?_
  rintro e w1 ⟨r, rfl, hr, hb⟩
  go_wp2
  go_ret
  exact ⟨r, rfl, hr.trans ⟨fun h => (Ty.mk.inj h).2, fun h => by rw [h]⟩, hb⟩

set_option maxHeartbeats 2000000 in
set_option maxRecDepth 100000 in
theorem size_any (t : Ty) : ∀ (u v : Value) (w : World), TyIs w (Lt w.heap.size) t u v → t.size ≤ 4000000 → Calls Tryd.prog 38 #[.agg #[u, v]] w fun e w' => e = .returned (.int .i64 (t.size : Int)) ∧ Below w.heap.size w w' := by
  induction t using Ty.ind with | h n ks ih => ?_
  intro u v w ht hsz
  obtain ⟨A, c, vs, rfl, rfl, hn, hz, hc1, hc2, hT⟩ := ht.open_
  simp only [Ty.name, Ty.args] at hn hz hc1 hT ⊢
  obtain ⟨m, hm⟩ : ∃ m, m = ks.length := ⟨_, rfl⟩
  rw [← hm]
  rw [← hm] at hz hc1
  have HM := Lib.hid hm
  have hss : ∀ j, 1 + sizeL (ks.take j) ≤ 4000000 := fun j => by
    have := sizeL_append (ks.take j) (ks.drop j)
    rw [List.take_append_drop] at this
    simp only [Ty.size] at hsz
    omega
  have HSS := Lib.hid hss
  have IH := Lib.hid ih
  clear hm ht hss ih
  go_enter Tryd.func38, Tryd.ntmps38
  go_wp2_with fail
  go_loopw [3, 9] (fun sm i wr => ∃ k : Nat, k ≤ m ∧ i = .int .i64 k ∧ sm = .int .i64 (((1 + sizeL (ks.take k) : Nat)) : Int) ∧ Below w.heap.size w wr) (fun _ i _ => m - (intOf i).toNat)
  case atStart => exact ⟨0, Nat.zero_le _, rfl, rfl, (Below.refl _ _).alloc (Nat.le_refl _) _⟩
  case round =>
    obtain ⟨k, hk, rfl, rfl, hb⟩ := hrel
    have hsk := HSS.out k
    by_cases hlt : k < m
    · have hki : k < ks.length := by rw [← HM.out]; exact hlt
      obtain ⟨ad, u, v, rfl, hS, e0, e1, hty⟩ := (hT.now (Nat.le_refl _) hb).at_ (List.getElem?_eq_getElem hki)
      obtain ⟨u, v, rfl, rfl⟩ := hty.shape
      have hsn := HSS.out (k + 1)
      have hst : sizeL (ks.take (k + 1)) = sizeL (ks.take k) + ks[k].size := by
        rw [List.take_succ_eq_append_getElem hki, sizeL_append]
        simp [sizeL]
      rw [hst] at hsn
      have HST := Lib.hid hst
      have hba : Below wr.heap.size wr (wr.alloc (.cells #[sv u, .slice v.1 v.2.1 v.2.2] 30)) := (Below.refl _ _).alloc (Nat.le_refl _) _
      have HCALL := Lib.hid (IH.out ks[k] (List.getElem_mem hki) _ _ _ (hty.now (Nat.le_refl _) hba) (by omega))
      have HBA := Lib.hid (hb.trans (hba.mono hb.size))
      obtain ⟨z, hz'⟩ : ∃ z, z = ks[k].size := ⟨_, rfl⟩
      obtain ⟨y, hy⟩ : ∃ y, y = sizeL (ks.take k) := ⟨_, rfl⟩
      rw [← hz', ← hy] at hsn
      rw [← hy] at hsk ⊢
      have HZ := Lib.hid hz'
      have HY := Lib.hid hy
      have hik : (0 : Int) ≤ (k : Int) ∧ (k : Int) < (m : Int) := ⟨by omega, by omega⟩
      clear hst hz' hy hty hba
      go_wp2_with fail
      refine HCALL.out.mono ?_
      rw [← HZ.out]
      rintro e w1 ⟨rfl, hb1⟩
      have HBB := Lib.hid (HBA.out.trans (hb1.mono HBA.out.size))
      clear hb1
      go_wp2
      go_roundw
      case rel => exact ⟨k + 1, by omega, by go_num, by rw [HST.out, ← HY.out, ← HZ.out]; go_num, HBB.out⟩
      case measure => simp [intOf]; omega
    · obtain rfl : k = m := by omega
      have HFIN : Hid (1 + sizeL (ks.take k) = (Ty.mk n ks).size) := Lib.hid (by rw [List.take_of_length_le (by rw [← HM.out]; exact Nat.le_refl _)]; rfl)
      go_wp2
      go_ret
      exact ⟨by rw [HFIN.out]; rfl, hb⟩
end
end Go.Proofs.YtndhglcdkegigaaDoor
