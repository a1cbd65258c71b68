/-
  The walks of recompileref09.print and Print.
  Conditions: the argument reads as a type whose text is at most 4000000 bytes long.
-/
import Derived.Test.YtndhglcdkegigaaDoorPrint
import Derived.Lib.BufferRead
namespace Go.Proofs.YtndhglcdkegigaaDoor
open Go.RowKit Go.Sort

/-- string(b) where b is a row of the call's own. -/
theorem own_convert {w : World} {base : Nat} {v : Value} {l : List UInt8} (h : w.ownsRow base 5 1 v l.length (Lib.byteCells l)) :
    (convert 26 9 v).run Tryd.prog w = .ok (sv l) w := by
  rcases h.2 with ⟨rfl, h0⟩ | ⟨g, cap, cur, rfl, _⟩
  · have : l = [] := List.eq_nil_of_length_eq_zero h0
    subst this
    exact Lib.run_convert_nil_bytes w _ _ 5 0 Tryd.underlying26 Tryd.underlying5 Tryd.underlying9
  · refine run_convert_bytes_back w _ _ 5 _ cap l Tryd.underlying26 Tryd.underlying5 Tryd.underlying9 (fun j hj => ?_)
    exact h.cells (g := g) rfl j _ (by unfold Lib.byteCells; rw [List.getElem?_map, List.getElem?_eq_getElem hj]; rfl)
theorem str_cells (m l : List UInt8) : Lib.byteCells m ++ Lib.strCells (bs l) = Lib.byteCells (m ++ l) := by
  rw [Lib.strCells_eq, bs_data, Lib.byteCells_append]

/-- What was there is as it was, but for rows of bytes above a mark. -/
def Pd (B : Nat) (w w' : World) : Prop := Kp (fun y => B ≤ y ∧ U8At w y) w w'
theorem Pd.refl (B : Nat) (w : World) : Pd B w w := Kp.refl _ _
theorem Pd.trans {B : Nat} {w w1 w2 : World} (h : Pd B w w1) (h1 : Pd B w1 w2) : Pd B w w2 := by
  refine Kp.trans h h1 fun x hx hM => ?_
  obtain ⟨hB, cs, fr, hc⟩ := hM
  rcases Classical.em (B ≤ x ∧ U8At w x) with h2 | h2
  · exact h2
  · exact ⟨hB, cs, fr, (h.block x hx h2).symm.trans hc⟩
theorem Pd.below {B : Nat} {w w' : World} (h : Pd B w w') (hw : B ≤ w.heap.size) : Below B w w' := ⟨h.os, h.tape, h.output, h.size, fun x hx => h.block x (by omega) (fun e => by omega)⟩
theorem Pd.alloc {B : Nat} {w w1 : World} (h : Pd B w w1) (o : Obj) : Pd B w (w1.alloc o) := Kp.alloc h o
theorem Pd.grow {B : Nat} {w w1 w2 : World} {v : Value} {n : Nat} {xs : List Value} (h : Pd B w w1) (ho : w1.ownsRow B TU 1 v n xs) (hg : w1.grownBy w2 v.ownBlock) : Pd B w w2 := by
  refine h.trans (⟨hg.os, hg.tape, hg.output, hg.size, fun x hx hM => hg.block x hx fun e => hM ?_⟩ : Pd B w1 w2)
  rcases ho.2 with ⟨rfl, _⟩ | ⟨g, cap, cur, rfl, hb, hgg, _⟩
  · cases e
  · cases e
    exact ⟨hb, _, _, hgg⟩
theorem Pd.heap {B y : Nat} {w w' : World} {cs : Array Value} {T : TypeId} {fr : Nat × Nat} (h : Pd B w w') (hb : w.heap[y]? = some (.cells cs T fr)) (hT : T ≠ TU) : w'.heap[y]? = some (.cells cs T fr) := by
  refine (h.block y (lt_of_heap hb) fun e => ?_).trans hb
  obtain ⟨_, cs', fr', e⟩ := e
  rw [hb] at e
  cases e
  exact hT rfl
def PrnRes (B : Nat) (l : List UInt8) (w : World) (e : Ending) (w' : World) : Prop :=
  ∃ bv', e = .returned bv' ∧ w'.ownsRow B 5 1 bv' l.length (Lib.byteCells l) ∧ Pd B w w'

set_option maxHeartbeats 8000000 in
set_option maxRecDepth 100000 in
theorem refPrn_any (B : Nat) (t : Ty) : ∀ (l : List UInt8) (bv u v : Value) (w : World), B ≤ w.heap.size → TyIs w (Lt B) t u v → w.ownsRow B 5 1 bv l.length (Lib.byteCells l) → l.length + (prn t).length ≤ 4000000 →
    Calls Tryd.prog 27 #[bv, .agg #[u, v]] w (PrnRes B (l ++ prn t) w) := by
  induction t using Ty.ind with | h n ks ih => ?_
  intro l bv u v w hB ht hown hlen
  obtain ⟨A, c, vs, rfl, rfl, hn, hz, hc1, hc2, hT⟩ := ht.open_
  simp only [Ty.name, Ty.args] at hn hz hc1 hT ⊢
  obtain ⟨m, hm⟩ : ∃ m, m = ks.length := ⟨_, rfl⟩
  rw [← hm]
  rw [← hm] at hz hc1
  have hprn : prn (.mk n ks) = n ++ prnL ks 60 ++ (if ks = [] then [] else [62]) := by rw [prn]
  have hple : ∀ k, l.length + n.length + (prnL (ks.take k) 60).length ≤ 4000000 := fun k => by
    have := prnL_take_le ks 60 k
    rw [hprn] at hlen
    simp only [List.length_append] at hlen
    omega
  have hn1 : l.length + n.length ≤ 4000000 := by have := hple 0; omega
  have HM := Lib.hid hm
  have HPLE := Lib.hid hple
  have HPRN := Lib.hid hprn
  have HLEN := Lib.hid hlen
  have IH := Lib.hid ih
  have HBX := Lib.hid (alloc1 w (.cells #[sv n, .slice A m c] 30))
  have HPA := Lib.hid ((Pd.refl B w).alloc (.cells #[sv n, .slice A m c] 30))
  have hown1 := hown.alloc (.cells #[sv n, .slice A m c] 30)
  obtain ⟨a, hal⟩ : ∃ a, a = l.length := ⟨_, rfl⟩
  rw [← hal] at hown1 hn1
  have HAL := Lib.hid hal
  have HBN := Lib.hid (bs_size n)
  have HOW := Lib.hid hown1
  clear hm hple hprn hlen ih hal ht hown hown1
  obtain ⟨i0, hi, hz0, hz1, hz2⟩ := info_parts infoU
  go_enter Tryd.func27, Tryd.ntmps27
  go_wp2_with (at_builtin; refine Lib.wpList_append_own_string _ rfl (.tmp 6) (.tmp 8) 26 9 rfl B 5 i0 Tryd.underlying26 Tryd.underlying9 hi hz0 hz1 hz2 _ _ _ rfl HOW.out (bs n) rfl ?c3 ?c4 ?c5 ?_)
  case c3 => have := HBN.out; unfold maxLen; omega
  case c4 => have := HBN.out; omega
  case c5 => simp; omega
  intro v' w2 hown2 hgrow _
  rw [str_cells, HBN.out, HAL.out] at hown2
  have hpd0 := (Pd.refl B (w.alloc (.cells #[sv n, .slice A m c] 30))).grow HOW.out hgrow
  have hX2 := hpd0.heap HBX.out (by decide)
  have hP2 := HPA.out.trans hpd0
  have x1 : w2.cell? ⟨w.heap.size, 1, none⟩ = some (.slice A m c) := (Lib.cell_of_heap hX2 _).trans rfl
  have HOWN := Lib.hid hown2
  have HX2 := Lib.hid hX2
  have HP2 := Lib.hid hP2
  clear hown2 hgrow hpd0 hX2 hP2
  go_wp2_with fail
  go_loopw [0, 5] (fun bvk i wr => ∃ k : Nat, k ≤ m ∧ i = .int .i64 k ∧ wr.ownsRow B 5 1 bvk (l ++ n ++ prnL (ks.take k) 60).length (Lib.byteCells (l ++ n ++ prnL (ks.take k) 60)) ∧ wr.heap[w.heap.size]? = some (.cells #[sv n, .slice A m c] 30 (0, 0)) ∧ Pd B w wr) (fun _ i _ => m - (intOf i).toNat)
  case atStart => exact ⟨0, Nat.zero_le _, rfl, by simpa [prnL] using HOWN.out, HX2.out, HP2.out⟩
  case round =>
    obtain ⟨k, hk, rfl, hown, hX, hW⟩ := hrel
    have x1 : wr.cell? ⟨w.heap.size, 1, none⟩ = some (.slice A m c) := (Lib.cell_of_heap hX _).trans rfl
    have hxl := lt_of_heap hX
    have hbr := hW.below hB
    have hszr := hW.size
    have hTr := hT.keep (kept_below hbr)
    by_cases hlt : k < m
    · have hki : k < ks.length := by rw [← HM.out]; exact hlt
      obtain ⟨ad, u, v, rfl, hS, e0, e1, hty⟩ := hTr.at_ (List.getElem?_eq_getElem hki)
      obtain ⟨u, v, rfl, rfl⟩ := hty.shape
      have hst : prnL (ks.take (k + 1)) 60 = prnL (ks.take k) 60 ++ ((if ks.take k = [] then 60 else 44) :: prn ks[k]) := by rw [List.take_succ_eq_append_getElem hki, prnL_snoc]
      have hle := HPLE.out (k + 1)
      rw [hst] at hle
      simp only [List.length_append, List.length_cons] at hle
      have HXA := Lib.hid hX
      have HOA := Lib.hid hown
      have HWA := Lib.hid hW
      have HTY := Lib.hid hty
      have HST := Lib.hid hst
      obtain ⟨q, hq⟩ : ∃ q, q = (l ++ n ++ prnL (ks.take k) 60).length := ⟨_, rfl⟩
      have hll : q + 1 ≤ 4000000 := by rw [hq]; simp only [List.length_append]; omega
      have HLL := Lib.hid (show l.length + n.length + (prnL (ks.take k) 60).length + 1 + (prn ks[k]).length ≤ 4000000 by omega)
      rw [← hq] at hown
      have HQ := Lib.hid hq
      have fin : ∀ (x : UInt8) (bv4 : Value) (w4 : World), (if ks.take k = [] then (60 : UInt8) else 44) = x → w4.ownsRow B 5 1 bv4 (q + 1) (Lib.byteCells (l ++ n ++ prnL (ks.take k) 60) ++ [.int .u8 (x.toNat : Int)]) → Pd B wr w4 →
          Calls Tryd.prog 27 #[bv4, .agg #[sv u, .slice v.1 v.2.1 v.2.2]] w4 (PrnRes B (l ++ n ++ prnL (ks.take (k + 1)) 60) w4) := by
        intro x bv4 w4 hx hB4 hW4
        have hs4 := hW4.size
        have := IH.out ks[k] (List.getElem_mem hki) (l ++ n ++ prnL (ks.take k) 60 ++ [x]) bv4 (sv u) (.slice v.1 v.2.1 v.2.2) w4 (by omega) (HTY.out.keep (kept_below (hW4.below (by omega)))) (by rw [← cells_snoc]; rw [List.length_append, ← HQ.out]; exact hB4) (by have := HLL.out; simp only [List.length_append, List.length_cons, List.length_nil]; omega)
        rw [HST.out, hx]
        simpa using this
      have FIN := Lib.hid fin
      have HOQ := Lib.hid (hown.alloc (.cells #[.int .u8 60] 5))
      have HOQ2 := Lib.hid (hown.alloc (.cells #[.int .u8 44] 5))
      clear fin hst hle hown hX hW hbr hTr hty hq
      rcases Nat.eq_zero_or_pos k with h0 | h0
      · have h0e : ((k : Int) == 0) = true := by simp [h0]
        have hif : (if ks.take k = [] then (60 : UInt8) else 44) = 60 := by simp [h0]
        clear h0
        go_wp2_with (at_builtin; refine wpList_append_own _ rfl _ _ 26 rfl B 5 i0 _ 1 1 Tryd.underlying26 hi hz0 hz1 hz2 rfl (by omega) _ q _ rfl HOQ.out ⟨wr.heap.size, 0, none⟩ 1 1 [.int .u8 60] rfl rfl ?d1 ?d2 ?d3 ?d4 ?d5 ?_)
        case d1 => exact World.news_of_block (cs := #[.int .u8 60]) (heap_alloc_new wr _)
        case d2 => simp [Value.oneCell']
        case d3 => unfold maxLen; omega
        case d4 => omega
        case d5 => simp; omega
        intro v4 w4 hown4 hgrow _
        have hpd := ((Pd.refl B wr).alloc (.cells #[.int .u8 60] 5)).grow HOQ.out hgrow
        have hX4 := hpd.heap HXA.out (by decide)
        have x14 : w4.cell? ⟨w.heap.size, 1, none⟩ = some (.slice (some ad) m c) := (Lib.cell_of_heap hX4 _).trans rfl
        have hkb := kept_below (hpd.below (by omega))
        have e04 := (hkb (ad.add (k * 2)) (by unfold Addr.add; split <;> exact hS)).trans e0
        have e14 := (hkb ⟨(ad.add (k * 2)).block, (ad.add (k * 2)).off + 1, none⟩ (by unfold Addr.add; split <;> exact hS)).trans e1
        have HF := Lib.hid (FIN.out 60 v4 w4 hif (by simpa [List.append_assoc] using hown4) hpd)
        have HX4 := Lib.hid hX4
        have HP4 := Lib.hid (HWA.out.trans hpd)
        clear hgrow hpd hX4 hkb hown4
        go_wp2_with fail
        refine HF.out.mono ?_
        rintro e w5 ⟨bv5, rfl, hown5, hpd5⟩
        have hX5 := hpd5.heap HX4.out (by decide)
        have HX5 := Lib.hid hX5
        have HP5 := Lib.hid (HP4.out.trans hpd5)
        have HO5 := Lib.hid hown5
        have hk1 : k + 1 ≤ m := hlt
        clear hX5 hpd5 hown5
        go_wp2_with fail
        go_roundw
        case rel => exact ⟨k + 1, hk1, by go_num, HO5.out, HX5.out, HP5.out⟩
        case measure => simp [intOf]; omega
      · have h0e : ((k : Int) == 0) = false := by simp; omega
        have hif : (if ks.take k = [] then (60 : UInt8) else 44) = 44 := by
          have : ks.take k ≠ [] := by
            intro h
            have := congrArg List.length h
            simp only [List.length_take, List.length_nil] at this
            omega
          simp [this]
        clear h0
        go_wp2_with (at_builtin; refine wpList_append_own _ rfl _ _ 26 rfl B 5 i0 _ 1 1 Tryd.underlying26 hi hz0 hz1 hz2 rfl (by omega) _ q _ rfl HOQ2.out ⟨wr.heap.size, 0, none⟩ 1 1 [.int .u8 44] rfl rfl ?f1 ?f2 ?f3 ?f4 ?f5 ?_)
        case f1 => exact World.news_of_block (cs := #[.int .u8 44]) (heap_alloc_new wr _)
        case f2 => simp [Value.oneCell']
        case f3 => unfold maxLen; omega
        case f4 => omega
        case f5 => simp; omega
        intro v4 w4 hown4 hgrow _
        have hpd := ((Pd.refl B wr).alloc (.cells #[.int .u8 44] 5)).grow HOQ2.out hgrow
        have hX4 := hpd.heap HXA.out (by decide)
        have x14 : w4.cell? ⟨w.heap.size, 1, none⟩ = some (.slice (some ad) m c) := (Lib.cell_of_heap hX4 _).trans rfl
        have hkb := kept_below (hpd.below (by omega))
        have e04 := (hkb (ad.add (k * 2)) (by unfold Addr.add; split <;> exact hS)).trans e0
        have e14 := (hkb ⟨(ad.add (k * 2)).block, (ad.add (k * 2)).off + 1, none⟩ (by unfold Addr.add; split <;> exact hS)).trans e1
        have HF := Lib.hid (FIN.out 44 v4 w4 hif (by simpa [List.append_assoc] using hown4) hpd)
        have HX4 := Lib.hid hX4
        have HP4 := Lib.hid (HWA.out.trans hpd)
        clear hgrow hpd hX4 hkb hown4
        go_wp2_with fail
        refine HF.out.mono ?_
        rintro e w5 ⟨bv5, rfl, hown5, hpd5⟩
        have hX5 := hpd5.heap HX4.out (by decide)
        have HX5 := Lib.hid hX5
        have HP5 := Lib.hid (HP4.out.trans hpd5)
        have HO5 := Lib.hid hown5
        have hk1 : k + 1 ≤ m := hlt
        clear hX5 hpd5 hown5
        go_wp2_with fail
        go_roundw
        case rel => exact ⟨k + 1, hk1, by go_num, HO5.out, HX5.out, HP5.out⟩
        case measure => simp [intOf]; omega
    · have hkm : k = m := by omega
      subst hkm
      have hall : ks.take k = ks := List.take_of_length_le (by rw [← HM.out]; exact Nat.le_refl _)
      rw [hall] at hown
      have hle := HPLE.out k
      rw [hall] at hle
      obtain ⟨q, hq⟩ : ∃ q, q = (l ++ n ++ prnL ks 60).length := ⟨_, rfl⟩
      have hll : q ≤ 4000000 := by rw [hq]; simp only [List.length_append]; omega
      rw [← hq] at hown
      have HOWN' := Lib.hid hown
      have HQ := Lib.hid hq
      have HW := Lib.hid hW
      have HOQ := Lib.hid (hown.alloc (.cells #[.int .u8 62] 5))
      clear hown hX hW hbr hTr hT hq
      by_cases hz0' : 0 < k
      · have hif : (if ks = [] then [] else [(62 : UInt8)]) = [62] := by
          have : ks ≠ [] := by
            rintro rfl
            have := HM.out
            simp only [List.length_nil] at this
            omega
          simp [this]
        have HIF := Lib.hid hif
        clear hif
        go_wp2_with (at_builtin; refine wpList_append_own _ rfl _ _ 26 rfl B 5 i0 _ 1 1 Tryd.underlying26 hi hz0 hz1 hz2 rfl (by omega) _ q _ rfl HOQ.out ⟨wr.heap.size, 0, none⟩ 1 1 [.int .u8 62] rfl rfl ?g1 ?g2 ?g3 ?g4 ?g5 ?_)
        case g1 => exact World.news_of_block (cs := #[.int .u8 62]) (heap_alloc_new wr _)
        case g2 => simp [Value.oneCell']
        case g3 => unfold maxLen; omega
        case g4 => omega
        case g5 => simp; omega
        intro v4 w4 hown4 hgrow _
        have hpd := ((Pd.refl B wr).alloc (.cells #[.int .u8 62] 5)).grow HOQ.out hgrow
        have hO4 : w4.ownsRow B 5 1 v4 (l ++ prn (Ty.mk n ks)).length (Lib.byteCells (l ++ prn (Ty.mk n ks))) := by
          have e1 : l ++ prn (Ty.mk n ks) = (l ++ n ++ prnL ks 60) ++ [62] := by rw [HPRN.out, HIF.out]; simp [List.append_assoc]
          rw [e1, ← cells_snoc, List.length_append, ← HQ.out]
          simpa [List.append_assoc] using hown4
        have HEND : Hid (PrnRes B (l ++ prn (Ty.mk n ks)) w (.returned v4) w4) := Lib.hid ⟨v4, rfl, hO4, HW.out.trans hpd⟩
        clear hO4 hpd hgrow hown4
        go_wp2_with fail
        refine bodyPost_ret (by first | (simp [results, go_sem]; done) | (simp [results, go_sem]; rfl)) rfl HEND.out
      · have hif : (if ks = [] then [] else [(62 : UInt8)]) = [] := by
          have : ks = [] := List.length_eq_zero_iff.1 (by rw [← HM.out]; omega)
          simp [this]
        have HEND : Hid (PrnRes B (l ++ prn (Ty.mk n ks)) w (.returned u0) wr) := Lib.hid ⟨u0, rfl, by
          have e1 : l ++ prn (Ty.mk n ks) = l ++ n ++ prnL ks 60 := by rw [HPRN.out, hif]; simp [List.append_assoc]
          rw [e1, ← HQ.out]
          exact HOWN'.out, HW.out⟩
        clear hif
        go_wp2_with fail
        refine bodyPost_ret (by first | (simp [results, go_sem]; done) | (simp [results, go_sem]; rfl)) rfl HEND.out

set_option maxHeartbeats 8000000 in
set_option maxRecDepth 100000 in
theorem refPrint_any (t : Ty) (u v : Value) (w : World) (ht : TyIs w (Lt w.heap.size) t u v) (hlen : (prn t).length ≤ 4000000) :
    Calls Tryd.prog 10 #[.agg #[u, v]] w fun e w' => e = .returned (.string (bs (prn t))) ∧ Below w.heap.size w w' := by
  obtain ⟨u, v, rfl, rfl⟩ := ht.shape
  have hb1 : Below w.heap.size w (w.alloc (.cells #[sv u, .slice v.1 v.2.1 v.2.2] 30)) := (Below.refl _ _).alloc (Nat.le_refl _) _
  go_enter Tryd.func10, Tryd.ntmps10
  go_wp2_with fail
  refine (refPrn_any w.heap.size t [] _ _ _ _ ?_ ?_ (World.ownsRow_nil _ _ _ _) (by simpa using hlen)).mono ?_
  · simp
  · exact ht.keep (kept_below hb1)
  rintro e w2 ⟨bv, rfl, hown, hpd⟩
  have HB2 := Lib.hid (hb1.trans (hpd.below (by simp)))
  have hconv := own_convert hown
  rw [List.nil_append] at hconv
  clear hpd hown
  go_wp2_with fail
  refine bodyPost_ret (by first | (simp [results, go_sem]; done) | (simp [results, go_sem]; rfl)) rfl ⟨rfl, HB2.out⟩
end Go.Proofs.YtndhglcdkegigaaDoor
