/-
  What recompileref09.match has found so far: two slices of the call's own.
  Conditions: those of each theorem.
  The walk of recompileref09.match.
  Conditions: the arguments read as types; what was found lies in two slices of the call's own.
-/
import Derived.Test.YtndhglcdkegigaaDoorPutP
import Derived.Test.YtndhglcdkegigaaDoorFree
import Derived.Test.YtndhglcdkegigaaDoorRefPut
import Derived.Test.YtndhglcdkegigaaDoorRefSame
import Derived.Test.YtndhglcdkegigaaDoorMatchE
namespace Go.Proofs.YtndhglcdkegigaaDoor
section
open Go.RowKit
structure RM (B : Nat) (S : Nat → Prop) (f : Found) (nv lv : Value) (vs : List (Value × Value)) (w : World) : Prop where
  nown : w.ownsRow B 9 1 nv f.1.length (f.1.map sv)
  lown : w.ownsRow B 30 2 lv f.2.length (flat2 vs)
  vlen : vs.length = f.2.length
  len : f.1.length = f.2.length
  each : ∀ (i : Nat) (t : Ty) (p : Value × Value), f.2[i]? = some t → vs[i]? = some p → TyIs w S t p.1 p.2
def Two (nv lv : Value) (y : Nat) : Prop := nv.ownBlock = some y ∨ lv.ownBlock = some y
theorem RM.below {B : Nat} {S : Nat → Prop} {f : Found} {nv lv : Value} {vs : List (Value × Value)} {w w' : World} (h : RM B S f nv lv vs w) (hS : ∀ y, S y → y < w.heap.size) (hb : Below w.heap.size w w') : RM B S f nv lv vs w' :=
  ⟨h.nown.kept (grownOfBelow hb) (ownNone _), h.lown.kept (grownOfBelow hb) (ownNone _), h.vlen, h.len, fun i t p ht hp => (h.each i t p ht hp).keep ((kept_below hb).sub fun y hy => hS y hy)⟩
theorem RM.from {B : Nat} {S : Nat → Prop} {f : Found} {nv lv : Value} {vs : List (Value × Value)} {w : World} (h : RM B S f nv lv vs w) : ∀ y, Two nv lv y → B ≤ y ∧ y < w.heap.size := by
  rintro y (e | e)
  · exact h.nown.lt y e
  · exact h.lown.lt y e
theorem Two.kp {B : Nat} {S : Nat → Prop} {f : Found} {nv lv : Value} {vs : List (Value × Value)} {w w' : World} (h : RM B S f nv lv vs w) (hS : ∀ y, S y → y < B) (hk : Kp (Two nv lv) w w') (hB : B ≤ w.heap.size) : Kept S w w' :=
  hk.kept fun y hy => ⟨Nat.lt_of_lt_of_le (hS y hy) hB, fun e => by have := (h.from y e).1; have := hS y hy; omega⟩
/-- A name and a type more. -/
theorem RM.push {B : Nat} {S : Nat → Prop} {f : Found} {nv lv : Value} {vs : List (Value × Value)} {w w4 : World} {x : List UInt8} {t : Ty} {u v nv' lv' : Value} (h : RM B S f nv lv vs w) (hS : ∀ y, S y → y < B) (hB : B ≤ w.heap.size)
    (hk : Kp (Two nv lv) w w4) (ht : TyIs w S t u v) (hn : w4.ownsRow B 9 1 nv' (f.1.length + 1) (f.1.map sv ++ [sv x])) (hl : w4.ownsRow B 30 2 lv' (f.2.length + 1) (flat2 vs ++ [u, v])) : RM B S (f.1 ++ [x], f.2 ++ [t]) nv' lv' (vs ++ [(u, v)]) w4 := by
  have hkt := Two.kp h hS hk hB
  refine ⟨by simpa using hn, by simpa [flat2_append, flat2] using hl, by simp [h.vlen], by simp [h.len], fun i t' p ht' hp => ?_⟩
  dsimp only at ht'
  rcases Nat.lt_or_ge i f.2.length with hi | hi
  · rw [List.getElem?_append_left hi] at ht'
    rw [List.getElem?_append_left (by rw [h.vlen]; exact hi)] at hp
    exact (h.each i t' p ht' hp).keep hkt
  · have hi0 : i - f.2.length = 0 := by
      have := (List.getElem?_eq_some_iff.1 ht').1
      simp at this
      omega
    rw [List.getElem?_append_right hi, hi0] at ht'
    rw [List.getElem?_append_right (by rw [h.vlen]; exact hi), h.vlen, hi0] at hp
    simp at ht' hp
    subst ht' hp
    exact ht.keep hkt

def RMRes (B : Nat) (S : Nat → Prop) (p t : Ty) (f : Found) (nv lv : Value) (w : World) (e : Ending) (w' : World) : Prop :=
  ∃ (A A' : Option Addr) (n c n' c' : Nat), e = .returned (.tuple #[.slice A n c, .slice A' n' c', .bool (mtch p t f).1]) ∧ Kp (Two nv lv) w w' ∧ (∀ y, Two (.slice A n c) (.slice A' n' c') y → Two nv lv y ∨ w.heap.size ≤ y) ∧
    ((mtch p t f).1 = true → ∃ vs', RM B S (mtch p t f).2 (.slice A n c) (.slice A' n' c') vs' w')
theorem mtch_par {n : List UInt8} {ks : List Ty} {t : Ty} {f : Found} (h : (parW n ks.length).2 = true) : mtch (.mk n ks) t f = oneName f.1 f.2 (parW n ks.length).1 t := by rw [mtch, if_pos h]
theorem mtch_bad {n : List UInt8} {ks : List Ty} {t : Ty} {f : Found} (h : (parW n ks.length).2 = false) (h2 : ¬ (n = t.name ∧ ks.length = t.args.length)) : mtch (.mk n ks) t f = (false, f) := by
  rw [mtch, if_neg (by rw [h]; decide), if_neg (by simpa using h2)]
theorem mtch_node {n : List UInt8} {ks : List Ty} {t : Ty} {f : Found} (h : (parW n ks.length).2 = false) (h1 : n = t.name) (h2 : ks.length = t.args.length) : mtch (.mk n ks) t f = mtchL ks t.args f := by
  rw [mtch, if_neg (by rw [h]; decide), if_pos (by simp [h1, h2])]
theorem mtchL_step {ks ts : List Ty} {k : Nat} (hk : k < ks.length) (ht : k < ts.length) (f : Found) : mtchL (ks.drop k) (ts.drop k) f = match mtch ks[k] ts[k] f with | (true, f') => mtchL (ks.drop (k + 1)) (ts.drop (k + 1)) f' | (false, f') => (false, f') := by
  rw [List.drop_eq_getElem_cons hk, List.drop_eq_getElem_cons ht, mtchL]
  rcases mtch ks[k] ts[k] f with ⟨_ | _, g⟩ <;> rfl
theorem mtchL_yes {ks ts : List Ty} {k : Nat} (hk : k < ks.length) (ht : k < ts.length) (f : Found) (h : (mtch ks[k] ts[k] f).1 = true) : mtchL (ks.drop k) (ts.drop k) f = mtchL (ks.drop (k + 1)) (ts.drop (k + 1)) (mtch ks[k] ts[k] f).2 := by
  rw [mtchL_step hk ht]
  rcases hm : mtch ks[k] ts[k] f with ⟨_ | _, g⟩
  · rw [hm] at h; cases h
  · rfl
theorem mtchL_no {ks ts : List Ty} {k : Nat} (hk : k < ks.length) (ht : k < ts.length) (f : Found) (h : (mtch ks[k] ts[k] f).1 = false) : (mtchL (ks.drop k) (ts.drop k) f).1 = false := by
  rw [mtchL_step hk ht]
  rcases hm : mtch ks[k] ts[k] f with ⟨_ | _, g⟩
  · rfl
  · rw [hm] at h; cases h
end

section
open Go.RowKit
theorem infoS : (Tryd.prog.info? 9).map (fun i => (i.zero, i.size, i.bytes)) = some (some (.string ⟨#[]⟩), 1, 16) := by kernel_rfl
theorem row_shape2 {w : World} {base : Nat} {e : TypeId} {size n : Nat} {v : Value} {xs : List Value} (h : w.ownsRow base e size v n xs) : ∃ A c, v = .slice A n c := by
  rcases h.2 with ⟨rfl, rfl⟩ | ⟨g, cap, cur, rfl, _⟩
  · exact ⟨none, 0, rfl⟩
  · exact ⟨_, _, rfl⟩
theorem row_block2 {w : World} {base : Nat} {e : TypeId} {size n : Nat} {v : Value} {xs : List Value} (h : w.ownsRow base e size v n xs) {g : Nat} (hg : v.ownBlock = some g) : ∃ cs, w.heap[g]? = some (.cells cs e (0, 0)) := by
  rcases h.2 with ⟨rfl, _⟩ | ⟨g', cap, cur, rfl, hb, hgg, _⟩
  · cases hg
  · cases hg
    exact ⟨cur, hgg⟩
/-- Rows of strings and of types never share a block. -/
theorem rows_apart {w : World} {B n m : Nat} {nv lv : Value} {xs ys : List Value} (h : w.ownsRow B 9 1 nv n xs) (h' : w.ownsRow B 30 2 lv m ys) : ∀ g, nv.ownBlock = some g → lv.ownBlock = some g → False := fun g h1 h2 => by
  obtain ⟨cs, hc⟩ := row_block2 h h1
  obtain ⟨cs', hc'⟩ := row_block2 h' h2
  rw [hc] at hc'
  injection hc' with hc'
  injection hc' with _ hT
  revert hT
  decide

set_option maxHeartbeats 16000000 in
set_option maxRecDepth 100000 in
theorem refMatch_any (B : Nat) (S : Nat → Prop) (hSB : ∀ y, S y → y < B) (p : Ty) : ∀ (t : Ty) (f : Found) (nv lv : Value) (vs : List (Value × Value)) (u v u' v' : Value) (w : World), B ≤ w.heap.size → TyIs w S p u v → TyIs w S t u' v' → RM B S f nv lv vs w → f.1.length + p.size ≤ 4000000 →
    Calls Tryd.prog 57 #[.agg #[u, v], .agg #[u', v'], nv, lv] w (RMRes B S p t f nv lv w) := by
  induction p using Ty.ind with | h n ks ih => ?_
  intro t f nv lv vs u v u' v' w hBw hp ht hrm hsz
  obtain ⟨n2, ks2⟩ := t
  obtain ⟨A, c, kvs, rfl, rfl, hn, hz, hc1, hc2, hT⟩ := hp.open_
  obtain ⟨A', c', tvs, rfl, rfl, hn', hz', hc1', hc2', hT'⟩ := ht.open_
  simp only [Ty.name, Ty.args] at hn hz hc1 hT hn' hz' hc1' hT' ht ⊢
  obtain ⟨m, hm⟩ : ∃ m, m = ks.length := ⟨_, rfl⟩
  obtain ⟨m', hm'⟩ : ∃ m', m' = ks2.length := ⟨_, rfl⟩
  obtain ⟨nn, hnn⟩ : ∃ nn, nn = f.1.length := ⟨_, rfl⟩
  have hnl : nn = f.2.length := hnn.trans hrm.len
  obtain ⟨NA, NC, rfl⟩ := row_shape2 hrm.nown
  obtain ⟨LA, LC, rfl⟩ := row_shape2 hrm.lown
  have hnn6 : nn ≤ 4000000 := by omega
  have hskn : sizeL ks + 1 ≤ 4000000 := by simp only [Ty.size] at hsz; omega
  have hszL : nn + 1 + sizeL ks ≤ 4000000 := by simp only [Ty.size] at hsz; omega
  rw [← hnn, ← hnl] at hrm ⊢
  rw [← hm] at hz hc1 ⊢
  rw [← hm'] at hz' hc1' ht ⊢
  have HM := Lib.hid hm
  have HM' := Lib.hid hm'
  have HNN := Lib.hid hnn
  have HNL := Lib.hid hnl
  have HRM := Lib.hid hrm
  have HTT := Lib.hid ht
  have IH := Lib.hid ih
  clear hm hm' hnn hnl hrm ht ih hsz hp
  obtain ⟨i0, hi, hz0, hz1, hz2⟩ := info_parts infoT
  obtain ⟨j0, hj, hy0, hy1, hy2⟩ := info_parts infoS
  obtain ⟨x, bb, hpw⟩ : ∃ x bb, parW n m = (x, bb) := ⟨_, _, rfl⟩
  have HPW := Lib.hid hpw
  clear hpw
  go_enter Tryd.func57, Tryd.ntmps57
  go_wp2_with fail
  refine (refPar_any n A m c _ hz hn).mono ?_
  unfold ParRes
  rw [HPW.out]
  rintro e w1 ⟨hb1, hy1', hn1⟩
  have hb2 : Below w.heap.size w ((w.alloc (.cells #[sv n, .slice A m c] 30)).alloc (.cells #[sv n2, .slice A' m' c'] 30)) := ((Below.refl _ _).alloc (Nat.le_refl _) _).alloc (by simp) _
  have hb3 : Below w.heap.size w w1 := hb2.trans (hb1.mono (by simp; omega))
  have hq := alloc2 w (.cells #[sv n, .slice A m c] 30) (.cells #[sv n2, .slice A' m' c'] 30)
  have hq1 := (hb1.block w.heap.size (by simp; omega)).trans hq.1
  have hq2 := (hb1.block (w.heap.size + 1) (by simp)).trans hq.2
  have hsz1 : w.heap.size + 1 < w1.heap.size := lt_of_heap hq2
  have hSw : ∀ y, S y → y < w.heap.size := fun y hy => Nat.lt_of_lt_of_le (hSB y hy) hBw
  have hrm1 := HRM.out.below hSw hb3
  have HQ1 := Lib.hid hq1
  have HQ2 := Lib.hid hq2
  have HRM1 := Lib.hid hrm1
  have hno : w1.ownsRow B 9 1 (.slice NA nn NC) nn (f.1.map sv) := by
    have := hrm1.nown
    rwa [← HNN.out] at this
  have hlo : w1.ownsRow B 30 2 (.slice LA nn LC) nn (flat2 vs) := by
    have := hrm1.lown
    rwa [← HNL.out] at this
  have HNO := Lib.hid hno
  have HLO := Lib.hid hlo
  clear hno hlo
  have HSW := Lib.hid hSw
  clear hq hq1 hq2 hb1 hb2 hrm1 hSw
  -- the boxes stand while the two rows are written
  have hbox : ∀ w', Kp (Two (.slice NA nn NC) (.slice LA nn LC)) w1 w' → w'.heap[w.heap.size]? = some (.cells #[sv n, .slice A m c] 30 (0, 0)) ∧ w'.heap[w.heap.size + 1]? = some (.cells #[sv n2, .slice A' m' c'] 30 (0, 0)) := fun w' hk =>
    ⟨hk.heap HQ1.out (fun e => by have := (HRM.out.from _ e).2; omega), hk.heap HQ2.out (fun e => by have := (HRM.out.from _ e).2; omega)⟩
  have HBOX := Lib.hid hbox
  clear hbox
  have t0 : w1.cell? ⟨w.heap.size, 0, none⟩ = some (sv n) := by rw [Lib.cell_of_heap HQ1.out]; rfl
  have t1 : w1.cell? ⟨w.heap.size, 1, none⟩ = some (.slice A m c) := by rw [Lib.cell_of_heap HQ1.out]; rfl
  have s0 : w1.cell? ⟨w.heap.size + 1, 0, none⟩ = some (sv n2) := by rw [Lib.cell_of_heap HQ2.out]; rfl
  have s1 : w1.cell? ⟨w.heap.size + 1, 1, none⟩ = some (.slice A' m' c') := by rw [Lib.cell_of_heap HQ2.out]; rfl
  -- a result that leaves all as it was
  have back : ∀ (r : Bool) (w' : World), Below w1.heap.size w1 w' → (mtch (.mk n ks) (.mk n2 ks2) f).1 = r → (r = true → (mtch (.mk n ks) (.mk n2 ks2) f).2 = f) → RMRes B S (.mk n ks) (.mk n2 ks2) f (.slice NA nn NC) (.slice LA nn LC) w (.returned (.tuple #[.slice NA nn NC, .slice LA nn LC, .bool r])) w' := fun r w' hb hr hf =>
    ⟨NA, LA, nn, NC, nn, LC, by rw [hr], Kp.ofBelow (hb3.trans (hb.mono hb3.size)), fun y hy => .inl hy, fun h => ⟨vs, by rw [hf (hr ▸ h)]; exact HRM1.out.below (fun y hy => Nat.lt_of_lt_of_le (HSW.out y hy) hb3.size) hb⟩⟩
  have backN : ∀ (w' : World), Below w1.heap.size w1 w' → (mtch (.mk n ks) (.mk n2 ks2) f).1 = false → RMRes B S (.mk n ks) (.mk n2 ks2) f (.slice NA nn NC) (.slice LA nn LC) w (.returned (.tuple #[.slice none 0 0, .slice none 0 0, .bool false])) w' := fun w' hb hr =>
    ⟨none, none, 0, 0, 0, 0, by rw [hr], Kp.ofBelow (hb3.trans (hb.mono hb3.size)), (fun y hy => by rcases hy with hy | hy <;> cases hy), fun h => by rw [hr] at h; cases h⟩
  have BACK := Lib.hid back
  have BACKN := Lib.hid backN
  clear back backN
  cases bb with
  | true =>
    obtain rfl := hy1' rfl
    have hm1 : mtch (.mk n ks) (.mk n2 ks2) f = oneName f.1 f.2 x (.mk n2 ks2) := by rw [mtch_par (by rw [← HM.out, HPW.out]), ← HM.out, HPW.out]
    have HM1 := Lib.hid hm1
    clear hy1' hn1 hm1
    go_wp2_with fail
    go_loop [13] (fun i => ∃ k : Nat, k ≤ nn ∧ i = .int .i64 k ∧ idx (f.1.drop k) x k = idx f.1 x 0) (fun i => nn - (intOf i).toNat)
    case atStart => exact ⟨0, Nat.zero_le _, rfl, by simp⟩
    case round =>
      obtain ⟨k, hk, rfl, hx⟩ := hrel
      have HX := Lib.hid hx
      clear hx
      by_cases hlt : k < nn
      · have hl : k < f.1.length := by rw [← HNN.out]; exact hlt
        have hl2 : k < f.2.length := by rw [← HNL.out]; exact hlt
        obtain ⟨ad, hA1, _, hc⟩ := (Row.ofOwn HNO.out fun _ _ _ _ => trivial : Row w1 (fun _ => True) NA (f.1.map sv)).at_ (k := k) (u := sv f.1[k]) (by simp [hl])
        subst hA1
        have HD := Lib.hid (List.drop_eq_getElem_cons hl)
        by_cases he : f.1[k] = x
        · have hbq := bytesEq he
          have hix : idx f.1 x 0 = (k : Int) := by rw [← HX.out, HD.out, idx, if_pos he]
          have hone : oneName f.1 f.2 x (.mk n2 ks2) = (Ty.eqb f.2[k] (.mk n2 ks2), f) := by
            unfold oneName
            rw [hix, if_pos (by omega), Int.toNat_natCast, List.getElem?_eq_getElem hl2]
            rfl
          have hm2 : mtch (.mk n ks) (.mk n2 ks2) f = (Ty.eqb f.2[k] (.mk n2 ks2), f) := HM1.out.trans hone
          have hkv : k < vs.length := by rw [HRM1.out.vlen]; exact hl2
          obtain ⟨a1, a2⟩ := flat2_at vs k _ (List.getElem?_eq_getElem hkv)
          have hlrow := (Row.ofOwn HLO.out fun _ _ _ _ => trivial : Row w1 (fun _ => True) LA (flat2 vs))
          obtain ⟨ad2, hA2, _, e0⟩ := hlrow.at_ a1
          obtain ⟨_, hh, _, e1⟩ := hlrow.at_ a2
          subst hA2
          obtain rfl := Option.some.inj hh
          have hty := HRM1.out.each k _ _ (List.getElem?_eq_getElem hl2) (List.getElem?_eq_getElem hkv)
          obtain ⟨u3, v3, hu3, hv3⟩ := hty.shape
          rw [hu3, hv3] at hty
          have e0' : w1.cell? (ad2.add (k * 2)) = some (sv u3) := by rw [e0, hu3]
          have e1' : w1.cell? ⟨(ad2.add (k * 2)).block, (ad2.add (k * 2)).off + 1, none⟩ = some (.slice v3.1 v3.2.1 v3.2.2) := by
            have e : (⟨(ad2.add (k * 2)).block, (ad2.add (k * 2)).off + 1, none⟩ : Addr) = ad2.add (k * 2 + 1) := by rw [← addAdd]; rfl
            rw [e, e1, hv3]
          have hbd : Below w1.heap.size w1 w1.drew := (Below.refl _ _).drew
          have hSd : ∀ y, S y → y < w1.drew.heap.size := fun y hy => Nat.lt_of_lt_of_le (HSW.out y hy) hb3.size
          have SAME := Lib.hid (refSame_any f.2[k] (.mk n2 ks2) _ _ _ _ w1.drew ((hty.keep (w' := w1.drew) fun _ _ => rfl).more hSd) ((HTT.out.keep ((kept_below hb3.drew).sub fun y hy => HSW.out y hy)).more hSd))
          have hik : (0 : Int) ≤ (k : Int) ∧ (k : Int) < (nn : Int) := ⟨by omega, by omega⟩
          have HM2 := Lib.hid hm2
          clear hm2 hone hix hty hlrow a1 a2 e0 e1 hu3 hv3 hh
          have hz1' : ad2.block < w1.heap.size := by
            have h9 := e0'
            unfold World.cell? at h9
            rcases Nat.lt_or_ge ad2.block w1.heap.size with h | h
            · exact h
            · rw [blkAdd, Array.getElem?_eq_none h] at h9
              cases h9
          go_wp2_with fail
          refine wp_region_held' (fun w' => w'.cell? (ad2.add (k * 2)) = some (sv u3) ∧ w'.cell? ⟨(ad2.add (k * 2)).block, (ad2.add (k * 2)).off + 1, none⟩ = some (.slice v3.1 v3.2.1 v3.2.2) ∧ w'.cell? ⟨w.heap.size + 1, 0, none⟩ = some (sv n2) ∧ w'.cell? ⟨w.heap.size + 1, 1, none⟩ = some (.slice A' m' c')) [1] [0, 2, 3, 4, 5, 6] [7] [8, 9, 10] (by kernel_rfl) (by kernel_rfl) ?sa ?ha
          case sa => exact ⟨e0', e1', s0, s1⟩
          case ha =>
          simp only [opsAt, List.filterMap_cons, List.filterMap_nil, List.getElem?_toArray, List.getElem?_cons_succ, List.getElem?_cons_zero]
          refine wpFloat_step ?vfa rfl (fun w' => ?yfa) ?kfa
          case yfa =>
            go_simp
            try rfl
          case kfa =>
          go_simp
          refine wpFloat_nil ?_
          refine wpLoad_step ?va0 rfl (fun w' hS => ?ya0) ?ka0
          case ya0 =>
            obtain ⟨h1, h2, h3, h4⟩ := hS
            go_simp
            try rfl
          case ka0 =>
          go_simp
          refine wpLoad_step ?va1 rfl (fun w' hS => ?ya1) ?ka1
          case ya1 =>
            obtain ⟨h1, h2, h3, h4⟩ := hS
            go_simp
            try rfl
          case ka1 =>
          go_simp
          refine wpLoad_step ?va2 rfl (fun w' hS => ?ya2) ?ka2
          case ya2 =>
            obtain ⟨h1, h2, h3, h4⟩ := hS
            go_simp
            try rfl
          case ka2 =>
          go_simp
          refine wpLoad_step ?va3 rfl (fun w' hS => ?ya3) ?ka3
          case ya3 =>
            obtain ⟨h1, h2, h3, h4⟩ := hS
            go_simp
            try rfl
          case ka3 =>
          go_simp
          refine wpLoad_step ?va4 rfl (fun w' hS => ?ya4) ?ka4
          case ya4 =>
            obtain ⟨h1, h2, h3, h4⟩ := hS
            go_simp
            try rfl
          case ka4 =>
          go_simp
          refine wpLoad_step ?va5 rfl (fun w' hS => ?ya5) ?ka5
          case ya5 =>
            obtain ⟨h1, h2, h3, h4⟩ := hS
            go_simp
            try rfl
          case ka5 =>
          go_simp
          refine wpLoad_nil ?_
          refine wpKeep_step rfl ?_
          go_simp
          refine SAME.out.mono ?_
          rintro e w2 ⟨r, rfl, hr, hb4⟩
          have hb5 := hbd.trans hb4
          have hres := BACK.out r w2 hb5 (by rw [HM2.out]; exact (Bool.eq_iff_iff.2 ((eqb_iff _ _).trans hr.symm))) (fun _ => by rw [HM2.out])
          have HRES := Lib.hid hres
          refine ⟨⟨((kept_below hb5) _ (by rw [blkAdd]; exact hz1')).trans e0', ((kept_below hb5) ⟨(ad2.add (k * 2)).block, (ad2.add (k * 2)).off + 1, none⟩ (by show Lt _ (ad2.add (k * 2)).block; rw [blkAdd]; exact hz1')).trans e1', ((kept_below hb5) ⟨w.heap.size + 1, 0, none⟩ hsz1).trans s0, ((kept_below hb5) ⟨w.heap.size + 1, 1, none⟩ hsz1).trans s1⟩, ?_⟩
          refine wpKeep_nil ?_
          clear hres hr hb4 hb5
          go_wp2
          refine NoPanic.normal ?_
          go_wp2
          refine bodyPost_ret (v := .tuple #[.slice (some ad) nn NC, .slice (some ad2) nn LC, .bool r]) (by simp [results, Tryd.results57, go_sem]) rfl HRES.out
        · have hbq := bytesNe he
          go_wp2
          go_round
          case rel =>
            refine ⟨k + 1, by omega, by go_num, ?_⟩
            rw [← HX.out, HD.out, idx, if_neg he]
          case measure => simp [intOf]; omega
      · have hka : nn = k := by omega
        have hg : ¬ k < nn := hlt
        have hix : idx f.1 x 0 = -1 := by
          rw [← HX.out, List.drop_eq_nil_of_le (by rw [← HNN.out, hka]; exact Nat.le_refl _)]
          rfl
        have hm2 : mtch (.mk n ks) (.mk n2 ks2) f = (true, (f.1 ++ [x], f.2 ++ [.mk n2 ks2])) := by
          rw [HM1.out]
          unfold oneName
          rw [hix, if_neg (by omega)]
        have HM2 := Lib.hid hm2
        have HKA := Lib.hid hka
        clear hm2 hix hka
        go_wp2_with fail
        have hss : ∀ w', Kp (Two (.slice NA nn NC) (.slice LA nn LC)) w1 w' → w'.cell? ⟨w.heap.size + 1, 0, none⟩ = some (sv n2) ∧ w'.cell? ⟨w.heap.size + 1, 1, none⟩ = some (.slice A' m' c') := fun w' hk => ⟨(Lib.cell_of_heap (HBOX.out w' hk).2 _).trans rfl, (Lib.cell_of_heap (HBOX.out w' hk).2 _).trans rfl⟩
        have HSS := Lib.hid hss
        clear hss
        refine wp_region_free (fun w' => w'.cell? ⟨w.heap.size + 1, 0, none⟩ = some (sv n2) ∧ w'.cell? ⟨w.heap.size + 1, 1, none⟩ = some (.slice A' m' c')) [0, 1, 4, 5] [2, 3, 6, 7] [8, 9, 10] (by kernel_rfl) (by kernel_rfl) (HSS.out _ (Kp.refl _ w1).drew) ?h8
        case h8 =>
        simp only [opsAt, List.filterMap_cons, List.filterMap_nil, List.getElem?_toArray, List.getElem?_cons_succ, List.getElem?_cons_zero]
        refine wpLoad_step ?vb0 rfl (fun w' hS => ?yb0) ?kb0
        case yb0 =>
          obtain ⟨h1, h2⟩ := hS
          go_simp
          try rfl
        case kb0 =>
        go_simp
        refine wpLoad_step ?vb1 rfl (fun w' hS => ?yb1) ?kb1
        case yb1 =>
          obtain ⟨h1, h2⟩ := hS
          go_simp
          try rfl
        case kb1 =>
        go_simp
        refine wpLoad_step ?vb2 rfl (fun w' hS => ?yb2) ?kb2
        case yb2 =>
          obtain ⟨h1, h2⟩ := hS
          go_simp
          try rfl
        case kb2 =>
        go_simp
        refine wpLoad_step ?vb3 rfl (fun w' hS => ?yb3) ?kb3
        case yb3 =>
          obtain ⟨h1, h2⟩ := hS
          go_simp
          try rfl
        case kb3 =>
        go_simp
        refine wpLoad_nil ?_
        intro ops a0 W hops ha0 hend hstep
        have GF : ∀ (L : Array Bool) (a : Act) (w' : World) (b2 g3 cap3 b6 g7 cap7 : Nat), L = #[true, true, true, true, true, true, true, true, false, false, false] → a = ((((a0.put (some 44) (Value.slice (some ⟨b2, 0, none⟩) 1 1)).put (some 45) (Value.slice (some ⟨g3, 0, none⟩) (nn + 1) cap3)).put (some 48) (Value.slice (some ⟨b6, 0, none⟩) 1 1)).put (some 49) (Value.slice (some ⟨g7, 0, none⟩) (nn + 1) cap7)) → Kp (Two (Value.slice NA nn NC) (Value.slice LA nn LC)) w1 w' → (w'.ownsRow B 9 1 (.slice (some ⟨g3, 0, none⟩) (nn + 1) cap3) (nn + 1) (f.1.map sv ++ [sv x]) ∧ ((Value.slice NA nn NC).ownBlock = some g3 ∨ w1.heap.size ≤ g3)) → (w'.ownsRow B 30 2 (.slice (some ⟨g7, 0, none⟩) (nn + 1) cap7) (nn + 1) (flat2 vs ++ [sv n2, .slice A' m' c']) ∧ ((Value.slice LA nn LC).ownBlock = some g7 ∨ w1.heap.size ≤ g7)) → W 0 L a w' := by
          intro L a w' b2 g3 cap3 b6 g7 cap7 hL0 ha hk h3 h7
          subst hL0
          have hrp := RM.push (x := x) (t := .mk n2 ks2) HRM1.out hSB (Nat.le_trans hBw hb3.size) hk (HTT.out.keep ((kept_below hb3).sub fun y hy => HSW.out y hy)) (by rw [← HNN.out]; exact h3.1) (by rw [← HNL.out]; exact h7.1)
          have hres : RMRes B S (.mk n ks) (.mk n2 ks2) f (.slice NA nn NC) (.slice LA nn LC) w (.returned (.tuple #[.slice (some ⟨g3, 0, none⟩) (nn + 1) cap3, .slice (some ⟨g7, 0, none⟩) (nn + 1) cap7, .bool true])) w' := by
            refine ⟨some ⟨g3, 0, none⟩, some ⟨g7, 0, none⟩, nn + 1, cap3, nn + 1, cap7, by rw [HM2.out], (Kp.ofBelow hb3).trans hk (fun _ _ h => h), ?_, fun _ => ⟨_, by rw [HM2.out]; exact hrp⟩⟩
            rintro y (e | e)
            · have e' : g3 = y := Option.some.inj e
              rw [← e']
              exact h3.2.imp (fun h => .inl h) (fun h => Nat.le_trans hb3.size h)
            · have e' : g7 = y := Option.some.inj e
              rw [← e']
              exact h7.2.imp (fun h => .inr h) (fun h => Nat.le_trans hb3.size h)
          have HRES := Lib.hid hres
          refine hend _ _ _ (by rw [hops]; kernel_rfl) ?_
          rw [hops, ha, ha0]
          clear hres hrp h3 h7 hend hstep hops
          simp only [List.getElem?_toArray, List.getElem?_cons_succ, List.getElem?_cons_zero]
          go_wp2
          refine NoPanic.normal ?_
          go_wp2
          refine bodyPost_ret (v := .tuple #[.slice (some ⟨g3, 0, none⟩) (nn + 1) cap3, .slice (some ⟨g7, 0, none⟩) (nn + 1) cap7, .bool true]) (by simp [results, Tryd.results57, go_sem]) rfl HRES.out
        have G21 : ∀ (L : Array Bool) (a : Act) (w' : World) (b2 g3 cap3 b6 : Nat), L = #[true, true, true, true, true, true, true, false, false, false, false] → a = (((a0.put (some 44) (Value.slice (some ⟨b2, 0, none⟩) 1 1)).put (some 45) (Value.slice (some ⟨g3, 0, none⟩) (nn + 1) cap3)).put (some 48) (Value.slice (some ⟨b6, 0, none⟩) 1 1)) → Kp (Two (Value.slice NA nn NC) (Value.slice LA nn LC)) w1 w' → (w'.ownsRow B 30 2 (.slice LA nn LC) nn (flat2 vs)) → (w'.heap[b6]? = some (.cells #[sv n2, .slice A' m' c'] 30 (0, 0)) ∧ w1.heap.size ≤ b6) → (w'.ownsRow B 9 1 (.slice (some ⟨g3, 0, none⟩) (nn + 1) cap3) (nn + 1) (f.1.map sv ++ [sv x]) ∧ ((Value.slice NA nn NC).ownBlock = some g3 ∨ w1.heap.size ≤ g3)) → W 1 L a w' := by
          intro L a w' b2 g3 cap3 b6 hL0 ha hk hL h6 h3
          subst hL0
          have hr : Region.ready .any ops #[true, true, true, true, true, true, true, false, false, false, false] = [7] := by rw [hops]; kernel_rfl
          refine hstep _ _ _ _ (by rw [hr]; decide) fun i hi => ?_
          rw [hr] at hi
          simp only [List.mem_cons, List.not_mem_nil, or_false] at hi
          rcases hi with rfl
          · refine ⟨by decide, ?_⟩
            rw [hops]
            refine wpOp_at (o := ?oG217) ?p0G217 ?pwG217 ?phG217
            case p0G217 => exact rfl
            case pwG217 => exact rfl
            case phG217 =>
            rw [ha, ha0]
            refine wp_append_lies _ _ _ 28 rfl B 30 i0 _ 2 40 Tryd.underlying28 hi hz0 hz1 hz2 rfl (by omega) _ nn (flat2 vs) rfl hL ⟨b6, 0, none⟩ 1 1 [sv n2, .slice A' m' c'] rfl rfl ?c1G217 ?c2G217 (by omega) ?c3G217 ?c4G217 ?c5G217 _ rfl ?_
            case c1G217 => exact World.news_of_block (cs := #[sv n2, .slice A' m' c']) h6.1
            case c2G217 => simp [Value.oneCell']
            case c3G217 => unfold maxLen; omega
            case c4G217 => omega
            case c5G217 => have := hk.size; have := hb3.size; omega
            intro g7 cap7 w'' hown hgrow hat _
            have hk' := hk.grown hgrow (fun r hr _ => .inr hr)
            exact ⟨HSS.out _ hk', GF _ _ _ (b2) (g3) (cap3) (b6) (g7) (cap7) rfl (by rw [ha0]; rfl) hk' (⟨h3.1.kept hgrow (.inr fun e => rows_apart h3.1 hL g3 rfl e.symm), h3.2⟩) (⟨hown, hat.imp_right fun e => by have := hk.size; omega⟩)⟩
        have G11 : ∀ (L : Array Bool) (a : Act) (w' : World) (b2 b6 : Nat), L = #[true, true, true, false, true, true, true, false, false, false, false] → a = ((a0.put (some 44) (Value.slice (some ⟨b2, 0, none⟩) 1 1)).put (some 48) (Value.slice (some ⟨b6, 0, none⟩) 1 1)) → Kp (Two (Value.slice NA nn NC) (Value.slice LA nn LC)) w1 w' → (w'.ownsRow B 9 1 (.slice NA nn NC) nn (f.1.map sv)) → (w'.ownsRow B 30 2 (.slice LA nn LC) nn (flat2 vs)) → (w'.heap[b2]? = some (.cells #[sv x] 9 (0, 0)) ∧ w1.heap.size ≤ b2) → (w'.heap[b6]? = some (.cells #[sv n2, .slice A' m' c'] 30 (0, 0)) ∧ w1.heap.size ≤ b6) → W 2 L a w' := by
          intro L a w' b2 b6 hL0 ha hk hN hL h2 h6
          subst hL0
          have hr : Region.ready .any ops #[true, true, true, false, true, true, true, false, false, false, false] = [3] := by rw [hops]; kernel_rfl
          refine hstep _ _ _ _ (by rw [hr]; decide) fun i hi => ?_
          rw [hr] at hi
          simp only [List.mem_cons, List.not_mem_nil, or_false] at hi
          rcases hi with rfl
          · refine ⟨by decide, ?_⟩
            rw [hops]
            refine wpOp_at (o := ?oG113) ?p0G113 ?pwG113 ?phG113
            case p0G113 => exact rfl
            case pwG113 => exact rfl
            case phG113 =>
            rw [ha, ha0]
            refine wp_append_lies _ _ _ 35 rfl B 9 j0 _ 1 16 Tryd.underlying35 hj hy0 hy1 hy2 rfl (by omega) _ nn (f.1.map sv) rfl hN ⟨b2, 0, none⟩ 1 1 [sv x] rfl rfl ?c1G113 ?c2G113 (by omega) ?c3G113 ?c4G113 ?c5G113 _ rfl ?_
            case c1G113 => exact World.news_of_block (cs := #[sv x]) h2.1
            case c2G113 => simp [Value.oneCell']
            case c3G113 => unfold maxLen; omega
            case c4G113 => omega
            case c5G113 => have := hk.size; have := hb3.size; omega
            intro g3 cap3 w'' hown hgrow hat _
            have hk' := hk.grown hgrow (fun r hr _ => .inl hr)
            exact ⟨HSS.out _ hk', G21 _ _ _ (b2) (g3) (cap3) (b6) rfl (by rw [ha0]; rfl) hk' (hL.kept hgrow (by cases hl : (Value.slice LA nn LC).ownBlock with | none => exact .inl rfl | some y => exact .inr fun e => rows_apart hN hL y e.symm hl)) (⟨(hgrow.block b6 (lt_of_heap h6.1) (fun e => by have := (HNO.out.lt _ e.symm).2; have := h6.2; omega)).trans h6.1, h6.2⟩) (⟨hown, hat.imp_right fun e => by have := hk.size; omega⟩)⟩
        have G20 : ∀ (L : Array Bool) (a : Act) (w' : World) (b2 g3 cap3 : Nat), L = #[true, true, true, true, true, true, false, false, false, false, false] → a = ((a0.put (some 44) (Value.slice (some ⟨b2, 0, none⟩) 1 1)).put (some 45) (Value.slice (some ⟨g3, 0, none⟩) (nn + 1) cap3)) → Kp (Two (Value.slice NA nn NC) (Value.slice LA nn LC)) w1 w' → (w'.ownsRow B 30 2 (.slice LA nn LC) nn (flat2 vs)) → (w'.ownsRow B 9 1 (.slice (some ⟨g3, 0, none⟩) (nn + 1) cap3) (nn + 1) (f.1.map sv ++ [sv x]) ∧ ((Value.slice NA nn NC).ownBlock = some g3 ∨ w1.heap.size ≤ g3)) → W 2 L a w' := by
          intro L a w' b2 g3 cap3 hL0 ha hk hL h3
          subst hL0
          have hr : Region.ready .any ops #[true, true, true, true, true, true, false, false, false, false, false] = [6] := by rw [hops]; kernel_rfl
          refine hstep _ _ _ _ (by rw [hr]; decide) fun i hi => ?_
          rw [hr] at hi
          simp only [List.mem_cons, List.not_mem_nil, or_false] at hi
          rcases hi with rfl
          · refine ⟨by decide, ?_⟩
            rw [hops]
            refine wpOp_at (o := ?oG206) ?p0G206 ?pwG206 ?phG206
            case p0G206 => exact rfl
            case pwG206 => exact rfl
            case phG206 =>
            rw [ha, ha0]
            go_simp
            have hk' := hk.alloc (.cells #[sv n2, .slice A' m' c'] 30)
            have hbl := alloc1 w' (.cells #[sv n2, .slice A' m' c'] 30)
            exact ⟨HSS.out _ hk', G21 _ _ _ (b2) (g3) (cap3) (w'.heap.size) rfl (by rw [ha0]; rfl) hk' (hL.alloc _) (⟨hbl, hk.size⟩) (⟨h3.1.alloc _, h3.2⟩)⟩
        have G01 : ∀ (L : Array Bool) (a : Act) (w' : World) (b6 : Nat), L = #[true, true, false, false, true, true, true, false, false, false, false] → a = (a0.put (some 48) (Value.slice (some ⟨b6, 0, none⟩) 1 1)) → Kp (Two (Value.slice NA nn NC) (Value.slice LA nn LC)) w1 w' → (w'.ownsRow B 9 1 (.slice NA nn NC) nn (f.1.map sv)) → (w'.ownsRow B 30 2 (.slice LA nn LC) nn (flat2 vs)) → (w'.heap[b6]? = some (.cells #[sv n2, .slice A' m' c'] 30 (0, 0)) ∧ w1.heap.size ≤ b6) → W 3 L a w' := by
          intro L a w' b6 hL0 ha hk hN hL h6
          subst hL0
          have hr : Region.ready .any ops #[true, true, false, false, true, true, true, false, false, false, false] = [2] := by rw [hops]; kernel_rfl
          refine hstep _ _ _ _ (by rw [hr]; decide) fun i hi => ?_
          rw [hr] at hi
          simp only [List.mem_cons, List.not_mem_nil, or_false] at hi
          rcases hi with rfl
          · refine ⟨by decide, ?_⟩
            rw [hops]
            refine wpOp_at (o := ?oG012) ?p0G012 ?pwG012 ?phG012
            case p0G012 => exact rfl
            case pwG012 => exact rfl
            case phG012 =>
            rw [ha, ha0]
            go_simp
            have hk' := hk.alloc (.cells #[sv x] 9)
            have hbl := alloc1 w' (.cells #[sv x] 9)
            exact ⟨HSS.out _ hk', G11 _ _ _ (w'.heap.size) (b6) rfl (by rw [ha0]; rfl) hk' (hN.alloc _) (hL.alloc _) (⟨hbl, hk.size⟩) (⟨(heap_alloc_old w' _ (lt_of_heap h6.1)).trans h6.1, h6.2⟩)⟩
        have G10 : ∀ (L : Array Bool) (a : Act) (w' : World) (b2 : Nat), L = #[true, true, true, false, true, true, false, false, false, false, false] → a = (a0.put (some 44) (Value.slice (some ⟨b2, 0, none⟩) 1 1)) → Kp (Two (Value.slice NA nn NC) (Value.slice LA nn LC)) w1 w' → (w'.ownsRow B 9 1 (.slice NA nn NC) nn (f.1.map sv)) → (w'.ownsRow B 30 2 (.slice LA nn LC) nn (flat2 vs)) → (w'.heap[b2]? = some (.cells #[sv x] 9 (0, 0)) ∧ w1.heap.size ≤ b2) → W 3 L a w' := by
          intro L a w' b2 hL0 ha hk hN hL h2
          subst hL0
          have hr : Region.ready .any ops #[true, true, true, false, true, true, false, false, false, false, false] = [3, 6] := by rw [hops]; kernel_rfl
          refine hstep _ _ _ _ (by rw [hr]; decide) fun i hi => ?_
          rw [hr] at hi
          simp only [List.mem_cons, List.not_mem_nil, or_false] at hi
          rcases hi with rfl | rfl
          · refine ⟨by decide, ?_⟩
            rw [hops]
            refine wpOp_at (o := ?oG103) ?p0G103 ?pwG103 ?phG103
            case p0G103 => exact rfl
            case pwG103 => exact rfl
            case phG103 =>
            rw [ha, ha0]
            refine wp_append_lies _ _ _ 35 rfl B 9 j0 _ 1 16 Tryd.underlying35 hj hy0 hy1 hy2 rfl (by omega) _ nn (f.1.map sv) rfl hN ⟨b2, 0, none⟩ 1 1 [sv x] rfl rfl ?c1G103 ?c2G103 (by omega) ?c3G103 ?c4G103 ?c5G103 _ rfl ?_
            case c1G103 => exact World.news_of_block (cs := #[sv x]) h2.1
            case c2G103 => simp [Value.oneCell']
            case c3G103 => unfold maxLen; omega
            case c4G103 => omega
            case c5G103 => have := hk.size; have := hb3.size; omega
            intro g3 cap3 w'' hown hgrow hat _
            have hk' := hk.grown hgrow (fun r hr _ => .inl hr)
            exact ⟨HSS.out _ hk', G20 _ _ _ (b2) (g3) (cap3) rfl (by rw [ha0]; rfl) hk' (hL.kept hgrow (by cases hl : (Value.slice LA nn LC).ownBlock with | none => exact .inl rfl | some y => exact .inr fun e => rows_apart hN hL y e.symm hl)) (⟨hown, hat.imp_right fun e => by have := hk.size; omega⟩)⟩
          · refine ⟨by decide, ?_⟩
            rw [hops]
            refine wpOp_at (o := ?oG106) ?p0G106 ?pwG106 ?phG106
            case p0G106 => exact rfl
            case pwG106 => exact rfl
            case phG106 =>
            rw [ha, ha0]
            go_simp
            have hk' := hk.alloc (.cells #[sv n2, .slice A' m' c'] 30)
            have hbl := alloc1 w' (.cells #[sv n2, .slice A' m' c'] 30)
            exact ⟨HSS.out _ hk', G11 _ _ _ (b2) (w'.heap.size) rfl (by rw [ha0]; rfl) hk' (hN.alloc _) (hL.alloc _) (⟨(heap_alloc_old w' _ (lt_of_heap h2.1)).trans h2.1, h2.2⟩) (⟨hbl, hk.size⟩)⟩
        have G00 : ∀ (L : Array Bool) (a : Act) (w' : World), L = #[true, true, false, false, true, true, false, false, false, false, false] → a = a0 → Kp (Two (Value.slice NA nn NC) (Value.slice LA nn LC)) w1 w' → (w'.ownsRow B 9 1 (.slice NA nn NC) nn (f.1.map sv)) → (w'.ownsRow B 30 2 (.slice LA nn LC) nn (flat2 vs)) → W 4 L a w' := by
          intro L a w'  hL0 ha hk hN hL
          subst hL0
          have hr : Region.ready .any ops #[true, true, false, false, true, true, false, false, false, false, false] = [2, 6] := by rw [hops]; kernel_rfl
          refine hstep _ _ _ _ (by rw [hr]; decide) fun i hi => ?_
          rw [hr] at hi
          simp only [List.mem_cons, List.not_mem_nil, or_false] at hi
          rcases hi with rfl | rfl
          · refine ⟨by decide, ?_⟩
            rw [hops]
            refine wpOp_at (o := ?oG002) ?p0G002 ?pwG002 ?phG002
            case p0G002 => exact rfl
            case pwG002 => exact rfl
            case phG002 =>
            rw [ha, ha0]
            go_simp
            have hk' := hk.alloc (.cells #[sv x] 9)
            have hbl := alloc1 w' (.cells #[sv x] 9)
            exact ⟨HSS.out _ hk', G10 _ _ _ (w'.heap.size) rfl (by rw [ha0]; rfl) hk' (hN.alloc _) (hL.alloc _) (⟨hbl, hk.size⟩)⟩
          · refine ⟨by decide, ?_⟩
            rw [hops]
            refine wpOp_at (o := ?oG006) ?p0G006 ?pwG006 ?phG006
            case p0G006 => exact rfl
            case pwG006 => exact rfl
            case phG006 =>
            rw [ha, ha0]
            go_simp
            have hk' := hk.alloc (.cells #[sv n2, .slice A' m' c'] 30)
            have hbl := alloc1 w' (.cells #[sv n2, .slice A' m' c'] 30)
            exact ⟨HSS.out _ hk', G01 _ _ _ (w'.heap.size) rfl (by rw [ha0]; rfl) hk' (hN.alloc _) (hL.alloc _) (⟨hbl, hk.size⟩)⟩
        exact G00 _ _ _ (by rw [hops]; rfl) rfl (Kp.refl _ w1).drew (HNO.out.kept (grownOfBelow (Below.refl _ _).drew) (ownNone _)) (HLO.out.kept (grownOfBelow (Below.refl _ _).drew) (ownNone _))
  | false =>
    obtain rfl := hn1 rfl
    have hpf : (parW n ks.length).2 = false := by rw [← HM.out, HPW.out]
    have HPF := Lib.hid hpf
    clear hy1' hn1 hpf
    by_cases hnm : n = n2
    · subst hnm
      have hbe : ((bs n).toList == (bs n).toList) = true := by simp
      have hbn : ((bs n).toList != (bs n).toList) = false := by simp
      by_cases hmm : m = m'
      · have hm2 : mtch (.mk n ks) (.mk n ks2) f = mtchL ks ks2 f := mtch_node HPF.out rfl (by show ks.length = ks2.length; rw [← HM.out, ← HM'.out]; exact hmm)
        subst hmm
        have HM2 := Lib.hid hm2
        clear hm2
        go_wp2_with fail
        go_loopw [2, 3, 14, 15] (fun nvk lvk okv i wr => ∃ (k : Nat) (ok : Bool) (A3 A4 : Option Addr) (n3 c3 n4 c4 : Nat), k ≤ m ∧ i = .int .i64 k ∧ okv = .bool ok ∧ nvk = .slice A3 n3 c3 ∧ lvk = .slice A4 n4 c4 ∧ Kp (Two (.slice NA nn NC) (.slice LA nn LC)) w1 wr ∧
          (∀ y, Two (.slice A3 n3 c3) (.slice A4 n4 c4) y → Two (.slice NA nn NC) (.slice LA nn LC) y ∨ w1.heap.size ≤ y) ∧ (ok = true → ∃ fk vsk, RM B S fk (.slice A3 n3 c3) (.slice A4 n4 c4) vsk wr ∧ mtchL (ks.drop k) (ks2.drop k) fk = mtchL ks ks2 f ∧ fk.1.length ≤ nn + sizeL (ks.take k)) ∧ (ok = false → (mtchL ks ks2 f).1 = false)) (fun _ _ _ i _ => m - (intOf i).toNat)
        case atStart => exact ⟨0, true, NA, LA, nn, NC, nn, LC, Nat.zero_le _, rfl, rfl, rfl, rfl, Kp.refl _ _, fun y h => .inl h, fun _ => ⟨f, vs, HRM1.out, by rw [List.drop_zero, List.drop_zero], by rw [← HNN.out]; omega⟩, (fun h => by cases h)⟩
        case round =>
          obtain ⟨k, ok, A3, A4, n3, c3, n4, c4, hk, rfl, rfl, rfl, rfl, hkr, hnew, hyes, hno⟩ := hrel
          have p1 : wr.cell? ⟨w.heap.size, 1, none⟩ = some (.slice A m c) := by rw [Lib.cell_of_heap (HBOX.out wr hkr).1]; rfl
          have HKR := Lib.hid hkr
          have HNEW := Lib.hid hnew
          have HYES := Lib.hid hyes
          have HNO2 := Lib.hid hno
          clear hkr hnew hyes hno t0 t1 s0 s1
          by_cases hlt : k < m
          · cases ok with
            | true =>
              obtain ⟨fk, vsk, hrk, hmk, hlk⟩ := HYES.out rfl
              have hkd : decide ((k : Int) < (m : Int)) = true := by simp; omega
              have hki : k < ks.length := by rw [← HM.out]; exact hlt
              have hki2 : k < ks2.length := by rw [← HM'.out]; exact hlt
              have hBr : B ≤ wr.heap.size := Nat.le_trans hBw (Nat.le_trans hb3.size HKR.out.size)
              have hktr : Kept S w wr := Kept.trans ((kept_below hb3).sub fun y hy => HSW.out y hy) (Two.kp HRM1.out hSB HKR.out (Nat.le_trans hBw hb3.size))
              obtain ⟨ad, u1, v1, hA1, hS1, e0, e1, hty⟩ := (hT.keep hktr).at_ (List.getElem?_eq_getElem hki)
              obtain ⟨u1, v1, rfl, rfl⟩ := hty.shape
              obtain ⟨ad', u2, v2, hA2, hS2, f0, f1, hty2⟩ := (hT'.keep hktr).at_ (List.getElem?_eq_getElem hki2)
              obtain ⟨u2, v2, rfl, rfl⟩ := hty2.shape
              subst hA1 hA2
              have hszk : sizeL (ks.take (k + 1)) = sizeL (ks.take k) + ks[k].size := by
                rw [List.take_succ_eq_append_getElem hki, sizeL_append]
                simp [sizeL]
              have hszk2 : sizeL (ks.take (k + 1)) ≤ sizeL ks := by
                have := sizeL_append (ks.take (k + 1)) (ks.drop (k + 1))
                rw [List.take_append_drop] at this
                omega
              have hlen := (mtch_len ks[k] ks2[k] fk hrk.len).2
              have hSr : ∀ y, S y → y < wr.heap.size := fun y hy => Nat.lt_of_lt_of_le (hSB y hy) hBr
              have hbd : Below wr.heap.size wr wr.drew := (Below.refl _ _).drew
              have CALL := Lib.hid (IH.out ks[k] (List.getElem_mem hki) ks2[k] fk _ _ vsk _ _ _ _ wr.drew hBr (hty.keep (w' := wr.drew) fun _ _ => rfl) (hty2.keep (w' := wr.drew) fun _ _ => rfl) (hrk.below hSr hbd) (by omega))
              have hss : ∀ w', Kp (Two (.slice A3 n3 c3) (.slice A4 n4 c4)) wr.drew w' → w'.cell? ⟨w.heap.size, 1, none⟩ = some (.slice (some ad) m c) ∧ w'.cell? ⟨w.heap.size + 1, 1, none⟩ = some (.slice (some ad') m c') ∧ w'.cell? (ad.add (k * 2)) = some (sv u1) ∧ w'.cell? ⟨(ad.add (k * 2)).block, (ad.add (k * 2)).off + 1, none⟩ = some (.slice v1.1 v1.2.1 v1.2.2) ∧ w'.cell? (ad'.add (k * 2)) = some (sv u2) ∧ w'.cell? ⟨(ad'.add (k * 2)).block, (ad'.add (k * 2)).off + 1, none⟩ = some (.slice v2.1 v2.2.1 v2.2.2) := by
                intro w' hk'
                have hno2 : ∀ y, y < w1.heap.size → w.heap.size ≤ y → ¬ Two (.slice A3 n3 c3) (.slice A4 n4 c4) y := fun y h1 h2 e => by
                  rcases HNEW.out y e with e | e
                  · have := (HRM.out.from _ e).2; omega
                  · omega
                have b1 := hk'.heap (w := wr.drew) (HBOX.out wr HKR.out).1 (hno2 _ (by omega) (Nat.le_refl _))
                have b2 := hk'.heap (w := wr.drew) (HBOX.out wr HKR.out).2 (hno2 _ (by omega) (by omega))
                have hks : Kept S wr.drew w' := Two.kp (hrk.below hSr hbd) hSB hk' hBr
                exact ⟨(Lib.cell_of_heap b1 _).trans rfl, (Lib.cell_of_heap b2 _).trans rfl, (hks _ (by rw [blkAdd]; exact hS1)).trans e0, (hks ⟨(ad.add (k * 2)).block, (ad.add (k * 2)).off + 1, none⟩ (by show S (ad.add (k * 2)).block; rw [blkAdd]; exact hS1)).trans e1, (hks _ (by rw [blkAdd]; exact hS2)).trans f0, (hks ⟨(ad'.add (k * 2)).block, (ad'.add (k * 2)).off + 1, none⟩ (by show S (ad'.add (k * 2)).block; rw [blkAdd]; exact hS2)).trans f1⟩
              have HSS := Lib.hid hss
              have hik : (0 : Int) ≤ (k : Int) ∧ (k : Int) < (m : Int) := ⟨by omega, by omega⟩
              -- the next round
              have next : ∀ (A5 A6 : Option Addr) (n5 c5 n6 c6 : Nat) (w' : World), Kp (Two (.slice A3 n3 c3) (.slice A4 n4 c4)) wr.drew w' → (∀ y, Two (.slice A5 n5 c5) (.slice A6 n6 c6) y → Two (.slice A3 n3 c3) (.slice A4 n4 c4) y ∨ wr.drew.heap.size ≤ y) →
                  ((mtch ks[k] ks2[k] fk).1 = true → ∃ vs', RM B S (mtch ks[k] ks2[k] fk).2 (.slice A5 n5 c5) (.slice A6 n6 c6) vs' w') →
                  Kp (Two (.slice NA nn NC) (.slice LA nn LC)) w1 w' ∧ (∀ y, Two (.slice A5 n5 c5) (.slice A6 n6 c6) y → Two (.slice NA nn NC) (.slice LA nn LC) y ∨ w1.heap.size ≤ y) ∧
                  ((mtch ks[k] ks2[k] fk).1 = true → ∃ fk2 vsk2, RM B S fk2 (.slice A5 n5 c5) (.slice A6 n6 c6) vsk2 w' ∧ mtchL (ks.drop (k + 1)) (ks2.drop (k + 1)) fk2 = mtchL ks ks2 f ∧ fk2.1.length ≤ nn + sizeL (ks.take (k + 1))) ∧ ((mtch ks[k] ks2[k] fk).1 = false → (mtchL ks ks2 f).1 = false) := by
                intro A5 A6 n5 c5 n6 c6 w' hk' hn' hy'
                refine ⟨(HKR.out.drew).trans hk' (fun y hy e => (HNEW.out y e).elim id fun h => by omega), fun y hy => ?_, fun ht => ?_, fun hf => ?_⟩
                · rcases hn' y hy with h | h
                  · exact HNEW.out y h
                  · exact .inr (Nat.le_trans HKR.out.size h)
                · obtain ⟨vs', hrm'⟩ := hy' ht
                  exact ⟨_, vs', hrm', by rw [← mtchL_yes hki hki2 fk ht]; exact hmk, by omega⟩
                · rw [← hmk]
                  exact mtchL_no hki hki2 fk hf
              have NEXT := Lib.hid next
              clear next hss hlen hszk hszk2 hktr hty hty2 hrk hmk hlk hbd hSr e0 e1 f0 f1
              go_wp2_with fail
              refine wp_region_free (fun w' => w'.cell? ⟨w.heap.size, 1, none⟩ = some (.slice (some ad) m c) ∧ w'.cell? ⟨w.heap.size + 1, 1, none⟩ = some (.slice (some ad') m c') ∧ w'.cell? (ad.add (k * 2)) = some (sv u1) ∧ w'.cell? ⟨(ad.add (k * 2)).block, (ad.add (k * 2)).off + 1, none⟩ = some (.slice v1.1 v1.2.1 v1.2.2) ∧ w'.cell? (ad'.add (k * 2)) = some (sv u2) ∧ w'.cell? ⟨(ad'.add (k * 2)).block, (ad'.add (k * 2)).off + 1, none⟩ = some (.slice v2.1 v2.2.1 v2.2.2)) [0, 1, 2, 3, 4, 5, 6, 7, 8, 9, 10, 11] [12, 13, 14, 15, 16, 17, 18] [19] (by kernel_rfl) (by kernel_rfl) (HSS.out _ (Kp.refl _ _)) ?h15
              case h15 =>
              simp only [opsAt, List.filterMap_cons, List.filterMap_nil, List.getElem?_toArray, List.getElem?_cons_succ, List.getElem?_cons_zero]
              refine wpLoad_step ?vd0 rfl (fun w' hS => ?yd0) ?kd0
              case yd0 =>
                obtain ⟨h1, h2, h3, h4, h5, h6⟩ := hS
                go_simp
                try rfl
              case kd0 =>
              go_simp
              refine wpLoad_step ?vd1 rfl (fun w' hS => ?yd1) ?kd1
              case yd1 =>
                obtain ⟨h1, h2, h3, h4, h5, h6⟩ := hS
                go_simp
                try rfl
              case kd1 =>
              go_simp
              refine wpLoad_step ?vd2 rfl (fun w' hS => ?yd2) ?kd2
              case yd2 =>
                obtain ⟨h1, h2, h3, h4, h5, h6⟩ := hS
                go_simp
                try rfl
              case kd2 =>
              go_simp
              refine wpLoad_step ?vd3 rfl (fun w' hS => ?yd3) ?kd3
              case yd3 =>
                obtain ⟨h1, h2, h3, h4, h5, h6⟩ := hS
                go_simp
                try rfl
              case kd3 =>
              go_simp
              refine wpLoad_step ?vd4 rfl (fun w' hS => ?yd4) ?kd4
              case yd4 =>
                obtain ⟨h1, h2, h3, h4, h5, h6⟩ := hS
                go_simp
                try rfl
              case kd4 =>
              go_simp
              refine wpLoad_step ?vd5 rfl (fun w' hS => ?yd5) ?kd5
              case yd5 =>
                obtain ⟨h1, h2, h3, h4, h5, h6⟩ := hS
                go_simp
                try rfl
              case kd5 =>
              go_simp
              refine wpLoad_step ?vd6 rfl (fun w' hS => ?yd6) ?kd6
              case yd6 =>
                obtain ⟨h1, h2, h3, h4, h5, h6⟩ := hS
                go_simp
                try rfl
              case kd6 =>
              go_simp
              refine wpLoad_step ?vd7 rfl (fun w' hS => ?yd7) ?kd7
              case yd7 =>
                obtain ⟨h1, h2, h3, h4, h5, h6⟩ := hS
                go_simp
                try rfl
              case kd7 =>
              go_simp
              refine wpLoad_step ?vd8 rfl (fun w' hS => ?yd8) ?kd8
              case yd8 =>
                obtain ⟨h1, h2, h3, h4, h5, h6⟩ := hS
                go_simp
                try rfl
              case kd8 =>
              go_simp
              refine wpLoad_step ?vd9 rfl (fun w' hS => ?yd9) ?kd9
              case yd9 =>
                obtain ⟨h1, h2, h3, h4, h5, h6⟩ := hS
                go_simp
                try rfl
              case kd9 =>
              go_simp
              refine wpLoad_step ?vd10 rfl (fun w' hS => ?yd10) ?kd10
              case yd10 =>
                obtain ⟨h1, h2, h3, h4, h5, h6⟩ := hS
                go_simp
                try rfl
              case kd10 =>
              go_simp
              refine wpLoad_step ?vd11 rfl (fun w' hS => ?yd11) ?kd11
              case yd11 =>
                obtain ⟨h1, h2, h3, h4, h5, h6⟩ := hS
                go_simp
                try rfl
              case kd11 =>
              go_simp
              refine wpLoad_nil ?_
              intro ops a0 W hops ha0 hend hstep
              have H2345678 : ∀ (L : Array Bool) (a : Act) (w' : World) (A5 A6 : Option Addr) (n5 c5 n6 c6 : Nat) (r : Bool), L = #[true, true, true, true, true, true, true, true, true, true, true, true, true, true, true, true, true, true, true, false] → a = (((((((a0.put (some 2) (Value.slice A5 n5 c5)).put (some 3) (Value.slice A6 n6 c6)).put (some 74) (Value.tuple #[.slice A5 n5 c5, .slice A6 n6 c6, .bool r])).put (some 87) (Value.tuple #[.slice A5 n5 c5, .slice A6 n6 c6, .bool r])).put (some 88) (Value.slice A5 n5 c5)).put (some 89) (Value.slice A6 n6 c6)).put (some 90) (Value.bool r)) → Hid (r = (mtch ks[k] ks2[k] fk).1) → Kp (Two (.slice A3 n3 c3) (.slice A4 n4 c4)) wr.drew w' → (∀ y, Two (.slice A5 n5 c5) (.slice A6 n6 c6) y → Two (.slice A3 n3 c3) (.slice A4 n4 c4) y ∨ wr.drew.heap.size ≤ y) → ((mtch ks[k] ks2[k] fk).1 = true → ∃ vs', RM B S (mtch ks[k] ks2[k] fk).2 (.slice A5 n5 c5) (.slice A6 n6 c6) vs' w') → W 0 L a w' := by
                intro L a w' A5 A6 n5 c5 n6 c6 r hL0 ha hr hk' hn' hy'
                subst hL0
                have hnx := NEXT.out A5 A6 n5 c5 n6 c6 w' hk' hn' hy'
                have hr := hr.out
                rw [← hr] at hnx
                have HNX := Lib.hid hnx
                refine hend _ _ _ (by rw [hops]; kernel_rfl) ?_
                rw [hops, ha, ha0]
                clear hnx hr hk' hn' hy' hend hstep hops
                simp only [List.getElem?_toArray, List.getElem?_cons_succ, List.getElem?_cons_zero]
                go_wp2
                refine NoPanic.normal ?_
                go_wp2
                go_roundw
                case rel =>
                  obtain ⟨q1, q2, q3, q4⟩ := HNX.out
                  exact ⟨k + 1, r, A5, A6, n5, c5, n6, c6, by omega, by go_num, rfl, rfl, rfl, q1, q2, q3, q4⟩
                case measure => simp [intOf]; omega
              have H234567 : ∀ (L : Array Bool) (a : Act) (w' : World) (A5 A6 : Option Addr) (n5 c5 n6 c6 : Nat) (r : Bool), L = #[true, true, true, true, true, true, true, true, true, true, true, true, true, true, true, true, true, true, false, false] → a = ((((((a0.put (some 2) (Value.slice A5 n5 c5)).put (some 74) (Value.tuple #[.slice A5 n5 c5, .slice A6 n6 c6, .bool r])).put (some 87) (Value.tuple #[.slice A5 n5 c5, .slice A6 n6 c6, .bool r])).put (some 88) (Value.slice A5 n5 c5)).put (some 89) (Value.slice A6 n6 c6)).put (some 90) (Value.bool r)) → Hid (r = (mtch ks[k] ks2[k] fk).1) → Kp (Two (.slice A3 n3 c3) (.slice A4 n4 c4)) wr.drew w' → (∀ y, Two (.slice A5 n5 c5) (.slice A6 n6 c6) y → Two (.slice A3 n3 c3) (.slice A4 n4 c4) y ∨ wr.drew.heap.size ≤ y) → ((mtch ks[k] ks2[k] fk).1 = true → ∃ vs', RM B S (mtch ks[k] ks2[k] fk).2 (.slice A5 n5 c5) (.slice A6 n6 c6) vs' w') → W 1 L a w' := by
                intro L a w' A5 A6 n5 c5 n6 c6 r hL0 ha hr hk' hn' hy'
                subst hL0
                have hr0 : Region.ready .any ops #[true, true, true, true, true, true, true, true, true, true, true, true, true, true, true, true, true, true, false, false] = [18] := by rw [hops]; kernel_rfl
                refine hstep _ _ _ _ (by rw [hr0]; decide) fun i hi => ?_
                rw [hr0] at hi
                simp only [List.mem_cons, List.not_mem_nil, or_false] at hi
                rcases hi with rfl
                · refine ⟨by decide, ?_⟩
                  rw [hops]
                  refine wpOp_at (o := ?oH23456718) ?p0H23456718 ?pwH23456718 ?phH23456718
                  case p0H23456718 => exact rfl
                  case pwH23456718 => exact rfl
                  case phH23456718 =>
                  rw [ha, ha0]
                  go_simp
                  exact ⟨HSS.out _ hk', H2345678 _ _ _ A5 A6 n5 c5 n6 c6 r rfl (by rw [ha0]; rfl) hr hk' hn' hy'⟩
              have H234578 : ∀ (L : Array Bool) (a : Act) (w' : World) (A5 A6 : Option Addr) (n5 c5 n6 c6 : Nat) (r : Bool), L = #[true, true, true, true, true, true, true, true, true, true, true, true, true, true, true, true, false, true, true, false] → a = ((((((a0.put (some 2) (Value.slice A5 n5 c5)).put (some 3) (Value.slice A6 n6 c6)).put (some 74) (Value.tuple #[.slice A5 n5 c5, .slice A6 n6 c6, .bool r])).put (some 87) (Value.tuple #[.slice A5 n5 c5, .slice A6 n6 c6, .bool r])).put (some 88) (Value.slice A5 n5 c5)).put (some 89) (Value.slice A6 n6 c6)) → Hid (r = (mtch ks[k] ks2[k] fk).1) → Kp (Two (.slice A3 n3 c3) (.slice A4 n4 c4)) wr.drew w' → (∀ y, Two (.slice A5 n5 c5) (.slice A6 n6 c6) y → Two (.slice A3 n3 c3) (.slice A4 n4 c4) y ∨ wr.drew.heap.size ≤ y) → ((mtch ks[k] ks2[k] fk).1 = true → ∃ vs', RM B S (mtch ks[k] ks2[k] fk).2 (.slice A5 n5 c5) (.slice A6 n6 c6) vs' w') → W 1 L a w' := by
                intro L a w' A5 A6 n5 c5 n6 c6 r hL0 ha hr hk' hn' hy'
                subst hL0
                have hr0 : Region.ready .any ops #[true, true, true, true, true, true, true, true, true, true, true, true, true, true, true, true, false, true, true, false] = [16] := by rw [hops]; kernel_rfl
                refine hstep _ _ _ _ (by rw [hr0]; decide) fun i hi => ?_
                rw [hr0] at hi
                simp only [List.mem_cons, List.not_mem_nil, or_false] at hi
                rcases hi with rfl
                · refine ⟨by decide, ?_⟩
                  rw [hops]
                  refine wpOp_at (o := ?oH23457816) ?p0H23457816 ?pwH23457816 ?phH23457816
                  case p0H23457816 => exact rfl
                  case pwH23457816 => exact rfl
                  case phH23457816 =>
                  rw [ha, ha0]
                  go_simp
                  exact ⟨HSS.out _ hk', H2345678 _ _ _ A5 A6 n5 c5 n6 c6 r rfl (by rw [ha0]; rfl) hr hk' hn' hy'⟩
              have H23456 : ∀ (L : Array Bool) (a : Act) (w' : World) (A5 A6 : Option Addr) (n5 c5 n6 c6 : Nat) (r : Bool), L = #[true, true, true, true, true, true, true, true, true, true, true, true, true, true, true, true, true, false, false, false] → a = (((((a0.put (some 74) (Value.tuple #[.slice A5 n5 c5, .slice A6 n6 c6, .bool r])).put (some 87) (Value.tuple #[.slice A5 n5 c5, .slice A6 n6 c6, .bool r])).put (some 88) (Value.slice A5 n5 c5)).put (some 89) (Value.slice A6 n6 c6)).put (some 90) (Value.bool r)) → Hid (r = (mtch ks[k] ks2[k] fk).1) → Kp (Two (.slice A3 n3 c3) (.slice A4 n4 c4)) wr.drew w' → (∀ y, Two (.slice A5 n5 c5) (.slice A6 n6 c6) y → Two (.slice A3 n3 c3) (.slice A4 n4 c4) y ∨ wr.drew.heap.size ≤ y) → ((mtch ks[k] ks2[k] fk).1 = true → ∃ vs', RM B S (mtch ks[k] ks2[k] fk).2 (.slice A5 n5 c5) (.slice A6 n6 c6) vs' w') → W 2 L a w' := by
                intro L a w' A5 A6 n5 c5 n6 c6 r hL0 ha hr hk' hn' hy'
                subst hL0
                have hr0 : Region.ready .any ops #[true, true, true, true, true, true, true, true, true, true, true, true, true, true, true, true, true, false, false, false] = [17] := by rw [hops]; kernel_rfl
                refine hstep _ _ _ _ (by rw [hr0]; decide) fun i hi => ?_
                rw [hr0] at hi
                simp only [List.mem_cons, List.not_mem_nil, or_false] at hi
                rcases hi with rfl
                · refine ⟨by decide, ?_⟩
                  rw [hops]
                  refine wpOp_at (o := ?oH2345617) ?p0H2345617 ?pwH2345617 ?phH2345617
                  case p0H2345617 => exact rfl
                  case pwH2345617 => exact rfl
                  case phH2345617 =>
                  rw [ha, ha0]
                  go_simp
                  exact ⟨HSS.out _ hk', H234567 _ _ _ A5 A6 n5 c5 n6 c6 r rfl (by rw [ha0]; rfl) hr hk' hn' hy'⟩
              have H23457 : ∀ (L : Array Bool) (a : Act) (w' : World) (A5 A6 : Option Addr) (n5 c5 n6 c6 : Nat) (r : Bool), L = #[true, true, true, true, true, true, true, true, true, true, true, true, true, true, true, true, false, true, false, false] → a = (((((a0.put (some 2) (Value.slice A5 n5 c5)).put (some 74) (Value.tuple #[.slice A5 n5 c5, .slice A6 n6 c6, .bool r])).put (some 87) (Value.tuple #[.slice A5 n5 c5, .slice A6 n6 c6, .bool r])).put (some 88) (Value.slice A5 n5 c5)).put (some 89) (Value.slice A6 n6 c6)) → Hid (r = (mtch ks[k] ks2[k] fk).1) → Kp (Two (.slice A3 n3 c3) (.slice A4 n4 c4)) wr.drew w' → (∀ y, Two (.slice A5 n5 c5) (.slice A6 n6 c6) y → Two (.slice A3 n3 c3) (.slice A4 n4 c4) y ∨ wr.drew.heap.size ≤ y) → ((mtch ks[k] ks2[k] fk).1 = true → ∃ vs', RM B S (mtch ks[k] ks2[k] fk).2 (.slice A5 n5 c5) (.slice A6 n6 c6) vs' w') → W 2 L a w' := by
                intro L a w' A5 A6 n5 c5 n6 c6 r hL0 ha hr hk' hn' hy'
                subst hL0
                have hr0 : Region.ready .any ops #[true, true, true, true, true, true, true, true, true, true, true, true, true, true, true, true, false, true, false, false] = [16, 18] := by rw [hops]; kernel_rfl
                refine hstep _ _ _ _ (by rw [hr0]; decide) fun i hi => ?_
                rw [hr0] at hi
                simp only [List.mem_cons, List.not_mem_nil, or_false] at hi
                rcases hi with rfl | rfl
                · refine ⟨by decide, ?_⟩
                  rw [hops]
                  refine wpOp_at (o := ?oH2345716) ?p0H2345716 ?pwH2345716 ?phH2345716
                  case p0H2345716 => exact rfl
                  case pwH2345716 => exact rfl
                  case phH2345716 =>
                  rw [ha, ha0]
                  go_simp
                  exact ⟨HSS.out _ hk', H234567 _ _ _ A5 A6 n5 c5 n6 c6 r rfl (by rw [ha0]; rfl) hr hk' hn' hy'⟩
                · refine ⟨by decide, ?_⟩
                  rw [hops]
                  refine wpOp_at (o := ?oH2345718) ?p0H2345718 ?pwH2345718 ?phH2345718
                  case p0H2345718 => exact rfl
                  case pwH2345718 => exact rfl
                  case phH2345718 =>
                  rw [ha, ha0]
                  go_simp
                  exact ⟨HSS.out _ hk', H234578 _ _ _ A5 A6 n5 c5 n6 c6 r rfl (by rw [ha0]; rfl) hr hk' hn' hy'⟩
              have H23467 : ∀ (L : Array Bool) (a : Act) (w' : World) (A5 A6 : Option Addr) (n5 c5 n6 c6 : Nat) (r : Bool), L = #[true, true, true, true, true, true, true, true, true, true, true, true, true, true, true, false, true, true, false, false] → a = (((((a0.put (some 2) (Value.slice A5 n5 c5)).put (some 74) (Value.tuple #[.slice A5 n5 c5, .slice A6 n6 c6, .bool r])).put (some 87) (Value.tuple #[.slice A5 n5 c5, .slice A6 n6 c6, .bool r])).put (some 88) (Value.slice A5 n5 c5)).put (some 90) (Value.bool r)) → Hid (r = (mtch ks[k] ks2[k] fk).1) → Kp (Two (.slice A3 n3 c3) (.slice A4 n4 c4)) wr.drew w' → (∀ y, Two (.slice A5 n5 c5) (.slice A6 n6 c6) y → Two (.slice A3 n3 c3) (.slice A4 n4 c4) y ∨ wr.drew.heap.size ≤ y) → ((mtch ks[k] ks2[k] fk).1 = true → ∃ vs', RM B S (mtch ks[k] ks2[k] fk).2 (.slice A5 n5 c5) (.slice A6 n6 c6) vs' w') → W 2 L a w' := by
                intro L a w' A5 A6 n5 c5 n6 c6 r hL0 ha hr hk' hn' hy'
                subst hL0
                have hr0 : Region.ready .any ops #[true, true, true, true, true, true, true, true, true, true, true, true, true, true, true, false, true, true, false, false] = [15] := by rw [hops]; kernel_rfl
                refine hstep _ _ _ _ (by rw [hr0]; decide) fun i hi => ?_
                rw [hr0] at hi
                simp only [List.mem_cons, List.not_mem_nil, or_false] at hi
                rcases hi with rfl
                · refine ⟨by decide, ?_⟩
                  rw [hops]
                  refine wpOp_at (o := ?oH2346715) ?p0H2346715 ?pwH2346715 ?phH2346715
                  case p0H2346715 => exact rfl
                  case pwH2346715 => exact rfl
                  case phH2346715 =>
                  rw [ha, ha0]
                  go_simp
                  exact ⟨HSS.out _ hk', H234567 _ _ _ A5 A6 n5 c5 n6 c6 r rfl (by rw [ha0]; rfl) hr hk' hn' hy'⟩
              have H2345 : ∀ (L : Array Bool) (a : Act) (w' : World) (A5 A6 : Option Addr) (n5 c5 n6 c6 : Nat) (r : Bool), L = #[true, true, true, true, true, true, true, true, true, true, true, true, true, true, true, true, false, false, false, false] → a = ((((a0.put (some 74) (Value.tuple #[.slice A5 n5 c5, .slice A6 n6 c6, .bool r])).put (some 87) (Value.tuple #[.slice A5 n5 c5, .slice A6 n6 c6, .bool r])).put (some 88) (Value.slice A5 n5 c5)).put (some 89) (Value.slice A6 n6 c6)) → Hid (r = (mtch ks[k] ks2[k] fk).1) → Kp (Two (.slice A3 n3 c3) (.slice A4 n4 c4)) wr.drew w' → (∀ y, Two (.slice A5 n5 c5) (.slice A6 n6 c6) y → Two (.slice A3 n3 c3) (.slice A4 n4 c4) y ∨ wr.drew.heap.size ≤ y) → ((mtch ks[k] ks2[k] fk).1 = true → ∃ vs', RM B S (mtch ks[k] ks2[k] fk).2 (.slice A5 n5 c5) (.slice A6 n6 c6) vs' w') → W 3 L a w' := by
                intro L a w' A5 A6 n5 c5 n6 c6 r hL0 ha hr hk' hn' hy'
                subst hL0
                have hr0 : Region.ready .any ops #[true, true, true, true, true, true, true, true, true, true, true, true, true, true, true, true, false, false, false, false] = [16, 17] := by rw [hops]; kernel_rfl
                refine hstep _ _ _ _ (by rw [hr0]; decide) fun i hi => ?_
                rw [hr0] at hi
                simp only [List.mem_cons, List.not_mem_nil, or_false] at hi
                rcases hi with rfl | rfl
                · refine ⟨by decide, ?_⟩
                  rw [hops]
                  refine wpOp_at (o := ?oH234516) ?p0H234516 ?pwH234516 ?phH234516
                  case p0H234516 => exact rfl
                  case pwH234516 => exact rfl
                  case phH234516 =>
                  rw [ha, ha0]
                  go_simp
                  exact ⟨HSS.out _ hk', H23456 _ _ _ A5 A6 n5 c5 n6 c6 r rfl (by rw [ha0]; rfl) hr hk' hn' hy'⟩
                · refine ⟨by decide, ?_⟩
                  rw [hops]
                  refine wpOp_at (o := ?oH234517) ?p0H234517 ?pwH234517 ?phH234517
                  case p0H234517 => exact rfl
                  case pwH234517 => exact rfl
                  case phH234517 =>
                  rw [ha, ha0]
                  go_simp
                  exact ⟨HSS.out _ hk', H23457 _ _ _ A5 A6 n5 c5 n6 c6 r rfl (by rw [ha0]; rfl) hr hk' hn' hy'⟩
              have H2346 : ∀ (L : Array Bool) (a : Act) (w' : World) (A5 A6 : Option Addr) (n5 c5 n6 c6 : Nat) (r : Bool), L = #[true, true, true, true, true, true, true, true, true, true, true, true, true, true, true, false, true, false, false, false] → a = ((((a0.put (some 74) (Value.tuple #[.slice A5 n5 c5, .slice A6 n6 c6, .bool r])).put (some 87) (Value.tuple #[.slice A5 n5 c5, .slice A6 n6 c6, .bool r])).put (some 88) (Value.slice A5 n5 c5)).put (some 90) (Value.bool r)) → Hid (r = (mtch ks[k] ks2[k] fk).1) → Kp (Two (.slice A3 n3 c3) (.slice A4 n4 c4)) wr.drew w' → (∀ y, Two (.slice A5 n5 c5) (.slice A6 n6 c6) y → Two (.slice A3 n3 c3) (.slice A4 n4 c4) y ∨ wr.drew.heap.size ≤ y) → ((mtch ks[k] ks2[k] fk).1 = true → ∃ vs', RM B S (mtch ks[k] ks2[k] fk).2 (.slice A5 n5 c5) (.slice A6 n6 c6) vs' w') → W 3 L a w' := by
                intro L a w' A5 A6 n5 c5 n6 c6 r hL0 ha hr hk' hn' hy'
                subst hL0
                have hr0 : Region.ready .any ops #[true, true, true, true, true, true, true, true, true, true, true, true, true, true, true, false, true, false, false, false] = [15, 17] := by rw [hops]; kernel_rfl
                refine hstep _ _ _ _ (by rw [hr0]; decide) fun i hi => ?_
                rw [hr0] at hi
                simp only [List.mem_cons, List.not_mem_nil, or_false] at hi
                rcases hi with rfl | rfl
                · refine ⟨by decide, ?_⟩
                  rw [hops]
                  refine wpOp_at (o := ?oH234615) ?p0H234615 ?pwH234615 ?phH234615
                  case p0H234615 => exact rfl
                  case pwH234615 => exact rfl
                  case phH234615 =>
                  rw [ha, ha0]
                  go_simp
                  exact ⟨HSS.out _ hk', H23456 _ _ _ A5 A6 n5 c5 n6 c6 r rfl (by rw [ha0]; rfl) hr hk' hn' hy'⟩
                · refine ⟨by decide, ?_⟩
                  rw [hops]
                  refine wpOp_at (o := ?oH234617) ?p0H234617 ?pwH234617 ?phH234617
                  case p0H234617 => exact rfl
                  case pwH234617 => exact rfl
                  case phH234617 =>
                  rw [ha, ha0]
                  go_simp
                  exact ⟨HSS.out _ hk', H23467 _ _ _ A5 A6 n5 c5 n6 c6 r rfl (by rw [ha0]; rfl) hr hk' hn' hy'⟩
              have H2347 : ∀ (L : Array Bool) (a : Act) (w' : World) (A5 A6 : Option Addr) (n5 c5 n6 c6 : Nat) (r : Bool), L = #[true, true, true, true, true, true, true, true, true, true, true, true, true, true, true, false, false, true, false, false] → a = ((((a0.put (some 2) (Value.slice A5 n5 c5)).put (some 74) (Value.tuple #[.slice A5 n5 c5, .slice A6 n6 c6, .bool r])).put (some 87) (Value.tuple #[.slice A5 n5 c5, .slice A6 n6 c6, .bool r])).put (some 88) (Value.slice A5 n5 c5)) → Hid (r = (mtch ks[k] ks2[k] fk).1) → Kp (Two (.slice A3 n3 c3) (.slice A4 n4 c4)) wr.drew w' → (∀ y, Two (.slice A5 n5 c5) (.slice A6 n6 c6) y → Two (.slice A3 n3 c3) (.slice A4 n4 c4) y ∨ wr.drew.heap.size ≤ y) → ((mtch ks[k] ks2[k] fk).1 = true → ∃ vs', RM B S (mtch ks[k] ks2[k] fk).2 (.slice A5 n5 c5) (.slice A6 n6 c6) vs' w') → W 3 L a w' := by
                intro L a w' A5 A6 n5 c5 n6 c6 r hL0 ha hr hk' hn' hy'
                subst hL0
                have hr0 : Region.ready .any ops #[true, true, true, true, true, true, true, true, true, true, true, true, true, true, true, false, false, true, false, false] = [15, 16] := by rw [hops]; kernel_rfl
                refine hstep _ _ _ _ (by rw [hr0]; decide) fun i hi => ?_
                rw [hr0] at hi
                simp only [List.mem_cons, List.not_mem_nil, or_false] at hi
                rcases hi with rfl | rfl
                · refine ⟨by decide, ?_⟩
                  rw [hops]
                  refine wpOp_at (o := ?oH234715) ?p0H234715 ?pwH234715 ?phH234715
                  case p0H234715 => exact rfl
                  case pwH234715 => exact rfl
                  case phH234715 =>
                  rw [ha, ha0]
                  go_simp
                  exact ⟨HSS.out _ hk', H23457 _ _ _ A5 A6 n5 c5 n6 c6 r rfl (by rw [ha0]; rfl) hr hk' hn' hy'⟩
                · refine ⟨by decide, ?_⟩
                  rw [hops]
                  refine wpOp_at (o := ?oH234716) ?p0H234716 ?pwH234716 ?phH234716
                  case p0H234716 => exact rfl
                  case pwH234716 => exact rfl
                  case phH234716 =>
                  rw [ha, ha0]
                  go_simp
                  exact ⟨HSS.out _ hk', H23467 _ _ _ A5 A6 n5 c5 n6 c6 r rfl (by rw [ha0]; rfl) hr hk' hn' hy'⟩
              have H2356 : ∀ (L : Array Bool) (a : Act) (w' : World) (A5 A6 : Option Addr) (n5 c5 n6 c6 : Nat) (r : Bool), L = #[true, true, true, true, true, true, true, true, true, true, true, true, true, true, false, true, true, false, false, false] → a = ((((a0.put (some 74) (Value.tuple #[.slice A5 n5 c5, .slice A6 n6 c6, .bool r])).put (some 87) (Value.tuple #[.slice A5 n5 c5, .slice A6 n6 c6, .bool r])).put (some 89) (Value.slice A6 n6 c6)).put (some 90) (Value.bool r)) → Hid (r = (mtch ks[k] ks2[k] fk).1) → Kp (Two (.slice A3 n3 c3) (.slice A4 n4 c4)) wr.drew w' → (∀ y, Two (.slice A5 n5 c5) (.slice A6 n6 c6) y → Two (.slice A3 n3 c3) (.slice A4 n4 c4) y ∨ wr.drew.heap.size ≤ y) → ((mtch ks[k] ks2[k] fk).1 = true → ∃ vs', RM B S (mtch ks[k] ks2[k] fk).2 (.slice A5 n5 c5) (.slice A6 n6 c6) vs' w') → W 3 L a w' := by
                intro L a w' A5 A6 n5 c5 n6 c6 r hL0 ha hr hk' hn' hy'
                subst hL0
                have hr0 : Region.ready .any ops #[true, true, true, true, true, true, true, true, true, true, true, true, true, true, false, true, true, false, false, false] = [14] := by rw [hops]; kernel_rfl
                refine hstep _ _ _ _ (by rw [hr0]; decide) fun i hi => ?_
                rw [hr0] at hi
                simp only [List.mem_cons, List.not_mem_nil, or_false] at hi
                rcases hi with rfl
                · refine ⟨by decide, ?_⟩
                  rw [hops]
                  refine wpOp_at (o := ?oH235614) ?p0H235614 ?pwH235614 ?phH235614
                  case p0H235614 => exact rfl
                  case pwH235614 => exact rfl
                  case phH235614 =>
                  rw [ha, ha0]
                  go_simp
                  exact ⟨HSS.out _ hk', H23456 _ _ _ A5 A6 n5 c5 n6 c6 r rfl (by rw [ha0]; rfl) hr hk' hn' hy'⟩
              have H234 : ∀ (L : Array Bool) (a : Act) (w' : World) (A5 A6 : Option Addr) (n5 c5 n6 c6 : Nat) (r : Bool), L = #[true, true, true, true, true, true, true, true, true, true, true, true, true, true, true, false, false, false, false, false] → a = (((a0.put (some 74) (Value.tuple #[.slice A5 n5 c5, .slice A6 n6 c6, .bool r])).put (some 87) (Value.tuple #[.slice A5 n5 c5, .slice A6 n6 c6, .bool r])).put (some 88) (Value.slice A5 n5 c5)) → Hid (r = (mtch ks[k] ks2[k] fk).1) → Kp (Two (.slice A3 n3 c3) (.slice A4 n4 c4)) wr.drew w' → (∀ y, Two (.slice A5 n5 c5) (.slice A6 n6 c6) y → Two (.slice A3 n3 c3) (.slice A4 n4 c4) y ∨ wr.drew.heap.size ≤ y) → ((mtch ks[k] ks2[k] fk).1 = true → ∃ vs', RM B S (mtch ks[k] ks2[k] fk).2 (.slice A5 n5 c5) (.slice A6 n6 c6) vs' w') → W 4 L a w' := by
                intro L a w' A5 A6 n5 c5 n6 c6 r hL0 ha hr hk' hn' hy'
                subst hL0
                have hr0 : Region.ready .any ops #[true, true, true, true, true, true, true, true, true, true, true, true, true, true, true, false, false, false, false, false] = [15, 16, 17] := by rw [hops]; kernel_rfl
                refine hstep _ _ _ _ (by rw [hr0]; decide) fun i hi => ?_
                rw [hr0] at hi
                simp only [List.mem_cons, List.not_mem_nil, or_false] at hi
                rcases hi with rfl | rfl | rfl
                · refine ⟨by decide, ?_⟩
                  rw [hops]
                  refine wpOp_at (o := ?oH23415) ?p0H23415 ?pwH23415 ?phH23415
                  case p0H23415 => exact rfl
                  case pwH23415 => exact rfl
                  case phH23415 =>
                  rw [ha, ha0]
                  go_simp
                  exact ⟨HSS.out _ hk', H2345 _ _ _ A5 A6 n5 c5 n6 c6 r rfl (by rw [ha0]; rfl) hr hk' hn' hy'⟩
                · refine ⟨by decide, ?_⟩
                  rw [hops]
                  refine wpOp_at (o := ?oH23416) ?p0H23416 ?pwH23416 ?phH23416
                  case p0H23416 => exact rfl
                  case pwH23416 => exact rfl
                  case phH23416 =>
                  rw [ha, ha0]
                  go_simp
                  exact ⟨HSS.out _ hk', H2346 _ _ _ A5 A6 n5 c5 n6 c6 r rfl (by rw [ha0]; rfl) hr hk' hn' hy'⟩
                · refine ⟨by decide, ?_⟩
                  rw [hops]
                  refine wpOp_at (o := ?oH23417) ?p0H23417 ?pwH23417 ?phH23417
                  case p0H23417 => exact rfl
                  case pwH23417 => exact rfl
                  case phH23417 =>
                  rw [ha, ha0]
                  go_simp
                  exact ⟨HSS.out _ hk', H2347 _ _ _ A5 A6 n5 c5 n6 c6 r rfl (by rw [ha0]; rfl) hr hk' hn' hy'⟩
              have H235 : ∀ (L : Array Bool) (a : Act) (w' : World) (A5 A6 : Option Addr) (n5 c5 n6 c6 : Nat) (r : Bool), L = #[true, true, true, true, true, true, true, true, true, true, true, true, true, true, false, true, false, false, false, false] → a = (((a0.put (some 74) (Value.tuple #[.slice A5 n5 c5, .slice A6 n6 c6, .bool r])).put (some 87) (Value.tuple #[.slice A5 n5 c5, .slice A6 n6 c6, .bool r])).put (some 89) (Value.slice A6 n6 c6)) → Hid (r = (mtch ks[k] ks2[k] fk).1) → Kp (Two (.slice A3 n3 c3) (.slice A4 n4 c4)) wr.drew w' → (∀ y, Two (.slice A5 n5 c5) (.slice A6 n6 c6) y → Two (.slice A3 n3 c3) (.slice A4 n4 c4) y ∨ wr.drew.heap.size ≤ y) → ((mtch ks[k] ks2[k] fk).1 = true → ∃ vs', RM B S (mtch ks[k] ks2[k] fk).2 (.slice A5 n5 c5) (.slice A6 n6 c6) vs' w') → W 4 L a w' := by
                intro L a w' A5 A6 n5 c5 n6 c6 r hL0 ha hr hk' hn' hy'
                subst hL0
                have hr0 : Region.ready .any ops #[true, true, true, true, true, true, true, true, true, true, true, true, true, true, false, true, false, false, false, false] = [14, 16] := by rw [hops]; kernel_rfl
                refine hstep _ _ _ _ (by rw [hr0]; decide) fun i hi => ?_
                rw [hr0] at hi
                simp only [List.mem_cons, List.not_mem_nil, or_false] at hi
                rcases hi with rfl | rfl
                · refine ⟨by decide, ?_⟩
                  rw [hops]
                  refine wpOp_at (o := ?oH23514) ?p0H23514 ?pwH23514 ?phH23514
                  case p0H23514 => exact rfl
                  case pwH23514 => exact rfl
                  case phH23514 =>
                  rw [ha, ha0]
                  go_simp
                  exact ⟨HSS.out _ hk', H2345 _ _ _ A5 A6 n5 c5 n6 c6 r rfl (by rw [ha0]; rfl) hr hk' hn' hy'⟩
                · refine ⟨by decide, ?_⟩
                  rw [hops]
                  refine wpOp_at (o := ?oH23516) ?p0H23516 ?pwH23516 ?phH23516
                  case p0H23516 => exact rfl
                  case pwH23516 => exact rfl
                  case phH23516 =>
                  rw [ha, ha0]
                  go_simp
                  exact ⟨HSS.out _ hk', H2356 _ _ _ A5 A6 n5 c5 n6 c6 r rfl (by rw [ha0]; rfl) hr hk' hn' hy'⟩
              have H236 : ∀ (L : Array Bool) (a : Act) (w' : World) (A5 A6 : Option Addr) (n5 c5 n6 c6 : Nat) (r : Bool), L = #[true, true, true, true, true, true, true, true, true, true, true, true, true, true, false, false, true, false, false, false] → a = (((a0.put (some 74) (Value.tuple #[.slice A5 n5 c5, .slice A6 n6 c6, .bool r])).put (some 87) (Value.tuple #[.slice A5 n5 c5, .slice A6 n6 c6, .bool r])).put (some 90) (Value.bool r)) → Hid (r = (mtch ks[k] ks2[k] fk).1) → Kp (Two (.slice A3 n3 c3) (.slice A4 n4 c4)) wr.drew w' → (∀ y, Two (.slice A5 n5 c5) (.slice A6 n6 c6) y → Two (.slice A3 n3 c3) (.slice A4 n4 c4) y ∨ wr.drew.heap.size ≤ y) → ((mtch ks[k] ks2[k] fk).1 = true → ∃ vs', RM B S (mtch ks[k] ks2[k] fk).2 (.slice A5 n5 c5) (.slice A6 n6 c6) vs' w') → W 4 L a w' := by
                intro L a w' A5 A6 n5 c5 n6 c6 r hL0 ha hr hk' hn' hy'
                subst hL0
                have hr0 : Region.ready .any ops #[true, true, true, true, true, true, true, true, true, true, true, true, true, true, false, false, true, false, false, false] = [14, 15] := by rw [hops]; kernel_rfl
                refine hstep _ _ _ _ (by rw [hr0]; decide) fun i hi => ?_
                rw [hr0] at hi
                simp only [List.mem_cons, List.not_mem_nil, or_false] at hi
                rcases hi with rfl | rfl
                · refine ⟨by decide, ?_⟩
                  rw [hops]
                  refine wpOp_at (o := ?oH23614) ?p0H23614 ?pwH23614 ?phH23614
                  case p0H23614 => exact rfl
                  case pwH23614 => exact rfl
                  case phH23614 =>
                  rw [ha, ha0]
                  go_simp
                  exact ⟨HSS.out _ hk', H2346 _ _ _ A5 A6 n5 c5 n6 c6 r rfl (by rw [ha0]; rfl) hr hk' hn' hy'⟩
                · refine ⟨by decide, ?_⟩
                  rw [hops]
                  refine wpOp_at (o := ?oH23615) ?p0H23615 ?pwH23615 ?phH23615
                  case p0H23615 => exact rfl
                  case pwH23615 => exact rfl
                  case phH23615 =>
                  rw [ha, ha0]
                  go_simp
                  exact ⟨HSS.out _ hk', H2356 _ _ _ A5 A6 n5 c5 n6 c6 r rfl (by rw [ha0]; rfl) hr hk' hn' hy'⟩
              have H23 : ∀ (L : Array Bool) (a : Act) (w' : World) (A5 A6 : Option Addr) (n5 c5 n6 c6 : Nat) (r : Bool), L = #[true, true, true, true, true, true, true, true, true, true, true, true, true, true, false, false, false, false, false, false] → a = ((a0.put (some 74) (Value.tuple #[.slice A5 n5 c5, .slice A6 n6 c6, .bool r])).put (some 87) (Value.tuple #[.slice A5 n5 c5, .slice A6 n6 c6, .bool r])) → Hid (r = (mtch ks[k] ks2[k] fk).1) → Kp (Two (.slice A3 n3 c3) (.slice A4 n4 c4)) wr.drew w' → (∀ y, Two (.slice A5 n5 c5) (.slice A6 n6 c6) y → Two (.slice A3 n3 c3) (.slice A4 n4 c4) y ∨ wr.drew.heap.size ≤ y) → ((mtch ks[k] ks2[k] fk).1 = true → ∃ vs', RM B S (mtch ks[k] ks2[k] fk).2 (.slice A5 n5 c5) (.slice A6 n6 c6) vs' w') → W 5 L a w' := by
                intro L a w' A5 A6 n5 c5 n6 c6 r hL0 ha hr hk' hn' hy'
                subst hL0
                have hr0 : Region.ready .any ops #[true, true, true, true, true, true, true, true, true, true, true, true, true, true, false, false, false, false, false, false] = [14, 15, 16] := by rw [hops]; kernel_rfl
                refine hstep _ _ _ _ (by rw [hr0]; decide) fun i hi => ?_
                rw [hr0] at hi
                simp only [List.mem_cons, List.not_mem_nil, or_false] at hi
                rcases hi with rfl | rfl | rfl
                · refine ⟨by decide, ?_⟩
                  rw [hops]
                  refine wpOp_at (o := ?oH2314) ?p0H2314 ?pwH2314 ?phH2314
                  case p0H2314 => exact rfl
                  case pwH2314 => exact rfl
                  case phH2314 =>
                  rw [ha, ha0]
                  go_simp
                  exact ⟨HSS.out _ hk', H234 _ _ _ A5 A6 n5 c5 n6 c6 r rfl (by rw [ha0]; rfl) hr hk' hn' hy'⟩
                · refine ⟨by decide, ?_⟩
                  rw [hops]
                  refine wpOp_at (o := ?oH2315) ?p0H2315 ?pwH2315 ?phH2315
                  case p0H2315 => exact rfl
                  case pwH2315 => exact rfl
                  case phH2315 =>
                  rw [ha, ha0]
                  go_simp
                  exact ⟨HSS.out _ hk', H235 _ _ _ A5 A6 n5 c5 n6 c6 r rfl (by rw [ha0]; rfl) hr hk' hn' hy'⟩
                · refine ⟨by decide, ?_⟩
                  rw [hops]
                  refine wpOp_at (o := ?oH2316) ?p0H2316 ?pwH2316 ?phH2316
                  case p0H2316 => exact rfl
                  case pwH2316 => exact rfl
                  case phH2316 =>
                  rw [ha, ha0]
                  go_simp
                  exact ⟨HSS.out _ hk', H236 _ _ _ A5 A6 n5 c5 n6 c6 r rfl (by rw [ha0]; rfl) hr hk' hn' hy'⟩
              have H2 : ∀ (L : Array Bool) (a : Act) (w' : World) (A5 A6 : Option Addr) (n5 c5 n6 c6 : Nat) (r : Bool), L = #[true, true, true, true, true, true, true, true, true, true, true, true, true, false, false, false, false, false, false, false] → a = (a0.put (some 87) (Value.tuple #[.slice A5 n5 c5, .slice A6 n6 c6, .bool r])) → Hid (r = (mtch ks[k] ks2[k] fk).1) → Kp (Two (.slice A3 n3 c3) (.slice A4 n4 c4)) wr.drew w' → (∀ y, Two (.slice A5 n5 c5) (.slice A6 n6 c6) y → Two (.slice A3 n3 c3) (.slice A4 n4 c4) y ∨ wr.drew.heap.size ≤ y) → ((mtch ks[k] ks2[k] fk).1 = true → ∃ vs', RM B S (mtch ks[k] ks2[k] fk).2 (.slice A5 n5 c5) (.slice A6 n6 c6) vs' w') → W 6 L a w' := by
                intro L a w' A5 A6 n5 c5 n6 c6 r hL0 ha hr hk' hn' hy'
                subst hL0
                have hr0 : Region.ready .any ops #[true, true, true, true, true, true, true, true, true, true, true, true, true, false, false, false, false, false, false, false] = [13] := by rw [hops]; kernel_rfl
                refine hstep _ _ _ _ (by rw [hr0]; decide) fun i hi => ?_
                rw [hr0] at hi
                simp only [List.mem_cons, List.not_mem_nil, or_false] at hi
                rcases hi with rfl
                · refine ⟨by decide, ?_⟩
                  rw [hops]
                  refine wpOp_at (o := ?oH213) ?p0H213 ?pwH213 ?phH213
                  case p0H213 => exact rfl
                  case pwH213 => exact rfl
                  case phH213 =>
                  rw [ha, ha0]
                  go_simp
                  exact ⟨HSS.out _ hk', H23 _ _ _ A5 A6 n5 c5 n6 c6 r rfl (by rw [ha0]; rfl) hr hk' hn' hy'⟩
              have H0 : ∀ (L : Array Bool) (a : Act) (w' : World), L = #[true, true, true, true, true, true, true, true, true, true, true, true, false, false, false, false, false, false, false, false] → a = a0 → w' = wr.drew → W 7 L a w' := by
                intro L a w' hL0 ha hw'
                subst hL0
                have hr0 : Region.ready .any ops #[true, true, true, true, true, true, true, true, true, true, true, true, false, false, false, false, false, false, false, false] = [12] := by rw [hops]; kernel_rfl
                refine hstep _ _ _ _ (by rw [hr0]; decide) fun i hi => ?_
                rw [hr0] at hi
                simp only [List.mem_cons, List.not_mem_nil, or_false] at hi
                rcases hi with rfl
                · refine ⟨by decide, ?_⟩
                  rw [hops]
                  refine wpOp_at (o := ?oH012) ?p0H012 ?pwH012 ?phH012
                  case p0H012 => exact rfl
                  case pwH012 => exact rfl
                  case phH012 =>
                  subst hw'
                  rw [ha, ha0]
                  go_simp
                  refine CALL.out.mono ?_
                  rintro e w'' ⟨A5, A6, n5, c5, n6, c6, rfl, hk', hn', hy'⟩
                  exact ⟨HSS.out _ hk', H2 _ _ _ A5 A6 n5 c5 n6 c6 _ rfl (by rw [ha0]; rfl) (Lib.hid rfl) hk' hn' hy'⟩
              exact H0 _ _ _ (by rw [hops]; rfl) rfl rfl
            | false =>
              have hkd : decide ((k : Int) < (m : Int)) = true := by simp; omega
              have hres : RMRes B S (.mk n ks) (.mk n ks2) f (.slice NA nn NC) (.slice LA nn LC) w (.returned (.tuple #[.slice A3 n3 c3, .slice A4 n4 c4, .bool false])) wr :=
                ⟨A3, A4, n3, c3, n4, c4, by rw [HM2.out, HNO2.out rfl], (Kp.ofBelow hb3).trans HKR.out (fun _ _ h => h), fun y hy => (HNEW.out y hy).imp_right fun h => Nat.le_trans hb3.size h, fun h => by rw [HM2.out, HNO2.out rfl] at h; cases h⟩
              have HRES := Lib.hid hres
              clear hres
              go_wp2
              refine bodyPost_ret (v := .tuple #[.slice A3 n3 c3, .slice A4 n4 c4, .bool false]) (by simp [results, Tryd.results57, go_sem]) rfl HRES.out
          · have hkm : k = m := by omega
            have hkd : decide ((k : Int) < (m : Int)) = false := by simp; omega
            have hres : RMRes B S (.mk n ks) (.mk n ks2) f (.slice NA nn NC) (.slice LA nn LC) w (.returned (.tuple #[.slice A3 n3 c3, .slice A4 n4 c4, .bool ok])) wr := by
              have hd1 : ks.drop k = [] := List.drop_eq_nil_of_le (by rw [← HM.out]; omega)
              have hkey : (mtchL ks ks2 f).1 = ok := by
                cases ok with
                | false => exact HNO2.out rfl
                | true =>
                  obtain ⟨fk, vsk, _, hmk, _⟩ := HYES.out rfl
                  rw [← hmk, hd1, mtchL]
              refine ⟨A3, A4, n3, c3, n4, c4, by rw [HM2.out, hkey], (Kp.ofBelow hb3).trans HKR.out (fun _ _ h => h), fun y hy => (HNEW.out y hy).imp_right fun h => Nat.le_trans hb3.size h, fun h => ?_⟩
              rw [HM2.out, hkey] at h
              obtain ⟨fk, vsk, hrk, hmk, _⟩ := HYES.out h
              refine ⟨vsk, ?_⟩
              rw [HM2.out, ← hmk, hd1, mtchL]
              exact hrk
            have HRES := Lib.hid hres
            have HKM := Lib.hid hkm
            clear hres hkm
            go_wp2
            refine bodyPost_ret (v := .tuple #[.slice A3 n3 c3, .slice A4 n4 c4, .bool ok]) (by simp [results, Tryd.results57, go_sem]) rfl HRES.out
      · have hbl : ((m : Int) != (m' : Int)) = true := by rw [bne_iff_ne]; omega
        have hm2 : (mtch (.mk n ks) (.mk n ks2) f).1 = false := by rw [mtch_bad (t := .mk n ks2) HPF.out (fun h => hmm (by rw [HM.out, HM'.out]; exact h.2))]
        have hres := BACKN.out w1 (Below.refl _ _) hm2
        have HRES := Lib.hid hres
        clear hm2 hres hmm
        go_wp2
        refine bodyPost_ret (v := .tuple #[.slice none 0 0, .slice none 0 0, .bool false]) (by simp [results, Tryd.results57, go_sem]) rfl HRES.out
    · have hbe := bytesNe hnm
      have hbn : ((bs n).toList != (bs n2).toList) = true := by
        rw [bne, hbe]
        rfl
      have hm2 : (mtch (.mk n ks) (.mk n2 ks2) f).1 = false := by rw [mtch_bad (t := .mk n2 ks2) HPF.out (fun h => hnm h.1)]
      have hres := BACKN.out w1 (Below.refl _ _) hm2
      have HRES := Lib.hid hres
      clear hm2 hres hnm
      go_wp2
      refine bodyPost_ret (v := .tuple #[.slice none 0 0, .slice none 0 0, .bool false]) (by simp [results, Tryd.results57, go_sem]) rfl HRES.out
end
end Go.Proofs.YtndhglcdkegigaaDoor
