/-
  The walk of traits.open: a type with variables in the place of its parameters.
  Conditions: the type has at most 40 nodes, the numbers are below 100.
-/
import Derived.Test.YtllodnlkphapgaaDoorPutPl
import Derived.Test.YtllodnlkphapgaaDoorTwoP
import Derived.Test.YtllodnlkphapgaaDoorSv
namespace Go.Proofs.YtllodnlkphapgaaDoor
open Go.RowKit

theorem vname_bs (l : List UInt8) : (⟨#[63]⟩ : ByteArray) ++ bs l = bs (63 :: l) := by
  unfold bs
  apply ByteArray.ext
  simp
theorem own_shape {w : World} {base : Nat} {e : TypeId} {size n : Nat} {v : Value} {xs : List Value} (h : w.ownsRow base e size v n xs) : ∃ (A : Option Addr) (c : Nat), v = .slice A n c ∧ n ≤ c ∧ c ≤ maxLen := by
  rcases h.2 with ⟨hv, h0⟩ | ⟨g, cap, cur, hv, _, _, h1, h2, _⟩
  · exact ⟨none, 0, by rw [hv, h0], by omega, Nat.zero_le _⟩
  · exact ⟨_, cap, hv, h1, h2⟩
/-- The values of variables, from a number on. -/
def varVs (k n : Nat) : List (Value × Value) := (List.range n).map fun i => (sv (vname (k + i)), .slice none 0 0)
theorem varVs_snoc (k n : Nat) : varVs k (n + 1) = varVs k n ++ [(sv (vname (k + n)), .slice none 0 0)] := by simp [varVs, List.range_succ]
theorem tyV_in {w : World} {S : Nat → Prop} (n : Nat) (h : n < 100) : TyIs w S (tyV n) (sv (vname n)) (.slice none 0 0) := by
  refine (Tys.nil w _ none).close ?_ (Nat.zero_le _) ⟨Nat.le_refl _, Nat.zero_le _⟩
  have := dec_len h
  simp only [vname, List.length_cons]
  omega
theorem varTys {w : World} {base k n c : Nat} {A : Option Addr} (h : w.ownsRow base 31 2 (.slice A n c) n (flat2 (varVs k n))) (hk : k + n ≤ 100) : Tys w (Lt w.heap.size) A ((List.range n).map fun i => tyV (k + i)) (varVs k n) := by
  refine ⟨by simp [varVs], Row.ofOwn h fun g _ _ h2 => h2, fun i t p ht hp => ?_⟩
  unfold varVs at hp
  rw [List.getElem?_map] at ht hp
  cases hr : (List.range n)[i]? with
  | none => rw [hr] at ht; cases ht
  | some j =>
    have hj : j < n := List.mem_range.1 (List.mem_of_getElem? hr)
    rw [hr] at ht hp
    obtain rfl := Option.some.inj ht
    obtain rfl := Option.some.inj hp
    exact tyV_in (k + j) (by omega)

def OpnRes (p : Ty) (k : Nat) (w : World) (e : Ending) (w' : World) : Prop :=
  ∃ u v, e = .returned (.tuple #[.agg #[u, v], .int .i64 ((k + (nms p []).length : Nat) : Int)]) ∧ TyIs w' (FrP w' w.heap.size) (opn p k) u v ∧ Below w.heap.size w w'

set_option maxHeartbeats 8000000 in
set_option maxRecDepth 100000 in
theorem open_any (p : Ty) (k : Nat) (u v : Value) (w : World) (hp : TyIs w (Lt w.heap.size) p u v) (hsz : p.size ≤ 40) (hk : k ≤ 40) :
    Calls Tryd.prog 21 #[.agg #[u, v], .int .i64 (k : Int)] w (OpnRes p k w) := by
  obtain ⟨u, v, rfl, rfl⟩ := hp.shape
  obtain ⟨hm1, hm2⟩ := mtch_self p
  have hnl := nms_len p []
  simp only [List.length_nil, Nat.zero_add] at hnl
  obtain ⟨n, hn⟩ : ∃ n, n = (nms p []).length := ⟨_, rfl⟩
  obtain ⟨ns, hns⟩ : ∃ ns, ns = nms p [] := ⟨_, rfl⟩
  have hop : opn p k = putN ns ((List.range n).map fun i => tyV (k + i)) p := by rw [opn, hns, hn]
  have HOP := Lib.hid hop
  unfold OpnRes
  rw [← hn] at hnl ⊢
  rw [← hns] at hn hm2
  have HN := Lib.hid hn
  have hb2 : Below w.heap.size w ((w.alloc (.cells #[sv u, .slice v.1 v.2.1 v.2.2] 31)).alloc (.cells #[.string ⟨#[]⟩, .slice none 0 0] 31)) := ((Below.refl _ _).alloc (Nat.le_refl _) _).alloc (by simp) _
  have hq := alloc2 w (.cells #[sv u, .slice v.1 v.2.1 v.2.2] 31) (.cells #[.string ⟨#[]⟩, .slice none 0 0] 31)
  have hs2 : ((w.alloc (.cells #[sv u, .slice v.1 v.2.1 v.2.2] 31)).alloc (.cells #[.string ⟨#[]⟩, .slice none 0 0] 31)).heap.size = w.heap.size + 2 := by simp
  have HMT := Lib.hid (matchTop p p _ _ _ _ _ (hp.now (Nat.le_refl _) hb2) (hp.now (Nat.le_refl _) hb2) (by omega))
  have HP := Lib.hid hp
  have HB2 := Lib.hid hb2
  have HQ := Lib.hid hq
  have HS2 := Lib.hid hs2
  have HM1 := Lib.hid hm1
  have HM2 := Lib.hid hm2
  obtain ⟨i0, hi, hz0, hz1, hz2⟩ := info_parts infoT
  clear hn hns hop hm1 hm2 hp hb2 hq hs2
  go_enter Tryd.func21, Tryd.ntmps21
  go_wp2_with fail
  refine HMT.out.mono ?_
  intro e w1 hres
  rw [if_pos HM1.out] at hres
  obtain ⟨NA, LA, nn, nc, ln, lc, lvs, rfl, hnn, hln, hNA, _, hb1⟩ := hres
  rw [HM2.out] at hnn hNA
  obtain rfl : nn = n := by rw [hnn, HN.out]
  have hq1 := (hb1.block w.heap.size (by rw [HS2.out]; omega)).trans HQ.out.1
  have hq2 := (hb1.block (w.heap.size + 1) (by rw [HS2.out]; omega)).trans HQ.out.2
  have hb3 := HB2.out.trans (hb1.mono (by rw [HS2.out]; omega))
  have hsz1 : w.heap.size + 1 < w1.heap.size := lt_of_heap hq2
  have HQ1 := Lib.hid hq1
  have HQ2 := Lib.hid hq2
  have HB3 := Lib.hid hb3
  have HNA := Lib.hid (hNA.more (S' := Lt w1.heap.size) fun y hy => hy.2)
  have hszw := hb3.size
  clear hq1 hq2 hb3 hnn hln hNA hb1 HMT
  go_wp2_with fail
  go_loopw [9, 20] (fun lv iv wr => ∃ i : Nat, i ≤ nn ∧ iv = .int .i64 (i : Int) ∧ wr.ownsRow w1.heap.size 31 2 lv i (flat2 (varVs k i)) ∧ Below w1.heap.size w1 wr) (fun _ iv _ => nn - (intOf iv).toNat)
  case atStart => exact ⟨0, Nat.zero_le _, rfl, World.ownsRow_nil _ _ _ _, Below.refl _ _⟩
  case round =>
    obtain ⟨i, hin, rfl, hown, hb⟩ := hrel
    obtain ⟨OA, oc, rfl, ho1, ho2⟩ := own_shape hown
    have HOWN := Lib.hid hown
    have HB := Lib.hid hb
    have hszr := hb.size
    by_cases hlt : i < nn
    · have hki : k + i < 100 := by omega
      have hIT : Calls Tryd.prog 31 #[.int .i64 ((k + i : Nat) : Int)] wr fun e w' => e = .returned (.string (bs (Lib.decDigits (k + i)))) ∧ w' = wr := Tryd.strconv_Itoa_small (k + i) hki wr
      rw [show (((k + i : Nat) : Nat) : Int) = (k : Int) + (i : Int) by omega] at hIT
      have HIT := Lib.hid hIT
      have hdl : (bs (Lib.decDigits (k + i))).size ≤ 100 := by rw [bs_size]; have := dec_len hki; omega
      have hvn : (⟨#[63]⟩ : ByteArray) ++ bs (Lib.decDigits (k + i)) = bs (vname (k + i)) := vname_bs _
      clear hIT hb
      go_wp2_with fail
      refine HIT.out.mono ?_
      rintro e w2 ⟨rfl, rfl⟩
      go_wp2_with (at_builtin; refine wpList_append_lies _ rfl _ _ 29 rfl w1.heap.size 31 i0 _ 2 40 Tryd.underlying29 hi hz0 hz1 hz2 rfl (by omega) _ i (flat2 (varVs k i)) rfl (hown.alloc _) ⟨w2.heap.size, 0, none⟩ 1 1 [sv (vname (k + i)), .slice none 0 0] rfl rfl ?d1 ?d2 (by omega) ?d3 ?d4 ?d5 _ rfl ?_)
      case d1 => exact World.news_of_block (cs := #[sv (vname (k + i)), .slice none 0 0]) (alloc1 w2 _)
      case d2 => simp [Value.oneCell']
      case d3 => unfold maxLen; omega
      case d4 => omega
      case d5 => simp; omega
      intro g cap w3 hown3 hgrow hat _
      have hb3 : Below w1.heap.size w1 w3 := (HB.out.alloc hszr _).grown hgrow (by simp; omega) (fun x e => (hown.lt _ e).1)
      have HB3' := Lib.hid hb3
      have HO3 : Hid (w3.ownsRow w1.heap.size 31 2 (.slice (some ⟨g, 0, none⟩) (i + 1) cap) (i + 1) (flat2 (varVs k (i + 1)))) := Lib.hid (by rw [varVs_snoc, flat2_append]; exact hown3)
      clear hown3 hgrow hat hb3 hown
      go_wp2
      go_roundw
      case rel => exact ⟨i + 1, by omega, by go_num, HO3.out, HB3'.out⟩
      case measure => simp [intOf]; omega
    · obtain rfl : i = nn := by omega
      have hq1 := (hb.block w.heap.size (by omega)).trans HQ1.out
      have hq2 := (hb.block (w.heap.size + 1) (by omega)).trans HQ2.out
      have c0 : wr.cell? ⟨w.heap.size, 0, none⟩ = some (sv u) := (Lib.cell_of_heap hq1 _).trans rfl
      have c1 : wr.cell? ⟨w.heap.size, 1, none⟩ = some (.slice v.1 v.2.1 v.2.2) := (Lib.cell_of_heap hq1 _).trans rfl
      have hbw := HB3.out.trans (hb.mono HB3.out.size)
      have hlsl : ((List.range i).map fun j => tyV (k + j)).length = i := by simp
      have hpu := putPl_any ns ((List.range i).map fun j => tyV (k + j)) (by rw [← HN.out]; omega) (fun a ha => by
        obtain ⟨j, _, rfl⟩ := List.mem_map.1 ha
        rfl) p _ _ NA OA nc oc _ wr (HP.out.now (Nat.le_refl _) hbw) ((HNA.out.keep (kept_below hb)).more fun y hy => Nat.lt_of_lt_of_le hy hb.size) (varTys hown (by omega))
      rw [hlsl, ← HN.out, ← HOP.out] at hpu
      have HPU := Lib.hid hpu
      have HBW := Lib.hid hbw
      have HQ2' := Lib.hid hq2
      clear hq1 hq2 hbw hlsl hpu hown hb
      go_wp2_with fail
      refine HPU.out.mono ?_
      rintro e w4 ⟨u4, v4, rfl, hT4, hb4⟩
      obtain ⟨u4, v4, rfl, rfl⟩ := hT4.shape
      have hr := (hb4.block (w.heap.size + 1) (by have := lt_of_heap HQ2'.out; omega)).trans HQ2'.out
      have r0 : w4.cell? ⟨w.heap.size + 1, 0, none⟩ = some (.string ⟨#[]⟩) := (Lib.cell_of_heap hr _).trans rfl
      have r1 : w4.cell? ⟨w.heap.size + 1, 1, none⟩ = some (.slice none 0 0) := (Lib.cell_of_heap hr _).trans rfl
      have g0 : w4.frozen? ⟨w.heap.size + 1, 0, none⟩ = false := Lib.frozen_of_heap hr 0
      have g1 : w4.frozen? ⟨w.heap.size + 1, 1, none⟩ = false := Lib.frozen_of_heap hr 1
      have hR2 : ((w4.setCell ⟨w.heap.size + 1, 0, none⟩ (sv u4)).setCell ⟨w.heap.size + 1, 1, none⟩ (.slice v4.1 v4.2.1 v4.2.2)).heap[w.heap.size + 1]? = some (.cells #[sv u4, .slice v4.1 v4.2.1 v4.2.2] 31 (0, 0)) := setCell_heap (setCell_heap hr)
      have q0 := (Lib.cell_of_heap hR2 0).trans rfl
      have q1 := (Lib.cell_of_heap hR2 1).trans rfl
      have hb5 : Below w.heap.size w ((w4.setCell ⟨w.heap.size + 1, 0, none⟩ (sv u4)).setCell ⟨w.heap.size + 1, 1, none⟩ (.slice v4.1 v4.2.1 v4.2.2)) := ((HBW.out.trans (hb4.mono HBW.out.size)).setCell (by simp) _).setCell (by simp) _
      have HB5 := Lib.hid hb5
      have HT5 : Hid (TyIs ((w4.setCell ⟨w.heap.size + 1, 0, none⟩ (sv u4)).setCell ⟨w.heap.size + 1, 1, none⟩ (.slice v4.1 v4.2.1 v4.2.2)) (FrP ((w4.setCell ⟨w.heap.size + 1, 0, none⟩ (sv u4)).setCell ⟨w.heap.size + 1, 1, none⟩ (.slice v4.1 v4.2.1 v4.2.2)) w.heap.size) (opn p k) (sv u4) (.slice v4.1 v4.2.1 v4.2.2)) := Lib.hid (by
        refine (hT4.keep (Kept.trans (keptGrown (row := some (w.heap.size + 1)) grownSet fun x hx => ⟨hx.2.1, ?_⟩) (keptGrown (row := some (w.heap.size + 1)) grownSet fun x hx => ⟨by rw [sizeSet]; exact hx.2.1, ?_⟩))).more fun x hx => ⟨?_, ?_, plain_set (plain_set hx.2.2)⟩
        · intro e; injection e with e; have := hx.1; omega
        · intro e; injection e with e; have := hx.1; omega
        · have := hx.1; omega
        · rw [sizeSet, sizeSet]; exact hx.2.1)
      clear hT4 hb4 hr hR2 hb5
      go_wp2_with fail
      refine bodyPost_ret (v := .tuple #[.agg #[sv u4, .slice v4.1 v4.2.1 v4.2.2], .int .i64 ((k + i : Nat) : Int)]) ?_ rfl ?_
      · simp [results, Tryd.results21, go_sem, q0, q1]
      · exact ⟨_, _, rfl, HT5.out, HB5.out⟩
end Go.Proofs.YtllodnlkphapgaaDoor
