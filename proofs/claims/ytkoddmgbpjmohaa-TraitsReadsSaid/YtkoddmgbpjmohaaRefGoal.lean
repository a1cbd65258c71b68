/-
  The walk of recompileref12.ReadGoal.
  Conditions: the text is at most 20000 bytes long.
-/
import Derived.Test.YtkoddmgbpjmohaaRefParse
import Derived.Test.YtkoddmgbpjmohaaGoalT
namespace Go.Proofs.Ytkoddmgbpjmohaa
open Go.RowKit

theorem frc_mem (c : UInt8) : ∀ (s : List UInt8) (x : UInt8), x ∈ frc c s → x ≠ c
  | [], x, h => by simp [frc] at h
  | y :: s, x, h => by
    by_cases hy : y = c
    · subst hy
      rw [frc_eq] at h
      cases h
    · rw [frc_cons c y s hy] at h
      rcases List.mem_cons.1 h with rfl | h
      · exact hy
      · exact frc_mem c s x h
theorem frc_at {c : UInt8} {s : List UInt8} {e : Nat} (h : e < (frc c s).length) : ∃ x, s[e]? = some x ∧ x ≠ c := by
  have hm : (frc c s)[e] ∈ frc c s := List.getElem_mem h
  refine ⟨(frc c s)[e], ?_, ?_⟩
  · conv => lhs; rw [← fr_bk c s]
    rw [List.getElem?_append_left h, List.getElem?_eq_getElem h]
  · exact frc_mem c s _ hm
theorem bkc_at {c x : UInt8} {s r : List UInt8} (h : bkc c s = x :: r) : s[(frc c s).length]? = some c ∧ (bs s).extract ((frc c s).length + 1) s.length = bs r ∧ (bs s).extract 0 (frc c s).length = bs (frc c s) ∧ (frc c s).length + 1 + r.length = s.length := by
  have hx := bkc_head c s r x h
  subst hx
  have e := fr_bk x s
  rw [h] at e
  generalize frc x s = p at e
  subst e
  refine ⟨by simp, ?_, extract_front p (x :: r), by simp; omega⟩
  have := extract_back (p ++ [x]) r
  rw [bs_size] at this
  simpa using this

set_option maxHeartbeats 8000000 in
set_option maxRecDepth 100000 in
theorem refReadGoal_any (s : List UInt8) (w : World) (hs : s.length ≤ 20000) : Calls Try.prog 6 #[.string (bs s)] w (GRes (goalOf s) w) := by
  have hbz := bs_size s
  have hbl := bkc_len 32 s
  obtain ⟨k, hk⟩ : ∃ k, k = (frc 32 s).length := ⟨_, rfl⟩
  have hfb := congrArg List.length (fr_bk 32 s)
  rw [List.length_append, ← hk] at hfb
  have HFREE : Hid (∀ e, e < k → ∃ x, s[e]? = some x ∧ x ≠ 32) := Lib.hid fun e he => frc_at (by rw [← hk]; exact he)
  have hZ := alloc1 w (.cells #[.string ⟨#[]⟩, .string ⟨#[]⟩, .slice none 0 0] 28)
  have hsZ : (w.alloc (.cells #[.string ⟨#[]⟩, .string ⟨#[]⟩, .slice none 0 0] 28)).heap.size = w.heap.size + 1 := by simp
  have hba : Below w.heap.size w (w.alloc (.cells #[.string ⟨#[]⟩, .string ⟨#[]⟩, .slice none 0 0] 28)) := (Below.refl _ _).alloc (Nat.le_refl _) _
  have HK := Lib.hid hk
  clear hk
  go_enter Try.func6, Try.ntmps6
  go_wp2_with fail
  go_loopg [4] k (fun g i wx => ∃ e : Nat, e + g = k ∧ i = .int .i64 (e : Int) ∧ wx = (w.alloc (.cells #[.string ⟨#[]⟩, .string ⟨#[]⟩, .slice none 0 0] 28)))
  case atStart => exact ⟨0, by omega, rfl, rfl⟩
  case round =>
    obtain ⟨e, heg, rfl, rfl⟩ := hrel
    by_cases hek : e < k
    · obtain ⟨c, hc, hsc⟩ := HFREE.out e hek
      obtain ⟨he, hce⟩ := bs_at hc
      have b1 : ((((bs s)[e]'he).toNat : Int) == 32) = false := by
        rw [hce, beq_eq_false_iff_ne]
        intro h
        exact hsc (UInt8.toNat_inj.1 (by simp; omega))
      have hel : (e : Int) < ((bs s).size : Int) := by omega
      clear hc hsc hce
      go_wp2
      go_roundg (gk - 1)
      case measure => omega
      case rel => exact ⟨e + 1, by omega, by go_num, rfl⟩
    · obtain rfl : e = k := by omega
      clear heg hek
      rcases hb : bkc 32 s with _ | ⟨x, r⟩
      · have hg : goalOf s = none := by rw [goalOf, hb]
        have HG := Lib.hid hg
        have hlt : ¬ ((e : Int) < ((bs s).size : Int)) := by rw [hb] at hfb; simp at hfb; omega
        have HBA := Lib.hid hba
        have hZ2 := hZ
        clear hg hb hfb hba hbl
        clear hZ hZ2
        go_wp2
        refine bodyPost_ret (v := .tuple #[.agg #[sv [], sv [], .slice none 0 0], .bool false]) (by simp [results, Try.results6, go_sem]; rfl) rfl ?_
        rw [HG.out]
        exact ⟨rfl, HBA.out⟩
      · obtain ⟨hc0, hc1, hc2, hc3⟩ := bkc_at hb
        rw [← HK.out] at hc0 hc1 hc2 hc3
        obtain ⟨he, hce⟩ := bs_at hc0
        have b1 : ((((bs s)[e]'he).toNat : Int) == 32) = true := by rw [hce]; rfl
        have hel : (e : Int) < ((bs s).size : Int) := by omega
        have hel1 : (e : Int) + 1 ≤ ((bs s).size : Int) := by omega
        rw [hb] at hbl
        have HC1 := Lib.hid hc1
        have HC2 := Lib.hid hc2
        clear hc0 hc1 hc2 hce hfb
        rcases hp : parse r with _ | t
        · have hg : goalOf s = none := by
            rw [goalOf, hb]
            simp only [hp]
          have HP := Lib.hid hp
          have HG := Lib.hid hg
          clear hb hp hg
          go_wp2_with fail
          rw [HC1.out]
          refine (refParse_any r _ (by simp at hbl ⊢; omega)).mono ?_
          rw [HP.out]
          rintro e2 w2 ⟨rfl, hb2⟩
          have HB2 := Lib.hid (hba.trans (hb2.mono (by omega)))
          have hZ2 := (hb2.block _ (by omega)).trans hZ
          have hz2 := lt_of_heap hZ2
          have y0 : w2.frozen? ⟨w.heap.size, 0, none⟩ = false := Lib.frozen_of_heap hZ2 0
          have z0 : w2.cell? ⟨w.heap.size, 0, none⟩ = some (.string ⟨#[]⟩) := (Lib.cell_of_heap hZ2 _).trans rfl
          have y1 : w2.frozen? ⟨w.heap.size, 1, none⟩ = false := Lib.frozen_of_heap hZ2 1
          have z1 : w2.cell? ⟨w.heap.size, 1, none⟩ = some (.string ⟨#[]⟩) := (Lib.cell_of_heap hZ2 _).trans rfl
          have y2 : w2.frozen? ⟨w.heap.size, 2, none⟩ = false := Lib.frozen_of_heap hZ2 2
          have z2 : w2.cell? ⟨w.heap.size, 2, none⟩ = some (.slice none 0 0) := (Lib.cell_of_heap hZ2 _).trans rfl
          have C0 : Hid (∀ x y z : Value, (((w2.setCell ⟨w.heap.size, 0, none⟩ x).setCell ⟨w.heap.size, 1, none⟩ y).setCell ⟨w.heap.size, 2, none⟩ z).cell? ⟨w.heap.size, 0, none⟩ = some x) := Lib.hid fun x y z => (Lib.cell_of_heap (setCell_heap (setCell_heap (setCell_heap hZ2))) _).trans rfl
          have C1 : Hid (∀ x y z : Value, (((w2.setCell ⟨w.heap.size, 0, none⟩ x).setCell ⟨w.heap.size, 1, none⟩ y).setCell ⟨w.heap.size, 2, none⟩ z).cell? ⟨w.heap.size, 1, none⟩ = some y) := Lib.hid fun x y z => (Lib.cell_of_heap (setCell_heap (setCell_heap (setCell_heap hZ2))) _).trans rfl
          have C2 : Hid (∀ x y z : Value, (((w2.setCell ⟨w.heap.size, 0, none⟩ x).setCell ⟨w.heap.size, 1, none⟩ y).setCell ⟨w.heap.size, 2, none⟩ z).cell? ⟨w.heap.size, 2, none⟩ = some z) := Lib.hid fun x y z => (Lib.cell_of_heap (setCell_heap (setCell_heap (setCell_heap hZ2))) _).trans rfl
          clear hb2 hZ2
          go_wp2
          refine bodyPost_ret (v := .tuple #[.agg #[sv [], sv [], .slice none 0 0], .bool false]) (by simp [results, Try.results6, go_sem, C0.out, C1.out, C2.out, hz2]; rfl) rfl ?_
          rw [HG.out]
          exact ⟨rfl, (((HB2.out.setCell (by simp) _).setCell (by simp) _).setCell (by simp) _).alloc (by simp; omega) _⟩
        · by_cases hf : frc 32 s = []
          · have hg : goalOf s = none := by
              rw [goalOf, hb]
              simp only [hp, hf, if_true]
            have h0 : ((e : Int) == 0) = true := by
              have := HK.out
              rw [hf] at this
              simp at this
              simp [this]
            have HP := Lib.hid hp
            have HG := Lib.hid hg
            clear hb hp hg hf
            go_wp2_with fail
            rw [HC1.out]
            refine (refParse_any r _ (by simp at hbl ⊢; omega)).mono ?_
            rw [HP.out]
            rintro e2 w2 ⟨u, v, rfl, hT, hb2⟩
            obtain ⟨un, va, rfl, rfl⟩ := hT.shape
            have HT := Lib.hid hT
            clear hT
            have HB2 := Lib.hid (hba.trans (hb2.mono (by omega)))
            have hZ2 := (hb2.block _ (by omega)).trans hZ
            have hz2 := lt_of_heap hZ2
            have y0 : w2.frozen? ⟨w.heap.size, 0, none⟩ = false := Lib.frozen_of_heap hZ2 0
            have z0 : w2.cell? ⟨w.heap.size, 0, none⟩ = some (.string ⟨#[]⟩) := (Lib.cell_of_heap hZ2 _).trans rfl
            have y1 : w2.frozen? ⟨w.heap.size, 1, none⟩ = false := Lib.frozen_of_heap hZ2 1
            have z1 : w2.cell? ⟨w.heap.size, 1, none⟩ = some (.string ⟨#[]⟩) := (Lib.cell_of_heap hZ2 _).trans rfl
            have y2 : w2.frozen? ⟨w.heap.size, 2, none⟩ = false := Lib.frozen_of_heap hZ2 2
            have z2 : w2.cell? ⟨w.heap.size, 2, none⟩ = some (.slice none 0 0) := (Lib.cell_of_heap hZ2 _).trans rfl
            have C0 : Hid (∀ x y z : Value, (((w2.setCell ⟨w.heap.size, 0, none⟩ x).setCell ⟨w.heap.size, 1, none⟩ y).setCell ⟨w.heap.size, 2, none⟩ z).cell? ⟨w.heap.size, 0, none⟩ = some x) := Lib.hid fun x y z => (Lib.cell_of_heap (setCell_heap (setCell_heap (setCell_heap hZ2))) _).trans rfl
            have C1 : Hid (∀ x y z : Value, (((w2.setCell ⟨w.heap.size, 0, none⟩ x).setCell ⟨w.heap.size, 1, none⟩ y).setCell ⟨w.heap.size, 2, none⟩ z).cell? ⟨w.heap.size, 1, none⟩ = some y) := Lib.hid fun x y z => (Lib.cell_of_heap (setCell_heap (setCell_heap (setCell_heap hZ2))) _).trans rfl
            have C2 : Hid (∀ x y z : Value, (((w2.setCell ⟨w.heap.size, 0, none⟩ x).setCell ⟨w.heap.size, 1, none⟩ y).setCell ⟨w.heap.size, 2, none⟩ z).cell? ⟨w.heap.size, 2, none⟩ = some z) := Lib.hid fun x y z => (Lib.cell_of_heap (setCell_heap (setCell_heap (setCell_heap hZ2))) _).trans rfl
            clear hb2 hZ2
            go_wp2
            refine bodyPost_ret (v := .tuple #[.agg #[sv [], sv [], .slice none 0 0], .bool false]) (by simp [results, Try.results6, go_sem, C0.out, C1.out, C2.out, hz2]; rfl) rfl ?_
            rw [HG.out]
            exact ⟨rfl, (((HB2.out.setCell (by simp) _).setCell (by simp) _).setCell (by simp) _).alloc (by simp; omega) _⟩
          · have hg : goalOf s = some (frc 32 s, t) := by
              rw [goalOf, hb]
              simp only [hp, hf, if_false]
            have h0 : ((e : Int) == 0) = false := by
              have : e ≠ 0 := fun h => hf (List.eq_nil_of_length_eq_zero (by rw [← HK.out]; exact h))
              simp
              omega
            have HP := Lib.hid hp
            have HG := Lib.hid hg
            clear hb hp hg hf
            go_wp2_with fail
            rw [HC1.out]
            refine (refParse_any r _ (by simp at hbl ⊢; omega)).mono ?_
            rw [HP.out]
            rintro e2 w2 ⟨u, v, rfl, hT, hb2⟩
            obtain ⟨un, va, rfl, rfl⟩ := hT.shape
            have HT := Lib.hid hT
            clear hT
            have HB2 := Lib.hid (hba.trans (hb2.mono (by omega)))
            have hZ2 := (hb2.block _ (by omega)).trans hZ
            have hz2 := lt_of_heap hZ2
            have y0 : w2.frozen? ⟨w.heap.size, 0, none⟩ = false := Lib.frozen_of_heap hZ2 0
            have z0 : w2.cell? ⟨w.heap.size, 0, none⟩ = some (.string ⟨#[]⟩) := (Lib.cell_of_heap hZ2 _).trans rfl
            have y1 : w2.frozen? ⟨w.heap.size, 1, none⟩ = false := Lib.frozen_of_heap hZ2 1
            have z1 : w2.cell? ⟨w.heap.size, 1, none⟩ = some (.string ⟨#[]⟩) := (Lib.cell_of_heap hZ2 _).trans rfl
            have y2 : w2.frozen? ⟨w.heap.size, 2, none⟩ = false := Lib.frozen_of_heap hZ2 2
            have z2 : w2.cell? ⟨w.heap.size, 2, none⟩ = some (.slice none 0 0) := (Lib.cell_of_heap hZ2 _).trans rfl
            have C0 : Hid (∀ x y z : Value, (((w2.setCell ⟨w.heap.size, 0, none⟩ x).setCell ⟨w.heap.size, 1, none⟩ y).setCell ⟨w.heap.size, 2, none⟩ z).cell? ⟨w.heap.size, 0, none⟩ = some x) := Lib.hid fun x y z => (Lib.cell_of_heap (setCell_heap (setCell_heap (setCell_heap hZ2))) _).trans rfl
            have C1 : Hid (∀ x y z : Value, (((w2.setCell ⟨w.heap.size, 0, none⟩ x).setCell ⟨w.heap.size, 1, none⟩ y).setCell ⟨w.heap.size, 2, none⟩ z).cell? ⟨w.heap.size, 1, none⟩ = some y) := Lib.hid fun x y z => (Lib.cell_of_heap (setCell_heap (setCell_heap (setCell_heap hZ2))) _).trans rfl
            have C2 : Hid (∀ x y z : Value, (((w2.setCell ⟨w.heap.size, 0, none⟩ x).setCell ⟨w.heap.size, 1, none⟩ y).setCell ⟨w.heap.size, 2, none⟩ z).cell? ⟨w.heap.size, 2, none⟩ = some z) := Lib.hid fun x y z => (Lib.cell_of_heap (setCell_heap (setCell_heap (setCell_heap hZ2))) _).trans rfl
            clear hb2 hZ2
            go_wp2_with fail
            have hes : e ≤ s.length := by omega
            refine wp_region_held' (fun w' => w'.cell? ⟨w2.heap.size, 0, none⟩ = some (sv un) ∧ w'.cell? ⟨w2.heap.size, 1, none⟩ = some (.slice va.1 va.2.1 va.2.2)) [] [0, 1, 2, 3, 4] [] [5, 6] (by kernel_rfl) (by kernel_rfl) ?s0 ?h0
            case s0 =>
              have := alloc1 w2 (.cells #[sv un, .slice va.1 va.2.1 va.2.2] 26)
              exact ⟨(Lib.cell_of_heap this _).trans rfl, (Lib.cell_of_heap this _).trans rfl⟩
            case h0 =>
              simp only [opsAt, List.filterMap_cons, List.filterMap_nil, List.getElem?_toArray, List.getElem?_cons_succ, List.getElem?_cons_zero]
              refine wpFloat_nil ?_
              refine wpLoad_step ?v0 rfl (fun w' hS => ?y0) ?k0
              case y0 =>
                obtain ⟨h1, h2⟩ := hS
                go_simp
                try rfl
              case k0 =>
              go_simp
              refine wpLoad_step ?v1 rfl (fun w' hS => ?y1) ?k1
              case y1 =>
                obtain ⟨h1, h2⟩ := hS
                go_simp
                try rfl
              case k1 =>
              go_simp
              refine wpLoad_step (sv (frc 32 s)) rfl (fun w' hS => ?y2) ?k2
              case y2 =>
                obtain ⟨h1, h2⟩ := hS
                go_simp
                exact HC2.out
              case k2 =>
              go_simp
              refine wpLoad_step ?v3 rfl (fun w' hS => ?y3) ?k3
              case y3 =>
                obtain ⟨h1, h2⟩ := hS
                go_simp
                try rfl
              case k3 =>
              go_simp
              refine wpLoad_step ?v4 rfl (fun w' hS => ?y4) ?k4
              case y4 =>
                obtain ⟨h1, h2⟩ := hS
                go_simp
                try rfl
              case k4 =>
              go_simp
              refine wpLoad_nil ?_
              refine wpKeep_nil ?_
              go_wp2
              refine NoPanic.normal ?_
              go_wp2
              refine bodyPost_ret (v := .tuple #[.agg #[sv (frc 32 s), sv un, .slice va.1 va.2.1 va.2.2], .bool true]) (by simp [results, Try.results6, go_sem, C0.out, C1.out, C2.out, hz2]) rfl ?_
              rw [HG.out]
              refine ⟨(sv (frc 32 s), sv un, .slice va.1 va.2.1 va.2.2), rfl, ⟨rfl, ?_⟩, ((((HB2.out.setCell (by simp) _).setCell (by simp) _).setCell (by simp) _).alloc (by simp; omega) _).drew⟩
              refine (HT.out.keep ?_).more fun x hx => ⟨by have := hx.1; simp at this; omega, by have := hx.2; simp; omega⟩
              have hks : ∀ (W : World) (i : Nat) (v : Value), W.heap.size = w2.heap.size → Kept (Fr (w.alloc (.cells #[.string ⟨#[]⟩, .string ⟨#[]⟩, .slice none 0 0] 28)).heap.size w2.heap.size) W (W.setCell ⟨w.heap.size, i, none⟩ v) := fun W i v hW => keptGrown (row := some w.heap.size) grownSet fun x hx => ⟨by rw [hW]; exact hx.2, fun e => by injection e; have := hx.1; simp at this; omega⟩
              exact Kept.trans (Kept.trans (Kept.trans (Kept.trans (hks _ _ _ rfl) (hks _ _ _ (sizeSet _ _ _))) (hks _ _ _ (by rw [sizeSet, sizeSet]))) (keptGrown (World.grownBy_alloc _ _ none) fun x hx => ⟨by rw [sizeSet, sizeSet, sizeSet]; exact hx.2, by simp⟩)) (fun _ _ => rfl)
end Go.Proofs.Ytkoddmgbpjmohaa
