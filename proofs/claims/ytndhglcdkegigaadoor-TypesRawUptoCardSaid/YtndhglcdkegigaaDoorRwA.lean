/-
  The walks of recompilelaw09.small at two types and of recompilelaw09.TypesRaw.
  Conditions: the types have at most 4000000 nodes, and letters when they are printed.
  How types that came in are read: as trees.
  Conditions: they hold at most 4000000 values and letters.
  TypesRaw at whatever types of few nodes and letters.
  Conditions: at most 1048576 letters and nodes each.
-/
import Derived.Test.YtndhglcdkegigaaDoorSays
import Derived.Test.YtndhglcdkegigaaDoorRefSize
import Derived.Test.YtndhglcdkegigaaDoorDType
import Derived.Test.YtndhglcdkegigaaDoorAwk
import Derived.Test.YtndhglcdkegigaaDoorSizes
import Derived.Test.YtndhglcdkegigaaDoorRows
import Derived.ProofKit
import Derived.OpenShut
import Derived.DataElems
namespace Go.Proofs.YtndhglcdkegigaaDoor
section
open Go.RowKit
/-- Two types in a block of their own. -/
theorem two_tys {w : World} {n : Nat} {a b : Ty} {na nb : List UInt8} {sa sb : Option Addr × Nat × Nat} (T : TypeId) (hn : n ≤ w.heap.size) (ha : TyIs w (Lt n) a (sv na) (.slice sa.1 sa.2.1 sa.2.2)) (hb : TyIs w (Lt n) b (sv nb) (.slice sb.1 sb.2.1 sb.2.2)) :
    Tys (w.alloc (.cells #[sv na, .slice sa.1 sa.2.1 sa.2.2, sv nb, .slice sb.1 sb.2.1 sb.2.2] T)) (Lt (w.heap.size + 1)) (some ⟨w.heap.size, 0, none⟩) [a, b] [(sv na, .slice sa.1 sa.2.1 sa.2.2), (sv nb, .slice sb.1 sb.2.1 sb.2.2)] := by
  have hbl : Below w.heap.size w (w.alloc (.cells #[sv na, .slice sa.1 sa.2.1 sa.2.2, sv nb, .slice sb.1 sb.2.1 sb.2.2] T)) := (Below.refl _ _).alloc (Nat.le_refl _) _
  refine ⟨rfl, row_cells (alloc1 _ _) rfl (by unfold Lt; omega), fun i t p ht hp => ?_⟩
  match i with
  | 0 =>
    simp at ht hp
    subst ht hp
    exact (ha.lower (hbl.mono hn)).more fun y hy => by unfold Lt at *; omega
  | 1 =>
    simp at ht hp
    subst ht hp
    exact (hb.lower (hbl.mono hn)).more fun y hy => by unfold Lt at *; omega
  | i + 2 => simp at ht
theorem one_ty {w : World} {n : Nat} {a : Ty} {na : List UInt8} {sa : Option Addr × Nat × Nat} (T : TypeId) (hn : n ≤ w.heap.size) (ha : TyIs w (Lt n) a (sv na) (.slice sa.1 sa.2.1 sa.2.2)) :
    Tys (w.alloc (.cells #[sv na, .slice sa.1 sa.2.1 sa.2.2] T)) (Lt (w.heap.size + 1)) (some ⟨w.heap.size, 0, none⟩) [a] [(sv na, .slice sa.1 sa.2.1 sa.2.2)] := by
  have hbl : Below w.heap.size w (w.alloc (.cells #[sv na, .slice sa.1 sa.2.1 sa.2.2] T)) := (Below.refl _ _).alloc (Nat.le_refl _) _
  refine ⟨rfl, row_cells (alloc1 _ _) rfl (by unfold Lt; omega), fun i t p ht hp => ?_⟩
  match i with
  | 0 =>
    simp at ht hp
    subst ht hp
    exact (ha.lower (hbl.mono hn)).more fun y hy => by unfold Lt at *; omega
  | i + 1 => simp at ht

set_option maxHeartbeats 4000000 in
set_option maxRecDepth 100000 in
theorem small_any (ls : List Ty) (LA : Option Addr) (lc : Nat) (vs : List (Value × Value)) (w : World) (hT : Tys w (Lt w.heap.size) LA ls vs) (hl : ls.length ≤ 100) (hs : ∀ a ∈ ls, a.size ≤ 4000000) :
    Calls Tryd.prog 18 #[.slice LA ls.length lc] w fun e w' => e = .returned (.bool (decide (sizeL ls ≤ 300))) ∧ Below w.heap.size w w' := by
  obtain ⟨n, hn⟩ : ∃ n, n = ls.length := ⟨_, rfl⟩
  rw [← hn] at hl ⊢
  have HN := Lib.hid hn
  have HT := Lib.hid hT
  have HSZ := Lib.hid hs
  clear hn hT hs
  go_enter Tryd.func18, Tryd.ntmps18
  go_wp2_with fail
  go_loopw [3, 4] (fun nv iv wr => ∃ i : Nat, i ≤ n ∧ iv = .int .i64 (i : Int) ∧ nv = .int .i64 ((sizeL (ls.take i) : Nat) : Int) ∧ Below w.heap.size w wr) (fun _ iv _ => n - (intOf iv).toNat)
  case atStart => exact ⟨0, Nat.zero_le _, rfl, by simp [sizeL], Below.refl _ _⟩
  case round =>
    obtain ⟨i, hi, rfl, rfl, hb⟩ := hrel
    have hbnd : sizeL (ls.take i) ≤ 4000000 * i := by
      have key : ∀ (l : List Ty), (∀ a ∈ l, a.size ≤ 4000000) → sizeL l ≤ 4000000 * l.length := by
        intro l
        induction l with
        | nil => intro _; simp [sizeL]
        | cons a r ih =>
          intro h
          have h1 := h a (by simp)
          have h2 := ih fun b hb => h b (by simp [hb])
          simp only [sizeL, List.length_cons]
          omega
      have h1 := key (ls.take i) fun a ha => HSZ.out a (List.mem_of_mem_take ha)
      have h2 : (ls.take i).length ≤ i := by rw [List.length_take]; omega
      omega
    obtain ⟨m, hm⟩ : ∃ m, m = sizeL (ls.take i) := ⟨_, rfl⟩
    rw [← hm] at hbnd ⊢
    have HM := Lib.hid hm
    clear hm
    by_cases hlt : i < n
    · have hil : i < ls.length := by rw [← HN.out]; exact hlt
      have ht0 : ls[i]? = some ls[i] := List.getElem?_eq_getElem hil
      have hsz := HSZ.out ls[i] (List.getElem_mem hil)
      generalize ls[i] = t at ht0 hsz
      obtain ⟨ad, u, v, rfl, hS, e0, e1, hty⟩ := (HT.out.keep (kept_below hb)).at_ ht0
      obtain ⟨u, v, rfl, rfl⟩ := hty.shape
      have HSI := Lib.hid (refSize_any t _ _ wr (hty.more fun y hy => Nat.lt_of_lt_of_le hy hb.size) hsz)
      have HTK : Hid (sizeL (ls.take (i + 1)) = m + t.size) := Lib.hid (by
        obtain rfl : ls[i] = t := Option.some.inj ((List.getElem?_eq_getElem hil).symm.trans ht0)
        rw [List.take_succ_eq_append_getElem hil, sizeL_append, ← HM.out]
        simp [sizeL])
      obtain ⟨k, hk⟩ : ∃ k, k = t.size := ⟨_, rfl⟩
      rw [← hk] at HSI HTK hsz
      have HB := Lib.hid hb
      have hnn : (0 : Int) ≤ (i : Int) ∧ (i : Int) < (n : Int) := ⟨by omega, by omega⟩
      clear hty ht0 hil hk hb hS
      go_wp2_with fail
      refine HSI.out.mono ?_
      rintro e w1 ⟨rfl, hb1⟩
      have HB1 := Lib.hid (HB.out.trans (hb1.mono HB.out.size))
      clear hb1
      go_wp2
      go_roundw
      case rel => exact ⟨i + 1, by omega, by go_num, by rw [HTK.out]; go_num, HB1.out⟩
      case measure => simp [intOf]; omega
    · obtain rfl : i = n := by omega
      have hme : m = sizeL ls := by rw [HM.out, HN.out, List.take_of_length_le (Nat.le_refl _)]
      have HME := Lib.hid hme
      have HB := Lib.hid hb
      clear hme hb
      go_wp2
      go_ret
      refine ⟨?_, HB.out⟩
      rw [← HME.out]
      congr 2
      simp
      omega

set_option maxHeartbeats 8000000 in
set_option maxRecDepth 100000 in
theorem raw_any (a b : Ty) (ns : List (List UInt8)) (na nb : List UInt8) (sa sb : Option Addr × Nat × Nat) (NA : Option Addr) (NC : Nat) (w : World) (ha : TyIs w (Lt w.heap.size) a (sv na) (.slice sa.1 sa.2.1 sa.2.2)) (hb : TyIs w (Lt w.heap.size) b (sv nb) (.slice sb.1 sb.2.1 sb.2.2))
    (hns : Row w (Lt w.heap.size) NA (ns.map sv)) (h1 : a.size ≤ 4000000) (h2 : b.size ≤ 4000000) (h3 : (prn a).length ≤ 4000000) (h4 : (prn b).length ≤ 4000000) (hnl : ns.length ≤ 4000000) :
    Calls Tryd.prog 4 #[.agg #[sv na, .slice sa.1 sa.2.1 sa.2.2], .agg #[sv nb, .slice sb.1 sb.2.1 sb.2.2], .slice NA ns.length NC] w fun e w' => e = .returned (.bool true) ∧ Below w.heap.size w w' := by
  obtain ⟨n, hn⟩ : ∃ n, n = ns.length := ⟨_, rfl⟩
  have HAG := Lib.hid fun (w' : World) (LA : Option Addr) (LC : Nat) (ls : List Ty) (lvs : List (Value × Value)) (hbl : Below w.heap.size w w') (hT : Tys w' (Lt w'.heap.size) LA ls lvs) =>
    agrees_any a b ns ls _ _ _ _ NA LA NC LC lvs w' ((ha.lower hbl).more fun y hy => Nat.lt_of_lt_of_le hy hbl.size) ((hb.lower hbl).more fun y hy => Nat.lt_of_lt_of_le hy hbl.size) ((hns.keep (kept_below hbl)).more fun y hy => Nat.lt_of_lt_of_le hy hbl.size) hT h1 h3 hnl
  have HBG := Lib.hid fun (w' : World) (LA : Option Addr) (LC : Nat) (ls : List Ty) (lvs : List (Value × Value)) (hbl : Below w.heap.size w w') (hT : Tys w' (Lt w'.heap.size) LA ls lvs) =>
    agrees_any b a ns ls _ _ _ _ NA LA NC LC lvs w' ((hb.lower hbl).more fun y hy => Nat.lt_of_lt_of_le hy hbl.size) ((ha.lower hbl).more fun y hy => Nat.lt_of_lt_of_le hy hbl.size) ((hns.keep (kept_below hbl)).more fun y hy => Nat.lt_of_lt_of_le hy hbl.size) hT h2 h4 hnl
  rw [← hn] at HAG HBG hnl ⊢
  have HA := Lib.hid ha
  have HB := Lib.hid hb
  have hbx : Below w.heap.size w ((w.alloc (.cells #[sv na, .slice sa.1 sa.2.1 sa.2.2] 30)).alloc (.cells #[sv nb, .slice sb.1 sb.2.1 sb.2.2] 30)) := ((Below.refl _ _).alloc (Nat.le_refl _) _).alloc (by simp) _
  have hBX := alloc2 w (.cells #[sv na, .slice sa.1 sa.2.1 sa.2.2] 30) (.cells #[sv nb, .slice sb.1 sb.2.1 sb.2.2] 30)
  have hszx : ((w.alloc (.cells #[sv na, .slice sa.1 sa.2.1 sa.2.2] 30)).alloc (.cells #[sv nb, .slice sb.1 sb.2.1 sb.2.2] 30)).heap.size = w.heap.size + 2 := by simp
  clear ha hb hns hn h3 h4
  go_enter Tryd.func4, Tryd.ntmps4
  go_wp2_with fail
  generalize (w.alloc (.cells #[sv na, .slice sa.1 sa.2.1 sa.2.2] 30)).alloc (.cells #[sv nb, .slice sb.1 sb.2.1 sb.2.2] 30) = w1 at *
  obtain ⟨p, hp⟩ : ∃ p, p = w.heap.size := ⟨_, rfl⟩
  rw [← hp] at hBX hszx ⊢
  have HP := Lib.hid hp
  have hS1 : ∀ w', Below w1.heap.size w1 w' → w'.cell? ⟨p, 0, none⟩ = some (sv na) ∧ w'.cell? ⟨p, 1, none⟩ = some (.slice sa.1 sa.2.1 sa.2.2) ∧ w'.cell? ⟨p + 1, 0, none⟩ = some (sv nb) ∧ w'.cell? ⟨p + 1, 1, none⟩ = some (.slice sb.1 sb.2.1 sb.2.2) := fun w' hbl => by
    have g1 := (hbl.block p (by omega)).trans hBX.1
    have g2 := (hbl.block (p + 1) (by omega)).trans hBX.2
    exact ⟨(Lib.cell_of_heap g1 _).trans rfl, (Lib.cell_of_heap g1 _).trans rfl, (Lib.cell_of_heap g2 _).trans rfl, (Lib.cell_of_heap g2 _).trans rfl⟩
  have HS := Lib.hid hS1
  have HBX := Lib.hid hbx
  have HSX := Lib.hid hszx
  clear hS1 hbx hBX hp hszx
  refine (awake_any w1).mono ?_
  rintro e w2 ⟨rfl, hb2⟩
  obtain ⟨c1, c2, c3, c4⟩ := HS.out w2 hb2
  have HB2 := Lib.hid hb2
  have HBW2 := Lib.hid (HBX.out.trans (hb2.mono HBX.out.size))
  have HT2 := Lib.hid (two_tys 30 (Nat.le_trans HBX.out.size hb2.size) (HA.out.lower HBW2.out) (HB.out.lower HBW2.out))
  have hb3 : Below w2.heap.size w2 (w2.alloc (.cells #[sv na, .slice sa.1 sa.2.1 sa.2.2, sv nb, .slice sb.1 sb.2.1 sb.2.2] 30)) := (Below.refl _ _).alloc (Nat.le_refl _) _
  have hsz3 : (w2.alloc (.cells #[sv na, .slice sa.1 sa.2.1 sa.2.2, sv nb, .slice sb.1 sb.2.1 sb.2.2] 30)).heap.size = w2.heap.size + 1 := by simp
  have SM := small_any [a, b] (some ⟨w2.heap.size, 0, none⟩) 2 _ (w2.alloc (.cells #[sv na, .slice sa.1 sa.2.1 sa.2.2, sv nb, .slice sb.1 sb.2.1 sb.2.2] 30)) (by rw [hsz3]; exact HT2.out) (by simp) (fun x hx => by
    simp only [List.mem_cons, List.not_mem_nil, or_false] at hx
    rcases hx with rfl | rfl
    · exact h1
    · exact h2)
  have SM : Hid (Calls Tryd.prog 18 #[.slice (some ⟨w2.heap.size, 0, none⟩) 2 2] _ _) := Lib.hid SM
  have HB3 := Lib.hid hb3
  clear hb2 hb3 hsz3 h1 h2 HT2
  go_wp2_with fail
  generalize w2.alloc (.cells #[sv na, .slice sa.1 sa.2.1 sa.2.2, sv nb, .slice sb.1 sb.2.1 sb.2.2] 30) = w3 at *
  refine SM.out.mono ?_
  rintro e w4 ⟨rfl, hb4⟩
  have hb24 := HB3.out.trans (hb4.mono HB3.out.size)
  have hb14 := HB2.out.trans (hb24.mono HB2.out.size)
  obtain ⟨d1, d2, d3, d4⟩ := HS.out w4 hb14
  have HB14 := Lib.hid hb14
  have HBW4 := Lib.hid (HBX.out.trans (hb14.mono HBX.out.size))
  clear hb4 hb24 hb14 SM c1 c2 c3 c4
  obtain ⟨q, hq⟩ : ∃ q, q = decide (sizeL [a, b] ≤ 300) := ⟨_, rfl⟩
  rw [← hq]
  clear hq
  cases q with
  | false =>
    go_wp2
    go_ret
    exact ⟨rfl, HBW4.out⟩
  | true =>
    by_cases hn20 : 20 < n
    · have hg : decide ((n : Int) > 20) = true := by simp; omega
      go_wp2
      go_ret
      exact ⟨rfl, HBW4.out⟩
    · have hg : decide ((n : Int) > 20) = false := by simp; omega
      have HT4 := Lib.hid (two_tys 30 HBW4.out.size (HB.out.lower HBW4.out) (HA.out.lower HBW4.out))
      have hb5 : Below w4.heap.size w4 (w4.alloc (.cells #[sv nb, .slice sb.1 sb.2.1 sb.2.2, sv na, .slice sa.1 sa.2.1 sa.2.2] 30)) := (Below.refl _ _).alloc (Nat.le_refl _) _
      have hsz5 : (w4.alloc (.cells #[sv nb, .slice sb.1 sb.2.1 sb.2.2, sv na, .slice sa.1 sa.2.1 sa.2.2] 30)).heap.size = w4.heap.size + 1 := by simp
      have AG : Hid (Calls Tryd.prog 19 #[.agg #[sv na, .slice sa.1 sa.2.1 sa.2.2], .agg #[sv nb, .slice sb.1 sb.2.1 sb.2.2], .slice NA n NC, .slice (some ⟨w4.heap.size, 0, none⟩) 2 2] _ _) := Lib.hid (HAG.out (w4.alloc (.cells #[sv nb, .slice sb.1 sb.2.1 sb.2.2, sv na, .slice sa.1 sa.2.1 sa.2.2] 30)) (some ⟨w4.heap.size, 0, none⟩) 2 [b, a] _ (HBW4.out.trans (hb5.mono HBW4.out.size)) (by rw [hsz5]; exact HT4.out))
      have HB5 := Lib.hid hb5
      clear hb5 hsz5 HT4
      go_wp2_with fail
      generalize w4.alloc (.cells #[sv nb, .slice sb.1 sb.2.1 sb.2.2, sv na, .slice sa.1 sa.2.1 sa.2.2] 30) = w5 at *
      refine AG.out.mono ?_
      rintro e w6 ⟨rfl, hb6⟩
      have hb46 := HB5.out.trans (hb6.mono HB5.out.size)
      have hb16 := HB14.out.trans (hb46.mono HB14.out.size)
      obtain ⟨f1, f2, f3, f4⟩ := HS.out w6 hb16
      have HBW6 := Lib.hid (HBX.out.trans (hb16.mono HBX.out.size))
      have HT6 := Lib.hid (one_ty 30 HBW6.out.size (HB.out.lower HBW6.out))
      have hb7 : Below w6.heap.size w6 (w6.alloc (.cells #[sv nb, .slice sb.1 sb.2.1 sb.2.2] 30)) := (Below.refl _ _).alloc (Nat.le_refl _) _
      have hsz7 : (w6.alloc (.cells #[sv nb, .slice sb.1 sb.2.1 sb.2.2] 30)).heap.size = w6.heap.size + 1 := by simp
      have BG : Hid (Calls Tryd.prog 19 #[.agg #[sv nb, .slice sb.1 sb.2.1 sb.2.2], .agg #[sv na, .slice sa.1 sa.2.1 sa.2.2], .slice NA n NC, .slice (some ⟨w6.heap.size, 0, none⟩) 1 1] _ _) := Lib.hid (HBG.out (w6.alloc (.cells #[sv nb, .slice sb.1 sb.2.1 sb.2.2] 30)) (some ⟨w6.heap.size, 0, none⟩) 1 [b] _ (HBW6.out.trans (hb7.mono HBW6.out.size)) (by rw [hsz7]; exact HT6.out))
      have HB7 := Lib.hid (HBW6.out.trans (hb7.mono HBW6.out.size))
      clear hb7 hsz7 HT6 hb6 hb46 hb16 AG d1 d2 d3 d4
      go_wp2_with fail
      generalize w6.alloc (.cells #[sv nb, .slice sb.1 sb.2.1 sb.2.2] 30) = w7 at *
      refine BG.out.mono ?_
      rintro e w8 ⟨rfl, hb8⟩
      have HB8 := Lib.hid (HB7.out.trans (hb8.mono HB7.out.size))
      clear hb8
      go_wp2
      go_ret
      exact ⟨rfl, HB8.out⟩
end

section
open Go.ChangeShapes Go.WideShapes Go.RowKit
theorem list_of {α : Type} {P : Nat → α → Prop} : ∀ n, (∀ i, i < n → ∃ y, P i y) → ∃ l : List α, l.length = n ∧ ∀ i y, l[i]? = some y → P i y
  | 0, _ => ⟨[], rfl, by simp⟩
  | n + 1, h => by
    obtain ⟨l, hl, hp⟩ := list_of n fun i hi => h i (by omega)
    obtain ⟨y, hy⟩ := h n (by omega)
    refine ⟨l ++ [y], by simp [hl], fun i z hz => ?_⟩
    rcases Nat.lt_or_ge i n with hi | hi
    · rw [List.getElem?_append_left (by omega)] at hz
      exact hp i z hz
    · have : i < n + 1 := by have := (List.getElem?_eq_some_iff.1 hz).1; simp at this; omega
      obtain rfl : i = n := by omega
      rw [List.getElem?_append_right (by omega)] at hz
      simp [hl] at hz
      subst hz
      exact hy
theorem two_of {α : Type} : ∀ {l : List α}, l.length = 2 → ∃ u v, l = [u, v]
  | [u, v], _ => ⟨u, v, rfl⟩
theorem bulk_mem {H : Type} : ∀ {l : List (DataW H)} {d : DataW H}, d ∈ l → Rows.uptoBulk d ≤ Rows.uptoBulkAll l
  | a :: r, d, h => by
    rw [Rows.uptoBulkAll]
    rcases List.mem_cons.1 h with rfl | h
    · omega
    · have := bulk_mem h
      omega
theorem bulk_pos {H : Type} (d : DataW H) : 1 ≤ Rows.uptoBulk d := by
  cases d with
  | lit x => cases x <;> simp [Rows.uptoBulk]
  | _ => simp [Rows.uptoBulk]
theorem bulk_len {H : Type} : ∀ (l : List (DataW H)), l.length ≤ Rows.uptoBulkAll l
  | [] => by simp [Rows.uptoBulkAll]
  | a :: r => by
    have := bulk_len r
    have := bulk_pos a
    rw [Rows.uptoBulkAll]
    simp only [List.length_cons]
    omega
theorem cell_lt {w : World} {a : Addr} {v : Value} (h : w.cell? a = some v) : a.block < w.heap.size := by
  rcases Nat.lt_or_ge a.block w.heap.size with h1 | h1
  · exact h1
  · unfold World.cell? at h
    rw [Array.getElem?_eq_none h1] at h
    simp at h
theorem blk_add (a : Addr) (j : Nat) : (a.add j).block = a.block := by unfold Addr.add; split <;> rfl
theorem cellsTy : Tryd.prog.cellsOf 30 = 2 := by kernel_rfl

/-- The sums over arguments that are read one by one. -/
theorem wtL_bulk {H : Type} : ∀ (ts : List Ty) (ds : List (DataW H)), ts.length = ds.length → (∀ (i : Nat) t d, ts[i]? = some t → ds[i]? = some d → wt lng t ≤ Rows.uptoBulk d) → wtL lng ts ≤ Rows.uptoBulkAll ds
  | [], [], _, _ => by simp [wtL]
  | [], _ :: _, h, _ => by simp at h
  | _ :: _, [], h, _ => by simp at h
  | t :: r, d :: q, h, he => by
    have h1 := he 0 t d rfl rfl
    have h2 := wtL_bulk r q (by simpa using h) fun i t d ht hd => he (i + 1) t d (by simpa using ht) (by simpa using hd)
    rw [wtL, Rows.uptoBulkAll]
    omega

set_option maxHeartbeats 1000000 in
theorem raw_ty {H : Type} (enc : TypeId × Value → H) (W : World) (fuel : Nat) : ∀ (cs : List Value) (x : DataW H × List MemPlace), DataW.trod enc Tryd.prog W 0 (fun _ => true) true fuel 30 cs = some x → Rows.uptoBulk x.1 ≤ 4000000 →
    ∃ t u v, cs = [u, v] ∧ TyIs W (Lt W.heap.size) t u v ∧ wt lng t ≤ Rows.uptoBulk x.1 := by
  induction fuel using Nat.strongRecOn with | ind fuel ih => ?_
  intro cs x h hbk
  obtain ⟨xs, n, rfl, rfl, hcl, hxl, hf⟩ := DataW.trod_struct Tryd.underlying30 h
  rw [cellsTy] at hcl
  obtain ⟨u, v, rfl⟩ := two_of hcl
  obtain ⟨y0, y1, rfl⟩ := two_of (hxl.trans rfl)
  have h0 := hf 0 _ rfl
  have h1 := hf 1 _ rfl
  change DataW.trod enc Tryd.prog W 0 (fun _ => true) true n 9 (([u, v].drop 0).take (Tryd.prog.cellsOf 9)) = [y0, y1][0]? at h0
  change DataW.trod enc Tryd.prog W 0 (fun _ => true) true n 28 (([u, v].drop 1).take (Tryd.prog.cellsOf 28)) = [y0, y1][1]? at h1
  rw [show Tryd.prog.cellsOf 9 = 1 by kernel_rfl] at h0
  rw [show Tryd.prog.cellsOf 28 = 1 by kernel_rfl] at h1
  have h0' : DataW.trod enc Tryd.prog W 0 (fun _ => true) true n 9 [u] = some y0 := h0
  have h1' : DataW.trod enc Tryd.prog W 0 (fun _ => true) true n 28 [v] = some y1 := h1
  obtain ⟨s, e0, rfl, hs⟩ := DataW.trod_string Tryd.underlying9 h0'
  obtain rfl : u = .string s := by simpa using e0
  have hsv : Value.string s = sv s.data.toList := by unfold sv bs; simp
  simp only [List.map_cons, List.map_nil, Rows.uptoBulk, Rows.uptoBulkAll] at hbk
  rcases DataW.trod_slice Tryd.underlying28 h1' with ⟨e1, rfl⟩ | ⟨a, len, cap, elems, rest, m, rfl, e1, rfl, _, hlc, hcm, hlen, hel, _, _⟩
  · obtain rfl : v = .slice none 0 0 := by simpa using e1
    refine ⟨.mk s.data.toList [], _, _, rfl, ?_, ?_⟩
    · rw [hsv]
      exact Tys.close (ks := []) (Tys.nil W _ none) (by omega) (by simp) ⟨Nat.le_refl _, Nat.zero_le _⟩
    · simp only [List.map_cons, List.map_nil, Rows.uptoBulk, Rows.uptoBulkAll, wt, wtL, lng] at hbk ⊢
      omega
  · obtain rfl : v = .slice (some a) len cap := by simpa using e1
    simp only [Rows.uptoBulk] at hbk
    have each : ∀ i, i < len → ∃ y : Ty × Value × Value × DataW H, (elems.map (·.1))[i]? = some y.2.2.2 ∧ TyIs W (Lt W.heap.size) y.1 y.2.1 y.2.2.1 ∧ wt lng y.1 ≤ Rows.uptoBulk y.2.2.2 ∧ W.cell? (a.add (i * 2)) = some y.2.1 ∧ W.cell? (a.add (i * 2 + 1)) = some y.2.2.1 := by
      intro i hi
      have hel' := hel i hi
      have hy : elems[i]? = some (elems[i]'(by omega)) := List.getElem?_eq_getElem _
      rw [hy, cellsTy, Option.bind_eq_some_iff] at hel'
      obtain ⟨cs', hcs, hr⟩ := hel'
      obtain ⟨_, hl2, hcell⟩ := World.cells?_some hcs
      have hmem : elems[i].1 ∈ elems.map (·.1) := List.mem_map_of_mem (List.getElem_mem _)
      have hle := bulk_mem hmem
      obtain ⟨t, u', v', rfl, hty, hwt⟩ := ih m (by omega) cs' _ hr (by omega)
      refine ⟨(t, u', v', elems[i].1), by rw [List.getElem?_map, hy]; rfl, hty, hwt, ?_, ?_⟩
      · have := hcell 0 (by omega)
        rw [addAdd] at this
        exact this
      · have := hcell 1 (by omega)
        rw [addAdd] at this
        exact this
    obtain ⟨l, hl, hP⟩ := list_of len each
    have htl : (l.map (·.1)).length = len := by simp [hl]
    refine ⟨.mk s.data.toList (l.map (·.1)), _, _, rfl, ?_, ?_⟩
    · have hlb := bulk_len (elems.map (·.1))
      rw [List.length_map, hlen] at hlb
      rw [hsv]
      have hT : Tys W (Lt W.heap.size) (some a) (l.map (·.1)) (l.map fun y => (y.2.1, y.2.2.1)) := by
        refine ⟨by simp, ?_, fun i t p ht hp => ?_⟩
        · rcases Nat.eq_zero_or_pos len with h0 | h0
          · left
            have : l = [] := List.eq_nil_of_length_eq_zero (by omega)
            simp [this, flat2]
          · obtain ⟨_, _, _, hc0, _⟩ := hP 0 l[0] (List.getElem?_eq_getElem (by omega))
            refine .inr ⟨a, rfl, by have := cell_lt hc0; rwa [blk_add] at this, fun j u hu => ?_⟩
            have hj : j < l.length * 2 := by
              have := (List.getElem?_eq_some_iff.1 hu).1
              rw [flat2_length] at this
              simpa using this
            have hi : j / 2 < l.length := by omega
            obtain ⟨_, _, _, hc, hc'⟩ := hP (j / 2) l[j / 2] (List.getElem?_eq_getElem hi)
            have hp : (l.map fun y => (y.2.1, y.2.2.1))[j / 2]? = some (l[j / 2].2.1, l[j / 2].2.2.1) := by rw [List.getElem?_map, List.getElem?_eq_getElem hi]; rfl
            obtain ⟨e1, e2⟩ := flat2_at _ _ _ hp
            rcases Nat.mod_two_eq_zero_or_one j with hm | hm
            · have hjj : j = j / 2 * 2 := by omega
              rw [hjj, e1] at hu
              rw [hjj, hc]
              exact hu
            · have hjj : j = j / 2 * 2 + 1 := by omega
              rw [hjj, e2] at hu
              rw [hjj, hc']
              exact hu
        · rw [List.getElem?_map] at ht hp
          cases hli : l[i]? with
          | none => rw [hli] at ht; cases ht
          | some y =>
            rw [hli] at ht hp
            obtain rfl := Option.some.inj ht
            obtain rfl := Option.some.inj hp
            exact (hP i y hli).2.1
      have := Tys.close (n := s.data.toList) (c := cap) hT (by omega) (by rw [htl]; omega) ⟨by rw [htl]; exact hlc, hcm⟩
      rw [htl] at this
      exact this
    · have := wtL_bulk (l.map (·.1)) (elems.map (·.1)) (by simp [hl, hlen]) fun i t d ht hd => by
        rw [List.getElem?_map] at ht
        cases hli : l[i]? with
        | none => rw [hli] at ht; cases ht
        | some y =>
          rw [hli] at ht
          obtain rfl := Option.some.inj ht
          have h3 := (hP i y hli)
          rw [hd] at h3
          obtain rfl := Option.some.inj h3.1.symm
          exact h3.2.2.1
      simp only [List.map_cons, List.map_nil, Rows.uptoBulk, Rows.uptoBulkAll, wt, lng] at hbk ⊢
      omega
end

section
open Go.RowKit
theorem wt_size_le (t : Ty) : t.size ≤ wt lng t := by
  induction t using Ty.ind with | h n ks ih => ?_
  have : ∀ l : List Ty, (∀ a ∈ l, a.size ≤ wt lng a) → sizeL l ≤ wtL lng l := by
    intro l
    induction l with
    | nil => intro _; simp [sizeL]
    | cons a r ihr =>
      intro h
      have h1 := h a (by simp)
      have h2 := ihr fun b hb => h b (by simp [hb])
      simp only [sizeL, wtL]
      omega
  have h1 := this ks ih
  have h2 : lng n = n.length + 2 := rfl
  rw [Ty.size, wt]
  omega
theorem law_all (a : Ty) (na : List UInt8) (sa : Option Addr × Nat × Nat) (b : Ty) (nb : List UInt8) (sb : Option Addr × Nat × Nat) (ns : List (List UInt8)) (NA : Option Addr) (NC : Nat) (w : World) (ha : TyIs w (Lt w.heap.size) a (sv na) (.slice sa.1 sa.2.1 sa.2.2)) (hwa : wt lng a ≤ 1048576)
    (hb : TyIs w (Lt w.heap.size) b (sv nb) (.slice sb.1 sb.2.1 sb.2.2)) (hwb : wt lng b ≤ 1048576) (hns : Row w (Lt w.heap.size) NA (ns.map sv)) (hnl : ns.length ≤ 1048576) :
    Calls Tryd.prog 4 #[.agg #[sv na, .slice sa.1 sa.2.1 sa.2.2], .agg #[sv nb, .slice sb.1 sb.2.1 sb.2.2], .slice NA ns.length NC] w fun e w' => e = .returned (.bool true) ∧ Below w.heap.size w w' := by
  have h1 := wt_size_le a
  have h2 := wt_size_le b
  have h3 := prn_wt a
  have h4 := prn_wt b
  exact raw_any a b ns na nb sa sb NA NC w ha hb hns (by omega) (by omega) (by omega) (by omega) (by omega)
end
end Go.Proofs.YtndhglcdkegigaaDoor
