/-
  The walk of ref.Apply.
  Conditions: the messages and the difference lie in memory.
-/
import Derived.Test.YtlgdminpkkhejaaDtE
import Derived.Test.YtlgdminpkkhejaaDtT
namespace Go.Proofs.Ytlgdminpkkhejaa
open Go.RowKit

theorem miss_more : ∀ (o' l o : List Msg), miss l o ≤ miss l (o ++ o')
  | [], l, o => by rw [List.append_nil]; exact Nat.le_refl _
  | x :: r, l, o => by
    have h := miss_more r l (o ++ [x])
    rw [miss_snoc, List.append_assoc] at h
    exact Nat.le_trans (Nat.le_add_right _ _) h
theorem apply_none {old : List Msg} {d : Dl} {o o' : List Msg} {m : Msg} (he : awayM d = o ++ m :: o') (h : ¬ m ∈ dif (srtM old) o) : applyM old d = none := by
  unfold applyM
  have h1 := miss_more o' (srtM old) (o ++ [m])
  rw [miss_snoc, if_neg h] at h1
  rw [he, show o ++ m :: o' = o ++ [m] ++ o' by simp, if_neg (by omega)]
theorem apply_some {old : List Msg} {d : Dl} (h : miss (srtM old) (awayM d) = 0) : applyM old d = some (insAll (insAll (dif (srtM old) (awayM d)) d.come) (d.moved.map (·.2.2))) := by
  unfold applyM
  rw [if_pos h, ← insAll_app, insAll_is (dif_srt _ (srtM_srt old))]
  rfl
theorem src_split {d : Dl} {k : Nat} {x : Mv} (h : d.moved[k]? = some x) : awayM d = (d.gone ++ (d.moved.take k).map srcOf) ++ srcOf x :: (d.moved.drop (k + 1)).map srcOf := by
  have hlt := (List.getElem?_eq_some_iff.1 h).1
  rw [List.getElem?_eq_getElem hlt] at h
  have e : d.moved = d.moved.take k ++ x :: d.moved.drop (k + 1) := by rw [← Option.some.inj h, List.getElem_cons_drop hlt, List.take_append_drop]
  unfold awayM
  rw [List.append_assoc, ← List.map_cons, ← List.map_append, ← e]
theorem gone_split {d : Dl} {k : Nat} {x : Msg} (h : d.gone[k]? = some x) : awayM d = d.gone.take k ++ x :: (d.gone.drop (k + 1) ++ d.moved.map srcOf) := by
  have hlt := (List.getElem?_eq_some_iff.1 h).1
  rw [List.getElem?_eq_getElem hlt] at h
  have e : d.gone = d.gone.take k ++ x :: d.gone.drop (k + 1) := by rw [← Option.some.inj h, List.getElem_cons_drop hlt, List.take_append_drop]
  unfold awayM
  rw [← List.cons_append, ← List.append_assoc, ← e]
set_option maxHeartbeats 3200000 in
set_option maxRecDepth 100000 in
theorem rapply_any (old : List Msg) (d : Dl) (v : Value) (A : Option Addr) (c : Nat) (w : World) (hl : old.length ≤ 100000) (h : Row w (Lt w.heap.size) A (flt msC old)) (hD : DlV w (Lt w.heap.size) v d) (hdl : d.gone.length ≤ 100000 ∧ d.come.length ≤ 100000 ∧ d.moved.length ≤ 100000) :
    Calls Try.prog 19 #[.slice A old.length c, v] w (ApRes (applyM old d) w) := by
  obtain ⟨A1, A2, A3, c1, c2, c3, rfl, _, _, _, _, _, hr1, hr2, hr3⟩ := hD
  obtain ⟨w0, hw0⟩ : ∃ w0, w0 = w.alloc (.cells #[.slice A1 d.gone.length c1, .slice A2 d.come.length c2, .slice A3 d.moved.length c3] 25) := ⟨_, rfl⟩
  have hb0 : Below w.heap.size w w0 := by rw [hw0]; exact (Below.refl _ _).alloc (Nat.le_refl _) _
  have hx0 : w0.heap[w.heap.size]? = some (.cells #[.slice A1 d.gone.length c1, .slice A2 d.come.length c2, .slice A3 d.moved.length c3] 25 (0, 0)) := by rw [hw0]; exact alloc1 _ _
  obtain ⟨a, ha⟩ : ∃ a, a = d.gone.length := ⟨_, rfl⟩
  obtain ⟨b, hb⟩ : ∃ b, b = d.come.length := ⟨_, rfl⟩
  obtain ⟨m, hm⟩ : ∃ m, m = d.moved.length := ⟨_, rfl⟩
  have hso := rsorted_any (Lt w0.heap.size) old A c w0 (fun _ h => h) (by omega) (h.below hb0)
  obtain ⟨n, hn⟩ : ∃ n, n = old.length := ⟨_, rfl⟩
  have hlo : (srtM old).length = n := by rw [srtM_len, hn]
  have HR1 := Lib.hid fun w' (hb : Below w0.heap.size w0 w') => (hr1.below hb0).below hb
  have HR2 := Lib.hid fun w' (hb : Below w0.heap.size w0 w') => (hr2.below hb0).below hb
  have HR3 := Lib.hid fun w' (hb : Below w0.heap.size w0 w') => (hr3.below hb0).below hb
  rw [← ha, ← hb, ← hm] at hdl hw0 hx0 ⊢
  rw [← hn] at hl hso ⊢
  have HL := Lib.hid (And.intro ha (And.intro hb hm))
  have HSO := Lib.hid hso
  have HW0 := Lib.hid hw0
  have HX0 := Lib.hid hx0
  have HB0 := Lib.hid hb0
  obtain ⟨hda, hdb, hdm⟩ := hdl
  clear ha hb hm hn hw0 hx0 hb0 h hr1 hr2 hr3 hso
  go_enter Try.func19, Try.ntmps19
  go_wp2_with fail
  rw [← HW0.out]
  refine HSO.out.mono ?_
  rintro e w1 ⟨v6, rfl, hown1, hb1⟩
  have HO1 := Lib.hid hown1
  have HB1 := Lib.hid hb1
  have hs1 := hb1.size
  have HDN := Lib.hid fun (o : List Msg) => (dif_sub o (srtM old)).length_le
  have HAN := Lib.hid fun (o o' : List Msg) (m : Msg) => apply_none (old := old) (d := d) (o := o) (o' := o') (m := m)
  have HAS := Lib.hid (apply_some (old := old) (d := d))
  obtain ⟨Lo, hLo⟩ : ∃ Lo, Lo = srtM old := ⟨_, rfl⟩
  rw [← hLo] at HO1 hlo HDN HAN HAS
  have HLN := Lib.hid hlo
  obtain ⟨A6, c6, rfl, _⟩ := own_slice hown1
  have x0 : w1.cell? ⟨w.heap.size, 0, none⟩ = some (.slice A1 a c1) := (Lib.cell_of_heap ((hb1.block _ (lt_of_heap HX0.out)).trans HX0.out) 0).trans rfl
  have hol := lt_of_heap HX0.out
  rw [← hLo, hlo] at HO1 ⊢
  clear hown1 hb1 hLo hlo HSO
  go_wp2_with fail
  clear x0
  go_loopw [22, 6] (fun i lv wr => ∃ k : Nat, k ≤ a ∧ i = .int .i64 k ∧ Below w0.heap.size w0 wr ∧ wr.ownsRow w0.heap.size 40 3 lv (dif Lo (d.gone.take k)).length (flt msC (dif Lo (d.gone.take k))) ∧ miss Lo (d.gone.take k) = 0) (fun i _ _ => a - (intOf i).toNat)
  case atStart => exact ⟨0, by omega, rfl, HB1.out, by rw [show dif Lo (d.gone.take 0) = Lo from rfl, HLN.out]; exact HO1.out, rfl⟩
  case round =>
    obtain ⟨k, hk, rfl, hB, hol', hmi⟩ := hrel
    obtain ⟨LA, lc, rfl, _⟩ := own_slice hol'
    have hL1 : (dif Lo (d.gone.take k)).length ≤ n := by rw [← HLN.out]; exact HDN.out _
    obtain ⟨L, hL⟩ : ∃ L, L = dif Lo (d.gone.take k) := ⟨_, rfl⟩
    have hwr := hB.size
    by_cases hlt : k < a
    · rw [← hL] at hol' hL1 ⊢
      obtain ⟨x, hx⟩ : ∃ x, d.gone[k]? = some x := ⟨_, List.getElem?_eq_getElem (by rw [← HL.out.1]; exact hlt)⟩
      obtain ⟨ad, hA, _, a0, a1, a2⟩ := ms_at (HR1.out wr hB) hx
      have hik : (0 : Int) ≤ (k : Int) ∧ (k : Int) < (a : Int) := ⟨by omega, by omega⟩
      have htk := take_snoc hx
      have HDS : Hid (dif Lo (d.gone.take (k + 1)) = L.erase x) := Lib.hid (by rw [htk, dif_snoc, hL])
      have HMS : Hid (miss Lo (d.gone.take (k + 1)) = miss Lo (d.gone.take k) + if x ∈ L then 0 else 1) := Lib.hid (by rw [htk, miss_snoc, hL])
      have HMI := Lib.hid hmi
      have HNO : Hid (¬ x ∈ L → applyM old d = none) := Lib.hid fun hm => HAN.out _ _ _ (gone_split hx) (by rw [← hL]; exact hm)
      obtain ⟨wa, hwa⟩ : ∃ wa, wa = wr.alloc (.cells #[.int .i64 x.1, .int .i64 x.2.1, sv x.2.2] 40) := ⟨_, rfl⟩
      have hba : Below wr.heap.size wr wa := by rw [hwa]; exact (Below.refl _ _).alloc (Nat.le_refl _) _
      have hsa : wa.heap.size = wr.heap.size + 1 := by rw [hwa]; simp
      have hola := (Kp.ofBelow (M := fun _ => False) hba).own hol' fun _ _ e => e
      have HT := Lib.hid (take_any (Lt wa.heap.size) L x LA lc wa (fun _ h => h) (own_le hol').1 (by omega) (Row.ofOwn hola fun _ _ _ h => h))
      have hwa0 : w0.heap.size ≤ wa.heap.size := by omega
      have HBA := Lib.hid (hB.trans (hba.mono hB.size))
      obtain ⟨l, hl'⟩ : ∃ l, l = L.length := ⟨_, rfl⟩
      rw [← hl'] at HT hL1 ⊢
      have HWA := Lib.hid hwa
      rw [hA]
      have HAD := Lib.hid hA
      clear hL hx hA htk hmi hwa hba hola hl' hol' hB
      -- one message is taken: LST is the list, CELLS the box's cells
      go_wp2_with fail
      rw [← HWA.out]
      try clear a0 a1 a2
      try clear a3 a4
      refine HT.out.mono ?_
      rintro e w3 ⟨v, b, rfl, hbm, hb3, hyes, _⟩
      have hs3 := hb3.size
      have HB3 := Lib.hid (HBA.out.trans (hb3.mono HBA.out.size))
      by_cases hmem : x ∈ L
      · obtain rfl : b = true := by rw [hbm]; exact decide_eq_true hmem
        have hy := hyes rfl
        have HY := Lib.hid (ownMono hy hwa0)
        obtain ⟨VA, vc, rfl, _⟩ := own_slice hy
        have HMEM := Lib.hid hmem
        clear hyes hbm hb3 hmem hy
        go_wp2_with fail
        try rw [← HAD.out]
        first | go_roundw | refine ⟨?rel, ?measure⟩
        case rel =>
          refine ⟨k + 1, by omega, by go_num, HB3.out, ?_, ?_⟩
          · rw [HDS.out]
            exact HY.out
          · rw [HMS.out, HMI.out, if_pos HMEM.out]
        case measure => simp [intOf]; omega
      · obtain rfl : b = false := by rw [hbm]; exact decide_eq_false hmem
        have HAP := Lib.hid (HNO.out hmem)
        have HEND := Lib.hid (HB0.out.trans (HB3.out.mono HB0.out.size))
        clear hyes hbm hb3 hmem
        go_wp2
        go_ret2
        exact .inr ⟨HAP.out, rfl, HEND.out⟩
    · obtain rfl : k = a := by omega
      rw [List.take_of_length_le (by rw [HL.out.1]; exact Nat.le_refl _)] at hol' hmi hL
      have x2 : wr.cell? ⟨w.heap.size, 2, none⟩ = some (.slice A3 m c3) := (Lib.cell_of_heap ((hB.block _ (lt_of_heap HX0.out)).trans HX0.out) 2).trans rfl
      have HI := Lib.hid (And.intro hB (And.intro hol' hmi))
      have hln : (dif Lo (List.take k d.gone)).length = L.length := by rw [List.take_of_length_le (by rw [HL.out.1]; exact Nat.le_refl _), hL]
      have hLg : dif Lo d.gone = L := hL.symm
      rw [hln]
      rw [hLg] at HI
      obtain ⟨l, hl'⟩ : ∃ l, l = L.length := ⟨_, rfl⟩
      have HLL := Lib.hid hl'
      have HLG := Lib.hid hLg
      rw [← hl']
      clear hlt hL1 hL hol' hmi hB hln hl' hLg
      go_wp2_with fail
      clear x2
      go_loopw [38, 6] (fun i lv wr => ∃ k : Nat, k ≤ m ∧ i = .int .i64 k ∧ Below w0.heap.size w0 wr ∧ wr.ownsRow w0.heap.size 40 3 lv (dif Lo (d.gone ++ (d.moved.take k).map srcOf)).length (flt msC (dif Lo (d.gone ++ (d.moved.take k).map srcOf))) ∧ miss Lo (d.gone ++ (d.moved.take k).map srcOf) = 0) (fun i _ _ => m - (intOf i).toNat)
      case atStart =>
        refine ⟨0, by omega, rfl, HI.out.1, ?_, ?_⟩
        · rw [List.take_zero, List.map_nil, List.append_nil, HLG.out, HLL.out]
          exact HI.out.2.1
        · rw [List.take_zero, List.map_nil, List.append_nil]
          exact HI.out.2.2
      case round =>
        obtain ⟨k, hk, rfl, hB, hol', hmi⟩ := hrel
        obtain ⟨LA, lc, rfl, _⟩ := own_slice hol'
        have hL1 : (dif Lo (d.gone ++ (d.moved.take k).map srcOf)).length ≤ n := by rw [← HLN.out]; exact HDN.out _
        obtain ⟨L, hL⟩ : ∃ L, L = dif Lo (d.gone ++ (d.moved.take k).map srcOf) := ⟨_, rfl⟩
        have hwr := hB.size
        obtain ⟨wq, hwq⟩ : ∃ wq, wq = wr := ⟨_, rfl⟩
        rw [← hwq] at hB hol' hwr ⊢
        clear hwq
        by_cases hlt : k < m
        · rw [← hL] at hol' hL1 ⊢
          obtain ⟨x, hx⟩ : ∃ x, d.moved[k]? = some x := ⟨_, List.getElem?_eq_getElem (by rw [← HL.out.2.2]; exact hlt)⟩
          obtain ⟨ad, hA, _, a0, a1, a2, a3, a4⟩ := mv_at (HR3.out wq hB) hx
          have hik : (0 : Int) ≤ (k : Int) ∧ (k : Int) < (m : Int) := ⟨by omega, by omega⟩
          have htk : d.gone ++ (d.moved.take (k + 1)).map srcOf = (d.gone ++ (d.moved.take k).map srcOf) ++ [srcOf x] := by rw [take_snoc hx, List.map_append, List.append_assoc]; rfl
          have HDS : Hid (dif Lo (d.gone ++ (d.moved.take (k + 1)).map srcOf) = L.erase (srcOf x)) := Lib.hid (by rw [htk, dif_snoc, hL])
          have HMS : Hid (miss Lo (d.gone ++ (d.moved.take (k + 1)).map srcOf) = miss Lo (d.gone ++ (d.moved.take k).map srcOf) + if srcOf x ∈ L then 0 else 1) := Lib.hid (by rw [htk, miss_snoc, hL])
          have HMI := Lib.hid hmi
          have HNO : Hid (¬ srcOf x ∈ L → applyM old d = none) := Lib.hid fun hm => HAN.out _ _ _ (src_split hx) (by rw [← hL]; exact hm)
          obtain ⟨wa, hwa⟩ : ∃ wa, wa = (wq.alloc (.cells #[.int .i64 x.1, .int .i64 x.2.1, .int .i64 x.2.2.1, .int .i64 x.2.2.2.1, sv x.2.2.2.2] 42)).alloc (.cells #[.int .i64 x.1, .int .i64 x.2.2.2.1, sv x.2.2.2.2] 40) := ⟨_, rfl⟩
          have hba : Below wq.heap.size wq wa := by rw [hwa]; exact ((Below.refl _ _).alloc (Nat.le_refl _) _).alloc (by simp) _
          have hsa : wa.heap.size = wq.heap.size + 2 := by rw [hwa]; simp
          have hola := (Kp.ofBelow (M := fun _ => False) hba).own hol' fun _ _ e => e
          have HT := Lib.hid (take_any (Lt wa.heap.size) L (srcOf x) LA lc wa (fun _ h => h) (own_le hol').1 (by omega) (Row.ofOwn hola fun _ _ _ h => h))
          have hwa0 : w0.heap.size ≤ wa.heap.size := by omega
          have HBA := Lib.hid (hB.trans (hba.mono hB.size))
          obtain ⟨l, hl'⟩ : ∃ l, l = L.length := ⟨_, rfl⟩
          rw [← hl'] at HT hL1 ⊢
          have HWA := Lib.hid hwa
          rw [hA]
          have HAD := Lib.hid hA
          clear hL hx hA htk hmi hwa hba hola hl' hol' hB
          -- one message is taken: LST is the list, CELLS the box's cells
          go_wp2_with fail
          rw [← HWA.out]
          try clear a0 a1 a2
          try clear a3 a4
          refine HT.out.mono ?_
          rintro e w3 ⟨v, b, rfl, hbm, hb3, hyes, _⟩
          have hs3 := hb3.size
          have HB3 := Lib.hid (HBA.out.trans (hb3.mono HBA.out.size))
          by_cases hmem : (srcOf x) ∈ L
          · obtain rfl : b = true := by rw [hbm]; exact decide_eq_true hmem
            have hy := hyes rfl
            have HY := Lib.hid (ownMono hy hwa0)
            obtain ⟨VA, vc, rfl, _⟩ := own_slice hy
            have HMEM := Lib.hid hmem
            clear hyes hbm hb3 hmem hy
            go_wp2_with fail
            try rw [← HAD.out]
            first | go_roundw | refine ⟨?rel, ?measure⟩
            case rel =>
              refine ⟨k + 1, by omega, by go_num, HB3.out, ?_, ?_⟩
              · rw [HDS.out]
                exact HY.out
              · rw [HMS.out, HMI.out, if_pos HMEM.out]
            case measure => simp [intOf]; omega
          · obtain rfl : b = false := by rw [hbm]; exact decide_eq_false hmem
            have HAP := Lib.hid (HNO.out hmem)
            have HEND := Lib.hid (HB0.out.trans (HB3.out.mono HB0.out.size))
            clear hyes hbm hb3 hmem
            go_wp2
            go_ret2
            exact .inr ⟨HAP.out, rfl, HEND.out⟩
        · obtain rfl : m = k := by omega
          rw [List.take_of_length_le (by rw [HL.out.2.2]; exact Nat.le_refl _)] at hol' hmi hL
          have x1 : wq.cell? ⟨w.heap.size, 1, none⟩ = some (.slice A2 b c2) := (Lib.cell_of_heap ((hB.block _ (lt_of_heap HX0.out)).trans HX0.out) 1).trans rfl
          have hln : (dif Lo (d.gone ++ (List.take m d.moved).map srcOf)).length = L.length := by rw [List.take_of_length_le (by rw [HL.out.2.2]; exact Nat.le_refl _), hL]
          have hL2 : L.length ≤ n := by rw [hL, ← HLN.out]; exact HDN.out _
          have hfin : applyM old d = some (insAll (insAll L d.come) (d.moved.map (·.2.2))) := by rw [hL]; exact HAS.out hmi
          rw [hln]
          rw [← hL] at hol'
          obtain ⟨l, hl'⟩ : ∃ l, l = L.length := ⟨_, rfl⟩
          have HI := Lib.hid (And.intro hB hol')
          have HLL := Lib.hid hl'
          have HFIN := Lib.hid hfin
          rw [← hl'] at hL2 ⊢
          clear hlt hL1 hL hol' hmi hB hln hl' hfin
          go_wp2_with fail
          clear x1
          go_loopw [59, 6] (fun i lv wr => ∃ k : Nat, k ≤ b ∧ i = .int .i64 k ∧ Below w0.heap.size w0 wr ∧ wr.ownsRow w0.heap.size 40 3 lv (insAll L (d.come.take k)).length (flt msC (insAll L (d.come.take k)))) (fun i _ _ => b - (intOf i).toNat)
          case atStart => exact ⟨0, by omega, rfl, HI.out.1, by rw [List.take_zero, show insAll L [] = L from rfl, HLL.out]; exact HI.out.2⟩
          case round =>
            obtain ⟨k, hk, rfl, hB, hol'⟩ := hrel
            obtain ⟨LA, lc, rfl, _⟩ := own_slice hol'
            have hIl : (insAll L (d.come.take k)).length ≤ l + k := by
              rw [(insAll_perm _ _).length_eq, List.length_append, HLL.out]
              have := List.length_take_le k d.come
              omega
            have hwr := hB.size
            obtain ⟨wq, hwq⟩ : ∃ wq, wq = wr := ⟨_, rfl⟩
            rw [← hwq] at hB hol' hwr ⊢
            clear hwq
            by_cases hlt : k < b
            · obtain ⟨x, hx⟩ : ∃ x, d.come[k]? = some x := ⟨_, List.getElem?_eq_getElem (by rw [← HL.out.2.1]; exact hlt)⟩
              obtain ⟨ad, hA, _, a0, a1, a2⟩ := ms_at (HR2.out wq hB) hx
              have hik : (0 : Int) ≤ (k : Int) ∧ (k : Int) < (b : Int) := ⟨by omega, by omega⟩
              have HDS : Hid (insAll L (d.come.take (k + 1)) = insM x (insAll L (d.come.take k))) := Lib.hid (by rw [take_snoc hx, insAll_snoc])
              obtain ⟨I, hI⟩ : ∃ I, I = insAll L (d.come.take k) := ⟨_, rfl⟩
              rw [← hI] at HDS hol' hIl ⊢
              obtain ⟨wa, hwa⟩ : ∃ wa, wa = wq.alloc (.cells #[.int .i64 x.1, .int .i64 x.2.1, sv x.2.2] 40) := ⟨_, rfl⟩
              have hba : Below wq.heap.size wq wa := by rw [hwa]; exact (Below.refl _ _).alloc (Nat.le_refl _) _
              have hsa : wa.heap.size = wq.heap.size + 1 := by rw [hwa]; simp
              have hola := (Kp.ofBelow (M := fun _ => False) hba).own hol' fun _ _ e => e
              have HT := Lib.hid (insert_any (Lt wa.heap.size) I x LA lc wa (fun _ h => h) (own_le hol').1 (by omega) (Row.ofOwn hola fun _ _ _ h => h))
              have hwa0 : w0.heap.size ≤ wa.heap.size := by omega
              have HBA := Lib.hid (hB.trans (hba.mono hB.size))
              obtain ⟨i, hi'⟩ : ∃ i, i = I.length := ⟨_, rfl⟩
              rw [← hi'] at HT hIl ⊢
              have HWA := Lib.hid hwa
              rw [hA]
              have HAD := Lib.hid hA
              clear hI hx hA hwa hba hola hi' hol' hB
              go_wp2_with fail
              rw [← HWA.out]
              clear a0 a1 a2
              refine HT.out.mono ?_
              rintro e w3 ⟨v, rfl, hown3, hb3⟩
              have HB3 := Lib.hid (HBA.out.trans (hb3.mono HBA.out.size))
              have HY := Lib.hid (ownMono hown3 hwa0)
              obtain ⟨VA, vc, rfl, _⟩ := own_slice hown3
              clear hown3 hb3
              go_wp2_with fail
              try rw [← HAD.out]
              first | go_roundw | refine ⟨?rel, ?measure⟩
              case rel => exact ⟨k + 1, by omega, by go_num, HB3.out, by rw [HDS.out]; exact HY.out⟩
              case measure => simp [intOf]; omega
            · obtain rfl : b = k := by omega
              rw [List.take_of_length_le (by rw [HL.out.2.1]; exact Nat.le_refl _)] at hol'
              have x2 : wq.cell? ⟨w.heap.size, 2, none⟩ = some (.slice A3 m c3) := (Lib.cell_of_heap ((hB.block _ (lt_of_heap HX0.out)).trans HX0.out) 2).trans rfl
              obtain ⟨I, hI⟩ : ∃ I, I = insAll L d.come := ⟨_, rfl⟩
              have hln : (insAll L (List.take b d.come)).length = I.length := by rw [List.take_of_length_le (by rw [HL.out.2.1]; exact Nat.le_refl _), hI]
              rw [hln] at hIl ⊢
              rw [← hI] at hol'
              have hfin : applyM old d = some (insAll I (d.moved.map (·.2.2))) := by rw [hI]; exact HFIN.out
              have HF2 := Lib.hid hfin
              obtain ⟨i, hi'⟩ : ∃ i, i = I.length := ⟨_, rfl⟩
              have HI := Lib.hid (And.intro hB hol')
              have HLI := Lib.hid hi'
              rw [← hi'] at hIl ⊢
              clear hlt hI hol' hB hln hi' hfin
              go_wp2_with fail
              clear x2
              go_loopw [70, 6] (fun i lv wr => ∃ k : Nat, k ≤ m ∧ i = .int .i64 k ∧ Below w0.heap.size w0 wr ∧ wr.ownsRow w0.heap.size 40 3 lv (insAll I ((d.moved.take k).map (·.2.2))).length (flt msC (insAll I ((d.moved.take k).map (·.2.2))))) (fun i _ _ => m - (intOf i).toNat)
              case atStart => exact ⟨0, by omega, rfl, HI.out.1, by rw [List.take_zero, List.map_nil, show insAll I [] = I from rfl, HLI.out]; exact HI.out.2⟩
              case round =>
                obtain ⟨k, hk, rfl, hB, hol'⟩ := hrel
                obtain ⟨LA, lc, rfl, _⟩ := own_slice hol'
                have hJl : (insAll I ((d.moved.take k).map (·.2.2))).length ≤ i + k := by
                  rw [(insAll_perm _ _).length_eq, List.length_append, HLI.out, List.length_map]
                  have := List.length_take_le k d.moved
                  omega
                have hwr := hB.size
                obtain ⟨wq, hwq⟩ : ∃ wq, wq = wr := ⟨_, rfl⟩
                rw [← hwq] at hB hol' hwr ⊢
                clear hwq
                by_cases hlt : k < m
                · obtain ⟨x, hx⟩ : ∃ x, d.moved[k]? = some x := ⟨_, List.getElem?_eq_getElem (by rw [← HL.out.2.2]; exact hlt)⟩
                  obtain ⟨ad, hA, _, a0, a1, a2, a3, a4⟩ := mv_at (HR3.out wq hB) hx
                  have hik : (0 : Int) ≤ (k : Int) ∧ (k : Int) < (m : Int) := ⟨by omega, by omega⟩
                  have HDS : Hid (insAll I ((d.moved.take (k + 1)).map (·.2.2)) = insM x.2.2 (insAll I ((d.moved.take k).map (·.2.2)))) := Lib.hid (by rw [take_snoc hx, List.map_append, List.map_cons, List.map_nil, insAll_snoc])
                  obtain ⟨J, hJ⟩ : ∃ J, J = insAll I ((d.moved.take k).map (·.2.2)) := ⟨_, rfl⟩
                  rw [← hJ] at HDS hol' hJl ⊢
                  obtain ⟨wa, hwa⟩ : ∃ wa, wa = wq.alloc (.cells #[.int .i64 x.1, .int .i64 x.2.1, .int .i64 x.2.2.1, .int .i64 x.2.2.2.1, sv x.2.2.2.2] 42) := ⟨_, rfl⟩
                  have hba : Below wq.heap.size wq wa := by rw [hwa]; exact (Below.refl _ _).alloc (Nat.le_refl _) _
                  have hsa : wa.heap.size = wq.heap.size + 1 := by rw [hwa]; simp
                  have hola := (Kp.ofBelow (M := fun _ => False) hba).own hol' fun _ _ e => e
                  have HT := Lib.hid (insert_any (Lt wa.heap.size) J x.2.2 LA lc wa (fun _ h => h) (own_le hol').1 (by omega) (Row.ofOwn hola fun _ _ _ h => h))
                  have hwa0 : w0.heap.size ≤ wa.heap.size := by omega
                  have HBA := Lib.hid (hB.trans (hba.mono hB.size))
                  obtain ⟨j, hj'⟩ : ∃ j, j = J.length := ⟨_, rfl⟩
                  rw [← hj'] at HT hJl ⊢
                  have HWA := Lib.hid hwa
                  rw [hA]
                  have HAD := Lib.hid hA
                  clear hJ hx hA hwa hba hola hj' hol' hB
                  go_wp2_with fail
                  rw [← HWA.out]
                  clear a0 a1 a2 a3 a4
                  refine HT.out.mono ?_
                  rintro e w3 ⟨v, rfl, hown3, hb3⟩
                  have HB3 := Lib.hid (HBA.out.trans (hb3.mono HBA.out.size))
                  have HY := Lib.hid (ownMono hown3 hwa0)
                  obtain ⟨VA, vc, rfl, _⟩ := own_slice hown3
                  clear hown3 hb3
                  go_wp2_with fail
                  try rw [← HAD.out]
                  first | go_roundw | refine ⟨?rel, ?measure⟩
                  case rel => exact ⟨k + 1, by omega, by go_num, HB3.out, by rw [HDS.out]; exact HY.out⟩
                  case measure => simp [intOf]; omega
                · obtain rfl : m = k := by omega
                  rw [List.take_of_length_le (by rw [HL.out.2.2]; exact Nat.le_refl _)] at hol'
                  have hln : (insAll I ((List.take m d.moved).map (·.2.2))).length = (insAll I (d.moved.map (·.2.2))).length := by rw [List.take_of_length_le (by rw [HL.out.2.2]; exact Nat.le_refl _)]
                  rw [hln]
                  obtain ⟨j, hj⟩ : ∃ j, j = (insAll I (d.moved.map (·.2.2))).length := ⟨_, rfl⟩
                  have HRES : Hid (ApRes (applyM old d) w (.returned (.tuple #[.slice LA j lc, .int .i64 0])) wq) := Lib.hid (.inl ⟨_, _, HF2.out, rfl, by rw [hj]; exact ownMono hol' (by have := HB0.out.size; omega), HB0.out.trans (hB.mono HB0.out.size)⟩)
                  rw [← hj]
                  clear hlt hol' hB hln hj hJl hwr
                  go_wp2
                  go_ret2
                  exact HRES.out
end Go.Proofs.Ytlgdminpkkhejaa
