/-
  The walk of identity.pairs.
  Conditions: the numbers lie in a row of one's own, the items and the identities elsewhere.
-/
import Derived.Test.YtmnhgkhidepojaaIdS
import Derived.Test.YtmnhgkhidepojaaIdFP
import Derived.Test.YtmnhgkhidepojaaBmg
namespace Go.Proofs.Ytmnhgkhidepojaa
open Go.RowKit

def sdV (d : Sd) : Value := .agg #[.int .i64 d.items, .int .i64 d.olds, .int .i64 d.item, .int .i64 d.id]
theorem keyS (w : World) (k : List UInt8) : KSt w (sv k) := ⟨k, rfl⟩
theorem cz_le (zs : List (Int × It)) (s : List UInt8) : cz zs s ≤ zs.length := List.countP_le_length
theorem co_le (zs : List Idn) (s : List UInt8) : co zs s ≤ zs.length := List.countP_le_length

def PairsRes (is : List Int) (l : List It) (old : List Idn) (base g ic : Nat) (w : World) (e : Ending) (w' : World) : Prop :=
  e = .returned (.tuple #[]) ∧ ∃ cur, curI (is.zip l) old (fun _ => True) cur ∧ w'.ownsRow base 3 1 (.slice (some ⟨g, 0, none⟩) l.length ic) l.length (cur.map (Value.int .i64)) ∧ Kp (fun y => y = g) w w'

set_option maxHeartbeats 1600000 in
set_option maxRecDepth 100000 in
theorem pairs_any (is : List Int) (l : List It) (old : List Idn) (base g ic : Nat) (A B : Option Addr) (c d : Nat) (w : World) (hil : is.length = l.length) (hl : l.length ≤ 1000) (hol : old.length ≤ 1000)
    (hI : w.ownsRow base 3 1 (.slice (some ⟨g, 0, none⟩) l.length ic) l.length (is.map (Value.int .i64))) (h : Row w (fun x => x < w.heap.size ∧ x ≠ g) A (flt itC l)) (h2 : Row w (fun x => x < w.heap.size ∧ x ≠ g) B (flt idC old)) :
    Calls Try.prog 29 #[.slice (some ⟨g, 0, none⟩) l.length ic, .slice A l.length c, .slice B old.length d] w (PairsRes is l old base g ic w) := by
  have hgl := (hI.lt g rfl).2
  obtain ⟨zs, hzs⟩ : ∃ zs, zs = is.zip l := ⟨_, rfl⟩
  have hzl : zs.length = l.length := by rw [hzs]; simp [hil]
  have hat : ∀ (k : Nat) (p : Int × It), zs[k]? = some p → is[k]? = some p.1 ∧ l[k]? = some p.2 := fun k p hp => by
    rw [hzs, List.getElem?_zip_eq_some] at hp
    exact hp
  have hz1 : zs.map (·.1) = is := by rw [hzs]; exact List.map_fst_zip (by omega)
  obtain ⟨n, hn⟩ : ∃ n, n = l.length := ⟨_, rfl⟩
  obtain ⟨m, hm⟩ : ∃ m, m = old.length := ⟨_, rfl⟩
  have hfin : PairsRes is l old base g ic w = fun e w' => e = .returned (.tuple #[]) ∧ ∃ cur, curI zs old (fun _ => True) cur ∧ w'.ownsRow base 3 1 (.slice (some ⟨g, 0, none⟩) n ic) n (cur.map (Value.int .i64)) ∧ Kp (fun y => y = g) w w' := by
    rw [hzs, hn]
    rfl
  obtain ⟨Q, hQ⟩ : ∃ Q, Q = PairsRes is l old base g ic w := ⟨_, rfl⟩
  rw [← hQ]
  rw [← hn] at hl hI hzl ⊢
  rw [← hm] at hol ⊢
  have HQ := Lib.hid (hQ.trans hfin)
  have HAT := Lib.hid hat
  have HI := Lib.hid hI
  have HR := Lib.hid h
  have HR2 := Lib.hid h2
  have HZL := Lib.hid hzl
  have HZ1 := Lib.hid hz1
  have HM := Lib.hid hm
  clear hQ hfin hat hI h h2 hzl hz1 hzs hn hm hil
  have hbx : Below w.heap.size w (w.alloc (.map #[] 0)) := (Below.refl _ _).alloc (Nat.le_refl _) _
  have HBX := Lib.hid hbx
  have HMP : Hid (MapG sv sdV (w.alloc (.map #[] 0)) w.heap.size fun _ => none) := Lib.hid (MapG.new w)
  clear hbx
  have hmm := @run_makeMap Try.prog
  go_enter Try.func29, Try.ntmps29
  go_wp2_with fail
  clear hmm
  obtain ⟨w0, hw0⟩ : ∃ w0, w0 = w.alloc (.map #[] 0) := ⟨_, rfl⟩
  rw [← hw0] at HBX HMP ⊢
  clear hw0
  go_loopw [19] (fun i wr => ∃ (k : Nat) (G : List UInt8 → Option Sd), k ≤ n ∧ i = .int .i64 k ∧ Below w.heap.size w wr ∧ MapG sv sdV wr w.heap.size G ∧ PInv zs old k 0 G) (fun i _ => n - (intOf i).toNat)
  case atStart => exact ⟨0, _, by omega, rfl, HBX.out, HMP.out, PInv.start _ _⟩
  case round =>
    obtain ⟨k, G, hkn, rfl, hB, hMp, hP⟩ := hrel
    have hsz := hB.size
    have hlm := hMp.lt
    by_cases hlt : k < n
    · obtain ⟨p, hp⟩ : ∃ p, zs[k]? = some p := ⟨_, List.getElem?_eq_getElem (by rw [HZL.out]; exact hlt)⟩
      obtain ⟨hpi, hpl⟩ := HAT.out k p hp
      obtain ⟨a, x⟩ := p
      simp only at hpi hpl
      obtain ⟨ad, rfl, hS, a0, a1, a2⟩ := it_at (HR.out.keep ((kept_below hB).sub fun b hb => hb.1)) hpl
      have hIr := (Kp.ofBelow hB : Kp (fun _ => False) w wr).own HI.out (fun _ _ e => e.elim)
      have i0 : wr.cell? ⟨g, k, none⟩ = some (.int .i64 a) := by
        rw [hIr.cellAt k (by omega), List.getElem?_map, hpi]
        rfl
      have hgr : g < wr.heap.size := by omega
      have hw1 := alloc1 wr (.cells #[sv x.md, sv x.nm, sv x.sh] 37)
      have hb1 : Below wr.heap.size wr (wr.alloc (.cells #[sv x.md, sv x.nm, sv x.sh] 37)) := (Below.refl _ _).alloc (Nat.le_refl _) _
      have HP := Lib.hid hP
      have HPP := Lib.hid hp
      have HB1 := Lib.hid (hB.trans (hb1.mono hsz))
      have HM1 := Lib.hid (hMp.same (hb1.block _ hlm))
      clear hP hp hB hMp hIr hpi hpl hw1 hb1
      by_cases h0 : a = 0
      · subst h0
        obtain ⟨d0, hd0⟩ : ∃ d0, d0 = (G x.sh).getD ⟨0, 0, 0, 0⟩ := ⟨_, rfl⟩
        have hlk : (Instr.lookup 68 (.map (some w.heap.size)) (sv x.sh) false).run Try.prog (wr.alloc (.cells #[sv x.md, sv x.nm, sv x.sh] 37)) = .ok (.agg #[.int .i64 d0.items, .int .i64 d0.olds, .int .i64 d0.item, .int .i64 d0.id]) (wr.alloc (.cells #[sv x.md, sv x.nm, sv x.sh] 37)) := by
          cases hg : G x.sh with
          | none =>
            rw [hd0, hg]
            exact HM1.out.no (K := KSt) (fun _ _ => sv_inj) Try.underlying68 keyStr (keyS _) (by kernel_rfl) hg
          | some dd =>
            rw [hd0, hg]
            exact HM1.out.yes (K := KSt) Try.underlying68 keyStr (keyS _) hg
        have hdi : 0 ≤ d0.items ∧ d0.items ≤ 1000 := by
          cases hg : G x.sh with
          | none => rw [hd0, hg]; exact ⟨Int.le_refl _, by decide⟩
          | some dd =>
            rw [hd0, hg]
            have h1 := ((HP.out x.sh).2 dd hg).2.1
            have h2 := cz_le (zs.take k) x.sh
            rw [List.length_take] at h2
            simp only [Option.getD_some]
            omega
        have hb2 : Below w.heap.size w ((wr.alloc (.cells #[sv x.md, sv x.nm, sv x.sh] 37)).alloc (.cells #[.int .i64 (d0.items + 1), .int .i64 d0.olds, .int .i64 (k : Int), .int .i64 d0.id] 70)) := HB1.out.alloc (by simp; omega) _
        have hs2 : ((wr.alloc (.cells #[sv x.md, sv x.nm, sv x.sh] 37)).alloc (.cells #[.int .i64 (d0.items + 1), .int .i64 d0.olds, .int .i64 (k : Int), .int .i64 d0.id] 70)).heap.size = wr.heap.size + 2 := by simp
        obtain ⟨w3, hput, hm3, hk3⟩ := (HM1.out.same (heap_alloc_old _ (.cells #[.int .i64 (d0.items + 1), .int .i64 d0.olds, .int .i64 (k : Int), .int .i64 d0.id] 70) (by simp; omega))).put (P := Try.prog) (K := KSt) (fun _ _ => sv_inj) Try.underlying68 keyStr (keyS _) x.sh ⟨d0.items + 1, d0.olds, k, d0.id⟩
        have hput' : (Instr.mapUpdate 68 (.map (some w.heap.size)) (sv x.sh) (.agg #[.int .i64 (d0.items + 1), .int .i64 d0.olds, .int .i64 (k : Int), .int .i64 d0.id])).run Try.prog ((wr.alloc (.cells #[sv x.md, sv x.nm, sv x.sh] 37)).alloc (.cells #[.int .i64 (d0.items + 1), .int .i64 d0.olds, .int .i64 (k : Int), .int .i64 d0.id] 70)) = .ok () w3 := hput
        have HM3 := Lib.hid hm3
        have HB3 : Hid (Below w.heap.size w w3) := Lib.hid ⟨hk3.os.trans hb2.os, hk3.tape.trans hb2.tape, hk3.output.trans hb2.output, Nat.le_trans hb2.size hk3.size, fun b hb => (hk3.block b (by omega) (by omega)).trans (hb2.block b hb)⟩
        have HP3 := Lib.hid (HP.out.item HPP.out rfl d0 hd0)
        clear hd0 hput hm3 hk3 hb2 hs2
        go_wp2
        go_roundw
        case rel => exact ⟨k + 1, _, by omega, by go_num, HB3.out, HM3.out, HP3.out⟩
        case measure => simp [intOf]; omega
      · have hq : (a == 0) = false := by simpa using h0
        go_wp2
        go_roundw
        case rel => exact ⟨k + 1, G, by omega, by go_num, HB1.out, HM1.out, HP.out.pass HPP.out h0⟩
        case measure => simp [intOf]; omega
    · obtain rfl : k = n := by omega
      have HP := Lib.hid hP
      have HB1 := Lib.hid hB
      have HM1 := Lib.hid hMp
      obtain ⟨wo, hwo⟩ : ∃ wo : World, wo = wr := ⟨_, rfl⟩
      rw [← hwo] at HB1 HM1
      have HWO := Lib.hid hwo
      clear hP hB hMp hwo
      go_wp2_with fail
      go_loopw [46] (fun i wr => ∃ (j : Nat) (G : List UInt8 → Option Sd), j ≤ m ∧ i = .int .i64 j ∧ Below w.heap.size w wr ∧ MapG sv sdV wr w.heap.size G ∧ PInv zs old k j G) (fun i _ => m - (intOf i).toNat)
      case atStart =>
        rw [← HWO.out]
        exact ⟨0, G, by omega, rfl, HB1.out, HM1.out, HP.out⟩
      case round =>
        clear HP HB1 HM1 HWO HMP HBX
        obtain ⟨j, G2, hjm, rfl, hB, hMp, hP⟩ := hrel
        have hsz1 := hB.size
        have hlm1 := hMp.lt
        by_cases hlt2 : j < m
        · obtain ⟨y, hy⟩ : ∃ y, old[j]? = some y := ⟨_, List.getElem?_eq_getElem (by rw [← HM.out]; exact hlt2)⟩
          obtain ⟨ad, rfl, hS, a0, a1, a2, a3⟩ := id_at (HR2.out.keep ((kept_below hB).sub fun b hb => hb.1)) hy
          have hb1 : Below wr.heap.size wr (wr.alloc (.cells #[.int .i64 y.id, sv y.it.md, sv y.it.nm, sv y.it.sh] 39)) := (Below.refl _ _).alloc (Nat.le_refl _) _
          have HP := Lib.hid hP
          have HY := Lib.hid hy
          have HB1 := Lib.hid (hB.trans (hb1.mono hsz1))
          have HM1 := Lib.hid (hMp.same (hb1.block _ hlm1))
          clear hP hy hB hMp hb1
          cases hg : G2 y.it.sh with
          | none =>
            have hlk : (Instr.lookup 68 (.map (some w.heap.size)) (sv y.it.sh) true).run Try.prog (wr.alloc (.cells #[.int .i64 y.id, sv y.it.md, sv y.it.nm, sv y.it.sh] 39)) = .ok (.tuple #[.agg #[.int .i64 0, .int .i64 0, .int .i64 0, .int .i64 0], .bool false]) (wr.alloc (.cells #[.int .i64 y.id, sv y.it.md, sv y.it.nm, sv y.it.sh] 39)) :=
              HM1.out.no2 (K := KSt) (fun _ _ => sv_inj) Try.underlying68 keyStr (keyS _) (by kernel_rfl) hg
            have HB2 := Lib.hid (HB1.out.alloc (by simp; omega) (.cells #[.int .i64 0, .int .i64 0, .int .i64 0, .int .i64 0] 70))
            have HM2 := Lib.hid (HM1.out.same (heap_alloc_old _ (.cells #[.int .i64 0, .int .i64 0, .int .i64 0, .int .i64 0] 70) (by simp; omega)))
            have HP2 := Lib.hid (HP.out.none HY.out hg)
            clear hg
            go_wp2
            go_roundw
            case rel => exact ⟨j + 1, G2, by omega, by go_num, HB2.out, HM2.out, HP2.out⟩
            case measure => simp [intOf]; omega
          | some d0 =>
            have hlk : (Instr.lookup 68 (.map (some w.heap.size)) (sv y.it.sh) true).run Try.prog (wr.alloc (.cells #[.int .i64 y.id, sv y.it.md, sv y.it.nm, sv y.it.sh] 39)) = .ok (.tuple #[.agg #[.int .i64 d0.items, .int .i64 d0.olds, .int .i64 d0.item, .int .i64 d0.id], .bool true]) (wr.alloc (.cells #[.int .i64 y.id, sv y.it.md, sv y.it.nm, sv y.it.sh] 39)) :=
              HM1.out.yes2 (K := KSt) Try.underlying68 keyStr (keyS _) hg
            have hdo : 0 ≤ d0.olds ∧ d0.olds ≤ 1000 := by
              have h1 := ((HP.out y.it.sh).2 d0 hg).2.2.1
              have h2 := co_le (old.take j) y.it.sh
              rw [List.length_take] at h2
              omega
            have HG := Lib.hid hg
            clear hg
            have hbs := alloc2 wr (.cells #[.int .i64 y.id, sv y.it.md, sv y.it.nm, sv y.it.sh] 39) (.cells #[.int .i64 d0.items, .int .i64 d0.olds, .int .i64 d0.item, .int .i64 d0.id] 70)
            obtain ⟨w2, hw2⟩ : ∃ w2, w2 = (wr.alloc (.cells #[.int .i64 y.id, sv y.it.md, sv y.it.nm, sv y.it.sh] 39)).alloc (.cells #[.int .i64 d0.items, .int .i64 d0.olds, .int .i64 d0.item, .int .i64 d0.id] 70) := ⟨_, rfl⟩
            rw [← hw2] at hbs
            have hs2 : w2.heap.size = wr.heap.size + 2 := by rw [hw2]; simp
            have r0 : w2.cell? ⟨wr.heap.size, 0, none⟩ = some (.int .i64 y.id) := (Lib.cell_of_heap hbs.1 _).trans rfl
            have r3 : w2.cell? ⟨wr.heap.size, 3, none⟩ = some (sv y.it.sh) := (Lib.cell_of_heap hbs.1 _).trans rfl
            have n0 : w2.cell? ⟨wr.heap.size + 1, 0, none⟩ = some (.int .i64 d0.items) := (Lib.cell_of_heap hbs.2 _).trans rfl
            have n1 : w2.cell? ⟨wr.heap.size + 1, 1, none⟩ = some (.int .i64 d0.olds) := (Lib.cell_of_heap hbs.2 _).trans rfl
            have n2 : w2.cell? ⟨wr.heap.size + 1, 2, none⟩ = some (.int .i64 d0.item) := (Lib.cell_of_heap hbs.2 _).trans rfl
            have n3 : w2.cell? ⟨wr.heap.size + 1, 3, none⟩ = some (.int .i64 d0.id) := (Lib.cell_of_heap hbs.2 _).trans rfl
            have f1 : w2.frozen? ⟨wr.heap.size + 1, 1, none⟩ = false := Lib.frozen_of_heap hbs.2 1
            have f3 : w2.frozen? ⟨wr.heap.size + 1, 3, none⟩ = false := Lib.frozen_of_heap hbs.2 3
            have HB2 : Hid (Below w.heap.size w w2) := Lib.hid (by rw [hw2]; exact HB1.out.alloc (by simp; omega) _)
            have HM2 : Hid (MapG sv sdV w2 w.heap.size G2) := Lib.hid (by rw [hw2]; exact HM1.out.same (heap_alloc_old _ _ (by simp; omega)))
            have HS2 := Lib.hid hs2
            have HW2 := Lib.hid hw2
            clear hbs hs2 hw2
            go_wp2_with fail
            rw [← HW2.out]
            clear hlk
            go_region
            have HN2 := Lib.hid (show w2.heap[wr.heap.size + 1]? = some (.cells #[.int .i64 d0.items, .int .i64 d0.olds, .int .i64 d0.item, .int .i64 d0.id] 70 (0, 0)) by rw [HW2.out]; exact (alloc2 wr _ _).2)
            have h3 := setCell_heap (o := 3) (v := .int .i64 y.id) (setCell_heap (o := 1) (v := .int .i64 (d0.olds + 1)) HN2.out)
            have hk3 : Kp (fun x => x = wr.heap.size + 1) w2 ((w2.setCell ⟨wr.heap.size + 1, 1, none⟩ (.int .i64 (d0.olds + 1))).setCell ⟨wr.heap.size + 1, 3, none⟩ (.int .i64 y.id)).drew := ((Kp.setCell (M := fun x => x = wr.heap.size + 1) (Kp.setCell (M := fun x => x = wr.heap.size + 1) (Kp.refl _ _) (fun _ => rfl) _) (fun _ => rfl) _)).drew
            obtain ⟨w3, hw3⟩ : ∃ w3, w3 = ((w2.setCell ⟨wr.heap.size + 1, 1, none⟩ (.int .i64 (d0.olds + 1))).setCell ⟨wr.heap.size + 1, 3, none⟩ (.int .i64 y.id)).drew := ⟨_, rfl⟩
            have h3' : w3.heap[wr.heap.size + 1]? = some (.cells #[.int .i64 d0.items, .int .i64 (d0.olds + 1), .int .i64 d0.item, .int .i64 y.id] 70 (0, 0)) := by rw [hw3]; exact h3
            rw [← hw3] at hk3 ⊢
            have m0 : w3.cell? ⟨wr.heap.size + 1, 0, none⟩ = some (.int .i64 d0.items) := (Lib.cell_of_heap h3' _).trans rfl
            have m1 : w3.cell? ⟨wr.heap.size + 1, 1, none⟩ = some (.int .i64 (d0.olds + 1)) := (Lib.cell_of_heap h3' _).trans rfl
            have m2 : w3.cell? ⟨wr.heap.size + 1, 2, none⟩ = some (.int .i64 d0.item) := (Lib.cell_of_heap h3' _).trans rfl
            have m3 : w3.cell? ⟨wr.heap.size + 1, 3, none⟩ = some (.int .i64 y.id) := (Lib.cell_of_heap h3' _).trans rfl
            have hs2 := HS2.out
            have hs3 := hk3.size
            have r3' : w3.cell? ⟨wr.heap.size, 3, none⟩ = some (sv y.it.sh) := (World.cell?_of_block (hk3.block _ (by simp; omega) (by simp))).trans r3
            obtain ⟨w4, hput, hm4, hk4⟩ := (HM2.out.kp hk3 (by omega)).put (P := Try.prog) (K := KSt) (fun _ _ => sv_inj) Try.underlying68 keyStr (keyS _) y.it.sh ⟨d0.items, d0.olds + 1, d0.item, y.id⟩
            have hput' : (Instr.mapUpdate 68 (.map (some w.heap.size)) (sv y.it.sh) (.agg #[.int .i64 d0.items, .int .i64 (d0.olds + 1), .int .i64 d0.item, .int .i64 y.id])).run Try.prog w3 = .ok () w4 := hput
            have HM4 := Lib.hid hm4
            have HB4 : Hid (Below w.heap.size w w4) := Lib.hid (by
              have hb := HB2.out
              exact ⟨hk4.os.trans (hk3.os.trans hb.os), hk4.tape.trans (hk3.tape.trans hb.tape), hk4.output.trans (hk3.output.trans hb.output), Nat.le_trans hb.size (Nat.le_trans hs3 hk4.size), fun b hb' => (hk4.block b (by omega) (by omega)).trans ((hk3.block b (by omega) (by omega)).trans (hb.block b hb'))⟩)
            have HP4 := Lib.hid (HP.out.old HY.out d0 HG.out)
            clear hput hm4 hk4 h3 h3' hk3 hw3 r0 r3 n0 n1 n2 n3 f1 f3 hs2 hs3
            go_wp2
            go_roundw
            case rel => exact ⟨j + 1, _, by omega, by go_num, HB4.out, HM4.out, HP4.out⟩
            case measure => simp [intOf]; omega
        · obtain rfl : j = m := by omega
          obtain ⟨wa, rfl⟩ : ∃ wa, wa = wr := ⟨_, rfl⟩
          obtain ⟨L, hL, hG⟩ := hMp
          have hLG : ∀ s d, (s, d) ∈ L → G2 s = some d := fun s d hm => (hG s).symm.trans (glook_mem (nodup_of_map hL) hm)
          obtain ⟨wb, hrg, hra, hbb⟩ := run_range_start (P := Try.prog) hL Try.underlying68
          have hIb := (Kp.ofBelow (hB.trans (hbb.mono hsz1)) : Kp (fun _ => False) w wb).own HI.out (fun _ _ e => e.elim)
          have hkb : Kp (fun y => y = g) w wb := Kp.ofBelow (hB.trans (hbb.mono hsz1))
          have hlb : wa.heap.size < wb.heap.size := hra.lt
          have HRA := Lib.hid hra
          have HIB := Lib.hid hIb
          have HKB := Lib.hid hkb
          have HP := Lib.hid hP
          have HLG := Lib.hid hLG
          have HG := Lib.hid hG
          clear hra hIb hkb hP hLG hG hL hB hbb
          go_wp2_with fail
          go_loopw [15] (fun _ wx => ∃ (done : List (Value × Value)) (cur : List Int), RangeAt wx w.heap.size wa.heap.size (L.map fun p => (sv p.1, sdV p.2)) done ∧ curI zs old (fun s => ∃ d, (sv s, sdV d) ∈ done) cur ∧
            wx.ownsRow base 3 1 (.slice (some ⟨g, 0, none⟩) k ic) k (cur.map (Value.int .i64)) ∧ Kp (fun y => y = g) w wx) (fun _ wx => rangeLeft wx w.heap.size wa.heap.size)
          case atStart => exact ⟨[], is, HRA.out, (by rw [← HZ1.out]; exact (curI.start zs old).ext fun s => ⟨fun h => h.elim, fun ⟨d, h⟩ => by cases h⟩), HIB.out, HKB.out⟩
          case round =>
            obtain ⟨done, cur, hrr, hc, ho, hk⟩ := hrel
            have hszk := hk.size
            have hrl := hrr.lt
            rcases run_range_next (P := Try.prog) hrr 0 with ⟨hall, hrun⟩ | ⟨kv, vv, wn, hmem, hrun, hrn, hkn, hless, hent⟩
            · have hnx : ∀ ty, (Instr.next (.pointer (some ⟨wa.heap.size, 0, none⟩)) false ty).run Try.prog wr = _ := fun _ => hrun
              have hfin : Q (.returned (.tuple #[])) wr := by
                rw [HQ.out]
                refine ⟨rfl, cur, ⟨hc.1, fun i p c hp hcc => ?_⟩, ho, hk⟩
                obtain ⟨h1, h2, h3⟩ := hc.2 i p c hp hcc
                refine ⟨h1, fun h0 _ => ?_, fun _ h => absurd trivial h⟩
                have hpos : G2 p.2.sh ≠ none := fun e => by
                  have h4 := (HP.out p.2.sh).1 e
                  rw [← HZL.out, List.take_length] at h4
                  have h5 : 0 < cz zs p.2.sh := List.countP_pos_iff.2 ⟨p, List.mem_of_getElem? hp, by simp [isN, h0]⟩
                  omega
                cases hg : G2 p.2.sh with
                | none => exact absurd hg hpos
                | some d =>
                  exact h2 h0 ⟨d, hall _ (List.mem_map.2 ⟨(p.2.sh, d), glook_some ((HG.out _).trans hg), rfl⟩)⟩
              have HF := Lib.hid hfin
              clear hfin hall hrun hc ho hk hrr
              go_wp2
              go_end0
              exact HF.out
            · obtain ⟨⟨s, d⟩, hsd, hkv⟩ := List.mem_map.1 hmem
              obtain ⟨rfl, rfl⟩ := Prod.mk.inj hkv
              obtain ⟨d1, d2, d3, d4⟩ := d
              have hgs := HLG.out s _ hsd
              have hok := (HP.out s).2 _ hgs
              rw [show k = zs.length from HZL.out.symm, show j = old.length from HM.out] at hok
              have hnx : ∀ ty, (Instr.next (.pointer (some ⟨wa.heap.size, 0, none⟩)) false ty).run Try.prog wr = _ := fun _ => hrun
              have hent' : (Instr.entry (.pointer (some ⟨wa.heap.size, 0, none⟩))).run Try.prog wn = .ok (.tuple #[sv s, .agg #[.int .i64 d1, .int .i64 d2, .int .i64 d3, .int .i64 d4]]) wn := hent
              have hszn := hkn.size
              have hb2 : Below wn.heap.size wn (wn.alloc (.cells #[.int .i64 d1, .int .i64 d2, .int .i64 d3, .int .i64 d4] 70)) := (Below.refl _ _).alloc (Nat.le_refl _) _
              have hkn' : Kp (fun y => y = g) w wn := hk.trans hkn fun x hx e => by have := hrr.lt; omega
              have hon := hkn.own ho (fun g' hg' e => by have h9 : g = g' := Option.some.inj hg'; omega)
              have hDone : ∀ t, (∃ d', (sv t, sdV d') ∈ (sv s, sdV ⟨d1, d2, d3, d4⟩) :: done) ↔ (t = s ∨ ∃ d', (sv t, sdV d') ∈ done) := fun t => by
                constructor
                · rintro ⟨d', hd'⟩
                  rcases List.mem_cons.1 hd' with e | e
                  · exact .inl (sv_inj (Prod.mk.inj e).1)
                  · exact .inr ⟨d', e⟩
                · rintro (e | ⟨d', e⟩)
                  · exact ⟨_, by rw [e]; exact List.mem_cons_self⟩
                  · exact ⟨d', List.mem_cons_of_mem _ e⟩
              by_cases h1 : d1 = 1 ∧ d2 = 1
              · obtain ⟨rfl, rfl⟩ := h1
                obtain ⟨i, hi, hil, hcw⟩ := hc.write hok rfl rfl
                simp only at hi hcw
                subst hi
                have hin : i < k := by rw [← HZL.out]; exact hil
                have hgn : g < wn.heap.size := (hon.lt g rfl).2
                have fz := (hon.alloc (.cells #[.int .i64 1, .int .i64 1, .int .i64 (i : Int), .int .i64 d4] 70)).frozenAt i
                have cz0 : wn.cell? ⟨g, i, none⟩ = (cur.map (Value.int .i64))[i]? := hon.cellAt i (by omega)
                have hil2 : i < cur.length := by rw [hc.1]; exact hil
                rw [List.getElem?_map, List.getElem?_eq_getElem hil2, Option.map_some] at cz0
                have HOS := Lib.hid ((hon.stored i (.int .i64 d4)).1.alloc (.cells #[.int .i64 1, .int .i64 1, .int .i64 (i : Int), .int .i64 d4] 70))
                have HKS := Lib.hid ((hkn'.setCell (b := g) (o := i) (fun _ => rfl) (.int .i64 d4)).alloc (.cells #[.int .i64 1, .int .i64 1, .int .i64 (i : Int), .int .i64 d4] 70))
                have hks2 : Kp (fun y => y = g) wn ((wn.setCell ⟨g, i, none⟩ (.int .i64 d4)).alloc (.cells #[.int .i64 1, .int .i64 1, .int .i64 (i : Int), .int .i64 d4] 70)) := (Kp.setCell (M := fun y => y = g) (Kp.refl _ _) (fun _ => rfl) _).alloc _
                have hme := hrn.map.lt
                have hrb1 := hks2.block w.heap.size hme (by omega)
                have hrb2 := hks2.block wa.heap.size hrn.lt (by omega)
                have HRS := Lib.hid (hrn.same hrb1 hrb2)
                have HLE := Lib.hid (show rangeLeft ((wn.setCell ⟨g, i, none⟩ (.int .i64 d4)).alloc (.cells #[.int .i64 1, .int .i64 1, .int .i64 (i : Int), .int .i64 d4] 70)) w.heap.size wa.heap.size < rangeLeft wr w.heap.size wa.heap.size by rw [rangeLeft_same hrb1 hrb2]; exact hless)
                have HCW := Lib.hid (hcw.ext fun t => (hDone t).symm)
                have hiik : (0 : Int) ≤ (i : Int) ∧ (i : Int) < (k : Int) := ⟨by omega, by omega⟩
                clear hc hok hgs hrun hent hrn hkn hkn' hon hDone hcw hks2 hrb1 hrb2 hless hk ho hrr hmem hsd hkv hb2
                go_wp2
                go_roundw
                case rel => exact ⟨_, _, HRS.out, HCW.out, (by rw [List.map_set]; exact HOS.out), HKS.out⟩
                case measure => exact HLE.out
              · have hcs := hc.skip hok h1
                have HCW := Lib.hid (hcs.ext fun t => (hDone t).symm)
                have HOS := Lib.hid (hon.alloc (.cells #[.int .i64 d1, .int .i64 d2, .int .i64 d3, .int .i64 d4] 70))
                have HKS := Lib.hid (hkn'.alloc (.cells #[.int .i64 d1, .int .i64 d2, .int .i64 d3, .int .i64 d4] 70))
                have hrb1 := hb2.block w.heap.size hrn.map.lt
                have hrb2 := hb2.block wa.heap.size hrn.lt
                have HRS := Lib.hid (hrn.same hrb1 hrb2)
                have HLE := Lib.hid (show rangeLeft (wn.alloc (.cells #[.int .i64 d1, .int .i64 d2, .int .i64 d3, .int .i64 d4] 70)) w.heap.size wa.heap.size < rangeLeft wr w.heap.size wa.heap.size by rw [rangeLeft_same hrb1 hrb2]; exact hless)
                clear hc hok hgs hrun hent hrn hkn hkn' hon hDone hcs hrb1 hrb2 hless hk ho hrr hmem hsd hkv hb2
                by_cases h2 : d1 = 1
                · have h3 : ¬ d2 = 1 := fun e => h1 ⟨h2, e⟩
                  clear h1
                  subst h2
                  go_wp2
                  go_roundw
                  case rel => exact ⟨_, _, HRS.out, HCW.out, HOS.out, HKS.out⟩
                  case measure => exact HLE.out
                · clear h1
                  go_wp2
                  go_roundw
                  case rel => exact ⟨_, _, HRS.out, HCW.out, HOS.out, HKS.out⟩
                  case measure => exact HLE.out
end Go.Proofs.Ytmnhgkhidepojaa
