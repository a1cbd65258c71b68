/-
  The walk of ref.Of.
  Conditions: the messages lie in memory.
-/
import Derived.Test.YtlgdminpkkhejaaDtE
import Derived.Test.YtlgdminpkkhejaaDtT
import Derived.Test.YtlgdminpkkhejaaBtwo
namespace Go.Proofs.Ytlgdminpkkhejaa
open Go.RowKit

/-- A difference whose rows are its own, no two in one block. -/
def RofRes (d : Dl) (w : World) (e : Ending) (w' : World) : Prop :=
  ∃ v1 v2 v3 : Value, e = .returned (.agg #[v1, v2, v3]) ∧ w'.ownsRow w.heap.size 40 3 v1 d.gone.length (flt msC d.gone) ∧ w'.ownsRow w.heap.size 40 3 v2 d.come.length (flt msC d.come) ∧ w'.ownsRow w.heap.size 42 5 v3 d.moved.length (flt mvC d.moved) ∧ (∀ g, v1.ownBlock = some g → v2.ownBlock ≠ some g ∧ v3.ownBlock ≠ some g) ∧ (∀ g, v2.ownBlock = some g → v3.ownBlock ≠ some g) ∧ Below w.heap.size w w'
theorem ref_parts (old now : List Msg) : dif (srtM old) (srtM now) = goneM old now ∧ rest (srtM old) (srtM now) = goneM now old :=
  ⟨dif_perm (srtM_srt old) (srtM_perm now), (rest_is (srtM_srt now)).trans (dif_perm (srtM_srt now) (srtM_perm old))⟩
theorem find_none {L : List Msg} {m : Msg} (h : ∀ x ∈ L, alk m x = false) : L.find? (alk m) = none := List.find?_eq_none.2 fun x hx => by rw [h x hx]; simp
theorem find_at {L : List Msg} {m x : Msg} {t : Nat} (h : ∀ y ∈ L.take t, alk m y = false) (hx : L[t]? = some x) (ha : alk m x = true) : L.find? (alk m) = some x := by
  have hlt := (List.getElem?_eq_some_iff.1 hx).1
  have e : L = L.take t ++ x :: L.drop (t + 1) := by
    rw [List.getElem?_eq_getElem hlt] at hx
    rw [← Option.some.inj hx, List.getElem_cons_drop hlt, List.take_append_drop]
  rw [e, List.find?_append, find_none h]
  simp [ha]
theorem msg_if {β : Type} (a m : Msg) (f : Bool → β) : (if a.1 = m.1 then if a.2.1 = m.2.1 then if (bs a.2.2).toList = (bs m.2.2).toList then f true else f false else f false else f false) = f (decide (a = m)) := by
  by_cases e1 : a.1 = m.1
  · rw [if_pos e1]
    by_cases e2 : a.2.1 = m.2.1
    · rw [if_pos e2]
      by_cases e3 : a.2.2 = m.2.2
      · rw [if_pos (by rw [e3]), decide_eq_true (Prod.ext e1 (Prod.ext e2 e3))]
      · rw [if_neg (by rw [bs_toList, bs_toList]; exact e3), decide_eq_false fun e => e3 (by rw [e])]
    · rw [if_neg e2, decide_eq_false fun e => e2 (by rw [e])]
  · rw [if_neg e1, decide_eq_false fun e => e1 (by rw [e])]
set_option maxHeartbeats 4800000 in
set_option maxRecDepth 100000 in
theorem rof_any (old now : List Msg) (A B : Option Addr) (c d : Nat) (w : World) (hl : old.length ≤ 100000) (hl2 : now.length ≤ 100000) (h : Row w (Lt w.heap.size) A (flt msC old)) (h' : Row w (Lt w.heap.size) B (flt msC now)) :
    Calls Try.prog 16 #[.slice A old.length c, .slice B now.length d] w (RofRes (ofM old now) w) := by
  obtain ⟨n, hn⟩ : ∃ n, n = old.length := ⟨_, rfl⟩
  obtain ⟨p, hp⟩ : ∃ p, p = now.length := ⟨_, rfl⟩
  obtain ⟨w0, hw0⟩ : ∃ w0, w0 = w.alloc (.cells #[.slice none 0 0, .slice none 0 0, .slice none 0 0] 25) := ⟨_, rfl⟩
  have hb0 : Below w.heap.size w w0 := by rw [hw0]; exact (Below.refl _ _).alloc (Nat.le_refl _) _
  have hx0 : w0.heap[w.heap.size]? = some (.cells #[.slice none 0 0, .slice none 0 0, .slice none 0 0] 25 (0, 0)) := by rw [hw0]; exact alloc1 _ _
  have hs0 : w0.heap.size = w.heap.size + 1 := by rw [hw0]; simp
  have hs1 := rsorted_any (Lt w0.heap.size) old A c w0 (fun _ h => h) (by omega) (h.below hb0)
  have HRB := Lib.hid fun w' (hb : Below w0.heap.size w0 w') => (h'.below hb0).below hb
  obtain ⟨i0, hi, hz0, hz1, hz2⟩ := info_parts infoMs
  obtain ⟨i5, hj, hy0, hy1, hy2⟩ := info_parts infoMv
  have hlo : (srtM old).length = n := by rw [srtM_len, hn]
  have hlp : (srtM now).length = p := by rw [srtM_len, hp]
  have hpt := ref_parts old now
  have hso := srtM_srt old
  have hsn := srtM_srt now
  rw [← hn] at hs1 hl ⊢
  rw [← hp] at hl2 ⊢
  have HP := Lib.hid hp
  have HSO := Lib.hid hs1
  have HW0 := Lib.hid hw0
  have HB0 := Lib.hid hb0
  have HX0 := Lib.hid hx0
  have HPT := Lib.hid hpt
  have HSRT := Lib.hid (And.intro hso hsn)
  clear hn hp hw0 hb0 hx0 hs1 h h' hpt hso hsn
  go_enter Try.func16, Try.ntmps16
  go_wp2_with fail
  rw [← HW0.out]
  refine HSO.out.mono ?_
  rintro e w1 ⟨v5, rfl, hown1, hb1⟩
  have hs2 := rsorted_any (Lt w1.heap.size) now B d w1 (fun _ h => h) (by rw [← HP.out]; omega) (HRB.out w1 hb1)
  rw [← HP.out] at hs2
  have HSN := Lib.hid hs2
  have HO1 := Lib.hid hown1
  have hlt1 := hown1.lt
  have HLT1 := Lib.hid hlt1
  have HB1 := Lib.hid hb1
  have hs1 := hb1.size
  obtain ⟨A5, c5, rfl, _⟩ := own_slice hown1
  rw [hlo] at HO1 ⊢
  clear hown1 hlt1 hb1 hs2 HSO
  go_wp2_with fail
  refine HSN.out.mono ?_
  rintro e w2 ⟨v22, rfl, hown2, hb2⟩
  obtain ⟨A6, c6, rfl, _⟩ := own_slice hown2
  rw [hlp] at hown2 ⊢
  have HRN := Lib.hid fun w' (hb : Below w2.heap.size w2 w') => (Row.ofOwn (S := Lt w2.heap.size) hown2 fun _ _ _ h => h).below hb
  have HO2 := Lib.hid ((Kp.ofBelow (M := fun _ => False) hb2).own HO1.out fun _ _ e => e)
  have HB2 := Lib.hid (HB1.out.trans (hb2.mono HB1.out.size))
  have hs2 := hb2.size
  obtain ⟨Lo, hLo⟩ : ∃ Lo, Lo = srtM old := ⟨_, rfl⟩
  obtain ⟨Ns, hNs⟩ : ∃ Ns, Ns = srtM now := ⟨_, rfl⟩
  rw [← hLo] at hlo HO2 HPT HSRT
  rw [← hNs] at hlp HRN HPT HSRT
  have HLO := Lib.hid (And.intro hlo hlp)
  have hrs := fun k => (rest_sub (Ns.take k) Lo).length_le
  have hds := fun k => (dif_sub (Ns.take k) Lo).length_le
  have HSUB := Lib.hid (And.intro hrs hds)
  clear hown2 hb2 hLo hNs hlo hlp HO1 HB1 HRB HSN HP hrs hds
  go_wp2_with fail
  go_loopw [24, 5, 6] (fun i lv rv wr => ∃ k : Nat, k ≤ p ∧ i = .int .i64 k ∧ Below w2.heap.size w2 wr ∧ wr.ownsRow w0.heap.size 40 3 lv (dif Lo (Ns.take k)).length (flt msC (dif Lo (Ns.take k))) ∧ wr.ownsRow w2.heap.size 40 3 rv (rest Lo (Ns.take k)).length (flt msC (rest Lo (Ns.take k))) ∧ ∀ g, lv.ownBlock = some g → rv.ownBlock ≠ some g) (fun i _ _ _ => p - (intOf i).toNat)
  case atStart =>
    refine ⟨0, by omega, rfl, Below.refl _ _, ?_, World.ownsRow_nil _ _ _ _, fun g _ e => by cases e⟩
    rw [show dif Lo (Ns.take 0) = Lo from rfl, HLO.out.1]
    exact HO2.out
  case round =>
    obtain ⟨k, hk, rfl, hB, hol, hor, hne⟩ := hrel
    obtain ⟨LA, lc, rfl, _⟩ := own_slice hol
    obtain ⟨RA, rc, rfl, _⟩ := own_slice hor
    have hL1 : (dif Lo (Ns.take k)).length ≤ n := by rw [← HLO.out.1]; exact HSUB.out.2 k
    have hR1 : (rest Lo (Ns.take k)).length ≤ k := Nat.le_trans (HSUB.out.1 k) (List.length_take_le _ _)
    obtain ⟨L, hL⟩ : ∃ L, L = dif Lo (Ns.take k) := ⟨_, rfl⟩
    obtain ⟨R, hR⟩ : ∃ R, R = rest Lo (Ns.take k) := ⟨_, rfl⟩
    rw [← hL] at hol hL1 hne ⊢
    rw [← hR] at hor hR1 hne ⊢
    by_cases hlt : k < p
    · obtain ⟨m, hm⟩ : ∃ m, Ns[k]? = some m := ⟨_, List.getElem?_eq_getElem (by rw [HLO.out.2]; exact hlt)⟩
      obtain ⟨ad, hA, _, a0, a1, a2⟩ := ms_at (HRN.out wr hB) hm
      have hik : (0 : Int) ≤ (k : Int) ∧ (k : Int) < (p : Int) := ⟨by omega, by omega⟩
      have htk := take_snoc hm
      have hds : dif Lo (Ns.take (k + 1)) = L.erase m := by rw [htk, dif_snoc, hL]
      have hry : m ∈ L → rest Lo (Ns.take (k + 1)) = R := fun hq => by rw [htk, rest_yes _ _ _ (by rw [← hL]; exact hq), hR]
      have hrn : ¬ m ∈ L → rest Lo (Ns.take (k + 1)) = R ++ [m] := fun hq => by rw [htk, rest_no _ _ _ (by rw [← hL]; exact hq), hR]
      obtain ⟨wa, hwa⟩ : ∃ wa, wa = wr.alloc (.cells #[.int .i64 m.1, .int .i64 m.2.1, sv m.2.2] 40) := ⟨_, rfl⟩
      have hba : Below wr.heap.size wr wa := by rw [hwa]; exact (Below.refl _ _).alloc (Nat.le_refl _) _
      have hxa : wa.heap[wr.heap.size]? = some (.cells #[.int .i64 m.1, .int .i64 m.2.1, sv m.2.2] 40 (0, 0)) := by rw [hwa]; exact alloc1 _ _
      have hsa : wa.heap.size = wr.heap.size + 1 := by rw [hwa]; simp
      have hola := (Kp.ofBelow (M := fun _ => False) hba).own hol fun _ _ e => e
      have hora := (Kp.ofBelow (M := fun _ => False) hba).own hor fun _ _ e => e
      have HT := Lib.hid (take_any (Lt wa.heap.size) L m LA lc wa (fun _ h => h) (own_le hol).1 (by omega) (Row.ofOwn hola fun _ _ _ h => h))
      obtain ⟨l, hl'⟩ : ∃ l, l = L.length := ⟨_, rfl⟩
      obtain ⟨r, hr'⟩ : ∃ r, r = R.length := ⟨_, rfl⟩
      rw [← hl'] at HT hne hL1 ⊢
      rw [← hr'] at hne hR1 ⊢
      have HLL := Lib.hid (And.intro hl' hr')
      have HOL := Lib.hid hola
      have HOR := Lib.hid hora
      have HNE := Lib.hid hne
      have HST := Lib.hid (And.intro hds (And.intro hry hrn))
      have HWA := Lib.hid hwa
      have HXA := Lib.hid hxa
      have HBA := Lib.hid (hB.trans (hba.mono hB.size))
      have hrl := hor.lt
      have hwr := hB.size
      have HRL := Lib.hid hrl
      rw [hA]
      have HAD := Lib.hid hA
      clear hL hR hm hA htk hds hry hrn hwa hba hxa hola hora hl' hr' hol hor hne hB hrl
      go_wp2_with fail
      rw [← HWA.out]
      refine HT.out.mono ?_
      clear a0 a1 a2
      rintro e w3 ⟨v, b, rfl, hbm, hb3, hyes, hno⟩
      have hs3 := hb3.size
      have HB3 := Lib.hid (HBA.out.trans (hb3.mono HBA.out.size))
      have HOR3 := Lib.hid ((Kp.ofBelow (M := fun _ => False) hb3).own HOR.out fun _ _ e => e)
      by_cases hmem : m ∈ L
      · obtain rfl : b = true := by rw [hbm]; exact decide_eq_true hmem
        have HY := Lib.hid (hyes rfl)
        obtain ⟨VA, vc, hv, _⟩ := own_slice (hyes rfl)
        have HMEM := Lib.hid hmem
        have hrm := HST.out.2.1 hmem
        have HRM := Lib.hid hrm
        obtain ⟨e1, he1⟩ : ∃ e1, e1 = (L.erase m).length := ⟨_, rfl⟩
        rw [← he1] at hv HY
        subst hv
        have HE1 := Lib.hid he1
        clear hyes hno hbm hb3 hmem hrm he1
        go_wp2_with fail
        try rw [← HAD.out]
        go_roundw
        case rel =>
          refine ⟨k + 1, by omega, by go_num, HB3.out, ?_, ?_, ?_⟩
          · rw [HST.out.1, ← HE1.out]
            exact ownMono HY.out (by omega)
          · rw [HRM.out, HLL.out.2]
            exact HOR3.out
          · intro g hg hg2
            have h1 := (HY.out.lt g hg).1
            have h2 := (HRL.out g (by rw [HLL.out.2] at hg2; exact hg2)).2
            omega
        case measure => simp [intOf]; omega
      · obtain rfl : b = false := by rw [hbm]; exact decide_eq_false hmem
        obtain rfl : v = .slice LA l lc := hno rfl
        have hrm := HST.out.2.2 hmem
        have hle : L.erase m = L := List.erase_of_not_mem hmem
        have HRM := Lib.hid (And.intro hrm hle)
        have hx3 := (hb3.block _ (lt_of_heap HXA.out)).trans HXA.out
        obtain ⟨q0, q1, q2⟩ := ms_blk hx3 rfl
        have hls := block_lt_of_cell q0
        have HOL3 := Lib.hid ((Kp.ofBelow (M := fun _ => False) hb3).own HOL.out fun _ _ e => e)
        have hor4 := HOR3.out.alloc (.cells #[.int .i64 m.1, .int .i64 m.2.1, sv m.2.2] 40)
        rw [← HLL.out.2] at hor4
        have HO4 := Lib.hid hor4
        have HNEW := Lib.hid (World.news_of_block (cs := #[.int .i64 m.1, .int .i64 m.2.1, sv m.2.2]) (alloc1 w3 (.cells #[.int .i64 m.1, .int .i64 m.2.1, sv m.2.2] 40)))
        clear hyes hno hbm hb3 hmem hrm hle hx3 hor4
        go_wp2_with (at_builtin; refine wpList_append_lies _ rfl _ _ 22 rfl w2.heap.size 40 i0 _ 3 32 Try.underlying22 hi hz0 hz1 hz2 rfl (by omega) (.slice RA r rc) r (flt msC R) rfl HO4.out ⟨w3.heap.size, 0, none⟩ 1 1 [.int .i64 m.1, .int .i64 m.2.1, sv m.2.2] rfl rfl HNEW.out ?d2 (by omega) ?d3 ?d4 ?d5 _ rfl ?_)
        case d2 => exact fun u hu => msC_one m u hu
        case d3 => unfold maxLen; omega
        case d4 => omega
        case d5 => have := HB3.out.size; simp; omega
        intro vg vcap w5 hown5 hgr hat _
        have hk35 : Kp (fun y => (Value.slice RA r rc).ownBlock = some y) w3 w5 := ((Kp.refl _ _).alloc (.cells #[.int .i64 m.1, .int .i64 m.2.1, sv m.2.2] 40)).grown hgr fun q hq _ => hq
        have HB5 := Lib.hid (kp_below HB3.out hk35 fun y e => (HO4.out.lt y e).1)
        have HOL5 := Lib.hid (hk35.own HOL3.out fun g hg => HNE.out g (by rw [← HLL.out.1] at hg; exact hg))
        have HO5 := Lib.hid hown5
        have HAT := Lib.hid hat
        clear hown5 hgr hat hk35 q0 q1 q2
        go_wp2_with fail
        try rw [← HAD.out]
        go_roundw
        case rel =>
          refine ⟨k + 1, by omega, by go_num, HB5.out, ?_, ?_, ?_⟩
          · rw [HST.out.1, HRM.out.2, HLL.out.1]
            exact HOL5.out
          · rw [HRM.out.1, List.length_append, flt_append, flt_one, ← HLL.out.2]
            exact HO5.out
          · intro g hg hg2
            obtain rfl : vg = g := by simpa [Value.ownBlock] using hg2
            rcases HAT.out with e | e
            · exact HNE.out _ hg e
            · have h2 := (HOL3.out.lt vg (by rw [← HLL.out.1]; exact hg)).2
              omega
        case measure => simp [intOf]; omega
    · obtain rfl : k = p := by omega
      have hfl : L = goneM old now := by rw [hL, List.take_of_length_le (by rw [HLO.out.2]; exact Nat.le_refl _)]; exact HPT.out.1
      have hfr : R = goneM now old := by rw [hR, List.take_of_length_le (by rw [HLO.out.2]; exact Nat.le_refl _)]; exact HPT.out.2
      obtain ⟨u, hu⟩ : ∃ u, u = wr.alloc (.cells #[.slice none 0 0, .slice none 0 0, .slice none 0 0] 25) := ⟨_, rfl⟩
      have hbu : Below wr.heap.size wr u := by rw [hu]; exact (Below.refl _ _).alloc (Nat.le_refl _) _
      have hxu : u.heap[wr.heap.size]? = some (.cells #[.slice none 0 0, .slice none 0 0, .slice none 0 0] 25 (0, 0)) := by rw [hu]; exact alloc1 _ _
      have hsu : u.heap.size = wr.heap.size + 1 := by rw [hu]; simp
      obtain ⟨D, hD⟩ : ∃ D, D = wr.heap.size := ⟨_, rfl⟩
      have hBw := hB.size
      have holu := (Kp.ofBelow (M := fun _ => False) hbu).own hol fun _ _ e => e
      have holl := hol.lt
      have horl := hor.lt
      have HI0 : Hid (RoInv w0.heap.size D u u (.slice LA L.length lc) (.slice none 0 0) (.slice none 0 0) (mate (R.take 0) L)) := Lib.hid ⟨Kp.refl _ _, by rw [hD]; exact hxu, holu, World.ownsRow_nil _ _ _ _, World.ownsRow_nil _ _ _ _, fun g hg => ⟨by have := (holl g hg).2; omega, fun e => (by cases e), fun e => (by cases e)⟩, fun g hg => (by cases hg)⟩
      have hrr : Row u (fun y => y < D) RA (flt msC R) := ((Row.ofOwn (S := Lt wr.heap.size) hor fun _ _ _ h => h).keep (kept_below hbu)).more fun y hy => by
        have hy : y < wr.heap.size := hy
        omega
      have HRR : Hid (∀ w', Kp (fun y => y = D) u w' → Row w' (fun y => y < D) RA (flt msC R)) := Lib.hid fun w' hk => hrr.keep (hk.kept fun b hb => by
        have hb : b < D := hb
        omega)
      have hDu : D < u.heap.size := by omega
      have hBu : w0.heap.size ≤ u.heap.size := by omega
      have HBU := Lib.hid (hB.trans (hbu.mono hB.size))
      have hrlen : R.length ≤ 100000 := by omega
      have hllen : L.length ≤ 100000 := by omega
      obtain ⟨l, hl'⟩ : ∃ l, l = L.length := ⟨_, rfl⟩
      obtain ⟨r, hr'⟩ : ∃ r, r = R.length := ⟨_, rfl⟩
      rw [← hl'] at HI0 hllen ⊢
      rw [← hr'] at hrlen ⊢
      have HLR := Lib.hid (And.intro hl' hr')
      have HFL := Lib.hid (And.intro hfl hfr)
      have hsl : Srt L := by rw [hL]; exact dif_srt _ HSRT.out.1
      have hsr : Srt R := by rw [hR]; exact (HSRT.out.2.sub (List.take_sublist _ _)).sub (rest_sub _ _)
      have HSS := Lib.hid (And.intro hsl hsr)
      have HU := Lib.hid hu
      have HDE := Lib.hid hD
      clear hD hu hsu hbu hxu holu holl horl hrr hL hR hl' hr' hfl hfr hB hol hor hne hlt hL1 hR1 hsl hsr
      go_wp2_with fail
      rw [← HU.out, ← HDE.out]
      go_loopw [44, 5] (fun i lv wr => ∃ (k : Nat) (cv mv : Value), k ≤ r ∧ i = .int .i64 k ∧ RoInv w0.heap.size D u wr lv cv mv (mate (R.take k) L)) (fun i _ _ => r - (intOf i).toNat)
      case atStart => exact ⟨0, _, _, by omega, rfl, HI0.out⟩
      case round =>
        obtain ⟨k, cv, mv, hk, rfl, hI⟩ := hrel
        obtain ⟨wq, hwq⟩ : ∃ wq, wq = wr := ⟨_, rfl⟩
        rw [← hwq] at hI ⊢
        clear hwq
        by_cases hlt : k < r
        · obtain ⟨m, hm⟩ : ∃ m, R[k]? = some m := ⟨_, List.getElem?_eq_getElem (by rw [← HLR.out.2]; exact hlt)⟩
          obtain ⟨ad, hA, _, a0, a1, a2⟩ := ms_at (HRR.out wq hI.kp) hm
          have hik : (0 : Int) ≤ (k : Int) ∧ (k : Int) < (r : Int) := ⟨by omega, by omega⟩
          have hms : mate (R.take (k + 1)) L = mstep (mate (R.take k) L) m := by rw [take_snoc hm, mate_snoc]
          have hor := mate_order (R.take (k + 1)) L (HSS.out.2.sub (List.take_sublist _ _)) HSS.out.1
          rw [hms] at hor
          have hql : (mate (R.take k) L).2.2.length ≤ l := by rw [HLR.out.1, mate_left]; exact (dif_sub _ _).length_le
          have hpl : (mate (R.take k) L).2.1.length ≤ k := by
            have h1 := mate_few (R.take k) L
            have h2 := List.length_take_le k R
            omega
          have hcl : (mate (R.take k) L).1.length ≤ k := by
            have h1 := mate_few (R.take k) L
            have h2 := List.length_take_le k R
            omega
          obtain ⟨st, hst⟩ : ∃ st, st = mate (R.take k) L := ⟨_, rfl⟩
          rw [← hst] at hI hms hor hql hpl hcl
          obtain ⟨LA, lc, rfl, _⟩ := own_slice hI.left
          obtain ⟨CA, cc, rfl, _⟩ := own_slice hI.come
          obtain ⟨MA, mc, rfl, _⟩ := own_slice hI.move
          obtain ⟨wa, hwa⟩ : ∃ wa, wa = wq.alloc (.cells #[.int .i64 m.1, .int .i64 m.2.1, sv m.2.2] 40) := ⟨_, rfl⟩
          have hba : Below wq.heap.size wq wa := by rw [hwa]; exact (Below.refl _ _).alloc (Nat.le_refl _) _
          have hxa : wa.heap[wq.heap.size]? = some (.cells #[.int .i64 m.1, .int .i64 m.2.1, sv m.2.2] 40 (0, 0)) := by rw [hwa]; exact alloc1 _ _
          have hsa : wa.heap.size = wq.heap.size + 1 := by rw [hwa]; simp
          have hIa := hI.below hba
          have hDq := lt_of_heap hI.blk
          obtain ⟨q, hq⟩ : ∃ q, q = st.2.2.length := ⟨_, rfl⟩
          have HIA := Lib.hid hIa
          have HMS := Lib.hid hms
          have HOR := Lib.hid hor
          have HQ := Lib.hid hq
          have HWA := Lib.hid hwa
          have HXA := Lib.hid hxa
          have huq := hI.kp.size
          rw [← hq] at hql ⊢
          rw [hA]
          have HAD := Lib.hid hA
          clear hm hA hms hor hst hwa hba hxa hIa hI hq
          go_wp2_with fail
          try rw [← HAD.out]
          rw [← HWA.out]
          clear a0 a1 a2
          go_loopw [50, 5, 14] (fun i lv f w' => ∃ t : Nat, t ≤ q ∧ i = .int .i64 t ∧ lv = .slice LA q lc ∧ f = .bool false ∧ Below wa.heap.size wa w' ∧ ∀ x ∈ st.2.2.take t, alk m x = false) (fun i _ _ _ => q - (intOf i).toNat)
          case atStart => exact ⟨0, by omega, rfl, rfl, rfl, Below.refl _ _, fun x hx => by simp at hx⟩
          case round =>
            obtain ⟨t, ht, rfl, rfl, rfl, hB, hno⟩ := hrel
            by_cases hltt : t < q
            · obtain ⟨x, hx⟩ : ∃ x, st.2.2[t]? = some x := ⟨_, List.getElem?_eq_getElem (by rw [← HQ.out]; exact hltt)⟩
              have hIr := HIA.out.below hB
              have hlr := hIr.left
              rw [← HQ.out] at hlr
              obtain ⟨be, hA, _, b0, b1, b2⟩ := ms_at (Row.ofOwn (S := Lt wr.heap.size) hlr fun _ _ _ h => h) hx
              have hit : (0 : Int) ≤ (t : Int) ∧ (t : Int) < (q : Int) := ⟨by omega, by omega⟩
              have hxr := (hB.block _ (lt_of_heap HXA.out)).trans HXA.out
              obtain ⟨q0, q1, q2⟩ := ms_blk hxr rfl
              have hlq := block_lt_of_cell q0
              obtain ⟨wb, hwb⟩ : ∃ wb, wb = wr.alloc (.cells #[.int .i64 x.1, .int .i64 x.2.1, sv x.2.2] 40) := ⟨_, rfl⟩
              have hbb : Below wr.heap.size wr wb := by rw [hwb]; exact (Below.refl _ _).alloc (Nat.le_refl _) _
              have hxb : wb.heap[wr.heap.size]? = some (.cells #[.int .i64 x.1, .int .i64 x.2.1, sv x.2.2] 40 (0, 0)) := by rw [hwb]; exact alloc1 _ _
              have hsb : wb.heap.size = wr.heap.size + 1 := by rw [hwb]; simp
              have hab := hB.trans (hbb.mono hB.size)
              have HXB := Lib.hid hxb
              have HAB := Lib.hid hab
              have HNO := Lib.hid hno
              have HX := Lib.hid hx
              have HWB := Lib.hid hwb
              rw [hA]
              have HBE := Lib.hid hA
              clear hx hIr hlr hA hxr hwb hbb hxb hab hno hB
              go_wp2_with fail
              rw [← HWB.out]
              clear b0 b1 b2 q0 q1 q2
              refine (alike_any x m wb).mono ?_
              rintro e wc ⟨rfl, hbc⟩
              have HAC := Lib.hid (HAB.out.trans (hbc.mono HAB.out.size))
              have HBC := Lib.hid hbc
              have hsc := hbc.size
              clear hbc
              cases hal : alk m x with
              | false =>
                have HAL := Lib.hid hal
                clear hal
                go_wp2_with fail
                try rw [← HBE.out]
                first | go_roundw | refine ⟨?rel, ?measure⟩
                case rel =>
                  refine ⟨t + 1, by omega, by go_num, rfl, rfl, HAC.out, fun y hy => ?_⟩
                  rw [take_snoc HX.out] at hy
                  rcases List.mem_append.1 hy with hy | hy
                  · exact HNO.out y hy
                  · rw [List.mem_singleton.1 hy]
                    exact HAL.out
                case measure => simp [intOf]; omega
              | true =>
                have hfd := find_at HNO.out HX.out hal
                have hms := HMS.out
                rw [mstep_some hfd] at hms
                have HMS2 := Lib.hid hms
                have HFD := Lib.hid hfd
                have hxc := (HAC.out.block _ (lt_of_heap HXA.out)).trans HXA.out
                have hyc := (HBC.out.block _ (lt_of_heap HXB.out)).trans HXB.out
                obtain ⟨q0, q1, q2⟩ := ms_blk hxc rfl
                obtain ⟨y0, y1, y2⟩ := ms_blk hyc rfl
                have hlq2 := block_lt_of_cell q0
                have hly2 := block_lt_of_cell y0
                obtain ⟨wd, hwd⟩ : ∃ wd, wd = wc.alloc (.cells #[.int .i64 x.1, .int .i64 m.1, .int .i64 m.1, .int .i64 m.2.1, sv m.2.2] 42) := ⟨_, rfl⟩
                have hbd : Below wc.heap.size wc wd := by rw [hwd]; exact (Below.refl _ _).alloc (Nat.le_refl _) _
                have hxd : wd.heap[wc.heap.size]? = some (.cells #[.int .i64 x.1, .int .i64 m.1, .int .i64 m.1, .int .i64 m.2.1, sv m.2.2] 42 (0, 0)) := by rw [hwd]; exact alloc1 _ _
                have hsd : wd.heap.size = wc.heap.size + 1 := by rw [hwd]; simp
                have had := HAC.out.trans (hbd.mono HAC.out.size)
                have hId := HIA.out.below had
                have hmem : x ∈ st.2.2 := List.mem_of_getElem? HX.out
                have HT := take_any (Lt wd.heap.size) st.2.2 x LA lc wd (fun _ h => h) (own_le hId.left).1 (by rw [← HQ.out]; omega) (Row.ofOwn hId.left fun _ _ _ h => h)
                rw [← HQ.out, HBE.out] at HT
                have HT := Lib.hid HT
                have z0 := (Lib.cell_of_heap ((hbd.block _ (lt_of_heap hxc)).trans hxc) 0)
                have HXC := Lib.hid ((hbd.block _ (lt_of_heap hxc)).trans hxc)
                have HYC := Lib.hid ((hbd.block _ (lt_of_heap hyc)).trans hyc)
                have HXD := Lib.hid hxd
                have HMEM := Lib.hid hmem
                have HWD := Lib.hid hwd
                have HAD2 := Lib.hid had
                have HID := Lib.hid hId
                have hsz2 := had.size
                have hsz3 := HAC.out.size
                clear hal hfd hms hxc hyc hbd hxd had hId hmem z0 hwd
                go_wp2_with fail
                rw [← HWD.out]
                clear q0 q1 q2 y0 y1 y2
                refine HT.out.mono ?_
                rintro e we ⟨v, b, rfl, hbm, hbe, hyes, _⟩
                obtain rfl : b = true := by rw [hbm]; exact decide_eq_true HMEM.out
                have hae := HAD2.out.trans (hbe.mono HAD2.out.size)
                have hIe := HIA.out.below hae
                have hse := hbe.size
                have hnew := hyes rfl
                obtain ⟨EA, ec, rfl, _⟩ := own_slice hnew
                obtain ⟨el, hel⟩ : ∃ el, el = (st.2.2.erase x).length := ⟨_, rfl⟩
                obtain ⟨ml, hml⟩ : ∃ ml, ml = (st.2.1.map mvOf).length := ⟨_, rfl⟩
                have hmlk : ml ≤ k := by rw [hml, List.length_map]; exact hpl
                have hek : el ≤ q := by rw [hel, HQ.out]; exact List.length_erase_le
                have d2 : we.cell? ⟨D, 2, none⟩ = some (.slice MA ml mc) := (Lib.cell_of_heap hIe.blk 2).trans (by rw [hml]; rfl)
                have HIE := Lib.hid hIe
                have HDE2 := Lib.hid hbe
                have HNEW := Lib.hid hnew
                have HXCE := Lib.hid ((hbe.block _ (lt_of_heap HXC.out)).trans HXC.out)
                have HXDE := Lib.hid ((hbe.block _ (lt_of_heap HXD.out)).trans HXD.out)
                rw [← hel] at HNEW ⊢
                have HEL := Lib.hid hel
                have HML := Lib.hid hml
                have hde := lt_of_heap hIe.blk
                clear hbm hbe hyes hae hIe hnew hel hml HT HXC HYC HXD
                go_wp2_with fail
                clear d2
                go_loopw [18] (fun i w' => i = .int .i64 ml ∧ Below we.heap.size we w') (fun _ _ => 0)
                case atStart => exact ⟨rfl, Below.refl _ _⟩
                case round =>
                  obtain ⟨rfl, hBf⟩ := hrel
                  obtain ⟨wf, hwf⟩ : ∃ wf, wf = wr := ⟨_, rfl⟩
                  rw [← hwf] at hBf ⊢
                  clear hwf
                  have hIf := HIE.out.below hBf
                  have hxc := (hBf.block _ (lt_of_heap HXCE.out)).trans HXCE.out
                  have hxd := (hBf.block _ (lt_of_heap HXDE.out)).trans HXDE.out
                  rcases List.eq_nil_or_concat st.2.1 with hnil | ⟨pr, last, hcc⟩
                  · have hml0 : ml = 0 := by rw [HML.out, hnil]; rfl
                    have hq0 : decide ((0 : Int) < (ml : Int)) = false := by simp; omega
                    have hq0' : decide (0 < ml) = false := by simp; omega
                    have hbg : Below we.heap.size we wf.drew := hBf.trans ((Below.refl wf.heap.size wf).drew.mono hBf.size)
                    have HBG := Lib.hid hbg
                    have HML0 := Lib.hid hml0
                    have HNIL := Lib.hid hnil
                    clear hIf hxc hxd hnil hml0 hbg hBf
                    go_wp2_with fail
                    refine wp_region_mix (fun _ => True) [(true, 0), (true, 1), (true, 2), (true, 3), (true, 4), (true, 5), (true, 6), (true, 7), (true, 8), (true, 9), (true, 10), (true, 11), (true, 12), (true, 13), (true, 14), (true, 15), (true, 16), (true, 17), (true, 18), (true, 19), (true, 20), (true, 21), (true, 22), (true, 23), (true, 24)] [] (by kernel_rfl) (by kernel_rfl) ?sc ?hc
                    case sc => trivial
                    case hc =>
                    simp only [mixAt, List.filterMap_cons, List.filterMap_nil, List.getElem?_toArray, List.getElem?_cons_succ, List.getElem?_cons_zero, Option.map_some]
                    refine wpMix_load ?vca0 rfl (fun w' hS => ?yca0) ?kca0
                    case yca0 =>
                      obtain _ := hS
                      go_simp
                      try rfl
                    case kca0 =>
                    go_simp
                    refine wpMix_load ?vca1 rfl (fun w' hS => ?yca1) ?kca1
                    case yca1 =>
                      obtain _ := hS
                      go_simp
                      try rfl
                    case kca1 =>
                    go_simp
                    refine wpMix_load ?vca2 rfl (fun w' hS => ?yca2) ?kca2
                    case yca2 =>
                      obtain _ := hS
                      go_simp
                      try rfl
                    case kca2 =>
                    go_simp
                    refine wpMix_skip rfl ?_
                    go_simp
                    refine wpMix_skip rfl ?_
                    go_simp
                    refine wpMix_skip rfl ?_
                    go_simp
                    refine wpMix_skip rfl ?_
                    go_simp
                    refine wpMix_skip rfl ?_
                    go_simp
                    refine wpMix_skip rfl ?_
                    go_simp
                    refine wpMix_skip rfl ?_
                    go_simp
                    refine wpMix_skip rfl ?_
                    go_simp
                    refine wpMix_skip rfl ?_
                    go_simp
                    refine wpMix_load ?vcb12 rfl (fun w' hS => ?ycb12) ?kcb12
                    case ycb12 =>
                      obtain _ := hS
                      go_simp
                      try rfl
                    case kcb12 =>
                    go_simp
                    refine wpMix_load ?vcb13 rfl (fun w' hS => ?ycb13) ?kcb13
                    case ycb13 =>
                      obtain _ := hS
                      go_simp
                      try rfl
                    case kcb13 =>
                    go_simp
                    refine wpMix_skip rfl ?_
                    go_simp
                    refine wpMix_skip rfl ?_
                    go_simp
                    refine wpMix_skip rfl ?_
                    go_simp
                    refine wpMix_skip rfl ?_
                    go_simp
                    refine wpMix_skip rfl ?_
                    go_simp
                    refine wpMix_skip rfl ?_
                    go_simp
                    refine wpMix_skip rfl ?_
                    go_simp
                    refine wpMix_skip rfl ?_
                    go_simp
                    refine wpMix_skip rfl ?_
                    go_simp
                    refine wpMix_skip rfl ?_
                    go_simp
                    refine wpMix_load ?vcc24 rfl (fun w' hS => ?ycc24) ?kcc24
                    case ycc24 =>
                      obtain _ := hS
                      go_simp
                      try rfl
                    case kcc24 =>
                    go_simp
                    refine wpMix_nil ?_
                    simp only [opsAt, List.filterMap_nil, List.getElem?_toArray]
                    go_wp2
                    refine NoPanic.normal ?_
                    obtain ⟨wg, hwg⟩ : ∃ wg, wg = wf.drew := ⟨_, rfl⟩
                    rw [← hwg] at HBG ⊢
                    clear hwg
                    go_wp2_with fail
                    have hIg := HIE.out.below HBG.out
                    have hxd := (HBG.out.block _ (lt_of_heap HXDE.out)).trans HXDE.out
                    have hmr : Row wg (Lt wg.heap.size) MA (flt mvC (st.2.1.map mvOf)) := Row.ofOwn (S := Lt wg.heap.size) hIg.move fun _ _ _ h => h
                    have hmc : ml ≤ mc := by rw [HML.out]; exact (own_le hIg.move).1
                    have hkc : (0 : Int) ≤ (ml : Int) ∧ (ml : Int) ≤ (mc : Int) ∧ (ml : Int) ≤ (ml : Int) := ⟨by omega, by omega, by omega⟩
                    obtain ⟨SB, hSB⟩ : ∃ SB, SB = backOf MA 5 mc ml := ⟨_, rfl⟩
                    have HSB := Lib.hid hSB
                    have d2 : wg.cell? ⟨D, 2, none⟩ = some (.slice MA ml mc) := (Lib.cell_of_heap hIg.blk 2).trans (by rw [HML.out]; rfl)
                    have HC : Hid (∀ u, Below wg.heap.size wg u → AtCells [(⟨D, 2, none⟩, .slice MA ml mc), (⟨wc.heap.size, 0, none⟩, .int .i64 x.1), (⟨wc.heap.size, 1, none⟩, .int .i64 m.1), (⟨wc.heap.size, 2, none⟩, .int .i64 m.1), (⟨wc.heap.size, 3, none⟩, .int .i64 m.2.1), (⟨wc.heap.size, 4, none⟩, sv m.2.2)] u) := Lib.hid fun u hu => by
                      have hxu := (hu.block _ (lt_of_heap hxd)).trans hxd
                      exact ⟨(hu.cell (block_lt_of_cell d2)).trans d2, (Lib.cell_of_heap hxu 0).trans rfl, (Lib.cell_of_heap hxu 1).trans rfl, (Lib.cell_of_heap hxu 2).trans rfl, (Lib.cell_of_heap hxu 3).trans rfl, (Lib.cell_of_heap hxu 4).trans rfl, trivial⟩
                    have HIG := Lib.hid hIg
                    have HMR := Lib.hid hmr
                    have HFL5 : Hid ((flt mvC (st.2.1.map mvOf)).length = ml * 5) := Lib.hid (by rw [flt_length mvC_len, HML.out])
                    have hge := HBG.out.size
                    clear hIg hxd hmr hSB d2
                    refine wp_region_twok (fun u => Below wg.heap.size wg u ∧ AtCells [(⟨D, 2, none⟩, .slice MA ml mc), (⟨wc.heap.size, 0, none⟩, .int .i64 x.1), (⟨wc.heap.size, 1, none⟩, .int .i64 m.1), (⟨wc.heap.size, 2, none⟩, .int .i64 m.1), (⟨wc.heap.size, 3, none⟩, .int .i64 m.2.1), (⟨wc.heap.size, 4, none⟩, sv m.2.2)] u) [0, 1, 2, 3, 5, 8, 9, 10, 11] 4 6 [7] [12, 13, 14] (by kernel_rfl) (by kernel_rfl) ?sfc ?hfc
                    case sfc => exact ⟨(Below.refl _ wg).drew, HC.out _ (Below.refl _ wg).drew⟩
                    case hfc =>
                    simp only [opsAt, List.filterMap_cons, List.filterMap_nil, List.getElem?_toArray, List.getElem?_cons_succ, List.getElem?_cons_zero]
                    refine wpLoad_step ?vfca0 rfl (fun w' hS => ?yfca0) ?kfca0
                    case yfca0 =>
                      obtain ⟨_, g0, g1, g2, g3, g4, g5, _⟩ := hS
                      go_simp
                      try rfl
                    case kfca0 =>
                    go_simp
                    refine wpLoad_step ?vfca1 rfl (fun w' hS => ?yfca1) ?kfca1
                    case yfca1 =>
                      obtain ⟨_, g0, g1, g2, g3, g4, g5, _⟩ := hS
                      go_simp
                      try rfl
                    case kfca1 =>
                    go_simp
                    refine wpLoad_step ?vfca2 rfl (fun w' hS => ?yfca2) ?kfca2
                    case yfca2 =>
                      obtain ⟨_, g0, g1, g2, g3, g4, g5, _⟩ := hS
                      go_simp
                      try rfl
                    case kfca2 =>
                    go_simp
                    refine wpLoad_step (.slice MA ml mc) rfl (fun w' hS => ?yfc3) ?kfc3
                    case yfc3 =>
                      go_simp
                      try simp only [← front_of MA ml mc 5]
                      try rfl
                    case kfc3 =>
                    go_simp
                    refine wpLoad_step ?vfcb5 rfl (fun w' hS => ?yfcb5) ?kfcb5
                    case yfcb5 =>
                      obtain ⟨_, g0, g1, g2, g3, g4, g5, _⟩ := hS
                      go_simp
                      try rfl
                    case kfcb5 =>
                    go_simp
                    refine wpLoad_step ?vfcc8 rfl (fun w' hS => ?yfcc8) ?kfcc8
                    case yfcc8 =>
                      obtain ⟨_, g0, g1, g2, g3, g4, g5, _⟩ := hS
                      go_simp
                      try rfl
                    case kfcc8 =>
                    go_simp
                    refine wpLoad_step ?vfcc9 rfl (fun w' hS => ?yfcc9) ?kfcc9
                    case yfcc9 =>
                      obtain ⟨_, g0, g1, g2, g3, g4, g5, _⟩ := hS
                      go_simp
                      try rfl
                    case kfcc9 =>
                    go_simp
                    refine wpLoad_step ?vfcc10 rfl (fun w' hS => ?yfcc10) ?kfcc10
                    case yfcc10 =>
                      obtain ⟨_, g0, g1, g2, g3, g4, g5, _⟩ := hS
                      go_simp
                      try rfl
                    case kfcc10 =>
                    go_simp
                    refine wpLoad_step (.slice SB (ml - ml) (mc - ml)) rfl (fun w' hS => ?yfc11) ?kfc11
                    case yfc11 =>
                      go_simp
                      rw [HSB.out]
                      try rfl
                    case kfc11 =>
                    go_simp
                    refine wpLoad_nil ?_
                    refine ⟨?o1fc, ?o2fc⟩
                    case o1fc =>
                      have hfr := HMR.out.keep (kept_below (Below.refl wg.heap.size wg).drew)
                      refine wpKeep_step rfl ?_
                      refine wp_append_row _ _ 23 rfl wg.heap.size 42 i5 _ 5 48 Try.underlying23 hj hy0 hy1 hy2 rfl (by omega) (.slice none 0 0) 0 [] rfl (World.ownsRow_nil _ _ _ _) (Lt wg.heap.size) MA ml mc (flt mvC (st.2.1.map mvOf)) rfl HFL5.out hfr (flt_one' mvC_one _) (by unfold maxLen; omega) (by omega) (Nat.le_refl _) ?_
                      intro v' w5 hown hg _
                      rw [Nat.zero_add, List.nil_append] at hown
                      have hb5 : Below wg.heap.size wg w5 := (Below.refl _ wg).drew.grown hg (Nat.le_refl _) (fun r hr => by cases hr)
                      obtain ⟨A3, c3, rfl, _⟩ := own_slice hown
                      refine ⟨⟨hb5, HC.out _ hb5⟩, ?_⟩
                      have HB5 := Lib.hid hb5
                      clear hb5 hfr hg
                      refine wpKeep_step rfl ?_
                      go_simp
                      have hown3 := hown.alloc (.cells #[.int .i64 x.1, .int .i64 m.1, .int .i64 m.1, .int .i64 m.2.1, sv m.2.2] 42)
                      have hblk := alloc1 w5 (.cells #[.int .i64 x.1, .int .i64 m.1, .int .i64 m.1, .int .i64 m.2.1, sv m.2.2] 42)
                      have hb6 : Below wg.heap.size wg (w5.alloc (.cells #[.int .i64 x.1, .int .i64 m.1, .int .i64 m.1, .int .i64 m.2.1, sv m.2.2] 42)) := HB5.out.alloc HB5.out.size _
                      have hg5 := HB5.out.size
                      obtain ⟨g5, hgg⟩ : ∃ g5, g5 = w5.heap.size := ⟨_, rfl⟩
                      refine ⟨⟨hb6, HC.out _ hb6⟩, ?_⟩
                      clear hown HB5
                      obtain ⟨w6, hw6⟩ : ∃ w6, w6 = w5.alloc (.cells #[.int .i64 x.1, .int .i64 m.1, .int .i64 m.1, .int .i64 m.2.1, sv m.2.2] 42) := ⟨_, rfl⟩
                      rw [← hw6] at hown3 hblk hb6 ⊢
                      rw [← hgg] at hblk hg5 ⊢
                      clear hw6 hgg
                      have hs6 := hb6.size
                      have HB6 := Lib.hid hb6
                      have hrow5 : Row w6 (fun y => y = g5) (some ⟨g5, 0, none⟩) (mvC (mvOf (x, m))) := row_heap hblk rfl rfl
                      clear hb6 HMR
                      refine wpKeep_step rfl ?_
                      refine wp_append_row _ _ 23 rfl wg.heap.size 42 i5 _ 5 48 Try.underlying23 hj hy0 hy1 hy2 rfl (by omega) (.slice A3 ml c3) ml (flt mvC (st.2.1.map mvOf)) rfl hown3 (fun y => y = g5) (some ⟨g5, 0, none⟩) 1 1 (mvC (mvOf (x, m))) rfl rfl hrow5 (mvC_one _) (by unfold maxLen; omega) (by omega) (by omega) ?_
                      intro v7 w7 hown7 hg7 _
                      obtain ⟨A7, c7, rfl, _⟩ := own_slice hown7
                      have hlt3 := hown3.lt
                      have hk7 : Kp (fun y => wg.heap.size ≤ y) w6 w7 := (Kp.refl _ _).grown hg7 (fun r hr _ => (hlt3 r hr).1)
                      have hs7 := hk7.size
                      have hlt7 := hown7.lt
                      have hb7 : Below wg.heap.size wg w7 := kp_below HB6.out hk7 fun _ e => e
                      refine ⟨⟨hb7, HC.out _ hb7⟩, ?_⟩
                      refine wpKeep_nil ?_
                      clear hb7 HC
                      simp only [opsAt, List.filterMap_cons, List.filterMap_nil, List.getElem?_toArray, List.getElem?_cons_succ, List.getElem?_cons_zero]
                      refine (wpList_append_row rfl _ _ 23 rfl wg.heap.size 42 i5 _ 5 48 Try.underlying23 hj hy0 hy1 hy2 rfl (by omega) (.slice A7 (ml + 1) c7) (ml + 1) (flt mvC (st.2.1.map mvOf) ++ mvC (mvOf (x, m))) rfl hown7 (fun _ => True) SB 0 (mc - ml) [] rfl (by simp) (Row.nil _ _ _) (fun _ h => by cases h) (by unfold maxLen; omega) (by omega) (by omega) ?_)
                      intro v8 w8 hown8 hg8 _
                      have hk8 : Kp (fun y => wg.heap.size ≤ y) w7 w8 := (Kp.refl _ _).grown hg8 (fun r hr _ => (hlt7 r hr).1)
                      rw [List.append_nil, Nat.add_zero] at hown8
                      have hk68 := hk7.trans hk8 (fun _ _ e => e)
                      have hb8 : Below wg.heap.size wg w8 := kp_below HB6.out hk68 fun _ e => e
                      have hbe8 := HBG.out.trans (hb8.mono HBG.out.size)
                      have hI8 := HIE.out.below hbe8
                      obtain ⟨A8, c8, rfl, _⟩ := own_slice hown8
                      have hmo : w8.ownsRow we.heap.size 42 5 (.slice A8 (ml + 1) c8) ((st.2.1 ++ [(x, m)]).map mvOf).length (flt mvC ((st.2.1 ++ [(x, m)]).map mvOf)) := by
                        rw [List.map_append, List.length_append, flt_append, ← HML.out]
                        exact ownMono hown8 hge
                      have hlo : w8.ownsRow wd.heap.size 40 3 (.slice EA el ec) (st.2.2.erase x).length (flt msC (st.2.2.erase x)) := by
                        rw [← HEL.out]
                        exact (Kp.ofBelow (M := fun _ => False) hbe8).own HNEW.out fun _ _ e => e
                      have hle8 := HNEW.out.lt
                      have hmt := hmo.lt
                      have hd8 : w8.cell? ⟨D, 2, none⟩ = some (.slice MA ml mc) := (Lib.cell_of_heap hI8.blk 2).trans (by rw [HML.out]; rfl)
                      have hf8 : w8.frozen? ⟨D, 2, none⟩ = false := Lib.frozen_of_heap hI8.blk 2
                      have hbd8 : Below wd.heap.size wd w8 := HDE2.out.trans (hbe8.mono hse)
                      have hmv := RoInv.moves (x := x) (m := m) (HID.out) hDu hBu hbd8 hlo (ownMono hmo hse) fun g hg e => by
                        have h1 := (hle8 g hg).2
                        have h2 := (hmt g e).1
                        omega
                      rw [← HMS2.out] at hmv
                      have HMV := Lib.hid hmv
                      clear hown3 hown7 hown8 hg7 hg8 hlt3 hlt7 hk7 hk8 hk68 hb8 hrow5 hblk HB6 hbe8 hI8 hmo hlo hle8 hmt hbd8 hmv
                      go_wp2
                      refine NoPanic.normal ?_
                      clear hd8 hf8
                      go_wp2_with fail
                      rw [HAD.out]
                      first | go_roundw | refine ⟨?rel, ?measure⟩
                      case rel => exact ⟨k + 1, _, _, by omega, by go_num, HMV.out⟩
                      case measure => simp [intOf]; omega
                    case o2fc =>
                      refine wpKeep_step rfl ?_
                      go_simp
                      have hb5 : Below wg.heap.size wg (wg.alloc (.cells #[.int .i64 x.1, .int .i64 m.1, .int .i64 m.1, .int .i64 m.2.1, sv m.2.2] 42)).drew := ((Below.refl wg.heap.size wg).alloc (Nat.le_refl _) _).drew
                      refine ⟨⟨hb5, HC.out _ hb5⟩, ?_⟩
                      have hblk : (wg.alloc (.cells #[.int .i64 x.1, .int .i64 m.1, .int .i64 m.1, .int .i64 m.2.1, sv m.2.2] 42)).drew.heap[wg.heap.size]? = some (.cells #[.int .i64 x.1, .int .i64 m.1, .int .i64 m.1, .int .i64 m.2.1, sv m.2.2] 42 (0, 0)) := alloc1 wg (.cells #[.int .i64 x.1, .int .i64 m.1, .int .i64 m.1, .int .i64 m.2.1, sv m.2.2] 42)
                      have hg5 : wg.heap.size ≤ wg.heap.size := Nat.le_refl _
                      obtain ⟨w5, hw5⟩ : ∃ w5, w5 = (wg.alloc (.cells #[.int .i64 x.1, .int .i64 m.1, .int .i64 m.1, .int .i64 m.2.1, sv m.2.2] 42)).drew := ⟨_, rfl⟩
                      rw [← hw5] at hblk hb5 ⊢
                      have hfr := HMR.out.keep (kept_below hb5)
                      have hs5 := hb5.size
                      clear hw5
                      refine wpKeep_step rfl ?_
                      refine wp_append_row _ _ 23 rfl wg.heap.size 42 i5 _ 5 48 Try.underlying23 hj hy0 hy1 hy2 rfl (by omega) (.slice none 0 0) 0 [] rfl (World.ownsRow_nil _ _ _ _) (Lt wg.heap.size) MA ml mc (flt mvC (st.2.1.map mvOf)) rfl HFL5.out hfr (flt_one' mvC_one _) (by unfold maxLen; omega) (by omega) (by omega) ?_
                      intro v' w6 hown3 hg _
                      rw [Nat.zero_add, List.nil_append] at hown3
                      have hb56 : Below w5.heap.size w5 w6 := (Below.refl _ w5).grown hg (Nat.le_refl _) (fun r hr => by cases hr)
                      have hb6 := hb5.trans (hb56.mono hs5)
                      have hblk := (hb56.block _ (lt_of_heap hblk)).trans hblk
                      obtain ⟨A3, c3, rfl, _⟩ := own_slice hown3
                      refine ⟨⟨hb6, HC.out _ hb6⟩, ?_⟩
                      clear hg hb5 hfr hb56
                      have hs6 := hb6.size
                      have HB6 := Lib.hid hb6
                      have hrow5 : Row w6 (fun y => y = wg.heap.size) (some ⟨wg.heap.size, 0, none⟩) (mvC (mvOf (x, m))) := row_heap hblk rfl rfl
                      clear hb6 HMR
                      refine wpKeep_step rfl ?_
                      refine wp_append_row _ _ 23 rfl wg.heap.size 42 i5 _ 5 48 Try.underlying23 hj hy0 hy1 hy2 rfl (by omega) (.slice A3 ml c3) ml (flt mvC (st.2.1.map mvOf)) rfl hown3 (fun y => y = wg.heap.size) (some ⟨wg.heap.size, 0, none⟩) 1 1 (mvC (mvOf (x, m))) rfl rfl hrow5 (mvC_one _) (by unfold maxLen; omega) (by omega) (by omega) ?_
                      intro v7 w7 hown7 hg7 _
                      obtain ⟨A7, c7, rfl, _⟩ := own_slice hown7
                      have hlt3 := hown3.lt
                      have hk7 : Kp (fun y => wg.heap.size ≤ y) w6 w7 := (Kp.refl _ _).grown hg7 (fun r hr _ => (hlt3 r hr).1)
                      have hs7 := hk7.size
                      have hlt7 := hown7.lt
                      have hb7 : Below wg.heap.size wg w7 := kp_below HB6.out hk7 fun _ e => e
                      refine ⟨⟨hb7, HC.out _ hb7⟩, ?_⟩
                      refine wpKeep_nil ?_
                      clear hb7 HC
                      simp only [opsAt, List.filterMap_cons, List.filterMap_nil, List.getElem?_toArray, List.getElem?_cons_succ, List.getElem?_cons_zero]
                      refine (wpList_append_row rfl _ _ 23 rfl wg.heap.size 42 i5 _ 5 48 Try.underlying23 hj hy0 hy1 hy2 rfl (by omega) (.slice A7 (ml + 1) c7) (ml + 1) (flt mvC (st.2.1.map mvOf) ++ mvC (mvOf (x, m))) rfl hown7 (fun _ => True) SB 0 (mc - ml) [] rfl (by simp) (Row.nil _ _ _) (fun _ h => by cases h) (by unfold maxLen; omega) (by omega) (by omega) ?_)
                      intro v8 w8 hown8 hg8 _
                      have hk8 : Kp (fun y => wg.heap.size ≤ y) w7 w8 := (Kp.refl _ _).grown hg8 (fun r hr _ => (hlt7 r hr).1)
                      rw [List.append_nil, Nat.add_zero] at hown8
                      have hk68 := hk7.trans hk8 (fun _ _ e => e)
                      have hb8 : Below wg.heap.size wg w8 := kp_below HB6.out hk68 fun _ e => e
                      have hbe8 := HBG.out.trans (hb8.mono HBG.out.size)
                      have hI8 := HIE.out.below hbe8
                      obtain ⟨A8, c8, rfl, _⟩ := own_slice hown8
                      have hmo : w8.ownsRow we.heap.size 42 5 (.slice A8 (ml + 1) c8) ((st.2.1 ++ [(x, m)]).map mvOf).length (flt mvC ((st.2.1 ++ [(x, m)]).map mvOf)) := by
                        rw [List.map_append, List.length_append, flt_append, ← HML.out]
                        exact ownMono hown8 hge
                      have hlo : w8.ownsRow wd.heap.size 40 3 (.slice EA el ec) (st.2.2.erase x).length (flt msC (st.2.2.erase x)) := by
                        rw [← HEL.out]
                        exact (Kp.ofBelow (M := fun _ => False) hbe8).own HNEW.out fun _ _ e => e
                      have hle8 := HNEW.out.lt
                      have hmt := hmo.lt
                      have hd8 : w8.cell? ⟨D, 2, none⟩ = some (.slice MA ml mc) := (Lib.cell_of_heap hI8.blk 2).trans (by rw [HML.out]; rfl)
                      have hf8 : w8.frozen? ⟨D, 2, none⟩ = false := Lib.frozen_of_heap hI8.blk 2
                      have hbd8 : Below wd.heap.size wd w8 := HDE2.out.trans (hbe8.mono hse)
                      have hmv := RoInv.moves (x := x) (m := m) (HID.out) hDu hBu hbd8 hlo (ownMono hmo hse) fun g hg e => by
                        have h1 := (hle8 g hg).2
                        have h2 := (hmt g e).1
                        omega
                      rw [← HMS2.out] at hmv
                      have HMV := Lib.hid hmv
                      clear hown3 hown7 hown8 hg7 hg8 hlt3 hlt7 hk7 hk8 hk68 hb8 hrow5 hblk HB6 hbe8 hI8 hmo hlo hle8 hmt hbd8 hmv
                      go_wp2
                      refine NoPanic.normal ?_
                      clear hd8 hf8
                      go_wp2_with fail
                      rw [HAD.out]
                      first | go_roundw | refine ⟨?rel, ?measure⟩
                      case rel => exact ⟨k + 1, _, _, by omega, by go_num, HMV.out⟩
                      case measure => simp [intOf]; omega
                  · obtain ⟨pl, hpl'⟩ : ∃ pl, pl = pr.length := ⟨_, rfl⟩
                    have hml1 : ml = pl + 1 := by rw [HML.out, hcc, hpl']; simp
                    have hq0 : decide ((0 : Int) < (ml : Int)) = true := by simp; omega
                    have hq0' : decide (0 < ml) = true := by simp; omega
                    have hq0'' : 0 < ml := by omega
                    have hmi : (ml : Int) - 1 = (pl : Int) := by omega
                    have hla : (st.2.1.map mvOf)[pl]? = some (mvOf last) := by rw [hcc, hpl']; simp
                    have hmr := hIf.move
                    obtain ⟨mad, hMA, _, l0, l1, l2, l3, l4⟩ := mv_at (Row.ofOwn (S := Lt wf.heap.size) hmr fun _ _ _ h => h) hla
                    have d2 : wf.cell? ⟨D, 2, none⟩ = some (.slice MA ml mc) := (Lib.cell_of_heap hIf.blk 2).trans (by rw [HML.out]; rfl)
                    obtain ⟨q0, q1, q2⟩ := ms_blk hxc rfl
                    have v0 : wf.cell? ⟨wc.heap.size, 0, none⟩ = some (.int .i64 x.1) := (Lib.cell_of_heap hxd 0).trans rfl
                    obtain ⟨x0, m0⟩ := last
                    have hipl : (0 : Int) ≤ (pl : Int) ∧ (pl : Int) < (ml : Int) := ⟨by omega, by omega⟩
                    have hwr : IntKind.i64.wrap (pl : Int) = (pl : Int) := by rw [IntKind.wrap_i64]; omega
                    have HML1 := Lib.hid hml1
                    rw [hMA] at d2
                    have HC : Hid (AtCells [(⟨D, 2, none⟩, .slice (some mad) ml mc), (⟨wq.heap.size, 0, none⟩, .int .i64 m.1), (⟨wq.heap.size, 0 + 1, none⟩, .int .i64 m.2.1), (⟨wq.heap.size, 0 + 2, none⟩, sv m.2.2), (mad.add (pl * 5), .int .i64 x0.1), (⟨(mad.add (pl * 5)).block, (mad.add (pl * 5)).off + 2, none⟩, .int .i64 m0.1), (⟨(mad.add (pl * 5)).block, (mad.add (pl * 5)).off + 3, none⟩, .int .i64 m0.2.1), (⟨(mad.add (pl * 5)).block, (mad.add (pl * 5)).off + 4, none⟩, sv m0.2.2), (⟨wc.heap.size, 0, none⟩, .int .i64 x.1)] wf) := Lib.hid ⟨d2, q0, q1, q2, l0, l2, l3, l4, v0, trivial⟩
                    have HIF := Lib.hid hIf
                    have HBF := Lib.hid hBf
                    have HMAD := Lib.hid hMA
                    have HCC := Lib.hid hcc
                    clear hml1 hIf hxc hxd hla hmr l0 l1 l2 l3 l4 d2 q0 q1 q2 v0 hMA hBf hcc hpl'
                    go_wp2_with fail
                    refine wp_region_mix (AtCells [(⟨D, 2, none⟩, .slice (some mad) ml mc), (⟨wq.heap.size, 0, none⟩, .int .i64 m.1), (⟨wq.heap.size, 0 + 1, none⟩, .int .i64 m.2.1), (⟨wq.heap.size, 0 + 2, none⟩, sv m.2.2), (mad.add (pl * 5), .int .i64 x0.1), (⟨(mad.add (pl * 5)).block, (mad.add (pl * 5)).off + 2, none⟩, .int .i64 m0.1), (⟨(mad.add (pl * 5)).block, (mad.add (pl * 5)).off + 3, none⟩, .int .i64 m0.2.1), (⟨(mad.add (pl * 5)).block, (mad.add (pl * 5)).off + 4, none⟩, sv m0.2.2), (⟨wc.heap.size, 0, none⟩, .int .i64 x.1)]) [(true, 0), (true, 1), (true, 2), (true, 3), (true, 4), (true, 5), (true, 6), (true, 7), (true, 8), (true, 9), (true, 10), (true, 11), (true, 12), (true, 13), (true, 14), (true, 15), (true, 16), (true, 17), (true, 18), (true, 19), (true, 20), (true, 21), (true, 22), (true, 23), (true, 24)] [] (by kernel_rfl) (by kernel_rfl) ?sb ?hb
                    case sb => exact HC.out.below (Below.refl _ wf).drew
                    case hb =>
                    simp only [mixAt, List.filterMap_cons, List.filterMap_nil, List.getElem?_toArray, List.getElem?_cons_succ, List.getElem?_cons_zero, Option.map_some]
                    refine wpMix_load ?vba0 rfl (fun w' hS => ?yba0) ?kba0
                    case yba0 =>
                      obtain ⟨g0, g1, g2, g3, g4, g5, g6, g7, g8, _⟩ := hS
                      go_simp
                      try rfl
                    case kba0 =>
                    go_simp
                    refine wpMix_load ?vba1 rfl (fun w' hS => ?yba1) ?kba1
                    case yba1 =>
                      obtain ⟨g0, g1, g2, g3, g4, g5, g6, g7, g8, _⟩ := hS
                      go_simp
                      try rfl
                    case kba1 =>
                    go_simp
                    refine wpMix_load ?vba2 rfl (fun w' hS => ?yba2) ?kba2
                    case yba2 =>
                      obtain ⟨g0, g1, g2, g3, g4, g5, g6, g7, g8, _⟩ := hS
                      go_simp
                      try rfl
                    case kba2 =>
                    go_simp
                    refine wpMix_load ?vba3 rfl (fun w' hS => ?yba3) ?kba3
                    case yba3 =>
                      obtain ⟨g0, g1, g2, g3, g4, g5, g6, g7, g8, _⟩ := hS
                      go_simp
                      try rfl
                    case kba3 =>
                    go_simp
                    refine wpMix_load ?vba4 rfl (fun w' hS => ?yba4) ?kba4
                    case yba4 =>
                      obtain ⟨g0, g1, g2, g3, g4, g5, g6, g7, g8, _⟩ := hS
                      go_simp
                      try rfl
                    case kba4 =>
                    go_simp
                    refine wpMix_load ?vba5 rfl (fun w' hS => ?yba5) ?kba5
                    case yba5 =>
                      obtain ⟨g0, g1, g2, g3, g4, g5, g6, g7, g8, _⟩ := hS
                      go_simp
                      try rfl
                    case kba5 =>
                    go_simp
                    refine wpMix_load ?vba6 rfl (fun w' hS => ?yba6) ?kba6
                    case yba6 =>
                      obtain ⟨g0, g1, g2, g3, g4, g5, g6, g7, g8, _⟩ := hS
                      go_simp
                      try rfl
                    case kba6 =>
                    go_simp
                    refine wpMix_load ?vba7 rfl (fun w' hS => ?yba7) ?kba7
                    case yba7 =>
                      obtain ⟨g0, g1, g2, g3, g4, g5, g6, g7, g8, _⟩ := hS
                      go_simp
                      try rfl
                    case kba7 =>
                    go_simp
                    refine wpMix_load ?vba8 rfl (fun w' hS => ?yba8) ?kba8
                    case yba8 =>
                      obtain ⟨g0, g1, g2, g3, g4, g5, g6, g7, g8, _⟩ := hS
                      go_simp
                      try rfl
                    case kba8 =>
                    go_simp
                    refine wpMix_load ?vba9 rfl (fun w' hS => ?yba9) ?kba9
                    case yba9 =>
                      obtain ⟨g0, g1, g2, g3, g4, g5, g6, g7, g8, _⟩ := hS
                      go_simp
                      try rfl
                    case kba9 =>
                    go_simp
                    refine wpMix_load ?vba10 rfl (fun w' hS => ?yba10) ?kba10
                    case yba10 =>
                      obtain ⟨g0, g1, g2, g3, g4, g5, g6, g7, g8, _⟩ := hS
                      go_simp
                      try rfl
                    case kba10 =>
                    go_simp
                    obtain ⟨bb, hbb⟩ : ∃ bb, bb = decide (m0 = m) := ⟨_, rfl⟩
                    have HBB := Lib.hid hbb
                    clear hbb
                    refine wpMix_load (.bool bb) rfl (fun w' hS => ?y11) ?k11
                    case y11 =>
                      obtain ⟨g0, g1, g2, g3, g4, g5, g6, g7, g8, _⟩ := hS
                      go_simp
                      rw [HBB.out]
                      exact msg_if m0 m fun b => Result.ok (Next.value (Value.bool b)) w'
                    case k11 =>
                    go_simp
                    have hbg : Below we.heap.size we wf.drew := HBF.out.trans ((Below.refl wf.heap.size wf).drew.mono HBF.out.size)
                    obtain ⟨wg, hwg⟩ : ∃ wg, wg = wf.drew := ⟨_, rfl⟩
                    rw [← hwg] at hbg ⊢
                    have HBG := Lib.hid hbg
                    clear hbg hwg
                    cases bb with
                    | false =>
                      refine wpMix_load ?vbc12 rfl (fun w' hS => ?ybc12) ?kbc12
                      case ybc12 =>
                        obtain _ := hS
                        go_simp
                        try rfl
                      case kbc12 =>
                      go_simp
                      refine wpMix_load ?vbc13 rfl (fun w' hS => ?ybc13) ?kbc13
                      case ybc13 =>
                        obtain _ := hS
                        go_simp
                        try rfl
                      case kbc13 =>
                      go_simp
                      refine wpMix_skip rfl ?_
                      go_simp
                      refine wpMix_skip rfl ?_
                      go_simp
                      refine wpMix_skip rfl ?_
                      go_simp
                      refine wpMix_skip rfl ?_
                      go_simp
                      refine wpMix_skip rfl ?_
                      go_simp
                      refine wpMix_skip rfl ?_
                      go_simp
                      refine wpMix_skip rfl ?_
                      go_simp
                      refine wpMix_skip rfl ?_
                      go_simp
                      refine wpMix_skip rfl ?_
                      go_simp
                      refine wpMix_skip rfl ?_
                      go_simp
                      refine wpMix_load ?vbd24 rfl (fun w' hS => ?ybd24) ?kbd24
                      case ybd24 =>
                        obtain _ := hS
                        go_simp
                        try rfl
                      case kbd24 =>
                      go_simp
                      refine wpMix_nil ?_
                      simp only [opsAt, List.filterMap_nil, List.getElem?_toArray]
                      go_wp2
                      refine NoPanic.normal ?_
                      go_wp2_with fail
                      try rw [← HMAD.out]
                      clear HC
                      have hIg := HIE.out.below HBG.out
                      have hxd := (HBG.out.block _ (lt_of_heap HXDE.out)).trans HXDE.out
                      have hmr : Row wg (Lt wg.heap.size) MA (flt mvC (st.2.1.map mvOf)) := Row.ofOwn (S := Lt wg.heap.size) hIg.move fun _ _ _ h => h
                      have hmc : ml ≤ mc := by rw [HML.out]; exact (own_le hIg.move).1
                      have hkc : (0 : Int) ≤ (ml : Int) ∧ (ml : Int) ≤ (mc : Int) ∧ (ml : Int) ≤ (ml : Int) := ⟨by omega, by omega, by omega⟩
                      obtain ⟨SB, hSB⟩ : ∃ SB, SB = backOf MA 5 mc ml := ⟨_, rfl⟩
                      have HSB := Lib.hid hSB
                      have d2 : wg.cell? ⟨D, 2, none⟩ = some (.slice MA ml mc) := (Lib.cell_of_heap hIg.blk 2).trans (by rw [HML.out]; rfl)
                      have HC : Hid (∀ u, Below wg.heap.size wg u → AtCells [(⟨D, 2, none⟩, .slice MA ml mc), (⟨wc.heap.size, 0, none⟩, .int .i64 x.1), (⟨wc.heap.size, 1, none⟩, .int .i64 m.1), (⟨wc.heap.size, 2, none⟩, .int .i64 m.1), (⟨wc.heap.size, 3, none⟩, .int .i64 m.2.1), (⟨wc.heap.size, 4, none⟩, sv m.2.2)] u) := Lib.hid fun u hu => by
                        have hxu := (hu.block _ (lt_of_heap hxd)).trans hxd
                        exact ⟨(hu.cell (block_lt_of_cell d2)).trans d2, (Lib.cell_of_heap hxu 0).trans rfl, (Lib.cell_of_heap hxu 1).trans rfl, (Lib.cell_of_heap hxu 2).trans rfl, (Lib.cell_of_heap hxu 3).trans rfl, (Lib.cell_of_heap hxu 4).trans rfl, trivial⟩
                      have HIG := Lib.hid hIg
                      have HMR := Lib.hid hmr
                      have HFL5 : Hid ((flt mvC (st.2.1.map mvOf)).length = ml * 5) := Lib.hid (by rw [flt_length mvC_len, HML.out])
                      have hge := HBG.out.size
                      clear hIg hxd hmr hSB d2
                      refine wp_region_twok (fun u => Below wg.heap.size wg u ∧ AtCells [(⟨D, 2, none⟩, .slice MA ml mc), (⟨wc.heap.size, 0, none⟩, .int .i64 x.1), (⟨wc.heap.size, 1, none⟩, .int .i64 m.1), (⟨wc.heap.size, 2, none⟩, .int .i64 m.1), (⟨wc.heap.size, 3, none⟩, .int .i64 m.2.1), (⟨wc.heap.size, 4, none⟩, sv m.2.2)] u) [0, 1, 2, 3, 5, 8, 9, 10, 11] 4 6 [7] [12, 13, 14] (by kernel_rfl) (by kernel_rfl) ?sfa ?hfa
                      case sfa => exact ⟨(Below.refl _ wg).drew, HC.out _ (Below.refl _ wg).drew⟩
                      case hfa =>
                      simp only [opsAt, List.filterMap_cons, List.filterMap_nil, List.getElem?_toArray, List.getElem?_cons_succ, List.getElem?_cons_zero]
                      refine wpLoad_step ?vfaa0 rfl (fun w' hS => ?yfaa0) ?kfaa0
                      case yfaa0 =>
                        obtain ⟨_, g0, g1, g2, g3, g4, g5, _⟩ := hS
                        go_simp
                        try rfl
                      case kfaa0 =>
                      go_simp
                      refine wpLoad_step ?vfaa1 rfl (fun w' hS => ?yfaa1) ?kfaa1
                      case yfaa1 =>
                        obtain ⟨_, g0, g1, g2, g3, g4, g5, _⟩ := hS
                        go_simp
                        try rfl
                      case kfaa1 =>
                      go_simp
                      refine wpLoad_step ?vfaa2 rfl (fun w' hS => ?yfaa2) ?kfaa2
                      case yfaa2 =>
                        obtain ⟨_, g0, g1, g2, g3, g4, g5, _⟩ := hS
                        go_simp
                        try rfl
                      case kfaa2 =>
                      go_simp
                      refine wpLoad_step (.slice MA ml mc) rfl (fun w' hS => ?yfa3) ?kfa3
                      case yfa3 =>
                        go_simp
                        try simp only [← front_of MA ml mc 5]
                        try rfl
                      case kfa3 =>
                      go_simp
                      refine wpLoad_step ?vfab5 rfl (fun w' hS => ?yfab5) ?kfab5
                      case yfab5 =>
                        obtain ⟨_, g0, g1, g2, g3, g4, g5, _⟩ := hS
                        go_simp
                        try rfl
                      case kfab5 =>
                      go_simp
                      refine wpLoad_step ?vfac8 rfl (fun w' hS => ?yfac8) ?kfac8
                      case yfac8 =>
                        obtain ⟨_, g0, g1, g2, g3, g4, g5, _⟩ := hS
                        go_simp
                        try rfl
                      case kfac8 =>
                      go_simp
                      refine wpLoad_step ?vfac9 rfl (fun w' hS => ?yfac9) ?kfac9
                      case yfac9 =>
                        obtain ⟨_, g0, g1, g2, g3, g4, g5, _⟩ := hS
                        go_simp
                        try rfl
                      case kfac9 =>
                      go_simp
                      refine wpLoad_step ?vfac10 rfl (fun w' hS => ?yfac10) ?kfac10
                      case yfac10 =>
                        obtain ⟨_, g0, g1, g2, g3, g4, g5, _⟩ := hS
                        go_simp
                        try rfl
                      case kfac10 =>
                      go_simp
                      refine wpLoad_step (.slice SB (ml - ml) (mc - ml)) rfl (fun w' hS => ?yfa11) ?kfa11
                      case yfa11 =>
                        go_simp
                        rw [HSB.out]
                        try rfl
                      case kfa11 =>
                      go_simp
                      refine wpLoad_nil ?_
                      refine ⟨?o1fa, ?o2fa⟩
                      case o1fa =>
                        have hfr := HMR.out.keep (kept_below (Below.refl wg.heap.size wg).drew)
                        refine wpKeep_step rfl ?_
                        refine wp_append_row _ _ 23 rfl wg.heap.size 42 i5 _ 5 48 Try.underlying23 hj hy0 hy1 hy2 rfl (by omega) (.slice none 0 0) 0 [] rfl (World.ownsRow_nil _ _ _ _) (Lt wg.heap.size) MA ml mc (flt mvC (st.2.1.map mvOf)) rfl HFL5.out hfr (flt_one' mvC_one _) (by unfold maxLen; omega) (by omega) (Nat.le_refl _) ?_
                        intro v' w5 hown hg _
                        rw [Nat.zero_add, List.nil_append] at hown
                        have hb5 : Below wg.heap.size wg w5 := (Below.refl _ wg).drew.grown hg (Nat.le_refl _) (fun r hr => by cases hr)
                        obtain ⟨A3, c3, rfl, _⟩ := own_slice hown
                        refine ⟨⟨hb5, HC.out _ hb5⟩, ?_⟩
                        have HB5 := Lib.hid hb5
                        clear hb5 hfr hg
                        refine wpKeep_step rfl ?_
                        go_simp
                        have hown3 := hown.alloc (.cells #[.int .i64 x.1, .int .i64 m.1, .int .i64 m.1, .int .i64 m.2.1, sv m.2.2] 42)
                        have hblk := alloc1 w5 (.cells #[.int .i64 x.1, .int .i64 m.1, .int .i64 m.1, .int .i64 m.2.1, sv m.2.2] 42)
                        have hb6 : Below wg.heap.size wg (w5.alloc (.cells #[.int .i64 x.1, .int .i64 m.1, .int .i64 m.1, .int .i64 m.2.1, sv m.2.2] 42)) := HB5.out.alloc HB5.out.size _
                        have hg5 := HB5.out.size
                        obtain ⟨g5, hgg⟩ : ∃ g5, g5 = w5.heap.size := ⟨_, rfl⟩
                        refine ⟨⟨hb6, HC.out _ hb6⟩, ?_⟩
                        clear hown HB5
                        obtain ⟨w6, hw6⟩ : ∃ w6, w6 = w5.alloc (.cells #[.int .i64 x.1, .int .i64 m.1, .int .i64 m.1, .int .i64 m.2.1, sv m.2.2] 42) := ⟨_, rfl⟩
                        rw [← hw6] at hown3 hblk hb6 ⊢
                        rw [← hgg] at hblk hg5 ⊢
                        clear hw6 hgg
                        have hs6 := hb6.size
                        have HB6 := Lib.hid hb6
                        have hrow5 : Row w6 (fun y => y = g5) (some ⟨g5, 0, none⟩) (mvC (mvOf (x, m))) := row_heap hblk rfl rfl
                        clear hb6 HMR
                        refine wpKeep_step rfl ?_
                        refine wp_append_row _ _ 23 rfl wg.heap.size 42 i5 _ 5 48 Try.underlying23 hj hy0 hy1 hy2 rfl (by omega) (.slice A3 ml c3) ml (flt mvC (st.2.1.map mvOf)) rfl hown3 (fun y => y = g5) (some ⟨g5, 0, none⟩) 1 1 (mvC (mvOf (x, m))) rfl rfl hrow5 (mvC_one _) (by unfold maxLen; omega) (by omega) (by omega) ?_
                        intro v7 w7 hown7 hg7 _
                        obtain ⟨A7, c7, rfl, _⟩ := own_slice hown7
                        have hlt3 := hown3.lt
                        have hk7 : Kp (fun y => wg.heap.size ≤ y) w6 w7 := (Kp.refl _ _).grown hg7 (fun r hr _ => (hlt3 r hr).1)
                        have hs7 := hk7.size
                        have hlt7 := hown7.lt
                        have hb7 : Below wg.heap.size wg w7 := kp_below HB6.out hk7 fun _ e => e
                        refine ⟨⟨hb7, HC.out _ hb7⟩, ?_⟩
                        refine wpKeep_nil ?_
                        clear hb7 HC
                        simp only [opsAt, List.filterMap_cons, List.filterMap_nil, List.getElem?_toArray, List.getElem?_cons_succ, List.getElem?_cons_zero]
                        refine (wpList_append_row rfl _ _ 23 rfl wg.heap.size 42 i5 _ 5 48 Try.underlying23 hj hy0 hy1 hy2 rfl (by omega) (.slice A7 (ml + 1) c7) (ml + 1) (flt mvC (st.2.1.map mvOf) ++ mvC (mvOf (x, m))) rfl hown7 (fun _ => True) SB 0 (mc - ml) [] rfl (by simp) (Row.nil _ _ _) (fun _ h => by cases h) (by unfold maxLen; omega) (by omega) (by omega) ?_)
                        intro v8 w8 hown8 hg8 _
                        have hk8 : Kp (fun y => wg.heap.size ≤ y) w7 w8 := (Kp.refl _ _).grown hg8 (fun r hr _ => (hlt7 r hr).1)
                        rw [List.append_nil, Nat.add_zero] at hown8
                        have hk68 := hk7.trans hk8 (fun _ _ e => e)
                        have hb8 : Below wg.heap.size wg w8 := kp_below HB6.out hk68 fun _ e => e
                        have hbe8 := HBG.out.trans (hb8.mono HBG.out.size)
                        have hI8 := HIE.out.below hbe8
                        obtain ⟨A8, c8, rfl, _⟩ := own_slice hown8
                        have hmo : w8.ownsRow we.heap.size 42 5 (.slice A8 (ml + 1) c8) ((st.2.1 ++ [(x, m)]).map mvOf).length (flt mvC ((st.2.1 ++ [(x, m)]).map mvOf)) := by
                          rw [List.map_append, List.length_append, flt_append, ← HML.out]
                          exact ownMono hown8 hge
                        have hlo : w8.ownsRow wd.heap.size 40 3 (.slice EA el ec) (st.2.2.erase x).length (flt msC (st.2.2.erase x)) := by
                          rw [← HEL.out]
                          exact (Kp.ofBelow (M := fun _ => False) hbe8).own HNEW.out fun _ _ e => e
                        have hle8 := HNEW.out.lt
                        have hmt := hmo.lt
                        have hd8 : w8.cell? ⟨D, 2, none⟩ = some (.slice MA ml mc) := (Lib.cell_of_heap hI8.blk 2).trans (by rw [HML.out]; rfl)
                        have hf8 : w8.frozen? ⟨D, 2, none⟩ = false := Lib.frozen_of_heap hI8.blk 2
                        have hbd8 : Below wd.heap.size wd w8 := HDE2.out.trans (hbe8.mono hse)
                        have hmv := RoInv.moves (x := x) (m := m) (HID.out) hDu hBu hbd8 hlo (ownMono hmo hse) fun g hg e => by
                          have h1 := (hle8 g hg).2
                          have h2 := (hmt g e).1
                          omega
                        rw [← HMS2.out] at hmv
                        have HMV := Lib.hid hmv
                        clear hown3 hown7 hown8 hg7 hg8 hlt3 hlt7 hk7 hk8 hk68 hb8 hrow5 hblk HB6 hbe8 hI8 hmo hlo hle8 hmt hbd8 hmv
                        go_wp2
                        refine NoPanic.normal ?_
                        clear hd8 hf8
                        go_wp2_with fail
                        rw [HAD.out]
                        first | go_roundw | refine ⟨?rel, ?measure⟩
                        case rel => exact ⟨k + 1, _, _, by omega, by go_num, HMV.out⟩
                        case measure => simp [intOf]; omega
                      case o2fa =>
                        refine wpKeep_step rfl ?_
                        go_simp
                        have hb5 : Below wg.heap.size wg (wg.alloc (.cells #[.int .i64 x.1, .int .i64 m.1, .int .i64 m.1, .int .i64 m.2.1, sv m.2.2] 42)).drew := ((Below.refl wg.heap.size wg).alloc (Nat.le_refl _) _).drew
                        refine ⟨⟨hb5, HC.out _ hb5⟩, ?_⟩
                        have hblk : (wg.alloc (.cells #[.int .i64 x.1, .int .i64 m.1, .int .i64 m.1, .int .i64 m.2.1, sv m.2.2] 42)).drew.heap[wg.heap.size]? = some (.cells #[.int .i64 x.1, .int .i64 m.1, .int .i64 m.1, .int .i64 m.2.1, sv m.2.2] 42 (0, 0)) := alloc1 wg (.cells #[.int .i64 x.1, .int .i64 m.1, .int .i64 m.1, .int .i64 m.2.1, sv m.2.2] 42)
                        have hg5 : wg.heap.size ≤ wg.heap.size := Nat.le_refl _
                        obtain ⟨w5, hw5⟩ : ∃ w5, w5 = (wg.alloc (.cells #[.int .i64 x.1, .int .i64 m.1, .int .i64 m.1, .int .i64 m.2.1, sv m.2.2] 42)).drew := ⟨_, rfl⟩
                        rw [← hw5] at hblk hb5 ⊢
                        have hfr := HMR.out.keep (kept_below hb5)
                        have hs5 := hb5.size
                        clear hw5
                        refine wpKeep_step rfl ?_
                        refine wp_append_row _ _ 23 rfl wg.heap.size 42 i5 _ 5 48 Try.underlying23 hj hy0 hy1 hy2 rfl (by omega) (.slice none 0 0) 0 [] rfl (World.ownsRow_nil _ _ _ _) (Lt wg.heap.size) MA ml mc (flt mvC (st.2.1.map mvOf)) rfl HFL5.out hfr (flt_one' mvC_one _) (by unfold maxLen; omega) (by omega) (by omega) ?_
                        intro v' w6 hown3 hg _
                        rw [Nat.zero_add, List.nil_append] at hown3
                        have hb56 : Below w5.heap.size w5 w6 := (Below.refl _ w5).grown hg (Nat.le_refl _) (fun r hr => by cases hr)
                        have hb6 := hb5.trans (hb56.mono hs5)
                        have hblk := (hb56.block _ (lt_of_heap hblk)).trans hblk
                        obtain ⟨A3, c3, rfl, _⟩ := own_slice hown3
                        refine ⟨⟨hb6, HC.out _ hb6⟩, ?_⟩
                        clear hg hb5 hfr hb56
                        have hs6 := hb6.size
                        have HB6 := Lib.hid hb6
                        have hrow5 : Row w6 (fun y => y = wg.heap.size) (some ⟨wg.heap.size, 0, none⟩) (mvC (mvOf (x, m))) := row_heap hblk rfl rfl
                        clear hb6 HMR
                        refine wpKeep_step rfl ?_
                        refine wp_append_row _ _ 23 rfl wg.heap.size 42 i5 _ 5 48 Try.underlying23 hj hy0 hy1 hy2 rfl (by omega) (.slice A3 ml c3) ml (flt mvC (st.2.1.map mvOf)) rfl hown3 (fun y => y = wg.heap.size) (some ⟨wg.heap.size, 0, none⟩) 1 1 (mvC (mvOf (x, m))) rfl rfl hrow5 (mvC_one _) (by unfold maxLen; omega) (by omega) (by omega) ?_
                        intro v7 w7 hown7 hg7 _
                        obtain ⟨A7, c7, rfl, _⟩ := own_slice hown7
                        have hlt3 := hown3.lt
                        have hk7 : Kp (fun y => wg.heap.size ≤ y) w6 w7 := (Kp.refl _ _).grown hg7 (fun r hr _ => (hlt3 r hr).1)
                        have hs7 := hk7.size
                        have hlt7 := hown7.lt
                        have hb7 : Below wg.heap.size wg w7 := kp_below HB6.out hk7 fun _ e => e
                        refine ⟨⟨hb7, HC.out _ hb7⟩, ?_⟩
                        refine wpKeep_nil ?_
                        clear hb7 HC
                        simp only [opsAt, List.filterMap_cons, List.filterMap_nil, List.getElem?_toArray, List.getElem?_cons_succ, List.getElem?_cons_zero]
                        refine (wpList_append_row rfl _ _ 23 rfl wg.heap.size 42 i5 _ 5 48 Try.underlying23 hj hy0 hy1 hy2 rfl (by omega) (.slice A7 (ml + 1) c7) (ml + 1) (flt mvC (st.2.1.map mvOf) ++ mvC (mvOf (x, m))) rfl hown7 (fun _ => True) SB 0 (mc - ml) [] rfl (by simp) (Row.nil _ _ _) (fun _ h => by cases h) (by unfold maxLen; omega) (by omega) (by omega) ?_)
                        intro v8 w8 hown8 hg8 _
                        have hk8 : Kp (fun y => wg.heap.size ≤ y) w7 w8 := (Kp.refl _ _).grown hg8 (fun r hr _ => (hlt7 r hr).1)
                        rw [List.append_nil, Nat.add_zero] at hown8
                        have hk68 := hk7.trans hk8 (fun _ _ e => e)
                        have hb8 : Below wg.heap.size wg w8 := kp_below HB6.out hk68 fun _ e => e
                        have hbe8 := HBG.out.trans (hb8.mono HBG.out.size)
                        have hI8 := HIE.out.below hbe8
                        obtain ⟨A8, c8, rfl, _⟩ := own_slice hown8
                        have hmo : w8.ownsRow we.heap.size 42 5 (.slice A8 (ml + 1) c8) ((st.2.1 ++ [(x, m)]).map mvOf).length (flt mvC ((st.2.1 ++ [(x, m)]).map mvOf)) := by
                          rw [List.map_append, List.length_append, flt_append, ← HML.out]
                          exact ownMono hown8 hge
                        have hlo : w8.ownsRow wd.heap.size 40 3 (.slice EA el ec) (st.2.2.erase x).length (flt msC (st.2.2.erase x)) := by
                          rw [← HEL.out]
                          exact (Kp.ofBelow (M := fun _ => False) hbe8).own HNEW.out fun _ _ e => e
                        have hle8 := HNEW.out.lt
                        have hmt := hmo.lt
                        have hd8 : w8.cell? ⟨D, 2, none⟩ = some (.slice MA ml mc) := (Lib.cell_of_heap hI8.blk 2).trans (by rw [HML.out]; rfl)
                        have hf8 : w8.frozen? ⟨D, 2, none⟩ = false := Lib.frozen_of_heap hI8.blk 2
                        have hbd8 : Below wd.heap.size wd w8 := HDE2.out.trans (hbe8.mono hse)
                        have hmv := RoInv.moves (x := x) (m := m) (HID.out) hDu hBu hbd8 hlo (ownMono hmo hse) fun g hg e => by
                          have h1 := (hle8 g hg).2
                          have h2 := (hmt g e).1
                          omega
                        rw [← HMS2.out] at hmv
                        have HMV := Lib.hid hmv
                        clear hown3 hown7 hown8 hg7 hg8 hlt3 hlt7 hk7 hk8 hk68 hb8 hrow5 hblk HB6 hbe8 hI8 hmo hlo hle8 hmt hbd8 hmv
                        go_wp2
                        refine NoPanic.normal ?_
                        clear hd8 hf8
                        go_wp2_with fail
                        rw [HAD.out]
                        first | go_roundw | refine ⟨?rel, ?measure⟩
                        case rel => exact ⟨k + 1, _, _, by omega, by go_num, HMV.out⟩
                        case measure => simp [intOf]; omega
                    | true =>
                      have hm0 : m0 = m := by have := HBB.out; simpa using this.symm
                      have hle : x0.1 ≤ x.1 := by
                        have ho := HOR.out
                        rw [mstep_some HFD.out] at ho
                        have ho := (List.pairwise_append.1 ho).2.2 (x0, m0) (by rw [HCC.out]; simp) (x, m) (by simp)
                        exact ho.2 hm0
                      have hgt : decide (x.1 < x0.1) = false := by simp; omega
                      refine wpMix_load ?vbe12 rfl (fun w' hS => ?ybe12) ?kbe12
                      case ybe12 =>
                        obtain ⟨g0, g1, g2, g3, g4, g5, g6, g7, g8, _⟩ := hS
                        go_simp
                        try rfl
                      case kbe12 =>
                      go_simp
                      refine wpMix_load ?vbe13 rfl (fun w' hS => ?ybe13) ?kbe13
                      case ybe13 =>
                        obtain ⟨g0, g1, g2, g3, g4, g5, g6, g7, g8, _⟩ := hS
                        go_simp
                        try rfl
                      case kbe13 =>
                      go_simp
                      refine wpMix_load ?vbe14 rfl (fun w' hS => ?ybe14) ?kbe14
                      case ybe14 =>
                        obtain ⟨g0, g1, g2, g3, g4, g5, g6, g7, g8, _⟩ := hS
                        go_simp
                        try rfl
                      case kbe14 =>
                      go_simp
                      refine wpMix_load ?vbe15 rfl (fun w' hS => ?ybe15) ?kbe15
                      case ybe15 =>
                        obtain ⟨g0, g1, g2, g3, g4, g5, g6, g7, g8, _⟩ := hS
                        go_simp
                        try rfl
                      case kbe15 =>
                      go_simp
                      refine wpMix_load ?vbe16 rfl (fun w' hS => ?ybe16) ?kbe16
                      case ybe16 =>
                        obtain ⟨g0, g1, g2, g3, g4, g5, g6, g7, g8, _⟩ := hS
                        go_simp
                        try rfl
                      case kbe16 =>
                      go_simp
                      refine wpMix_load ?vbe17 rfl (fun w' hS => ?ybe17) ?kbe17
                      case ybe17 =>
                        obtain ⟨g0, g1, g2, g3, g4, g5, g6, g7, g8, _⟩ := hS
                        go_simp
                        try rfl
                      case kbe17 =>
                      go_simp
                      refine wpMix_load ?vbe18 rfl (fun w' hS => ?ybe18) ?kbe18
                      case ybe18 =>
                        obtain ⟨g0, g1, g2, g3, g4, g5, g6, g7, g8, _⟩ := hS
                        go_simp
                        try rfl
                      case kbe18 =>
                      go_simp
                      refine wpMix_load ?vbe19 rfl (fun w' hS => ?ybe19) ?kbe19
                      case ybe19 =>
                        obtain ⟨g0, g1, g2, g3, g4, g5, g6, g7, g8, _⟩ := hS
                        go_simp
                        try rfl
                      case kbe19 =>
                      go_simp
                      refine wpMix_load ?vbe20 rfl (fun w' hS => ?ybe20) ?kbe20
                      case ybe20 =>
                        obtain ⟨g0, g1, g2, g3, g4, g5, g6, g7, g8, _⟩ := hS
                        go_simp
                        try rfl
                      case kbe20 =>
                      go_simp
                      refine wpMix_load ?vbe21 rfl (fun w' hS => ?ybe21) ?kbe21
                      case ybe21 =>
                        obtain ⟨g0, g1, g2, g3, g4, g5, g6, g7, g8, _⟩ := hS
                        go_simp
                        try rfl
                      case kbe21 =>
                      go_simp
                      refine wpMix_load ?vbe22 rfl (fun w' hS => ?ybe22) ?kbe22
                      case ybe22 =>
                        obtain ⟨g0, g1, g2, g3, g4, g5, g6, g7, g8, _⟩ := hS
                        go_simp
                        try rfl
                      case kbe22 =>
                      go_simp
                      refine wpMix_load ?vbf23 rfl (fun w' hS => ?ybf23) ?kbf23
                      case ybf23 =>
                        obtain _ := hS
                        go_simp
                        try rfl
                      case kbf23 =>
                      go_simp
                      refine wpMix_load ?vbf24 rfl (fun w' hS => ?ybf24) ?kbf24
                      case ybf24 =>
                        obtain _ := hS
                        go_simp
                        try rfl
                      case kbf24 =>
                      go_simp
                      refine wpMix_nil ?_
                      simp only [opsAt, List.filterMap_nil, List.getElem?_toArray]
                      go_wp2
                      refine NoPanic.normal ?_
                      go_wp2_with fail
                      try rw [← HMAD.out]
                      clear HC hm0 hle hgt
                      have hIg := HIE.out.below HBG.out
                      have hxd := (HBG.out.block _ (lt_of_heap HXDE.out)).trans HXDE.out
                      have hmr : Row wg (Lt wg.heap.size) MA (flt mvC (st.2.1.map mvOf)) := Row.ofOwn (S := Lt wg.heap.size) hIg.move fun _ _ _ h => h
                      have hmc : ml ≤ mc := by rw [HML.out]; exact (own_le hIg.move).1
                      have hkc : (0 : Int) ≤ (ml : Int) ∧ (ml : Int) ≤ (mc : Int) ∧ (ml : Int) ≤ (ml : Int) := ⟨by omega, by omega, by omega⟩
                      obtain ⟨SB, hSB⟩ : ∃ SB, SB = backOf MA 5 mc ml := ⟨_, rfl⟩
                      have HSB := Lib.hid hSB
                      have d2 : wg.cell? ⟨D, 2, none⟩ = some (.slice MA ml mc) := (Lib.cell_of_heap hIg.blk 2).trans (by rw [HML.out]; rfl)
                      have HC : Hid (∀ u, Below wg.heap.size wg u → AtCells [(⟨D, 2, none⟩, .slice MA ml mc), (⟨wc.heap.size, 0, none⟩, .int .i64 x.1), (⟨wc.heap.size, 1, none⟩, .int .i64 m.1), (⟨wc.heap.size, 2, none⟩, .int .i64 m.1), (⟨wc.heap.size, 3, none⟩, .int .i64 m.2.1), (⟨wc.heap.size, 4, none⟩, sv m.2.2)] u) := Lib.hid fun u hu => by
                        have hxu := (hu.block _ (lt_of_heap hxd)).trans hxd
                        exact ⟨(hu.cell (block_lt_of_cell d2)).trans d2, (Lib.cell_of_heap hxu 0).trans rfl, (Lib.cell_of_heap hxu 1).trans rfl, (Lib.cell_of_heap hxu 2).trans rfl, (Lib.cell_of_heap hxu 3).trans rfl, (Lib.cell_of_heap hxu 4).trans rfl, trivial⟩
                      have HIG := Lib.hid hIg
                      have HMR := Lib.hid hmr
                      have HFL5 : Hid ((flt mvC (st.2.1.map mvOf)).length = ml * 5) := Lib.hid (by rw [flt_length mvC_len, HML.out])
                      have hge := HBG.out.size
                      clear hIg hxd hmr hSB d2
                      refine wp_region_twok (fun u => Below wg.heap.size wg u ∧ AtCells [(⟨D, 2, none⟩, .slice MA ml mc), (⟨wc.heap.size, 0, none⟩, .int .i64 x.1), (⟨wc.heap.size, 1, none⟩, .int .i64 m.1), (⟨wc.heap.size, 2, none⟩, .int .i64 m.1), (⟨wc.heap.size, 3, none⟩, .int .i64 m.2.1), (⟨wc.heap.size, 4, none⟩, sv m.2.2)] u) [0, 1, 2, 3, 5, 8, 9, 10, 11] 4 6 [7] [12, 13, 14] (by kernel_rfl) (by kernel_rfl) ?sfb ?hfb
                      case sfb => exact ⟨(Below.refl _ wg).drew, HC.out _ (Below.refl _ wg).drew⟩
                      case hfb =>
                      simp only [opsAt, List.filterMap_cons, List.filterMap_nil, List.getElem?_toArray, List.getElem?_cons_succ, List.getElem?_cons_zero]
                      refine wpLoad_step ?vfba0 rfl (fun w' hS => ?yfba0) ?kfba0
                      case yfba0 =>
                        obtain ⟨_, g0, g1, g2, g3, g4, g5, _⟩ := hS
                        go_simp
                        try rfl
                      case kfba0 =>
                      go_simp
                      refine wpLoad_step ?vfba1 rfl (fun w' hS => ?yfba1) ?kfba1
                      case yfba1 =>
                        obtain ⟨_, g0, g1, g2, g3, g4, g5, _⟩ := hS
                        go_simp
                        try rfl
                      case kfba1 =>
                      go_simp
                      refine wpLoad_step ?vfba2 rfl (fun w' hS => ?yfba2) ?kfba2
                      case yfba2 =>
                        obtain ⟨_, g0, g1, g2, g3, g4, g5, _⟩ := hS
                        go_simp
                        try rfl
                      case kfba2 =>
                      go_simp
                      refine wpLoad_step (.slice MA ml mc) rfl (fun w' hS => ?yfb3) ?kfb3
                      case yfb3 =>
                        go_simp
                        try simp only [← front_of MA ml mc 5]
                        try rfl
                      case kfb3 =>
                      go_simp
                      refine wpLoad_step ?vfbb5 rfl (fun w' hS => ?yfbb5) ?kfbb5
                      case yfbb5 =>
                        obtain ⟨_, g0, g1, g2, g3, g4, g5, _⟩ := hS
                        go_simp
                        try rfl
                      case kfbb5 =>
                      go_simp
                      refine wpLoad_step ?vfbc8 rfl (fun w' hS => ?yfbc8) ?kfbc8
                      case yfbc8 =>
                        obtain ⟨_, g0, g1, g2, g3, g4, g5, _⟩ := hS
                        go_simp
                        try rfl
                      case kfbc8 =>
                      go_simp
                      refine wpLoad_step ?vfbc9 rfl (fun w' hS => ?yfbc9) ?kfbc9
                      case yfbc9 =>
                        obtain ⟨_, g0, g1, g2, g3, g4, g5, _⟩ := hS
                        go_simp
                        try rfl
                      case kfbc9 =>
                      go_simp
                      refine wpLoad_step ?vfbc10 rfl (fun w' hS => ?yfbc10) ?kfbc10
                      case yfbc10 =>
                        obtain ⟨_, g0, g1, g2, g3, g4, g5, _⟩ := hS
                        go_simp
                        try rfl
                      case kfbc10 =>
                      go_simp
                      refine wpLoad_step (.slice SB (ml - ml) (mc - ml)) rfl (fun w' hS => ?yfb11) ?kfb11
                      case yfb11 =>
                        go_simp
                        rw [HSB.out]
                        try rfl
                      case kfb11 =>
                      go_simp
                      refine wpLoad_nil ?_
                      refine ⟨?o1fb, ?o2fb⟩
                      case o1fb =>
                        have hfr := HMR.out.keep (kept_below (Below.refl wg.heap.size wg).drew)
                        refine wpKeep_step rfl ?_
                        refine wp_append_row _ _ 23 rfl wg.heap.size 42 i5 _ 5 48 Try.underlying23 hj hy0 hy1 hy2 rfl (by omega) (.slice none 0 0) 0 [] rfl (World.ownsRow_nil _ _ _ _) (Lt wg.heap.size) MA ml mc (flt mvC (st.2.1.map mvOf)) rfl HFL5.out hfr (flt_one' mvC_one _) (by unfold maxLen; omega) (by omega) (Nat.le_refl _) ?_
                        intro v' w5 hown hg _
                        rw [Nat.zero_add, List.nil_append] at hown
                        have hb5 : Below wg.heap.size wg w5 := (Below.refl _ wg).drew.grown hg (Nat.le_refl _) (fun r hr => by cases hr)
                        obtain ⟨A3, c3, rfl, _⟩ := own_slice hown
                        refine ⟨⟨hb5, HC.out _ hb5⟩, ?_⟩
                        have HB5 := Lib.hid hb5
                        clear hb5 hfr hg
                        refine wpKeep_step rfl ?_
                        go_simp
                        have hown3 := hown.alloc (.cells #[.int .i64 x.1, .int .i64 m.1, .int .i64 m.1, .int .i64 m.2.1, sv m.2.2] 42)
                        have hblk := alloc1 w5 (.cells #[.int .i64 x.1, .int .i64 m.1, .int .i64 m.1, .int .i64 m.2.1, sv m.2.2] 42)
                        have hb6 : Below wg.heap.size wg (w5.alloc (.cells #[.int .i64 x.1, .int .i64 m.1, .int .i64 m.1, .int .i64 m.2.1, sv m.2.2] 42)) := HB5.out.alloc HB5.out.size _
                        have hg5 := HB5.out.size
                        obtain ⟨g5, hgg⟩ : ∃ g5, g5 = w5.heap.size := ⟨_, rfl⟩
                        refine ⟨⟨hb6, HC.out _ hb6⟩, ?_⟩
                        clear hown HB5
                        obtain ⟨w6, hw6⟩ : ∃ w6, w6 = w5.alloc (.cells #[.int .i64 x.1, .int .i64 m.1, .int .i64 m.1, .int .i64 m.2.1, sv m.2.2] 42) := ⟨_, rfl⟩
                        rw [← hw6] at hown3 hblk hb6 ⊢
                        rw [← hgg] at hblk hg5 ⊢
                        clear hw6 hgg
                        have hs6 := hb6.size
                        have HB6 := Lib.hid hb6
                        have hrow5 : Row w6 (fun y => y = g5) (some ⟨g5, 0, none⟩) (mvC (mvOf (x, m))) := row_heap hblk rfl rfl
                        clear hb6 HMR
                        refine wpKeep_step rfl ?_
                        refine wp_append_row _ _ 23 rfl wg.heap.size 42 i5 _ 5 48 Try.underlying23 hj hy0 hy1 hy2 rfl (by omega) (.slice A3 ml c3) ml (flt mvC (st.2.1.map mvOf)) rfl hown3 (fun y => y = g5) (some ⟨g5, 0, none⟩) 1 1 (mvC (mvOf (x, m))) rfl rfl hrow5 (mvC_one _) (by unfold maxLen; omega) (by omega) (by omega) ?_
                        intro v7 w7 hown7 hg7 _
                        obtain ⟨A7, c7, rfl, _⟩ := own_slice hown7
                        have hlt3 := hown3.lt
                        have hk7 : Kp (fun y => wg.heap.size ≤ y) w6 w7 := (Kp.refl _ _).grown hg7 (fun r hr _ => (hlt3 r hr).1)
                        have hs7 := hk7.size
                        have hlt7 := hown7.lt
                        have hb7 : Below wg.heap.size wg w7 := kp_below HB6.out hk7 fun _ e => e
                        refine ⟨⟨hb7, HC.out _ hb7⟩, ?_⟩
                        refine wpKeep_nil ?_
                        clear hb7 HC
                        simp only [opsAt, List.filterMap_cons, List.filterMap_nil, List.getElem?_toArray, List.getElem?_cons_succ, List.getElem?_cons_zero]
                        refine (wpList_append_row rfl _ _ 23 rfl wg.heap.size 42 i5 _ 5 48 Try.underlying23 hj hy0 hy1 hy2 rfl (by omega) (.slice A7 (ml + 1) c7) (ml + 1) (flt mvC (st.2.1.map mvOf) ++ mvC (mvOf (x, m))) rfl hown7 (fun _ => True) SB 0 (mc - ml) [] rfl (by simp) (Row.nil _ _ _) (fun _ h => by cases h) (by unfold maxLen; omega) (by omega) (by omega) ?_)
                        intro v8 w8 hown8 hg8 _
                        have hk8 : Kp (fun y => wg.heap.size ≤ y) w7 w8 := (Kp.refl _ _).grown hg8 (fun r hr _ => (hlt7 r hr).1)
                        rw [List.append_nil, Nat.add_zero] at hown8
                        have hk68 := hk7.trans hk8 (fun _ _ e => e)
                        have hb8 : Below wg.heap.size wg w8 := kp_below HB6.out hk68 fun _ e => e
                        have hbe8 := HBG.out.trans (hb8.mono HBG.out.size)
                        have hI8 := HIE.out.below hbe8
                        obtain ⟨A8, c8, rfl, _⟩ := own_slice hown8
                        have hmo : w8.ownsRow we.heap.size 42 5 (.slice A8 (ml + 1) c8) ((st.2.1 ++ [(x, m)]).map mvOf).length (flt mvC ((st.2.1 ++ [(x, m)]).map mvOf)) := by
                          rw [List.map_append, List.length_append, flt_append, ← HML.out]
                          exact ownMono hown8 hge
                        have hlo : w8.ownsRow wd.heap.size 40 3 (.slice EA el ec) (st.2.2.erase x).length (flt msC (st.2.2.erase x)) := by
                          rw [← HEL.out]
                          exact (Kp.ofBelow (M := fun _ => False) hbe8).own HNEW.out fun _ _ e => e
                        have hle8 := HNEW.out.lt
                        have hmt := hmo.lt
                        have hd8 : w8.cell? ⟨D, 2, none⟩ = some (.slice MA ml mc) := (Lib.cell_of_heap hI8.blk 2).trans (by rw [HML.out]; rfl)
                        have hf8 : w8.frozen? ⟨D, 2, none⟩ = false := Lib.frozen_of_heap hI8.blk 2
                        have hbd8 : Below wd.heap.size wd w8 := HDE2.out.trans (hbe8.mono hse)
                        have hmv := RoInv.moves (x := x) (m := m) (HID.out) hDu hBu hbd8 hlo (ownMono hmo hse) fun g hg e => by
                          have h1 := (hle8 g hg).2
                          have h2 := (hmt g e).1
                          omega
                        rw [← HMS2.out] at hmv
                        have HMV := Lib.hid hmv
                        clear hown3 hown7 hown8 hg7 hg8 hlt3 hlt7 hk7 hk8 hk68 hb8 hrow5 hblk HB6 hbe8 hI8 hmo hlo hle8 hmt hbd8 hmv
                        go_wp2
                        refine NoPanic.normal ?_
                        clear hd8 hf8
                        go_wp2_with fail
                        rw [HAD.out]
                        first | go_roundw | refine ⟨?rel, ?measure⟩
                        case rel => exact ⟨k + 1, _, _, by omega, by go_num, HMV.out⟩
                        case measure => simp [intOf]; omega
                      case o2fb =>
                        refine wpKeep_step rfl ?_
                        go_simp
                        have hb5 : Below wg.heap.size wg (wg.alloc (.cells #[.int .i64 x.1, .int .i64 m.1, .int .i64 m.1, .int .i64 m.2.1, sv m.2.2] 42)).drew := ((Below.refl wg.heap.size wg).alloc (Nat.le_refl _) _).drew
                        refine ⟨⟨hb5, HC.out _ hb5⟩, ?_⟩
                        have hblk : (wg.alloc (.cells #[.int .i64 x.1, .int .i64 m.1, .int .i64 m.1, .int .i64 m.2.1, sv m.2.2] 42)).drew.heap[wg.heap.size]? = some (.cells #[.int .i64 x.1, .int .i64 m.1, .int .i64 m.1, .int .i64 m.2.1, sv m.2.2] 42 (0, 0)) := alloc1 wg (.cells #[.int .i64 x.1, .int .i64 m.1, .int .i64 m.1, .int .i64 m.2.1, sv m.2.2] 42)
                        have hg5 : wg.heap.size ≤ wg.heap.size := Nat.le_refl _
                        obtain ⟨w5, hw5⟩ : ∃ w5, w5 = (wg.alloc (.cells #[.int .i64 x.1, .int .i64 m.1, .int .i64 m.1, .int .i64 m.2.1, sv m.2.2] 42)).drew := ⟨_, rfl⟩
                        rw [← hw5] at hblk hb5 ⊢
                        have hfr := HMR.out.keep (kept_below hb5)
                        have hs5 := hb5.size
                        clear hw5
                        refine wpKeep_step rfl ?_
                        refine wp_append_row _ _ 23 rfl wg.heap.size 42 i5 _ 5 48 Try.underlying23 hj hy0 hy1 hy2 rfl (by omega) (.slice none 0 0) 0 [] rfl (World.ownsRow_nil _ _ _ _) (Lt wg.heap.size) MA ml mc (flt mvC (st.2.1.map mvOf)) rfl HFL5.out hfr (flt_one' mvC_one _) (by unfold maxLen; omega) (by omega) (by omega) ?_
                        intro v' w6 hown3 hg _
                        rw [Nat.zero_add, List.nil_append] at hown3
                        have hb56 : Below w5.heap.size w5 w6 := (Below.refl _ w5).grown hg (Nat.le_refl _) (fun r hr => by cases hr)
                        have hb6 := hb5.trans (hb56.mono hs5)
                        have hblk := (hb56.block _ (lt_of_heap hblk)).trans hblk
                        obtain ⟨A3, c3, rfl, _⟩ := own_slice hown3
                        refine ⟨⟨hb6, HC.out _ hb6⟩, ?_⟩
                        clear hg hb5 hfr hb56
                        have hs6 := hb6.size
                        have HB6 := Lib.hid hb6
                        have hrow5 : Row w6 (fun y => y = wg.heap.size) (some ⟨wg.heap.size, 0, none⟩) (mvC (mvOf (x, m))) := row_heap hblk rfl rfl
                        clear hb6 HMR
                        refine wpKeep_step rfl ?_
                        refine wp_append_row _ _ 23 rfl wg.heap.size 42 i5 _ 5 48 Try.underlying23 hj hy0 hy1 hy2 rfl (by omega) (.slice A3 ml c3) ml (flt mvC (st.2.1.map mvOf)) rfl hown3 (fun y => y = wg.heap.size) (some ⟨wg.heap.size, 0, none⟩) 1 1 (mvC (mvOf (x, m))) rfl rfl hrow5 (mvC_one _) (by unfold maxLen; omega) (by omega) (by omega) ?_
                        intro v7 w7 hown7 hg7 _
                        obtain ⟨A7, c7, rfl, _⟩ := own_slice hown7
                        have hlt3 := hown3.lt
                        have hk7 : Kp (fun y => wg.heap.size ≤ y) w6 w7 := (Kp.refl _ _).grown hg7 (fun r hr _ => (hlt3 r hr).1)
                        have hs7 := hk7.size
                        have hlt7 := hown7.lt
                        have hb7 : Below wg.heap.size wg w7 := kp_below HB6.out hk7 fun _ e => e
                        refine ⟨⟨hb7, HC.out _ hb7⟩, ?_⟩
                        refine wpKeep_nil ?_
                        clear hb7 HC
                        simp only [opsAt, List.filterMap_cons, List.filterMap_nil, List.getElem?_toArray, List.getElem?_cons_succ, List.getElem?_cons_zero]
                        refine (wpList_append_row rfl _ _ 23 rfl wg.heap.size 42 i5 _ 5 48 Try.underlying23 hj hy0 hy1 hy2 rfl (by omega) (.slice A7 (ml + 1) c7) (ml + 1) (flt mvC (st.2.1.map mvOf) ++ mvC (mvOf (x, m))) rfl hown7 (fun _ => True) SB 0 (mc - ml) [] rfl (by simp) (Row.nil _ _ _) (fun _ h => by cases h) (by unfold maxLen; omega) (by omega) (by omega) ?_)
                        intro v8 w8 hown8 hg8 _
                        have hk8 : Kp (fun y => wg.heap.size ≤ y) w7 w8 := (Kp.refl _ _).grown hg8 (fun r hr _ => (hlt7 r hr).1)
                        rw [List.append_nil, Nat.add_zero] at hown8
                        have hk68 := hk7.trans hk8 (fun _ _ e => e)
                        have hb8 : Below wg.heap.size wg w8 := kp_below HB6.out hk68 fun _ e => e
                        have hbe8 := HBG.out.trans (hb8.mono HBG.out.size)
                        have hI8 := HIE.out.below hbe8
                        obtain ⟨A8, c8, rfl, _⟩ := own_slice hown8
                        have hmo : w8.ownsRow we.heap.size 42 5 (.slice A8 (ml + 1) c8) ((st.2.1 ++ [(x, m)]).map mvOf).length (flt mvC ((st.2.1 ++ [(x, m)]).map mvOf)) := by
                          rw [List.map_append, List.length_append, flt_append, ← HML.out]
                          exact ownMono hown8 hge
                        have hlo : w8.ownsRow wd.heap.size 40 3 (.slice EA el ec) (st.2.2.erase x).length (flt msC (st.2.2.erase x)) := by
                          rw [← HEL.out]
                          exact (Kp.ofBelow (M := fun _ => False) hbe8).own HNEW.out fun _ _ e => e
                        have hle8 := HNEW.out.lt
                        have hmt := hmo.lt
                        have hd8 : w8.cell? ⟨D, 2, none⟩ = some (.slice MA ml mc) := (Lib.cell_of_heap hI8.blk 2).trans (by rw [HML.out]; rfl)
                        have hf8 : w8.frozen? ⟨D, 2, none⟩ = false := Lib.frozen_of_heap hI8.blk 2
                        have hbd8 : Below wd.heap.size wd w8 := HDE2.out.trans (hbe8.mono hse)
                        have hmv := RoInv.moves (x := x) (m := m) (HID.out) hDu hBu hbd8 hlo (ownMono hmo hse) fun g hg e => by
                          have h1 := (hle8 g hg).2
                          have h2 := (hmt g e).1
                          omega
                        rw [← HMS2.out] at hmv
                        have HMV := Lib.hid hmv
                        clear hown3 hown7 hown8 hg7 hg8 hlt3 hlt7 hk7 hk8 hk68 hb8 hrow5 hblk HB6 hbe8 hI8 hmo hlo hle8 hmt hbd8 hmv
                        go_wp2
                        refine NoPanic.normal ?_
                        clear hd8 hf8
                        go_wp2_with fail
                        rw [HAD.out]
                        first | go_roundw | refine ⟨?rel, ?measure⟩
                        case rel => exact ⟨k + 1, _, _, by omega, by go_num, HMV.out⟩
                        case measure => simp [intOf]; omega
            · obtain rfl : t = q := by omega
              have hfn : st.2.2.find? (alk m) = none := find_none fun y hy => hno y (by rw [List.take_of_length_le (by rw [← HQ.out]; omega)]; exact hy)
              have hms := HMS.out
              rw [mstep_none hfn] at hms
              obtain ⟨we, hwe⟩ : ∃ we, we = wr := ⟨_, rfl⟩
              rw [← hwe] at hB ⊢
              have hIe := HIA.out.below hB
              have hxe := (hB.block _ (lt_of_heap HXA.out)).trans HXA.out
              obtain ⟨q0, q1, q2⟩ := ms_blk hxe rfl
              have hlq := block_lt_of_cell q0
              obtain ⟨cl, hcl'⟩ : ∃ cl, cl = st.1.length := ⟨_, rfl⟩
              have d1 : we.cell? ⟨D, 1, none⟩ = some (.slice CA cl cc) := (Lib.cell_of_heap hIe.blk 1).trans (by rw [hcl']; rfl)
              have hoc := hIe.come.alloc (.cells #[.int .i64 m.1, .int .i64 m.2.1, sv m.2.2] 40)
              rw [← hcl'] at hoc hcl
              have HOC := Lib.hid hoc
              have HNEW := Lib.hid (World.news_of_block (cs := #[.int .i64 m.1, .int .i64 m.2.1, sv m.2.2]) (alloc1 we (.cells #[.int .i64 m.1, .int .i64 m.2.1, sv m.2.2] 40)))
              have HIE := Lib.hid hIe
              have HMS2 := Lib.hid hms
              have HCL := Lib.hid hcl'
              have hue := hIe.kp.size
              have hDe := lt_of_heap hIe.blk
              clear hno hltt hfn hms hwe hB hIe hxe hcl' hoc
              go_wp2_with (at_builtin; refine wpList_append_lies _ rfl _ _ 22 rfl u.heap.size 40 i0 _ 3 32 Try.underlying22 hi hz0 hz1 hz2 rfl (by omega) (.slice CA cl cc) cl (flt msC st.1) rfl HOC.out ⟨we.heap.size, 0, none⟩ 1 1 [.int .i64 m.1, .int .i64 m.2.1, sv m.2.2] rfl rfl HNEW.out ?d2 (by omega) ?d3 ?d4 ?d5 _ rfl ?_)
              case d2 => exact ⟨rfl, rfl, rfl⟩
              case d3 => unfold maxLen; omega
              case d4 => omega
              case d5 => omega
              intro vg vcap w5 hown5 hgr hat _
              have hk5 : Kp (fun y => (Value.slice CA cl cc).ownBlock = some y) we w5 := ((Kp.refl _ _).alloc (.cells #[.int .i64 m.1, .int .i64 m.2.1, sv m.2.2] 40)).grown hgr fun q hq _ => hq
              have hblk5 := hk5.heap HIE.out.blk fun e => by have := (HOC.out.lt _ e).1; omega
              have hd5 : w5.cell? ⟨D, 1, none⟩ = some (.slice CA cl cc) := (Lib.cell_of_heap hblk5 1).trans (by rw [HCL.out]; rfl)
              have hf5 : w5.frozen? ⟨D, 1, none⟩ = false := Lib.frozen_of_heap hblk5 1
              have hco := RoInv.comes (m := m) (vg := vg) (vcap := vcap) HIE.out hDu hBu (by rw [← HCL.out]; exact hk5) (by rw [← HCL.out, flt_append, flt_one]; exact hown5) (by rw [← HCL.out]; exact hat.imp id fun e => by (try simp at e); omega)
              rw [← HMS2.out, ← HCL.out, ← HQ.out] at hco
              have HCO := Lib.hid hco
              clear hown5 hgr hat hk5 hblk5 hco d1 q0 q1 q2
              go_wp2_with fail
              try rw [HAD.out]
              first | go_roundw | refine ⟨?rel, ?measure⟩
              case rel => exact ⟨k + 1, _, _, by omega, by go_num, HCO.out⟩
              case measure => simp [intOf]; omega
        · obtain rfl : k = r := by omega
          rw [List.take_of_length_le (by rw [← HLR.out.2]; exact Nat.le_refl _), HFL.out.1, HFL.out.2] at hI
          obtain ⟨LA, lc, rfl, _⟩ := own_slice hI.left
          obtain ⟨CA, cc, rfl, _⟩ := own_slice hI.come
          obtain ⟨MA, mc, rfl, _⟩ := own_slice hI.move
          have hst : mate (goneM now old) (goneM old now) = mateM old now := rfl
          rw [hst] at hI ⊢
          obtain ⟨st, hst⟩ : ∃ st, st = mateM old now := ⟨_, rfl⟩
          rw [← hst] at hI ⊢
          obtain ⟨gl, hgl⟩ : ∃ gl, gl = st.2.2.length := ⟨_, rfl⟩
          obtain ⟨cl, hcl⟩ : ∃ cl, cl = st.1.length := ⟨_, rfl⟩
          obtain ⟨ml, hml⟩ : ∃ ml, ml = (st.2.1.map mvOf).length := ⟨_, rfl⟩
          rw [← hgl, ← hcl, ← hml] at hI
          rw [← hgl]
          have hne1 := hI.lne
          have hne2 := hI.cne
          have hol := hI.left
          have hoc := hI.come
          have hom := hI.move
          have hDw := lt_of_heap hI.blk
          have hus := hI.kp.size
          have hbw2 := HB2.out
          have h20 := hbw2.trans (HBU.out.mono hbw2.size)
          have hw0u : Below w.heap.size w u := HB0.out.trans (h20.mono HB0.out.size)
          have hwu := hw0u.size
          have hRu := (h20.block _ (lt_of_heap HX0.out)).trans HX0.out
          have hwD : w.heap.size < D := by
            have h1 := lt_of_heap HX0.out
            have h2 := HDE.out
            have h3 := hBw
            have h4 := hbw2.size
            omega
          have hRr := hI.kp.heap hRu (by omega)
          obtain ⟨w5, hw5⟩ : ∃ w5, w5 = wq.setCell ⟨D, 0, none⟩ (.slice LA gl lc) := ⟨_, rfl⟩
          have hk5 : Kp (fun y => y = D) wq w5 := by rw [hw5]; exact Kp.setCell (M := fun y => y = D) (Kp.refl _ _) (fun _ => rfl) _
          have hx5 : w5.heap[D]? = some (.cells #[.slice LA gl lc, .slice CA cl cc, .slice MA ml mc] 25 (0, 0)) := by rw [hw5]; exact setCell_heap (w := wq) hI.blk
          have hR5 := hk5.heap hRr (by omega)
          obtain ⟨w6, hw6⟩ : ∃ w6, w6 = ((w5.setCell ⟨w.heap.size, 0, none⟩ (.slice LA gl lc)).setCell ⟨w.heap.size, 1, none⟩ (.slice CA cl cc)).setCell ⟨w.heap.size, 2, none⟩ (.slice MA ml mc) := ⟨_, rfl⟩
          have hk6 : Kp (fun y => y = w.heap.size) w5 w6 := by
            rw [hw6]
            exact Kp.setCell (M := fun y => y = w.heap.size) (Kp.setCell (M := fun y => y = w.heap.size) (Kp.setCell (M := fun y => y = w.heap.size) (Kp.refl _ _) (fun _ => rfl) _) (fun _ => rfl) _) (fun _ => rfl) _
          have hR6 : w6.heap[w.heap.size]? = some (.cells #[.slice LA gl lc, .slice CA cl cc, .slice MA ml mc] 25 (0, 0)) := by
            rw [hw6]
            exact setCell_heap (setCell_heap (setCell_heap hR5))
          have hbw6 : Below w.heap.size w w6 := kp_below (kp_below (kp_below hw0u hI.kp fun y e => by omega) hk5 fun y e => by omega) hk6 fun y e => by omega
          have hl6 := hk6.own (hk5.own hol fun g hg => (hne1 g hg).1) fun g hg e => by have := (hol.lt g hg).1; omega
          have hc6 := hk6.own (hk5.own hoc fun g hg e => by have := (hoc.lt g hg).1; omega) fun g hg e => by have := (hoc.lt g hg).1; omega
          have hm6 := hk6.own (hk5.own hom fun g hg e => by have := (hom.lt g hg).1; omega) fun g hg e => by have := (hom.lt g hg).1; omega
          have HRES : Hid (RofRes (ofM old now) w (.returned (.agg #[.slice LA gl lc, .slice CA cl cc, .slice MA ml mc])) w6) := Lib.hid ⟨_, _, _, rfl, by
            have e1 : (ofM old now).gone = st.2.2 := by rw [hst]; rfl
            rw [e1]
            exact ownMono hl6 (by omega), by
            have e1 : (ofM old now).come = st.1 := by rw [hst]; rfl
            rw [e1]
            exact ownMono hc6 (by omega), by
            have e1 : (ofM old now).moved = st.2.1.map mvOf := by rw [hst]; rfl
            rw [e1]
            exact ownMono hm6 (by omega), fun g hg => (hne1 g hg).2, hne2, hbw6⟩
          have d0 : wq.cell? ⟨D, 0, none⟩ = some (.slice none 0 0) := (Lib.cell_of_heap hI.blk 0).trans rfl
          have e0 : wq.frozen? ⟨D, 0, none⟩ = false := Lib.frozen_of_heap hI.blk 0
          have d1 : wq.cell? ⟨D, 1, none⟩ = some (.slice CA cl cc) := (Lib.cell_of_heap hI.blk 1).trans rfl
          have d2 : wq.cell? ⟨D, 2, none⟩ = some (.slice MA ml mc) := (Lib.cell_of_heap hI.blk 2).trans rfl
          have r0 : wq.cell? ⟨w.heap.size, 0, none⟩ = some (.slice none 0 0) := (Lib.cell_of_heap hRr 0).trans rfl
          have r1 : wq.cell? ⟨w.heap.size, 1, none⟩ = some (.slice none 0 0) := (Lib.cell_of_heap hRr 1).trans rfl
          have r2 : wq.cell? ⟨w.heap.size, 2, none⟩ = some (.slice none 0 0) := (Lib.cell_of_heap hRr 2).trans rfl
          have g0 : wq.frozen? ⟨w.heap.size, 0, none⟩ = false := Lib.frozen_of_heap hRr 0
          have g1 : wq.frozen? ⟨w.heap.size, 1, none⟩ = false := Lib.frozen_of_heap hRr 1
          have g2 : wq.frozen? ⟨w.heap.size, 2, none⟩ = false := Lib.frozen_of_heap hRr 2
          have q0 : w6.cell? ⟨w.heap.size, 0, none⟩ = some (.slice LA gl lc) := (Lib.cell_of_heap hR6 0).trans rfl
          have q1 : w6.cell? ⟨w.heap.size, 1, none⟩ = some (.slice CA cl cc) := (Lib.cell_of_heap hR6 1).trans rfl
          have q2 : w6.cell? ⟨w.heap.size, 2, none⟩ = some (.slice MA ml mc) := (Lib.cell_of_heap hR6 2).trans rfl
          have HQ3 := Lib.hid (And.intro q0 (And.intro q1 q2))
          have HW5 := Lib.hid hw5
          have HW6 := Lib.hid hw6
          have HX5 := Lib.hid hx5
          have HR5 := Lib.hid hR5
          have HR6 := Lib.hid hR6
          clear hst hgl hcl hml hI hne1 hne2 hol hoc hom hbw2 h20 hw0u hRu hRr hw5 hk5 hx5 hR5 hw6 hk6 hR6 hbw6 hl6 hc6 hm6 hlt
          clear q0 q1 q2
          go_wp2
          try rw [← HW5.out]
          try rw [← HW6.out]
          obtain ⟨q0, q1, q2⟩ := HQ3.out
          refine bodyPost_ret (v := .agg #[.slice LA gl lc, .slice CA cl cc, .slice MA ml mc]) ?_ rfl HRES.out
          clear HRES HW6
          simp [results, Try.results16, go_sem, q0, q1, q2]
end Go.Proofs.Ytlgdminpkkhejaa
