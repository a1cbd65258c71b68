/-
  The walk of traits.Check.
  Conditions: the arguments read as a tree, a type and known signatures.
-/
import Derived.Test.YtiijlecidepneaaCkE
namespace Go.Proofs.Ytiijlecidepneaa
open Go.RowKit Go.MapKept

/-- The state of Check: the boxes of the tree and of the type, the map, the diagnostics so far. -/
structure CkSt (w w3 : World) (tree typ : Obj) (G : List UInt8 → Option SV) (D : List Dg) (ov : Value) (wr : World) : Prop where
  bx : wr.heap[w.heap.size]? = some tree
  by_ : wr.heap[w.heap.size + 1]? = some typ
  mp : MapG sv SV.val wr (w.heap.size + 1 + 1) G
  own : wr.ownsRow w3.heap.size 61 3 ov D.length (flt dgC D)
  below : Below w.heap.size w wr
theorem CkSt.up {w w3 : World} {tree typ : Obj} {G : List UInt8 → Option SV} {D : List Dg} {ov : Value} {wr w' : World} (h : CkSt w w3 tree typ G D ov wr) (hb : Below wr.heap.size wr w') : CkSt w w3 tree typ G D ov w' :=
  ⟨(hb.block _ (lt_of_heap h.bx)).trans h.bx, (hb.block _ (lt_of_heap h.by_)).trans h.by_, h.mp.same (hb.block _ h.mp.lt), (Kp.ofBelow (M := fun _ => False) hb).own h.own fun _ _ e => e, h.below.trans (hb.mono h.below.size)⟩
/-- After an append. -/
theorem CkSt.app {w w3 : World} {tree typ : Obj} {G : List UInt8 → Option SV} {D D' : List Dg} {ov ov' : Value} {wr w' : World} (h : CkSt w w3 tree typ G D ov wr) (h3 : w3.heap.size = w.heap.size + 1 + 1 + 1) (hg : wr.grownBy w' ov.ownBlock) (hown : w'.ownsRow w3.heap.size 61 3 ov' D'.length (flt dgC D')) : CkSt w w3 tree typ G D' ov' w' := by
  have hk : Kp (fun y => ov.ownBlock = some y) wr w' := (Kp.refl _ _).grown hg fun r hr _ => hr
  have hlt := h.own.lt
  exact ⟨(hk.block _ (lt_of_heap h.bx) fun e => by have := (hlt _ e).1; omega).trans h.bx, (hk.block _ (lt_of_heap h.by_) fun e => by have := (hlt _ e).1; omega).trans h.by_, h.mp.kp hk fun e => by have := (hlt _ e).1; omega, hown, kp_below h.below hk fun y e => by have := (hlt _ e).1; omega⟩
/-- After a store into the map. -/
theorem CkSt.put {w w3 : World} {tree typ : Obj} {G G' : List UInt8 → Option SV} {D : List Dg} {ov : Value} {wr w' : World} (h : CkSt w w3 tree typ G D ov wr) (h3 : w3.heap.size = w.heap.size + 1 + 1 + 1) (hk : Kp (fun y => y = w.heap.size + 1 + 1) wr w') (hm : MapG sv SV.val w' (w.heap.size + 1 + 1) G') : CkSt w w3 tree typ G' D ov w' := by
  have hlt := h.own.lt
  exact ⟨(hk.block _ (lt_of_heap h.bx) fun e => by omega).trans h.bx, (hk.block _ (lt_of_heap h.by_) fun e => by omega).trans h.by_, hm, hk.own h.own fun g e e2 => by have := (hlt _ e).1; omega, kp_below h.below hk fun y e => by omega⟩

set_option maxHeartbeats 1600000 in
set_option maxRecDepth 100000 in
theorem check_any (tk ta : Int) (tx : List UInt8) (ps : List (Tr × Value)) (A L : Option Addr) (c lc : Nat) (l : List Kn) (qs : List KnV) (s : Ty) (su : List UInt8) (ss : Option Addr × Nat × Nat) (w : World) (hz : ps.length ≤ 4000000) (hl : l.length ≤ 4000000)
    (hT : Trs w (Lt w.heap.size) A ps) (hK : Kns w (Lt w.heap.size) L l qs) (hs : TyIs w (Lt w.heap.size) s (sv su) (.slice ss.1 ss.2.1 ss.2.2)) :
    Calls Try.prog 10 #[.agg #[.int .i64 tk, sv tx, .int .i64 ta, .slice A ps.length c], .agg #[sv su, .slice ss.1 ss.2.1 ss.2.2], .slice L l.length lc] w (DgRes (chk tk ta ps l s) w) := by
  obtain ⟨m, hm⟩ : ∃ m, m = ps.length := ⟨_, rfl⟩
  obtain ⟨n, hn⟩ : ∃ n, n = l.length := ⟨_, rfl⟩
  rw [← hm, ← hn]
  have hmz : m ≤ 4000000 := by omega
  have hnz : n ≤ 4000000 := by omega
  have HM := Lib.hid hm
  have HN := Lib.hid hn
  have HQL := Lib.hid hK.len
  clear hm hn hl
  have hmm := @run_makeMap Try.prog
  by_cases hk7 : tk = 7
  · subst hk7
    have hchk : chk 7 ta ps l s = lacks (ps.map (·.1)) ta l ++ wrong l s ps := by unfold chk; rw [if_pos rfl]
    have HCHK := Lib.hid hchk
    clear hchk
    obtain ⟨w3, hw3⟩ : ∃ w3, w3 = ((w.alloc (.cells #[.int .i64 7, sv tx, .int .i64 ta, .slice A m c] 25)).alloc (.cells #[sv su, .slice ss.1 ss.2.1 ss.2.2] 35)).alloc (.map #[] 0) := ⟨_, rfl⟩
    obtain ⟨hx3, hy3, hq3, hb3⟩ := three_blocks w (.cells #[.int .i64 7, sv tx, .int .i64 ta, .slice A m c] 25) (.cells #[sv su, .slice ss.1 ss.2.1 ss.2.2] 35) (.map #[] 0)
    rw [← hw3] at hx3 hy3 hq3 hb3
    have hs3 : w3.heap.size = w.heap.size + 1 + 1 + 1 := by rw [hw3]; simp
    have hg3 : MapG sv SV.val w3 (w.heap.size + 1 + 1) (fun _ => none) := by
      have := MapG.new (kE := sv) (vE := SV.val) ((w.alloc (.cells #[.int .i64 7, sv tx, .int .i64 ta, .slice A m c] 25)).alloc (.cells #[sv su, .slice ss.1 ss.2.1 ss.2.2] 35))
      rw [← hw3] at this
      have e : ((w.alloc (.cells #[.int .i64 7, sv tx, .int .i64 ta, .slice A m c] 25)).alloc (.cells #[sv su, .slice ss.1 ss.2.1 ss.2.2] 35)).heap.size = w.heap.size + 1 + 1 := by simp
      rwa [e] at this
    have HW3 := Lib.hid hw3
    have HS3 := Lib.hid hs3
    have HST3 : Hid (CkSt w w3 (.cells #[.int .i64 7, sv tx, .int .i64 ta, .slice A m c] 25 (0, 0)) (.cells #[sv su, .slice ss.1 ss.2.1 ss.2.2] 35 (0, 0)) (fun _ => none) [] (.slice none 0 0) w3) := Lib.hid ⟨hx3, hy3, hg3, World.ownsRow_nil _ _ _ _, hb3⟩
    obtain ⟨i0, hi, hz0, hz1, hz2⟩ := info_parts infoDg
    clear hw3 hx3 hy3 hq3 hb3 hs3 hg3
    go_enter Try.func10, Try.ntmps10
    go_wp2_with fail
    clear hmm
    rw [← HW3.out]
    clear HW3
    go_loopw [23, 7] (fun i ov wr => ∃ k : Nat, k ≤ n ∧ i = .int .i64 k ∧ CkSt w w3 (.cells #[.int .i64 7, sv tx, .int .i64 ta, .slice A m c] 25 (0, 0)) (.cells #[sv su, .slice ss.1 ss.2.1 ss.2.2] 35 (0, 0)) (firstOf (qs.take k)) (lacks (ps.map (·.1)) ta (l.take k)) ov wr) (fun i _ _ => n - (intOf i).toNat)
    case atStart => exact ⟨0, Nat.zero_le _, rfl, ⟨HST3.out.bx, HST3.out.by_, HST3.out.mp.ext fun d => by simp [firstOf], HST3.out.own, HST3.out.below⟩⟩
    case round =>
      obtain ⟨k, hk, rfl, hS⟩ := hrel
      obtain ⟨NA, nc, rfl, _⟩ := own_slice hS.own
      have hnk := lacks_len (ps.map (·.1)) ta l k
      obtain ⟨n1, hn1⟩ : ∃ n, n = (lacks (ps.map (·.1)) ta (l.take k)).length := ⟨_, rfl⟩
      rw [← hn1] at hS hnk ⊢
      have hbw := hS.below.size
      have HS := Lib.hid hS
      have HN1 := Lib.hid hn1
      clear hS hn1
      by_cases hlt : k < n
      · obtain ⟨p, hp⟩ : ∃ p, l[k]? = some p := ⟨_, List.getElem?_eq_getElem (by rw [← HN.out]; exact hlt)⟩
        obtain ⟨q, hq⟩ : ∃ q, qs[k]? = some q := ⟨_, List.getElem?_eq_getElem (by rw [HQL.out, ← HN.out]; exact hlt)⟩
        have hKr := hK.now HS.out.below
        obtain ⟨ad, hA, hadl, a0, a1, a2, a3, a4, a5, a6, a7⟩ := kn_at hKr.row hq
        obtain ⟨pd, pg⟩ := p
        obtain ⟨kx, qk, qP, qN, qA, qu, qw, qt⟩ := q
        have hpq := (hKr.each k _ _ hp hq).1
        simp only at hpq a0 a1 a2 a3 a4 a5 a6 a7
        subst hpq
        have HLQ := Lib.hid hp
        have HQQ := Lib.hid hq
        have hik : (0 : Int) ≤ (k : Int) ∧ (k : Int) < (n : Int) := ⟨by omega, by omega⟩
        have hba : Below wr.heap.size wr (wr.alloc (.cells #[sv pd, .int .i64 qk, .slice qP.1 qP.2.1 qP.2.2, .slice qN.1 qN.2.1 qN.2.2, .slice qA.1 qA.2.1 qA.2.2, sv qu, .slice qw.1 qw.2.1 qw.2.2, sv qt] 41)) := (Below.refl _ _).alloc (Nat.le_refl _) _
        have HSA := Lib.hid (HS.out.up hba)
        have HBA := Lib.hid hba
        have HKA := Lib.hid (alloc1 wr (.cells #[sv pd, .int .i64 qk, .slice qP.1 qP.2.1 qP.2.2, .slice qN.1 qN.2.1 qN.2.2, .slice qA.1 qA.2.1 qA.2.2, sv qu, .slice qw.1 qw.2.1 qw.2.2, sv qt] 41))
        rw [hA]
        have HAD := Lib.hid hA
        clear hA hKr hp hq hba
        cases hfst : firstOf (qs.take k) pd with
        | some j =>
          obtain ⟨jk, jP, jN, jA, ju, jw, jt⟩ := j
          have hlk := HSA.out.mp.yes2 (P := Try.prog) (K := KSt) (k := pd) (v := ⟨jk, jP, jN, jA, ju, jw, jt⟩) Try.underlying62 keyStr (fun k => ⟨k, rfl⟩) hfst
          dsimp only [SV.val] at hlk
          obtain ⟨wx, hwx⟩ : ∃ wx, wx = (wr.alloc (.cells #[sv pd, .int .i64 qk, .slice qP.1 qP.2.1 qP.2.2, .slice qN.1 qN.2.1 qN.2.2, .slice qA.1 qA.2.1 qA.2.2, sv qu, .slice qw.1 qw.2.1 qw.2.2, sv qt] 41)).alloc (.cells #[.int .i64 jk, .slice jP.1 jP.2.1 jP.2.2, .slice jN.1 jN.2.1 jN.2.2, .slice jA.1 jA.2.1 jA.2.2, sv ju, .slice jw.1 jw.2.1 jw.2.2, sv jt] 39) := ⟨_, rfl⟩
          have hbx : Below (wr.alloc (.cells #[sv pd, .int .i64 qk, .slice qP.1 qP.2.1 qP.2.2, .slice qN.1 qN.2.1 qN.2.2, .slice qA.1 qA.2.1 qA.2.2, sv qu, .slice qw.1 qw.2.1 qw.2.2, sv qt] 41)).heap.size (wr.alloc (.cells #[sv pd, .int .i64 qk, .slice qP.1 qP.2.1 qP.2.2, .slice qN.1 qN.2.1 qN.2.2, .slice qA.1 qA.2.1 qA.2.2, sv qu, .slice qw.1 qw.2.1 qw.2.2, sv qt] 41)) wx := by rw [hwx]; exact (Below.refl _ _).alloc (Nat.le_refl _) _
          have HSX0 := HSA.out.up hbx
          have HSX : Hid (CkSt w w3 (.cells #[.int .i64 7, sv tx, .int .i64 ta, .slice A m c] 25 (0, 0)) (.cells #[sv su, .slice ss.1 ss.2.1 ss.2.2] 35 (0, 0)) (firstOf (qs.take (k + 1))) (lacks (ps.map (·.1)) ta (l.take k)) (.slice NA n1 nc) wx) := Lib.hid ⟨HSX0.bx, HSX0.by_, HSX0.mp.ext fun d => (firstOf_kept HQQ.out hfst d).symm, HSX0.own, HSX0.below⟩
          have HKB := Lib.hid ((hbx.block _ (lt_of_heap HKA.out)).trans HKA.out)
          have HWX := Lib.hid hwx
          have b3 : wx.cell? ⟨w.heap.size, 3, none⟩ = some (.slice A m c) := (Lib.cell_of_heap HSX.out.bx 3).trans rfl
          rw [HWX.out] at b3
          clear hwx hbx HSX0 hfst
          go_wp2_with fail
          rw [← HWX.out]
          clear HWX hlk a0 a1 a2 a3 a4 a5 a6 a7 b3
          have HCT := Lib.hid (fnContains_any wr.heap.size pd ps A m c HM.out wx (by omega) ((Lib.cell_of_heap HKB.out 0).trans rfl) (hT.below HSX.out.below))
          refine HCT.out.mono ?_
          rintro e wy ⟨r, rfl, hr, hby⟩
          have HSY := Lib.hid (HSX.out.up hby)
          have HKY := Lib.hid ((hby.block _ (lt_of_heap HKB.out)).trans HKB.out)
          have hsy := hby.size
          have HR := Lib.hid hr
          clear hr hby HCT
          cases r with
          | true =>
            have hno := lacks_no (ks := ps.map (·.1)) (a := ta) HLQ.out (HR.out.1 rfl)
            have HNO := Lib.hid hno
            clear hno
            go_wp2_with fail
            try rw [← HAD.out]
            first | go_roundw | refine ⟨?rel, ?measure⟩
            case rel => exact ⟨k + 1, by omega, by go_num, by rw [HNO.out]; exact HSY.out⟩
            case measure => simp [intOf]; omega
          | false =>
            have hyes := lacks_yes (ks := ps.map (·.1)) (a := ta) HLQ.out (fun e => by have := HR.out.2 e; cases this)
            have HYES := Lib.hid hyes
            have b2 : wy.cell? ⟨w.heap.size, 2, none⟩ = some (.int .i64 ta) := (Lib.cell_of_heap HSY.out.bx 2).trans rfl
            have k0 : wy.cell? ⟨wr.heap.size, 0, none⟩ = some (sv pd) := (Lib.cell_of_heap HKY.out 0).trans rfl
            have hbd : Below wy.heap.size wy (wy.alloc (.cells #[.int .i64 13, .int .i64 ta, sv pd] 61)) := (Below.refl _ _).alloc (Nat.le_refl _) _
            have HSZ := Lib.hid (HSY.out.up hbd)
            have hown := HSZ.out.own
            rw [← HN1.out] at hown
            have HOWN := Lib.hid hown
            have HNEW := Lib.hid (World.news_of_block (cs := #[.int .i64 13, .int .i64 ta, sv pd]) (alloc1 wy (.cells #[.int .i64 13, .int .i64 ta, sv pd] 61)))
            clear hyes hbd hown
            go_wp2_with (at_builtin; go_loud (refine wpList_append_lies _ rfl _ _ 43 rfl w3.heap.size 61 i0 _ 3 32 Try.underlying43 hi hz0 hz1 hz2 rfl (by omega) (.slice NA n1 nc) n1 (flt dgC (lacks (ps.map (·.1)) ta (l.take k))) rfl HOWN.out ⟨wy.heap.size, 0, none⟩ 1 1 [.int .i64 13, .int .i64 ta, sv pd] rfl rfl HNEW.out ?d2a (by omega) ?d3a ?d4a ?d5a _ rfl ?_))
            case d2a => first | exact ⟨rfl, rfl⟩ | exact rfl | exact fun u hu => by simp only [List.mem_cons, List.not_mem_nil, or_false] at hu; rcases hu with rfl | rfl | rfl <;> rfl
            case d3a => unfold maxLen; omega
            case d4a => omega
            case d5a =>
              have h3s := HS3.out
              have hml := HSY.out.mp.lt
              simp
              omega
            rintro g cap w7 hown7 hg7 hgd hglt
            have HS7 : Hid (CkSt w w3 (.cells #[.int .i64 7, sv tx, .int .i64 ta, .slice A m c] 25 (0, 0)) (.cells #[sv su, .slice ss.1 ss.2.1 ss.2.2] 35 (0, 0)) (firstOf (qs.take (k + 1))) (lacks (ps.map (·.1)) ta (l.take (k + 1))) (.slice (some ⟨g, 0, none⟩) (n1 + 1) cap) w7) := Lib.hid (HSZ.out.app HS3.out hg7 (by rw [HYES.out, List.length_append, ← HN1.out, flt_append, flt_one]; exact hown7))
            clear hown7 hg7
            go_wp2_with fail
            try rw [← HAD.out]
            first | go_roundw | refine ⟨?rel, ?measure⟩
            case rel => exact ⟨k + 1, by omega, by go_num, HS7.out⟩
            case measure => simp [intOf]; omega
        | none =>
          have hlk := HSA.out.mp.no2 (P := Try.prog) (K := KSt) (k := pd) (z := .agg #[.int .i64 0, .slice none 0 0, .slice none 0 0, .slice none 0 0, .string ⟨#[]⟩, .slice none 0 0, .string ⟨#[]⟩]) (fun _ _ => sv_inj) Try.underlying62 keyStr (fun k => ⟨k, rfl⟩) (by kernel_rfl) hfst
          obtain ⟨wb, hwb⟩ : ∃ wb, wb = (wr.alloc (.cells #[sv pd, .int .i64 qk, .slice qP.1 qP.2.1 qP.2.2, .slice qN.1 qN.2.1 qN.2.2, .slice qA.1 qA.2.1 qA.2.2, sv qu, .slice qw.1 qw.2.1 qw.2.2, sv qt] 41)).alloc (.cells #[.int .i64 0, .slice none 0 0, .slice none 0 0, .slice none 0 0, .string ⟨#[]⟩, .slice none 0 0, .string ⟨#[]⟩] 39) := ⟨_, rfl⟩
          have hbb : Below (wr.alloc (.cells #[sv pd, .int .i64 qk, .slice qP.1 qP.2.1 qP.2.2, .slice qN.1 qN.2.1 qN.2.2, .slice qA.1 qA.2.1 qA.2.2, sv qu, .slice qw.1 qw.2.1 qw.2.2, sv qt] 41)).heap.size (wr.alloc (.cells #[sv pd, .int .i64 qk, .slice qP.1 qP.2.1 qP.2.2, .slice qN.1 qN.2.1 qN.2.2, .slice qA.1 qA.2.1 qA.2.2, sv qu, .slice qw.1 qw.2.1 qw.2.2, sv qt] 41)) wb := by rw [hwb]; exact (Below.refl _ _).alloc (Nat.le_refl _) _
          have hsb := HSA.out.up hbb
          have hkb := (hbb.block _ (lt_of_heap HKA.out)).trans HKA.out
          obtain ⟨wx, hput, hgx, hkx⟩ := hsb.mp.put (P := Try.prog) (K := KSt) (fun _ _ => sv_inj) Try.underlying62 keyStr (fun k => ⟨k, rfl⟩) pd ⟨qk, qP, qN, qA, qu, qw, qt⟩
          dsimp only [SV.val] at hput
          have HSX : Hid (CkSt w w3 (.cells #[.int .i64 7, sv tx, .int .i64 ta, .slice A m c] 25 (0, 0)) (.cells #[sv su, .slice ss.1 ss.2.1 ss.2.2] 35 (0, 0)) (firstOf (qs.take (k + 1))) (lacks (ps.map (·.1)) ta (l.take k)) (.slice NA n1 nc) wx) := Lib.hid (hsb.put HS3.out hkx (hgx.ext fun d => (firstOf_snoc HQQ.out hfst d).symm))
          have HKB : Hid (wx.heap[wr.heap.size]? = some (.cells #[sv pd, .int .i64 qk, .slice qP.1 qP.2.1 qP.2.2, .slice qN.1 qN.2.1 qN.2.2, .slice qA.1 qA.2.1 qA.2.2, sv qu, .slice qw.1 qw.2.1 qw.2.2, sv qt] 41 (0, 0))) := Lib.hid ((hkx.block _ (lt_of_heap hkb) fun e => by have := HS.out.mp.lt; omega).trans hkb)
          have hsx := hkx.size
          have b3 : wx.cell? ⟨w.heap.size, 3, none⟩ = some (.slice A m c) := (Lib.cell_of_heap HSX.out.bx 3).trans rfl
          rw [hwb] at hput
          clear hwb hbb hsb hkb hgx hkx hfst
          go_wp2_with fail
          clear hput hlk a0 a1 a2 a3 a4 a5 a6 a7 b3
          have HCT := Lib.hid (fnContains_any wr.heap.size pd ps A m c HM.out wx (by omega) ((Lib.cell_of_heap HKB.out 0).trans rfl) (hT.below HSX.out.below))
          refine HCT.out.mono ?_
          rintro e wy ⟨r, rfl, hr, hby⟩
          have HSY := Lib.hid (HSX.out.up hby)
          have HKY := Lib.hid ((hby.block _ (lt_of_heap HKB.out)).trans HKB.out)
          have hsy := hby.size
          have HR := Lib.hid hr
          clear hr hby HCT
          cases r with
          | true =>
            have hno := lacks_no (ks := ps.map (·.1)) (a := ta) HLQ.out (HR.out.1 rfl)
            have HNO := Lib.hid hno
            clear hno
            go_wp2_with fail
            try rw [← HAD.out]
            first | go_roundw | refine ⟨?rel, ?measure⟩
            case rel => exact ⟨k + 1, by omega, by go_num, by rw [HNO.out]; exact HSY.out⟩
            case measure => simp [intOf]; omega
          | false =>
            have hyes := lacks_yes (ks := ps.map (·.1)) (a := ta) HLQ.out (fun e => by have := HR.out.2 e; cases this)
            have HYES := Lib.hid hyes
            have b2 : wy.cell? ⟨w.heap.size, 2, none⟩ = some (.int .i64 ta) := (Lib.cell_of_heap HSY.out.bx 2).trans rfl
            have k0 : wy.cell? ⟨wr.heap.size, 0, none⟩ = some (sv pd) := (Lib.cell_of_heap HKY.out 0).trans rfl
            have hbd : Below wy.heap.size wy (wy.alloc (.cells #[.int .i64 13, .int .i64 ta, sv pd] 61)) := (Below.refl _ _).alloc (Nat.le_refl _) _
            have HSZ := Lib.hid (HSY.out.up hbd)
            have hown := HSZ.out.own
            rw [← HN1.out] at hown
            have HOWN := Lib.hid hown
            have HNEW := Lib.hid (World.news_of_block (cs := #[.int .i64 13, .int .i64 ta, sv pd]) (alloc1 wy (.cells #[.int .i64 13, .int .i64 ta, sv pd] 61)))
            clear hyes hbd hown
            go_wp2_with (at_builtin; go_loud (refine wpList_append_lies _ rfl _ _ 43 rfl w3.heap.size 61 i0 _ 3 32 Try.underlying43 hi hz0 hz1 hz2 rfl (by omega) (.slice NA n1 nc) n1 (flt dgC (lacks (ps.map (·.1)) ta (l.take k))) rfl HOWN.out ⟨wy.heap.size, 0, none⟩ 1 1 [.int .i64 13, .int .i64 ta, sv pd] rfl rfl HNEW.out ?d2b (by omega) ?d3b ?d4b ?d5b _ rfl ?_))
            case d2b => first | exact ⟨rfl, rfl⟩ | exact rfl | exact fun u hu => by simp only [List.mem_cons, List.not_mem_nil, or_false] at hu; rcases hu with rfl | rfl | rfl <;> rfl
            case d3b => unfold maxLen; omega
            case d4b => omega
            case d5b =>
              have h3s := HS3.out
              have hml := HSY.out.mp.lt
              simp
              omega
            rintro g cap w7 hown7 hg7 hgd hglt
            have HS7 : Hid (CkSt w w3 (.cells #[.int .i64 7, sv tx, .int .i64 ta, .slice A m c] 25 (0, 0)) (.cells #[sv su, .slice ss.1 ss.2.1 ss.2.2] 35 (0, 0)) (firstOf (qs.take (k + 1))) (lacks (ps.map (·.1)) ta (l.take (k + 1))) (.slice (some ⟨g, 0, none⟩) (n1 + 1) cap) w7) := Lib.hid (HSZ.out.app HS3.out hg7 (by rw [HYES.out, List.length_append, ← HN1.out, flt_append, flt_one]; exact hown7))
            clear hown7 hg7
            go_wp2_with fail
            try rw [← HAD.out]
            first | go_roundw | refine ⟨?rel, ?measure⟩
            case rel => exact ⟨k + 1, by omega, by go_num, HS7.out⟩
            case measure => simp [intOf]; omega
      · obtain rfl : k = n := by omega
        have HS2 : Hid (CkSt w w3 (.cells #[.int .i64 7, sv tx, .int .i64 ta, .slice A m c] 25 (0, 0)) (.cells #[sv su, .slice ss.1 ss.2.1 ss.2.2] 35 (0, 0)) (firstOf qs) (lacks (ps.map (·.1)) ta l) (.slice NA n1 nc) wr) := Lib.hid (by
          have h := HS.out
          rwa [List.take_of_length_le (by rw [HQL.out, ← HN.out]; exact Nat.le_refl _), List.take_of_length_le (by rw [← HN.out]; exact Nat.le_refl _)] at h)
        have HNL : Hid (n1 = (lacks (ps.map (·.1)) ta l).length) := Lib.hid (by
          have h := HN1.out
          rwa [List.take_of_length_le (by rw [← HN.out]; exact Nat.le_refl _)] at h)
        have b3 : wr.cell? ⟨w.heap.size, 3, none⟩ = some (.slice A m c) := (Lib.cell_of_heap HS.out.bx 3).trans rfl
        clear HS HN1
        go_wp2_with fail
        clear b3
        obtain ⟨w5, hw5⟩ : ∃ w5, w5 = wr := ⟨_, rfl⟩
        rw [← hw5] at HS2 ⊢
        clear hw5
        go_loopw [58, 7] (fun i ov wr => ∃ j : Nat, j ≤ m ∧ i = .int .i64 j ∧ CkSt w w3 (.cells #[.int .i64 7, sv tx, .int .i64 ta, .slice A m c] 25 (0, 0)) (.cells #[sv su, .slice ss.1 ss.2.1 ss.2.2] 35 (0, 0)) (firstOf qs) (lacks (ps.map (·.1)) ta l ++ wrong l s (ps.take j)) ov wr) (fun i _ _ => m - (intOf i).toNat)
        case atStart => exact ⟨0, Nat.zero_le _, rfl, by simpa [wrong] using HS2.out⟩
        case round =>
          obtain ⟨j, hj, rfl, hS⟩ := hrel
          obtain ⟨NB, nd, rfl, _⟩ := own_slice hS.own
          have hnj := wrong_len l s ps j
          obtain ⟨n2, hn2⟩ : ∃ n, n = (lacks (ps.map (·.1)) ta l ++ wrong l s (ps.take j)).length := ⟨_, rfl⟩
          have hn12 : n2 = n1 + (wrong l s (ps.take j)).length := by rw [hn2, List.length_append, HNL.out]
          rw [← hn2] at hS ⊢
          have HS := Lib.hid hS
          have HN2 := Lib.hid hn2
          have hn2z : n2 ≤ n1 + j := by omega
          clear hS hn2 hn12 hnj
          by_cases hjm : j < m
          · obtain ⟨f, hf⟩ : ∃ f, ps[j]? = some f := ⟨_, List.getElem?_eq_getElem (by rw [← HM.out]; exact hjm)⟩
            have hTr := hT.below HS.out.below
            obtain ⟨ad, hA, hadl, a0, a1, a2, a3⟩ := tr_at hTr.row hf
            have hfi := hTr.each j f hf
            obtain ⟨FA, fc, fq, hfv, _⟩ := hfi.open_
            have HF := Lib.hid hf
            obtain ⟨⟨fk, fx, fa, fks⟩, fv⟩ := f
            simp only [Tr.kind, Tr.text, Tr.at_] at a0 a1 a2 a3 hfv hfi
            subst hfv
            obtain ⟨fl, hfl⟩ : ∃ fl, fl = fq.length := ⟨_, rfl⟩
            rw [← hfl] at a3 hfi
            have hfw : TrIs w (Lt w.heap.size) (.mk fk fx fa fks) (.slice FA fl fc) := by rw [hfl]; exact hT.each j _ HF.out
            have hijm : (0 : Int) ≤ (j : Int) ∧ (j : Int) < (m : Int) := ⟨by omega, by omega⟩
            have hba : Below wr.heap.size wr (wr.alloc (.cells #[.int .i64 fk, sv fx, .int .i64 fa, .slice FA fl fc] 25)) := (Below.refl _ _).alloc (Nat.le_refl _) _
            have HSA := Lib.hid (HS.out.up hba)
            have HKA := Lib.hid (alloc1 wr (.cells #[.int .i64 fk, sv fx, .int .i64 fa, .slice FA fl fc] 25))
            rw [hA]
            have HAD := Lib.hid hA
            have HFW := Lib.hid hfw
            clear hA hTr hf hba hfi hfl hfw
            by_cases hkd : fk = 4
            · subst hkd
              have hKr := hK.now HS.out.below
              rcases first_is (A := L) hKr.names hKr.each fx with ⟨e1, e2⟩ | ⟨⟨jk, jP, jN, jA, ju, jw, jt⟩, g, e1, e2, hgi⟩
              · have hlk := HSA.out.mp.no2 (P := Try.prog) (K := KSt) (k := fx) (z := .agg #[.int .i64 0, .slice none 0 0, .slice none 0 0, .slice none 0 0, .string ⟨#[]⟩, .slice none 0 0, .string ⟨#[]⟩]) (fun _ _ => sv_inj) Try.underlying62 keyStr (fun k => ⟨k, rfl⟩) (by kernel_rfl) e1
                have hyes : wrong l s (ps.take (j + 1)) = wrong l s (ps.take j) ++ [(13, fa, fx)] := wrong_yes HF.out ⟨rfl, fun ⟨g, h, _⟩ => by
                  have h' : firstOf l fx = some g := h
                  rw [e2] at h'
                  cases h'⟩
                have HYES := Lib.hid hyes
                obtain ⟨wb, hwb⟩ : ∃ wb, wb = (wr.alloc (.cells #[.int .i64 4, sv fx, .int .i64 fa, .slice FA fl fc] 25)).alloc (.cells #[.int .i64 0, .slice none 0 0, .slice none 0 0, .slice none 0 0, .string ⟨#[]⟩, .slice none 0 0, .string ⟨#[]⟩] 39) := ⟨_, rfl⟩
                have hbb : Below (wr.alloc (.cells #[.int .i64 4, sv fx, .int .i64 fa, .slice FA fl fc] 25)).heap.size (wr.alloc (.cells #[.int .i64 4, sv fx, .int .i64 fa, .slice FA fl fc] 25)) wb := by rw [hwb]; exact (Below.refl _ _).alloc (Nat.le_refl _) _
                have hsb := HSA.out.up hbb
                have hbd : Below wb.heap.size wb (wb.alloc (.cells #[.int .i64 13, .int .i64 fa, sv fx] 61)) := (Below.refl _ _).alloc (Nat.le_refl _) _
                have HSZ := Lib.hid (hsb.up hbd)
                have hown := HSZ.out.own
                rw [← HN2.out] at hown
                have hnew := World.news_of_block (cs := #[.int .i64 13, .int .i64 fa, sv fx]) (alloc1 wb (.cells #[.int .i64 13, .int .i64 fa, sv fx] 61))
                have hszb : wb.heap.size = wr.heap.size + 1 + 1 := by rw [hwb]; simp
                rw [hszb] at hnew
                rw [hwb] at hown hnew
                have HOWN := Lib.hid hown
                have HNEW := Lib.hid hnew
                have HSZB := Lib.hid hszb
                have HWB := Lib.hid hwb
                clear hbb hsb hbd hown hnew hszb hwb e1 e2 hKr hyes
                go_wp2_with (at_builtin; go_loud (refine wpList_append_lies _ rfl _ _ 43 rfl w3.heap.size 61 i0 _ 3 32 Try.underlying43 hi hz0 hz1 hz2 rfl (by omega) (.slice NB n2 nd) n2 (flt dgC (lacks (ps.map (·.1)) ta l ++ wrong l s (ps.take j))) rfl HOWN.out ⟨wr.heap.size + 1 + 1, 0, none⟩ 1 1 [.int .i64 13, .int .i64 fa, sv fx] rfl rfl HNEW.out ?d2 (by omega) ?d3 ?d4 ?d5 _ rfl ?_))
                case d2 => first | exact ⟨rfl, rfl, rfl⟩ | exact rfl | exact fun u hu => by simp only [List.mem_cons, List.not_mem_nil, or_false] at hu; rcases hu with rfl | rfl | rfl <;> rfl
                case d3 => unfold maxLen; omega
                case d4 => omega
                case d5 =>
                  have h3s := HS3.out
                  have hml := HSA.out.mp.lt
                  simp at hml ⊢
                  omega
                rintro g cap w7 hown7 hg7 hgd hglt
                rw [← HWB.out] at hg7
                have HS7 : Hid (CkSt w w3 (.cells #[.int .i64 7, sv tx, .int .i64 ta, .slice A m c] 25 (0, 0)) (.cells #[sv su, .slice ss.1 ss.2.1 ss.2.2] 35 (0, 0)) (firstOf qs) (lacks (ps.map (·.1)) ta l ++ wrong l s (ps.take (j + 1))) (.slice (some ⟨g, 0, none⟩) (n2 + 1) cap) w7) := Lib.hid (HSZ.out.app HS3.out hg7 (by rw [HYES.out, ← List.append_assoc, List.length_append, ← HN2.out, flt_append, flt_one]; exact hown7))
                clear hown7 hg7
                go_wp2_with fail
                try rw [← HAD.out]
                first | go_roundw | refine ⟨?rel, ?measure⟩
                case rel => exact ⟨j + 1, by omega, by go_num, HS7.out⟩
                case measure => simp [intOf]; omega
              · have hlk := HSA.out.mp.yes2 (P := Try.prog) (K := KSt) (k := fx) (v := ⟨jk, jP, jN, jA, ju, jw, jt⟩) Try.underlying62 keyStr (fun k => ⟨k, rfl⟩) e1
                dsimp only [SV.val] at hlk
                have HE2 := Lib.hid e2
                obtain ⟨wb, hwb⟩ : ∃ wb, wb = (wr.alloc (.cells #[.int .i64 4, sv fx, .int .i64 fa, .slice FA fl fc] 25)).alloc (.cells #[.int .i64 jk, .slice jP.1 jP.2.1 jP.2.2, .slice jN.1 jN.2.1 jN.2.2, .slice jA.1 jA.2.1 jA.2.2, sv ju, .slice jw.1 jw.2.1 jw.2.2, sv jt] 39) := ⟨_, rfl⟩
                have hbb : Below (wr.alloc (.cells #[.int .i64 4, sv fx, .int .i64 fa, .slice FA fl fc] 25)).heap.size (wr.alloc (.cells #[.int .i64 4, sv fx, .int .i64 fa, .slice FA fl fc] 25)) wb := by rw [hwb]; exact (Below.refl _ _).alloc (Nat.le_refl _) _
                have HSX := Lib.hid (HSA.out.up hbb)
                have hkb := (hbb.block _ (lt_of_heap HKA.out)).trans HKA.out
                have c0 : wb.cell? ⟨w.heap.size + 1, 0, none⟩ = some (sv su) := (Lib.cell_of_heap HSX.out.by_ 0).trans rfl
                have c1 : wb.cell? ⟨w.heap.size + 1, 1, none⟩ = some (.slice ss.1 ss.2.1 ss.2.2) := (Lib.cell_of_heap HSX.out.by_ 1).trans rfl
                have hbrb : Below wr.heap.size wr wb := ((Below.refl wr.heap.size wr).alloc (Nat.le_refl _) (.cells #[.int .i64 4, sv fx, .int .i64 fa, .slice FA fl fc] 25)).trans (hbb.mono (by simp))
                have HCL := Lib.hid (agrees_any fx FA fa fl fc fks g ⟨jk, jP, jN, jA, ju, jw, jt⟩ s su ss wb (HFW.out.under HSX.out.below) (hgi.now hbrb) (hs.now (Nat.le_refl _) HSX.out.below))
                dsimp only [SV.val] at HCL
                have HKB := Lib.hid hkb
                have HWB := Lib.hid hwb
                rw [hwb] at c0 c1
                clear hwb hbb hkb hbrb hgi e1 e2 hKr
                go_wp2_with fail
                rw [← HWB.out]
                clear HWB c0 c1 hlk a0 a1 a2 a3
                refine HCL.out.mono ?_
                rintro e wy ⟨r, rfl, hr, hby⟩
                have HSY := Lib.hid (HSX.out.up hby)
                have HKY := Lib.hid ((hby.block _ (lt_of_heap HKB.out)).trans HKB.out)
                have hsy := hby.size
                have HR := Lib.hid hr
                clear hr hby HCL
                cases r with
                | true =>
                  have hno : wrong l s (ps.take (j + 1)) = wrong l s (ps.take j) := wrong_no HF.out fun e => e.2 ⟨g, HE2.out, HR.out.1 rfl⟩
                  have HNO := Lib.hid hno
                  clear hno
                  go_wp2_with fail
                  try rw [← HAD.out]
                  first | go_roundw | refine ⟨?rel, ?measure⟩
                  case rel => exact ⟨j + 1, by omega, by go_num, by rw [HNO.out]; exact HSY.out⟩
                  case measure => simp [intOf]; omega
                | false =>
                  have hyes : wrong l s (ps.take (j + 1)) = wrong l s (ps.take j) ++ [(13, fa, fx)] := wrong_yes HF.out ⟨rfl, fun ⟨g', h, h2⟩ => by
                    have h' : firstOf l fx = some g' := h
                    rw [HE2.out] at h'
                    obtain rfl := Option.some.inj h'
                    have := HR.out.2 h2
                    cases this⟩
                  have HYES := Lib.hid hyes
                  have k1 : wy.cell? ⟨wr.heap.size, 1, none⟩ = some (sv fx) := (Lib.cell_of_heap HKY.out 1).trans rfl
                  have k2 : wy.cell? ⟨wr.heap.size, 2, none⟩ = some (.int .i64 fa) := (Lib.cell_of_heap HKY.out 2).trans rfl
                  have hbd : Below wy.heap.size wy (wy.alloc (.cells #[.int .i64 13, .int .i64 fa, sv fx] 61)) := (Below.refl _ _).alloc (Nat.le_refl _) _
                  have HSZ := Lib.hid (HSY.out.up hbd)
                  have hown := HSZ.out.own
                  rw [← HN2.out] at hown
                  have HOWN := Lib.hid hown
                  have HNEW := Lib.hid (World.news_of_block (cs := #[.int .i64 13, .int .i64 fa, sv fx]) (alloc1 wy (.cells #[.int .i64 13, .int .i64 fa, sv fx] 61)))
                  clear hyes hbd hown
                  go_wp2_with (at_builtin; go_loud (refine wpList_append_lies _ rfl _ _ 43 rfl w3.heap.size 61 i0 _ 3 32 Try.underlying43 hi hz0 hz1 hz2 rfl (by omega) (.slice NB n2 nd) n2 (flt dgC (lacks (ps.map (·.1)) ta l ++ wrong l s (ps.take j))) rfl HOWN.out ⟨wy.heap.size, 0, none⟩ 1 1 [.int .i64 13, .int .i64 fa, sv fx] rfl rfl HNEW.out ?d2 (by omega) ?d3 ?d4 ?d5 _ rfl ?_))
                  case d2 => first | exact ⟨rfl, rfl, rfl⟩ | exact rfl | exact fun u hu => by simp only [List.mem_cons, List.not_mem_nil, or_false] at hu; rcases hu with rfl | rfl | rfl <;> rfl
                  case d3 => unfold maxLen; omega
                  case d4 => omega
                  case d5 =>
                    have h3s := HS3.out
                    have hml := HSY.out.mp.lt
                    simp
                    omega
                  rintro g cap w7 hown7 hg7 hgd hglt
                  have HS7 : Hid (CkSt w w3 (.cells #[.int .i64 7, sv tx, .int .i64 ta, .slice A m c] 25 (0, 0)) (.cells #[sv su, .slice ss.1 ss.2.1 ss.2.2] 35 (0, 0)) (firstOf qs) (lacks (ps.map (·.1)) ta l ++ wrong l s (ps.take (j + 1))) (.slice (some ⟨g, 0, none⟩) (n2 + 1) cap) w7) := Lib.hid (HSZ.out.app HS3.out hg7 (by rw [HYES.out, ← List.append_assoc, List.length_append, ← HN2.out, flt_append, flt_one]; exact hown7))
                  clear hown7 hg7
                  go_wp2_with fail
                  try rw [← HAD.out]
                  first | go_roundw | refine ⟨?rel, ?measure⟩
                  case rel => exact ⟨j + 1, by omega, by go_num, HS7.out⟩
                  case measure => simp [intOf]; omega
            · have hq1 : (fk == 4) = false := by simp [hkd]
              have hq2 : (fk != 4) = true := by simp [hkd]
              have hno : wrong l s (ps.take (j + 1)) = wrong l s (ps.take j) := wrong_no HF.out fun e => hkd e.1
              have HNO := Lib.hid hno
              clear hkd hno
              go_wp2_with fail
              try rw [← HAD.out]
              first | go_roundw | refine ⟨?rel, ?measure⟩
              case rel => exact ⟨j + 1, by omega, by go_num, by rw [HNO.out]; exact HSA.out⟩
              case measure => simp [intOf]; omega
          · obtain rfl : j = m := by omega
            have HRES : Hid (DgRes (chk 7 ta ps l s) w (.returned (.slice NB n2 nd)) wr) := Lib.hid (by
              have h := HS.out
              have h2 := HN2.out
              rw [List.take_of_length_le (by rw [← HM.out]; exact Nat.le_refl _), ← HCHK.out] at h h2
              exact ⟨_, rfl, by rw [← h2]; have := h.own; rw [← h2] at this; exact ownMono this (by rw [HS3.out]; omega), h.below⟩)
            clear HS
            go_wp2
            go_ret
            exact HRES.out
  · have hq1 : (tk == 7) = false := by simp [hk7]
    have hq2 : (tk != 7) = true := by simp [hk7]
    have HRES : Hid (DgRes (chk tk ta ps l s) w (.returned (.slice none 0 0)) ((w.alloc (.cells #[.int .i64 tk, sv tx, .int .i64 ta, .slice A m c] 25)).alloc (.cells #[sv su, .slice ss.1 ss.2.1 ss.2.2] 35))) := Lib.hid (by
      unfold chk
      rw [if_neg hk7]
      exact ⟨_, rfl, World.ownsRow_nil _ _ _ _, ((Below.refl _ _).alloc (Nat.le_refl _) _).alloc (by simp) _⟩)
    clear hk7
    go_enter Try.func10, Try.ntmps10
    go_wp2
    go_ret
    exact HRES.out
end Go.Proofs.Ytiijlecidepneaa
