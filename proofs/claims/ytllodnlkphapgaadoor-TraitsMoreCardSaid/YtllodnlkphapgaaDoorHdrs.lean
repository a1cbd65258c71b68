/-
  The walk of recompilelaw12.headers.
  Conditions: the dice lie in memory.
-/
import Derived.Test.YtllodnlkphapgaaDoorSup
namespace Go.Proofs.YtllodnlkphapgaaDoor
open Go.RowKit

theorem infoPar : (Tryd.prog.info? 48).map (fun i => (i.zero, i.size, i.bytes)) = some (some (.agg #[.string ⟨#[]⟩, .string ⟨#[]⟩]), 2, 32) := by kernel_rfl

/-- A row of headers of one's own that grows; what its headers reach lies from B on, and not in it. -/
structure HOut (B : Nat) (hs : List Hdr) (ov : Value) (qs : List HV) (w : World) : Prop where
  own : w.ownsRow B 38 5 ov hs.length (flat5 qs)
  len : qs.length = hs.length
  each : ∀ (i : Nat) (h : Hdr) (q : HV), hs[i]? = some h → qs[i]? = some q → HdIs w (fun x => B ≤ x ∧ x < w.heap.size ∧ some x ≠ ov.ownBlock) h q

theorem HOut.nil (B : Nat) (w : World) : HOut B [] (.slice none 0 0) [] w := ⟨World.ownsRow_nil _ _ _ _, rfl, fun i g q h => by simp at h⟩
theorem HOut.kept {B : Nat} {hs : List Hdr} {ov : Value} {qs : List HV} {w w' : World} {M : Nat → Prop} (h : HOut B hs ov qs w) (hk : Kp M w w') (hM : ∀ y, M y → y < w.heap.size → y < B) : HOut B hs ov qs w' :=
  ⟨hk.own h.own (fun g hg e => by have h1 := h.own.lt _ hg; have := hM _ e h1.2; omega), h.len, fun i g q hg hq => ((h.each i g q hg hq).keep (hk.kept fun x hx => ⟨hx.2.1, fun e => by have := hM _ e hx.2.1; have := hx.1; omega⟩)).more fun x hx => ⟨hx.1, Nat.lt_of_lt_of_le hx.2.1 hk.size, hx.2.2⟩⟩
theorem HOut.push {B : Nat} {hs : List Hdr} {ov : Value} {qs : List HV} {w w1 : World} {x : Hdr} {q : HV} {g cap : Nat} (h : HOut B hs ov qs w)
    (hx : HdIs w (fun x => B ≤ x ∧ x < w.heap.size ∧ some x ≠ ov.ownBlock) x q) (hg : w.grownBy w1 ov.ownBlock)
    (hown : w1.ownsRow B 38 5 (.slice (some ⟨g, 0, none⟩) (hs.length + 1) cap) (hs.length + 1) (flat5 qs ++ q.cells)) (hat : ov.ownBlock = some g ∨ g = w.heap.size) :
    HOut B (hs ++ [x]) (.slice (some ⟨g, 0, none⟩) (hs.length + 1) cap) (qs ++ [q]) w1 := by
  have hne : ∀ y, y < w.heap.size → some y ≠ ov.ownBlock → some y ≠ (Value.slice (some ⟨g, 0, none⟩) (hs.length + 1) cap).ownBlock := fun y hy hn e => by
    have e : y = g := Option.some.inj e
    subst e
    rcases hat with e | e
    · exact hn e.symm
    · omega
  refine ⟨by rw [List.length_append, flat5_append]; simpa [flat5] using hown, by simp [h.len], fun i t p ht hp => ?_⟩
  refine HdIs.more (S := fun x => B ≤ x ∧ x < w.heap.size ∧ some x ≠ ov.ownBlock) (HdIs.keep (w := w) ?_ (keptGrown hg fun y hy => ⟨hy.2.1, hy.2.2⟩)) fun y hy => ⟨hy.1, Nat.lt_of_lt_of_le hy.2.1 hg.size, hne y hy.2.1 hy.2.2⟩
  rcases Nat.lt_trichotomy i hs.length with hi | hi | hi
  · rw [List.getElem?_append_left hi] at ht
    rw [List.getElem?_append_left (by rw [h.len]; exact hi)] at hp
    exact h.each i t p ht hp
  · subst hi
    have hv := h.len
    rw [List.getElem?_append_right (Nat.le_refl _)] at ht
    rw [List.getElem?_append_right (by rw [hv]; exact Nat.le_refl _)] at hp
    simp [hv] at ht hp
    subst ht hp
    exact hx
  · have := (List.getElem?_eq_some_iff.1 ht).1
    simp at this
    omega

theorem own_le {w : World} {base : Nat} {e : TypeId} {size n c : Nat} {A : Option Addr} {xs : List Value} (h : w.ownsRow base e size (.slice A n c) n xs) : n ≤ c ∧ c ≤ maxLen := by
  rcases h.2 with ⟨hv, h0⟩ | ⟨g, cap, cur, hv, _, _, h1, h2, _⟩
  · obtain ⟨_, rfl, rfl⟩ := Value.slice.inj hv
    exact ⟨Nat.le_refl _, Nat.zero_le _⟩
  · obtain ⟨_, _, rfl⟩ := Value.slice.inj hv
    exact ⟨h1, h2⟩
def MadeHs (hs : List Hdr) : Prop := hs.length ≤ 6 ∧ ∀ h ∈ hs, PlOk 2 h.type ∧ h.params.length ≤ 2
def HdrsRes (dd : Nat) (xs : List Int) (w : World) (e : Ending) (w' : World) : Prop :=
  ∃ (hs : List Hdr) (A : Option Addr) (c : Nat) (qs : List HV), e = .returned (.slice A hs.length c) ∧ MadeHs hs ∧ ((A = none → c = 0) ∧ hs.length ≤ c ∧ c ≤ maxLen) ∧ Hds w' (Fr w.heap.size w'.heap.size) A hs qs ∧ Thrown dd xs w w'

set_option maxHeartbeats 8000000 in
set_option maxRecDepth 100000 in
theorem headers_any (dd : Nat) (xs : List Int) (w : World) (hD : DiceAt w dd xs) : Calls Tryd.prog 8 #[.pointer (some ⟨dd, 0, none⟩)] w (HdrsRes dd xs w) := by
  have hdl := hD.lt
  obtain ⟨i0, hi, hz0, hz1, hz2⟩ := info_parts infoH
  obtain ⟨i1, hi', hz0', hz1', hz2'⟩ := info_parts infoPar
  go_enter Tryd.func8, Tryd.ntmps8
  go_wp2_with fail
  refine (next_any 7 dd xs _ (by decide) (by decide) hD).mono ?_
  rintro e w1 ⟨k, hk, rfl, hD1, hK1⟩
  have HD1 := Lib.hid hD1
  have HK1 := Lib.hid hK1
  clear hD1 hK1 hD
  go_wp2_with fail
  go_loopw [3, 4] (fun ov i wr => ∃ (n m : Nat) (hs : List Hdr) (qs : List HV), i = .int .i64 n ∧ n + m ≤ 6 ∧ m = hs.length ∧ HOut w.heap.size hs ov qs wr ∧ MadeHs hs ∧ DiceAt wr dd xs ∧ Kp (fun y => y = dd) w wr) (fun _ i _ => (intOf i).toNat)
  case atStart => exact ⟨k, 0, [], [], rfl, by omega, rfl, HOut.nil _ _, ⟨by simp, fun h hh => by simp at hh⟩, HD1.out, HK1.out⟩
  case round =>
    obtain ⟨n, m, hs, qs, rfl, hnm, hm, hO, hM, hD, hK⟩ := hrel
    obtain ⟨OA, oc, hov, hoc⟩ := own_slice hO.own
    have hsz := hK.size
    by_cases hlt : 0 < n
    · rw [← hm] at hov
      subst hov
      have HM := Lib.hid hm
      have HLT := Lib.hid hO.own.lt
      have HO := Lib.hid hO
      have HMD := Lib.hid hM
      have HD := Lib.hid hD
      have HK := Lib.hid hK
      have hm9 : m < 10 := by omega
      clear hm hO hM hD hK hoc
      go_wp2_with fail
      refine (digit_any m hm9 _).mono ?_
      rintro e wa ⟨dg, rfl, hba⟩
      have hOa := HO.out.kept (M := fun _ => False) (Kp.ofBelow hba) (fun _ e _ => e.elim)
      have hDa := HD.out.below hba
      have hKa := HK.out.below hba
      have hsza := hba.size
      have HOa := Lib.hid hOa
      have HDa := Lib.hid hDa
      have HKa := Lib.hid hKa
      clear hOa hDa hKa hba HO HD HK
      go_wp2_with fail
      refine (of_any [[65], [66], [67]] (some ⟨wa.heap.size, 0, none⟩) 3 dd xs _ (by decide) (by decide) (HDa.out.below ((Below.refl _ _).alloc (Nat.le_refl _) _)) (row_lit wa #[.string ⟨#[65]⟩, .string ⟨#[66]⟩, .string ⟨#[67]⟩] _ [[65], [66], [67]] rfl dd (by omega))).mono ?_
      rintro e wb ⟨tr, htr, rfl, hDb, hKb⟩
      have hK0b : Kp (fun y => y = dd) wa wb := ((Kp.refl _ _).alloc _).one hKb
      have hszb := hK0b.size
      have HOb := Lib.hid (HOa.out.kept hK0b (fun y hy _ => by omega))
      have HKb := Lib.hid (HKa.out.one hK0b)
      have HDb := Lib.hid hDb
      clear htr hDb hKb hK0b HOa HDa HKa
      go_wp2_with fail
      refine (plain_any dd xs 2 2 true wb rfl (by decide) HDb.out).mono ?_
      rintro e wc ⟨t, u, v, rfl, hP, hT, hDc, hKc⟩
      obtain ⟨un, va, rfl, rfl⟩ := hT.shape
      have hszc := hKc.size
      have HOc := Lib.hid (HOb.out.kept hKc (fun y hy _ => by omega))
      have HKc := Lib.hid (HKb.out.one hKc)
      have HDc := Lib.hid hDc
      have HT := Lib.hid hT
      have HP := Lib.hid hP
      clear hDc hKc hT hP HOb HDb HKb
      go_wp2_with fail
      obtain ⟨nm, hnm'⟩ : ∃ nm : List UInt8, Value.string ({ data := #[105] } ++ { data := #[dg] }) = sv nm := ⟨_, (sv_of _).symm⟩
      rw [hnm']
      clear hnm'
      have hB0 := (alloc2 wc (.cells #[sv nm, .slice none 0 0, sv tr, sv un, .slice va.1 va.2.1 va.2.2] 38) (.cells #[.string ⟨#[84]⟩, .string ⟨#[85]⟩] 9))
      have hbW : Below wc.heap.size wc ((wc.alloc (.cells #[sv nm, .slice none 0 0, sv tr, sv un, .slice va.1 va.2.1 va.2.2] 38)).alloc (.cells #[.string ⟨#[84]⟩, .string ⟨#[85]⟩] 9)) := ((Below.refl _ _).alloc (Nat.le_refl _) _).alloc (by simp) _
      have hszW : ((wc.alloc (.cells #[sv nm, .slice none 0 0, sv tr, sv un, .slice va.1 va.2.1 va.2.2] 38)).alloc (.cells #[.string ⟨#[84]⟩, .string ⟨#[85]⟩] 9)).heap.size = wc.heap.size + 2 := by simp
      obtain ⟨W2, hW2⟩ : ∃ W2, W2 = ((wc.alloc (.cells #[sv nm, .slice none 0 0, sv tr, sv un, .slice va.1 va.2.1 va.2.2] 38)).alloc (.cells #[.string ⟨#[84]⟩, .string ⟨#[85]⟩] 9)) := ⟨_, rfl⟩
      rw [← hW2] at hB0 hbW hszW ⊢
      have HS2 := Lib.hid hszW
      have HB0 := Lib.hid hB0
      have HBW := Lib.hid hbW
      clear hW2 hB0 hbW hszW
      obtain ⟨wo, rfl⟩ : ∃ wo : World, wo = wr := ⟨_, rfl⟩
      go_loopw [26] (fun i wr => ∃ (k2 : Nat) (pv : Value) (ps : List (List UInt8 × List UInt8)) (mp : Nat), k2 ≤ 2 ∧ i = .int .i64 k2 ∧ mp ≤ k2 ∧ mp = ps.length ∧ wr.heap[wc.heap.size]? = some (.cells #[sv nm, pv, sv tr, sv un, .slice va.1 va.2.1 va.2.2] 38 (0, 0)) ∧ wr.ownsRow (wc.heap.size + 2) 48 2 pv mp (flat2 (ps.map pairV)) ∧ DiceAt wr dd xs ∧ Kp (fun y => y = dd ∨ y = wc.heap.size) W2 wr) (fun i _ => 2 - (intOf i).toNat)
      case atStart => exact ⟨0, _, [], 0, by omega, rfl, Nat.le_refl _, rfl, HB0.out.1, World.ownsRow_nil _ _ _ _, HDc.out.below HBW.out, Kp.refl _ _⟩
      case round =>
        obtain ⟨k2, pv, ps, mp, hk2, rfl, hmk, hmp, hH, hpo, hD2, hK2⟩ := hrel
        have hszr := hK2.size
        have HT0 := hK2.heap HB0.out.2 (by omega)
        obtain ⟨PA, pc, hpv, hpc⟩ := own_slice hpo
        have HPO := Lib.hid hpo
        have HH := Lib.hid hH
        have HD2 := Lib.hid hD2
        have HK2 := Lib.hid hK2
        have HMP := Lib.hid hmp
        have HTU := Lib.hid HT0
        clear hpo hH hD2 hK2 hmp HT0
        by_cases hlt2 : k2 < 2
        · obtain ⟨pn, hpn⟩ : ∃ pn : List UInt8, wr.cell? ⟨wc.heap.size + 1, k2, none⟩ = some (sv pn) := by
            have : k2 = 0 ∨ k2 = 1 := by omega
            rcases this with rfl | rfl
            · exact ⟨[84], (Lib.cell_of_heap HTU.out _).trans rfl⟩
            · exact ⟨[85], (Lib.cell_of_heap HTU.out _).trans rfl⟩
          have HPV := Lib.hid hpv
          clear hpv
          go_wp2_with fail
          refine (next_any 3 dd xs _ (by decide) (by decide) HD2.out).mono ?_
          rintro e w5 ⟨j, hj, rfl, hD5, hK5⟩
          have hszw5 := hK5.size
          have hH5 := hK5.heap HH.out (by omega)
          have hpo5 := hK5.own HPO.out (fun g hg e => by have := (HPO.out.lt _ hg).1; omega)
          have hK05 : Kp (fun y => y = dd ∨ y = wc.heap.size) W2 w5 := HK2.out.trans hK5 fun _ _ e => .inl e
          have HH5 := Lib.hid hH5
          have HPO5 := Lib.hid hpo5
          have HK5 := Lib.hid hK05
          have HD5 := Lib.hid hD5
          clear hH5 hpo5 hK05 hD5 hK5 HH HPO HK2 HD2 hpn
          by_cases hj0 : 0 < j
          · have hpv := HPV.out
            subst hpv
            have q1 : w5.cell? ⟨wc.heap.size, 1, none⟩ = some (.slice PA mp pc) := (Lib.cell_of_heap HH5.out _).trans rfl
            go_wp2_with fail
            refine wp_region_held' (fun w' => w'.cell? ⟨wc.heap.size, 1, none⟩ = some (.slice PA mp pc)) [] [0, 1, 2, 3] [4, 5, 6, 7] [8, 9, 10] (by kernel_rfl) (by kernel_rfl) ?s0 ?h0
            case s0 => exact q1
            case h0 =>
              simp only [opsAt, List.filterMap_cons, List.filterMap_nil, List.getElem?_toArray, List.getElem?_cons_succ, List.getElem?_cons_zero]
              refine wpFloat_nil ?_
              refine wpLoad_step ?v0 rfl (fun w' hS => ?y0) ?k0
              case y0 => go_simp; rfl
              case k0 =>
              go_simp
              refine wpLoad_step ?v1 rfl (fun w' hS => ?y1) ?k1
              case y1 => go_simp; rfl
              case k1 =>
              go_simp
              refine wpLoad_step ?v2 rfl (fun w' hS => ?y2) ?k2
              case y2 => go_simp; rfl
              case k2 =>
              go_simp
              refine wpLoad_step ?v3 rfl (fun w' hS => ?y3) ?k3
              case y3 => go_simp; rfl
              case k3 =>
              go_simp
              refine wpLoad_nil ?_
              refine wpKeep_step rfl ?_
              go_simp
              refine ⟨(cellAlloc (lt_of_heap HH5.out)).trans q1, ?_⟩
              refine wpKeep_step rfl ?_
              go_simp
              have hlt5 := lt_of_heap HH5.out
              have hb5 : Below w5.heap.size w5 (w5.alloc (.cells #[.string ⟨#[]⟩, .string ⟨#[65]⟩, .string ⟨#[66]⟩, .string ⟨#[67]⟩] 9)).drew := ((Below.refl _ _).alloc (Nat.le_refl _) _).drew
              refine (of_any [[], [65], [66], [67]] (some ⟨w5.heap.size, 0, none⟩) 4 dd xs _ (by decide) (by decide) (HD5.out.below hb5) ((row_lit w5 #[.string ⟨#[]⟩, .string ⟨#[65]⟩, .string ⟨#[66]⟩, .string ⟨#[67]⟩] _ [[], [65], [66], [67]] rfl dd (by omega)).keep fun p _ => rfl)).mono ?_
              rintro e w6 ⟨bd, hbd, rfl, hD6, hK6⟩
              have hK06 : Kp (fun y => y = dd) w5 w6 := (Kp.ofBelow hb5 : Kp (fun y => y = dd) w5 _).one hK6
              have hsz6 := hK06.size
              have hH6 := hK06.heap HH5.out (by omega)
              have hpo6 := hK06.own HPO5.out (fun g hg e => by have := (HPO5.out.lt _ hg).1; omega)
              have q6 : w6.cell? ⟨wc.heap.size, 1, none⟩ = some (.slice PA mp pc) := (Lib.cell_of_heap hH6 _).trans rfl
              have hlt6 := lt_of_heap hH6
              have HK6 := Lib.hid (HK5.out.trans hK06 fun _ _ e => .inl e)
              have HD6 := Lib.hid hD6
              have HH6 := Lib.hid hH6
              have HPO6 := Lib.hid hpo6
              clear hbd hD6 hK6 hK06 hH6 hpo6 HH5 HPO5 HK5 HD5 hb5
              refine ⟨q6, ?_⟩
              refine wpKeep_step rfl ?_
              go_simp
              refine wpKeep_step rfl ?_
              go_simp
              refine wpKeep_nil ?_
              refine (wpList_append_lies _ rfl _ _ 36 rfl (wc.heap.size + 2) 48 i1 _ 2 32 Tryd.underlying36 hi' hz0' hz1' hz2' rfl (by omega) _ mp (flat2 (ps.map pairV)) rfl (HPO6.out.alloc _) ⟨w6.heap.size, 0, none⟩ 1 1 [sv pn, sv bd] rfl rfl ?c1 ?c2 (by omega) ?c3 ?c4 ?c5 _ rfl ?_)
              case c1 => exact World.news_of_block (cs := #[sv pn, sv bd]) (alloc1 w6 _)
              case c2 => simp [Value.oneCell']
              case c3 => unfold maxLen; omega
              case c4 => omega
              case c5 => simp; have := HS2.out; omega
              intro g cap w7 hown7 hgrow hat _
              have hgb := hown7.lt g rfl
              have hK7 : Kp (fun y => y = dd ∨ y = wc.heap.size) W2 w7 := (HK6.out.alloc _).grown hgrow fun r hr hrl => by have := (HPO6.out.lt _ hr).1; have := HS2.out; omega
              have hHb : w7.heap[wc.heap.size]? = some (.cells #[sv nm, .slice PA mp pc, sv tr, sv un, .slice va.1 va.2.1 va.2.2] 38 (0, 0)) := (hgrow.block _ (by simp; omega) (fun e => by have := (HPO6.out.lt _ e.symm).1; omega)).trans ((heap_alloc_old _ _ hlt6).trans HH6.out)
              have hD7 : DiceAt w7 dd xs := (HD6.out.below ((Below.refl _ _).alloc (Nat.le_refl _) _)).keep (M := fun y => wc.heap.size + 2 ≤ y) ⟨hgrow.os, hgrow.tape, hgrow.output, hgrow.size, fun x hx hM => hgrow.block x hx fun e => hM (HPO6.out.lt _ e.symm).1⟩ (fun y hy => by omega)
              have f1 : w7.frozen? ⟨wc.heap.size, 1, none⟩ = false := Lib.frozen_of_heap hHb 1
              have HK7 := Lib.hid (hK7.setCell (b := wc.heap.size) (o := 1) (fun _ => .inr rfl) (.slice (some ⟨g, 0, none⟩) (mp + 1) cap))
              have q7 : w7.cell? ⟨wc.heap.size, 1, none⟩ = some (.slice PA mp pc) := (Lib.cell_of_heap hHb _).trans rfl
              have HH7 := Lib.hid (setCell_heap (o := 1) (v := .slice (some ⟨g, 0, none⟩) (mp + 1) cap) hHb)
              have HD7 := Lib.hid (hD7.keep (M := fun y => y = wc.heap.size) (Kp.setCell (M := fun y => y = wc.heap.size) (Kp.refl _ _) (fun _ => rfl) (.slice (some ⟨g, 0, none⟩) (mp + 1) cap) : Kp (fun y => y = wc.heap.size) w7 (w7.setCell ⟨wc.heap.size, 1, none⟩ _)) (fun y hy => by omega))
              have HOW7 := Lib.hid (hown7.kept (grownSet (b := wc.heap.size) (o := 1) (v := .slice (some ⟨g, 0, none⟩) (mp + 1) cap)) (.inr (by simp [Value.ownBlock]; omega)))
              clear hK7 hHb hD7 hown7 hgrow hat HK6 HD6 HH6 HPO6
              go_wp2
              refine NoPanic.normal ?_
              go_wp2
              go_roundw
              case rel => exact ⟨k2 + 1, _, ps ++ [(pn, bd)], mp + 1, by omega, by go_num, by omega, by rw [HMP.out]; simp, HH7.out, by have := HOW7.out; rw [List.map_append, flat2_append]; exact this, HD7.out, HK7.out⟩
              case measure => simp [intOf]; omega
          · have hj1 : decide ((j : Int) > 0) = false := by simp; omega
            go_wp2
            go_roundw
            case rel => exact ⟨k2 + 1, _, ps, mp, by omega, by go_num, by omega, HMP.out, HH5.out, HPO5.out, HD5.out, HK5.out⟩
            case measure => simp [intOf]; omega
        · obtain rfl : k2 = 2 := by omega
          have hb0 : HdIs wr (fun x => w.heap.size ≤ x ∧ x < wr.heap.size ∧ some x ≠ (Value.slice OA m oc).ownBlock) ⟨ps, tr, t⟩ ⟨sv nm, pv, sv tr, sv un, .slice va.1 va.2.1 va.2.2⟩ := by
            have hpcap := HPO.out
            refine ⟨⟨nm, rfl⟩, ?_, rfl, ?_, by have := HMP.out; simp only; omega⟩
            · have hr0 : ∀ g c', pv = .slice (some ⟨g, 0, none⟩) mp c' → w.heap.size ≤ g ∧ g < wr.heap.size ∧ some g ≠ (Value.slice OA m oc).ownBlock := fun g c' e => by
                have h9 := HPO.out.lt g (by rw [e]; rfl)
                refine ⟨by omega, h9.2, fun e2 => ?_⟩
                have := (HOc.out.own.lt _ e2.symm).2
                omega
              have hm' := HMP.out
              rcases hpcap.2 with ⟨hv, h0⟩ | ⟨g, cap, cur, hv, _, _, h1, h2, _⟩
              · refine ⟨none, 0, by rw [hv]; simp only; rw [← hm', h0], by simp only; omega, Nat.zero_le _, ?_⟩
                have : ps = [] := List.eq_nil_of_length_eq_zero (by omega)
                rw [this]
                exact Row.nil _ _ _
              · have hx := hpcap
                rw [hv] at hx
                exact ⟨_, cap, by rw [hv, hm'], by rw [← hm']; exact h1, h2, Row.ofOwn hx fun g' e _ _ => by cases e; exact hr0 g cap hv⟩
            · refine (HT.out.keep (Kept.trans (kept_below HBW.out |>.sub fun b hb => hb.2) (HK2.out.kept fun b hb => ⟨by have := hb.2; have := HS2.out; omega, fun e => ?_⟩))).more fun b hb => ⟨by have := hb.1; omega, by have := hb.2; have := HS2.out; omega, fun e2 => ?_⟩
              · have := hb.1; have := hb.2; omega
              · have := (HLT.out _ e2.symm).2
                have := hb.1
                omega
          have HHD := Lib.hid hb0
          have hKo : Kp (fun y => y = dd) w wr := ((HKc.out.below HBW.out).trans HK2.out fun x hx e => by rcases e with e | e <;> omega)
          have hOo := HOc.out.kept (M := fun y => y = dd ∨ y = wc.heap.size) (w' := wr) ((Kp.ofBelow HBW.out : Kp _ wc W2).trans HK2.out fun x hx e => e) (fun y hy hlt => by rcases hy with e | e <;> omega)
          have hs2 := HS2.out
          have c0 : wr.cell? ⟨wc.heap.size, 0, none⟩ = some (sv nm) := (Lib.cell_of_heap HH.out _).trans rfl
          have c1 : wr.cell? ⟨wc.heap.size, 1, none⟩ = some (.slice PA mp pc) := (Lib.cell_of_heap HH.out _).trans (by rw [hpv]; rfl)
          have c2 : wr.cell? ⟨wc.heap.size, 2, none⟩ = some (sv tr) := (Lib.cell_of_heap HH.out _).trans rfl
          have c3 : wr.cell? ⟨wc.heap.size, 3, none⟩ = some (sv un) := (Lib.cell_of_heap HH.out _).trans rfl
          have c4 : wr.cell? ⟨wc.heap.size, 4, none⟩ = some (.slice va.1 va.2.1 va.2.2) := (Lib.cell_of_heap HH.out _).trans rfl
          subst hpv
          have hown := hOo.own
          rw [← HM.out] at hown
          have hszo := hKo.size
          have HOW := Lib.hid hown
          have HOO := Lib.hid hOo
          have HKO := Lib.hid hKo
          have hbx : Below wr.heap.size wr (wr.alloc (.cells #[sv nm, .slice PA mp pc, sv tr, sv un, .slice va.1 va.2.1 va.2.2] 38)) := (Below.refl _ _).alloc (Nat.le_refl _) _
          have hhx : HdIs (wr.alloc (.cells #[sv nm, .slice PA mp pc, sv tr, sv un, .slice va.1 va.2.1 va.2.2] 38)) (fun x => w.heap.size ≤ x ∧ x < (wr.alloc (.cells #[sv nm, .slice PA mp pc, sv tr, sv un, .slice va.1 va.2.1 va.2.2] 38)).heap.size ∧ some x ≠ (Value.slice OA m oc).ownBlock) ⟨ps, tr, t⟩ ⟨sv nm, .slice PA mp pc, sv tr, sv un, .slice va.1 va.2.1 va.2.2⟩ :=
            (HHD.out.keep (Kept.sub (kept_below hbx) fun b hb => hb.2.1)).more fun b hb => ⟨hb.1, Nat.lt_of_lt_of_le hb.2.1 hbx.size, hb.2.2⟩
          have HHX := Lib.hid hhx
          clear hhx
          have HBX := Lib.hid hbx
          clear hown hOo hKo hs2 hb0 HOc HK2 HH HPO HTU HKc HBW HT HHD hbx
          go_wp2_with (at_builtin; refine wpList_append_lies _ rfl _ _ 27 rfl w.heap.size 38 i0 _ 5 96 Tryd.underlying27 hi hz0 hz1 hz2 rfl (by omega) _ m (flat5 qs) rfl (HOW.out.alloc _) ⟨wr.heap.size, 0, none⟩ 1 1 [sv nm, .slice PA mp pc, sv tr, sv un, .slice va.1 va.2.1 va.2.2] rfl rfl ?d1 ?d2 (by omega) ?d3 ?d4 ?d5 _ rfl ?_)
          case d1 => exact World.news_of_block (cs := #[sv nm, .slice PA mp pc, sv tr, sv un, .slice va.1 va.2.1 va.2.2]) (alloc1 wr _)
          case d2 => simp [Value.oneCell']
          case d3 => unfold maxLen; omega
          case d4 => omega
          case d5 => simp; omega
          intro g cap w4 hown4 hgrow hat _
          have hK4 : Kp (fun y => y = dd) w w4 := (HKO.out.alloc _).grown hgrow fun r hr hrl => by have := (HOW.out.lt _ hr).1; omega
          have hD4 : DiceAt w4 dd xs := (HD2.out.below HBX.out).keep (M := fun y => w.heap.size ≤ y) ⟨hgrow.os, hgrow.tape, hgrow.output, hgrow.size, fun x hx hM => hgrow.block x hx fun e => hM (HOW.out.lt _ e.symm).1⟩ (fun y hy => by omega)
          have HK4 := Lib.hid hK4
          have HD4 := Lib.hid hD4
          have HO4 := Lib.hid ((HOO.out.kept (M := fun _ => False) (Kp.ofBelow HBX.out) (fun _ e _ => e.elim)).push (x := ⟨ps, tr, t⟩) (q := ⟨sv nm, .slice PA mp pc, sv tr, sv un, .slice va.1 va.2.1 va.2.2⟩) HHX.out hgrow (by rw [← HM.out]; exact hown4) (hat.imp id fun e => by rw [e]; simp))
          clear hK4 hD4 hown4 hgrow hat HOO HHX HKO HOW HD2
          go_wp2
          go_roundw
          case rel => exact ⟨n - 1, m + 1, hs ++ [(⟨ps, tr, t⟩ : Hdr)], _, by go_num, by omega, by rw [HM.out]; simp, by have := HO4.out; rw [← HM.out] at this; exact this, ⟨by have := HM.out; simp; omega, fun h hh => by
            rcases List.mem_append.1 hh with h1 | h1
            · exact HMD.out.2 h h1
            · rw [List.mem_singleton.1 h1]
              exact ⟨HP.out, by have := HMP.out; simp only; omega⟩⟩, HD4.out, HK4.out⟩
          case measure => simp [intOf]; omega
    · obtain rfl : n = 0 := by omega
      have HM := Lib.hid hm
      have HO := Lib.hid hO
      have HD := Lib.hid hD
      have HK := Lib.hid hK
      have HC := Lib.hid hoc
      have HMD := Lib.hid hM
      clear hm hO hM hD hK hoc
      subst hov
      go_wp2
      go_ret
      exact ⟨hs, OA, oc, qs, rfl, HMD.out, ⟨HC.out, own_le HO.out.own⟩, ⟨HO.out.len, Row.ofOwn HO.out.own fun g _ h1 h2 => ⟨h1, h2⟩, fun i h q hi hq => (HO.out.each i h q hi hq).more fun b hb => ⟨hb.1, hb.2.1⟩, fun h hh => by have := (HMD.out.2 h hh).1.1; omega, by have := HMD.out.1; omega⟩, HD.out, HK.out⟩
end Go.Proofs.YtllodnlkphapgaaDoor
