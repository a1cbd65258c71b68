/-
  The walks of the law's params and types: made type parameters and made types.
  Conditions: the dice lie in memory.
-/
import Derived.Test.YtkggmckfdkpldaaDoorFeD
import Derived.Test.YtkggmckfdkpldaaDoorFeM
import Derived.Test.YtkggmckfdkpldaaDoorBown
namespace Go.Proofs.YtkggmckfdkpldaaDoor
open Go.RowKit

variable {TA0 : Option Addr} {CQ0 : Nat}

theorem infoPm : (Tryd.prog.info? 65).map (fun i => (i.zero, i.size, i.bytes)) = some (some (.agg #[.string ⟨#[]⟩, .string ⟨#[]⟩]), 2, 32) := by kernel_rfl
def pmN : List (List UInt8) := [[84], [85]]
def trN : List (List UInt8) := [[], [97, 58, 58, 83, 104, 111, 119]]
theorem pmN_le {x : List UInt8} (h : x ∈ pmN) : x.length ≤ 10 := by
  have : ∀ y ∈ pmN, y.length ≤ 10 := by decide
  exact this x h
theorem trN_le {x : List UInt8} (h : x ∈ trN) : x.length ≤ 10 := by
  have : ∀ y ∈ trN, y.length ≤ 10 := by decide
  exact this x h
/-- Of over a row that has just been laid. -/
theorem ofLit (n : Nat) (ls : List (List UInt8)) (cs : Array Value) (dd : Nat) (xs : List Int) (w : World) (hl : ls.length = n) (hc : cs.toList = ls.map sv) (hn : 1 ≤ n) (hn2 : n ≤ 1000) (hd : DiceOf TA0 CQ0 w dd xs) :
    Calls Tryd.prog 24 #[.pointer (some ⟨dd, 0, none⟩), .slice (some ⟨w.heap.size, 0, none⟩) n n] (w.alloc (.cells cs 9)) (fun e w' => ∃ x ∈ ls, e = .returned (sv x) ∧ DiceOf TA0 CQ0 w' dd xs ∧ Kp (fun y => y = dd) w w') := by
  subst hl
  refine (ofc_any ls _ _ dd xs _ hn hn2 (hd.below ((Below.refl _ _).alloc (Nat.le_refl _) _)) (row_lit w cs _ ls hc dd hd.lt)).mono ?_
  rintro e w' ⟨x, hx, rfl, hD, hK⟩
  exact ⟨x, hx, rfl, hD, ((Kp.refl _ w).alloc _).one hK⟩

def PmRes (TA0 : Option Addr) (CQ0 : Nat) (dd : Nat) (xs : List Int) (w : World) (e : Ending) (w' : World) : Prop :=
  ∃ (A : Option Addr) (c n : Nat) (ps : List Par), e = .returned (.slice A n c) ∧ n = ps.length ∧ n ≤ 2 ∧ w'.ownsRow w.heap.size 65 2 (.slice A n c) n (flt parC ps) ∧ (∀ p ∈ ps, p.1.length ≤ 10 ∧ p.2.length ≤ 10) ∧ DiceOf TA0 CQ0 w' dd xs ∧ Kp (fun y => y = dd) w w'

set_option maxHeartbeats 1600000 in
set_option maxRecDepth 100000 in
theorem params_any (dd : Nat) (xs : List Int) (w : World) (hd : DiceOf TA0 CQ0 w dd xs) :
    Calls Tryd.prog 22 #[.pointer (some ⟨dd, 0, none⟩)] w (PmRes TA0 CQ0 dd xs w) := by
  obtain ⟨i0, hi, hz0, hz1, hz2⟩ := info_parts infoPm
  have HNX := Lib.hid (nextc_any 3 dd xs w (by decide) (by decide) hd)
  have hdl := hd.lt
  clear hd
  go_enter Tryd.func22, Tryd.ntmps22
  go_wp2_with fail
  refine HNX.out.mono ?_
  rintro e w1 ⟨k, hk, rfl, hD, hK⟩
  have HD := Lib.hid hD
  have HK := Lib.hid hK
  clear hD hK HNX
  go_wp2_with fail
  go_loopw [4, 3] (fun i lv wr => ∃ (j n : Nat) (ps : List Par), i = .int .i64 (j : Int) ∧ n = ps.length ∧ n + j ≤ 2 ∧ wr.ownsRow w.heap.size 65 2 lv n (flt parC ps) ∧ (∀ p ∈ ps, p.1.length ≤ 10 ∧ p.2.length ≤ 10) ∧ DiceOf TA0 CQ0 wr dd xs ∧ Kp (fun y => y = dd) w wr) (fun i _ _ => (intOf i).toNat)
  case atStart => exact ⟨k, 0, [], rfl, rfl, by omega, World.ownsRow_nil _ _ _ _, (fun p h => by cases h), HD.out, HK.out⟩
  case round =>
    obtain ⟨j, n, ps, rfl, hn, hjn, hown, hps, hDr, hKr⟩ := hrel
    obtain ⟨A, c, rfl, _⟩ := own_slice hown
    have HN := Lib.hid hn
    have HO := Lib.hid hown
    have HPS := Lib.hid hps
    have HDR := Lib.hid hDr
    have HKR := Lib.hid hKr
    clear hn hown hps hDr hKr
    by_cases hj : 0 < j
    · have hj1 : (0 : Int) < (j : Int) := by omega
      go_wp2_with fail
      refine (ofLit 2 pmN _ dd xs wr rfl rfl (by decide) (by decide) HDR.out).mono ?_
      rintro e w2 ⟨x, hx, rfl, hD2, hK2⟩
      have HX := Lib.hid (pmN_le hx)
      have HD2 := Lib.hid hD2
      have HK2 := Lib.hid hK2
      clear hx hD2 hK2
      go_wp2_with fail
      refine (ofLit 2 trN _ dd xs w2 rfl rfl (by decide) (by decide) HD2.out).mono ?_
      rintro e w3 ⟨y, hy, rfl, hD3, hK3⟩
      have HY := Lib.hid (trN_le hy)
      have hK4 : Kp (fun y => y = dd) w w3 := (HKR.out.one HK2.out).one hK3
      have hown3 := (HK2.out.one hK3).own HO.out (fun g hg e => by have := (HO.out.lt g hg).1; omega)
      have hwl : w.heap.size ≤ w3.heap.size := hK4.size
      have HD3 := Lib.hid hD3
      have HK4 := Lib.hid hK4
      have HO3 := Lib.hid hown3
      clear hy hD3 hK3 hown3 hK4
      go_wp2_with (at_builtin; refine wpList_append_lies _ rfl _ _ 27 rfl w.heap.size 65 i0 _ 2 32 Tryd.underlying27 hi hz0 hz1 hz2 rfl (by omega) _ n (flt parC ps) rfl (HO3.out.alloc _) ⟨w3.heap.size, 0, none⟩ 1 1 [sv x, sv y] rfl rfl ?c1 ?c2 (by omega) ?c3 ?c4 ?c5 _ rfl ?_)
      case c1 => exact World.news_of_block (cs := #[sv x, sv y]) (alloc1 w3 _)
      case c2 => simp [Value.oneCell']
      case c3 => unfold maxLen; omega
      case c4 => omega
      case c5 => simp; omega
      intro g cap w5 hown5 hgrow hat _
      have hK5 : Kp (fun y => w.heap.size ≤ y) w3 w5 := ((Kp.refl _ w3).alloc _).grown hgrow (fun r hr _ => by have := (HO3.out.lt r hr).1; omega)
      have HD5 := Lib.hid (HD3.out.keep hK5 (fun y hy => by omega))
      have HK5 := Lib.hid (HK4.out.trans hK5 (fun x hx hM => by omega))
      have HO5 := Lib.hid hown5
      clear hK5 hown5 hgrow hat
      go_wp2
      go_roundw
      case rel =>
        refine ⟨j - 1, n + 1, ps ++ [(x, y)], by go_num, by rw [HN.out]; simp, by omega, ?_, ?_, HD5.out, HK5.out⟩
        · rw [flt_append, flt_one]
          exact HO5.out
        · intro p hp
          rcases List.mem_append.1 hp with hp | hp
          · exact HPS.out p hp
          · rw [List.mem_singleton.1 hp]
            exact ⟨HX.out, HY.out⟩
      case measure => simp [intOf]; omega
    · obtain rfl : j = 0 := by omega
      have HRES : Hid (PmRes TA0 CQ0 dd xs w (.returned (.slice A n c)) wr) := Lib.hid ⟨A, c, n, ps, rfl, HN.out, by omega, HO.out, HPS.out, HDR.out, HKR.out⟩
      clear HO HPS HDR HKR HN
      go_wp2
      go_ret
      exact HRES.out

/-- A row of the call's own with types. -/
structure TsAt (B : Nat) (ts : List Ty) (ov : Value) (vs : List (Value × Value)) (w : World) : Prop where
  own : w.ownsRow B 31 2 ov ts.length (flat2 vs)
  len : vs.length = ts.length
  each : ∀ (i : Nat) (t : Ty) (p : Value × Value), ts[i]? = some t → vs[i]? = some p → TyIs w (fun x => B ≤ x ∧ x < w.heap.size ∧ some x ≠ ov.ownBlock) t p.1 p.2
theorem TsAt.nil (B : Nat) (w : World) : TsAt B [] (.slice none 0 0) [] w := ⟨World.ownsRow_nil _ _ _ _, rfl, fun i t p h => by simp at h⟩
theorem TsAt.keep {B : Nat} {ts : List Ty} {ov : Value} {vs : List (Value × Value)} {w w' : World} {M : Nat → Prop} (h : TsAt B ts ov vs w) (hk : Kp M w w') (hM : ∀ y, B ≤ y → y < w.heap.size → ¬ M y) : TsAt B ts ov vs w' := by
  refine ⟨hk.own h.own fun g hg => hM g (h.own.lt g hg).1 (h.own.lt g hg).2, h.len, fun i t p ht hp => ?_⟩
  exact ((h.each i t p ht hp).keep (hk.kept fun b hb => ⟨hb.2.1, hM b hb.1 hb.2.1⟩)).more fun x hx => ⟨hx.1, Nat.lt_of_lt_of_le hx.2.1 hk.size, hx.2.2⟩
/-- One more type. -/
theorem TsAt.push {B : Nat} {ts : List Ty} {ov : Value} {vs : List (Value × Value)} {w w' : World} {t : Ty} {u v : Value} {g cap : Nat} (h : TsAt B ts ov vs w)
    (ht : TyIs w (fun x => B ≤ x ∧ x < w.heap.size ∧ some x ≠ ov.ownBlock) t u v)
    (hown : w'.ownsRow B 31 2 (.slice (some ⟨g, 0, none⟩) (ts.length + 1) cap) (ts.length + 1) (flat2 vs ++ [u, v])) (hg : w.grownBy w' ov.ownBlock) (hat : ov.ownBlock = some g ∨ g = w.heap.size) :
    TsAt B (ts ++ [t]) (.slice (some ⟨g, 0, none⟩) (ts.length + 1) cap) (vs ++ [(u, v)]) w' := by
  have hfar : ∀ x, B ≤ x ∧ x < w.heap.size ∧ some x ≠ ov.ownBlock → B ≤ x ∧ x < w'.heap.size ∧ some x ≠ some g := fun x ⟨h1, h2, h3⟩ => by
    refine ⟨h1, Nat.lt_of_lt_of_le h2 hg.size, fun e => ?_⟩
    injection e with e
    rcases hat with hat | hat
    · exact h3 (by rw [hat, e])
    · omega
  have hkeep : Kept (fun x => B ≤ x ∧ x < w.heap.size ∧ some x ≠ ov.ownBlock) w w' := keptGrown hg fun x hx => ⟨hx.2.1, hx.2.2⟩
  refine ⟨by rw [flat2_append, List.length_append]; exact hown, by simp [h.len], fun i t' p ht' hp => ?_⟩
  refine TyIs.more (S := fun x => B ≤ x ∧ x < w.heap.size ∧ some x ≠ ov.ownBlock) ?_ hfar
  refine TyIs.keep ?_ hkeep
  rcases Nat.lt_trichotomy i ts.length with hi | hi | hi
  · rw [List.getElem?_append_left hi] at ht'
    rw [List.getElem?_append_left (by rw [h.len]; exact hi)] at hp
    exact h.each i t' p ht' hp
  · subst hi
    rw [List.getElem?_append_right (Nat.le_refl _)] at ht'
    rw [List.getElem?_append_right (by rw [h.len]; exact Nat.le_refl _)] at hp
    simp [h.len] at ht' hp
    subst ht' hp
    exact ht
  · have := (List.getElem?_eq_some_iff.1 ht').1
    simp at this
    omega
theorem TsAt.tys {B : Nat} {ts : List Ty} {ov : Value} {vs : List (Value × Value)} {w : World} (h : TsAt B ts ov vs w) : TysV w (Fr B w.heap.size) ov ts := by
  obtain ⟨A, c, rfl, _⟩ := own_slice h.own
  have hl := own_le h.own
  exact ⟨A, c, vs, rfl, hl.1, hl.2, h.len, Row.ofOwn h.own fun g _ h3 h4 => ⟨h3, h4⟩, fun i t p ht hp => (h.each i t p ht hp).more fun x hx => ⟨hx.1, hx.2.1⟩⟩

def TsRes (TA0 : Option Addr) (CQ0 : Nat) (dd : Nat) (xs : List Int) (w : World) (e : Ending) (w' : World) : Prop :=
  ∃ (A : Option Addr) (c n : Nat) (ts : List Ty) (vs : List (Value × Value)), e = .returned (.slice A n c) ∧ n = ts.length ∧ n ≤ 3 ∧ TsAt w.heap.size ts (.slice A n c) vs w' ∧ (∀ t ∈ ts, DTy 2 t) ∧ DiceOf TA0 CQ0 w' dd xs ∧ Kp (fun y => y = dd) w w'

set_option maxHeartbeats 1600000 in
set_option maxRecDepth 100000 in
theorem types_any (dd : Nat) (xs : List Int) (w : World) (hd : DiceOf TA0 CQ0 w dd xs) :
    Calls Tryd.prog 23 #[.pointer (some ⟨dd, 0, none⟩)] w (TsRes TA0 CQ0 dd xs w) := by
  obtain ⟨i0, hi, hz0, hz1, hz2⟩ := info_parts infoT
  have HNX := Lib.hid (nextc_any 4 dd xs w (by decide) (by decide) hd)
  have hdl := hd.lt
  clear hd
  go_enter Tryd.func23, Tryd.ntmps23
  go_wp2_with fail
  refine HNX.out.mono ?_
  rintro e w1 ⟨k, hk, rfl, hD, hK⟩
  have HD := Lib.hid hD
  have HK := Lib.hid hK
  clear hD hK HNX
  go_wp2_with fail
  go_loopw [4, 3] (fun i lv wr => ∃ (j n : Nat) (ts : List Ty) (vs : List (Value × Value)), i = .int .i64 (j : Int) ∧ n = ts.length ∧ n + j ≤ 3 ∧ TsAt w.heap.size ts lv vs wr ∧ (∀ t ∈ ts, DTy 2 t) ∧ DiceOf TA0 CQ0 wr dd xs ∧ Kp (fun y => y = dd) w wr) (fun i _ _ => (intOf i).toNat)
  case atStart => exact ⟨k, 0, [], [], rfl, rfl, by omega, TsAt.nil _ _, (fun p h => by cases h), HD.out, HK.out⟩
  case round =>
    obtain ⟨j, n, ts, vs, rfl, hn, hjn, hts, hty, hDr, hKr⟩ := hrel
    have ho0 := hts.own
    rw [← hn] at ho0
    obtain ⟨A, c, rfl, _⟩ := own_slice ho0
    clear ho0
    have hwr := hKr.size
    have HN := Lib.hid hn
    have HO := Lib.hid hts
    have HTY := Lib.hid hty
    have HDR := Lib.hid hDr
    have HKR := Lib.hid hKr
    clear hn hts hty hDr hKr
    by_cases hj : 0 < j
    · have hj1 : (0 : Int) < (j : Int) := by omega
      go_wp2_with fail
      refine (dtype_any 2 dd xs wr (by decide) HDR.out).mono ?_
      rintro e w3 ⟨t, u, v, rfl, hdt, hT, hD3, hK3⟩
      obtain ⟨u, v, rfl, rfl⟩ := hT.shape
      have hK4 : Kp (fun y => y = dd) w w3 := HKR.out.one hK3
      have hO3 := HO.out.keep hK3 (fun y hy _ e => by omega)
      have hT3 : TyIs w3 (fun x => w.heap.size ≤ x ∧ x < w3.heap.size ∧ some x ≠ (Value.slice A n c).ownBlock) t (sv u) (.slice v.1 v.2.1 v.2.2) := hT.more fun x hx => ⟨Nat.le_trans hwr hx.1, hx.2, fun e => by have := (HO.out.own.lt x e.symm).2; have := hx.1; omega⟩
      have hwl : w.heap.size ≤ w3.heap.size := hK4.size
      have HD3 := Lib.hid hD3
      have HK4 := Lib.hid hK4
      have HO3 := Lib.hid hO3
      have HT3 := Lib.hid hT3
      have HDT := Lib.hid hdt
      clear hdt hT hD3 hK3 hO3 hK4 hT3
      have hown3 := HO3.out.own
      rw [← HN.out] at hown3
      go_wp2_with (at_builtin; refine wpList_append_lies _ rfl _ _ 29 rfl w.heap.size 31 i0 _ 2 40 Tryd.underlying29 hi hz0 hz1 hz2 rfl (by omega) _ n (flat2 vs) rfl (hown3.alloc _) ⟨w3.heap.size, 0, none⟩ 1 1 [sv u, .slice v.1 v.2.1 v.2.2] rfl rfl ?c1 ?c2 (by omega) ?c3 ?c4 ?c5 _ rfl ?_)
      case c1 => exact World.news_of_block (cs := #[sv u, .slice v.1 v.2.1 v.2.2]) (alloc1 w3 _)
      case c2 => simp [Value.oneCell']
      case c3 => unfold maxLen; omega
      case c4 => omega
      case c5 => simp; omega
      intro g cap w5 hown5 hgrow hat _
      have hka : Kp (fun _ => False) w3 (w3.alloc (.cells #[sv u, .slice v.1 v.2.1 v.2.2] 31)) := (Kp.refl _ w3).alloc _
      have hK5 : Kp (fun y => w.heap.size ≤ y) w3 w5 := ((Kp.refl _ w3).alloc _).grown hgrow (fun r hr _ => by have := (HO3.out.own.lt r hr).1; omega)
      have hO4 := HO3.out.keep hka (fun _ _ _ e => e)
      have HD5 := Lib.hid (HD3.out.keep hK5 (fun y hy => by omega))
      have HK5 := Lib.hid (HK4.out.trans hK5 (fun x hx hM => by omega))
      rw [HN.out] at hown5
      have HO5 := Lib.hid (hO4.push ((HT3.out.keep (hka.kept fun b hb => ⟨hb.2.1, fun e => e⟩)).more fun x hx => ⟨hx.1, Nat.lt_of_lt_of_le hx.2.1 hka.size, hx.2.2⟩) hown5 hgrow (by simpa using hat))
      clear hka hO4 hown3 hK5 hown5 hgrow hat
      go_wp2
      go_roundw
      case rel =>
        refine ⟨j - 1, n + 1, ts ++ [t], vs ++ [(sv u, .slice v.1 v.2.1 v.2.2)], by go_num, by rw [HN.out]; simp, by omega, ?_, ?_, HD5.out, HK5.out⟩
        · rw [HN.out]
          exact HO5.out
        · intro p hp
          rcases List.mem_append.1 hp with hp | hp
          · exact HTY.out p hp
          · rw [List.mem_singleton.1 hp]
            exact HDT.out
      case measure => simp [intOf]; omega
    · obtain rfl : j = 0 := by omega
      have HRES : Hid (TsRes TA0 CQ0 dd xs w (.returned (.slice A n c)) wr) := Lib.hid ⟨A, c, n, ts, vs, rfl, HN.out, by omega, HO.out, HTY.out, HDR.out, HKR.out⟩
      clear HO HTY HDR HKR HN
      go_wp2
      go_ret
      exact HRES.out
end Go.Proofs.YtkggmckfdkpldaaDoor
