/-
  Headers and goals in memory, and a row of types that is being filled.
  Conditions: those of each theorem.
  The walk of traits.arguments.
  Conditions: the arguments read as a header and a type; its type has at most 4000000 nodes.
  The walk of traits.Select; slices of headers.
  Conditions: the arguments read as headers and a type.
-/
import Derived.Test.YtiijlecidepneaaMatchE
import Derived.OwnWalk
namespace Go.Proofs.Ytiijlecidepneaa
section
open Go.RowKit
/-- A header: its parameters (name and bound), its trait, its type. -/
structure Hdr where
  params : List (List UInt8 × List UInt8)
  trait : List UInt8
  type : Ty

/-- A header's five cells. -/
structure HV where
  d : Value
  p : Value
  t : Value
  n : Value
  a : Value
def HV.cells (q : HV) : List Value := [q.d, q.p, q.t, q.n, q.a]
def HV.val (q : HV) : Value := .agg #[q.d, q.p, q.t, q.n, q.a]

def pairV (p : List UInt8 × List UInt8) : Value × Value := (sv p.1, sv p.2)

structure HdIs (w : World) (S : Nat → Prop) (h : Hdr) (q : HV) : Prop where
  d : ∃ s, q.d = sv s
  p : ∃ (A : Option Addr) (c : Nat), q.p = .slice A h.params.length c ∧ h.params.length ≤ c ∧ c ≤ maxLen ∧ Row w S A (flat2 (h.params.map pairV))
  t : q.t = sv h.trait
  ty : TyIs w S h.type q.n q.a
  few : h.params.length ≤ 1000

theorem HdIs.keep {w w' : World} {S : Nat → Prop} {h : Hdr} {q : HV} (H : HdIs w S h q) (hk : Kept S w w') : HdIs w' S h q := by
  obtain ⟨A, c, h1, h2, h3, h4⟩ := H.p
  exact ⟨H.d, ⟨A, c, h1, h2, h3, h4.keep hk⟩, H.t, H.ty.keep hk, H.few⟩
theorem HdIs.more {w : World} {S S' : Nat → Prop} {h : Hdr} {q : HV} (H : HdIs w S h q) (hS : ∀ b, S b → S' b) : HdIs w S' h q := by
  obtain ⟨A, c, h1, h2, h3, h4⟩ := H.p
  exact ⟨H.d, ⟨A, c, h1, h2, h3, h4.more hS⟩, H.t, H.ty.more hS, H.few⟩
theorem HdIs.now {w w' : World} {n : Nat} {h : Hdr} {q : HV} (H : HdIs w (Lt n) h q) (hn : n ≤ w.heap.size) (hb : Below w.heap.size w w') : HdIs w' (Lt w'.heap.size) h q :=
  (H.keep (kept_below (hb.mono hn))).more fun _ h => Nat.lt_of_lt_of_le h (Nat.le_trans hn hb.size)
theorem HdIs.shape {w : World} {S : Nat → Prop} {h : Hdr} {q : HV} (H : HdIs w S h q) : ∃ (s : List UInt8) (P : Option Addr × Nat × Nat) (m : List UInt8) (a : Option Addr × Nat × Nat), q = ⟨sv s, .slice P.1 P.2.1 P.2.2, sv h.trait, sv m, .slice a.1 a.2.1 a.2.2⟩ := by
  obtain ⟨s, hs⟩ := H.d
  obtain ⟨A, c, h1, _⟩ := H.p
  obtain ⟨m, a, hm, ha⟩ := H.ty.shape
  have ht := H.t
  obtain ⟨q1, q2, q3, q4, q5⟩ := q
  simp only at hs h1 ht hm ha
  subst hs h1 ht hm ha
  exact ⟨s, (A, h.params.length, c), m, a, rfl⟩

theorem unflat2 : ∀ (n : Nat) (xs : List Value), xs.length = n * 2 → ∃ vs : List (Value × Value), vs.length = n ∧ flat2 vs = xs
  | 0, xs, h => ⟨[], rfl, by have : xs = [] := List.eq_nil_of_length_eq_zero (by simpa using h); rw [this]; rfl⟩
  | n + 1, [], h => by simp at h
  | n + 1, [a], h => by simp at h; omega
  | n + 1, a :: b :: r, h => by
    obtain ⟨vs, h1, h2⟩ := unflat2 n r (by simp at h; omega)
    exact ⟨(a, b) :: vs, by simp [h1], by rw [← h2]; rfl⟩
theorem flat2_setAt : ∀ (k : Nat) (vs : List (Value × Value)) (u v : Value), k < vs.length → ((flat2 vs).set (k * 2) u).set (k * 2 + 1) v = flat2 (vs.set k (u, v))
  | _, [], _, _, h => by simp at h
  | 0, a :: r, u, v, _ => rfl
  | k + 1, a :: r, u, v, h => by
    have := flat2_setAt k r u v (by simpa using h)
    have e1 : (k + 1) * 2 = k * 2 + 2 := by omega
    have e2 : (k + 1) * 2 + 1 = (k * 2 + 1) + 2 := by omega
    rw [e2, e1]
    simp only [flat2, List.flatMap_cons, List.cons_append, List.nil_append, List.set_cons_succ] at this ⊢
    rw [this]

/-- A row of n types at block g of which the first ones are those of ts. -/
structure Fill (g n base : Nat) (ts : List Ty) (vs : List (Value × Value)) (w : World) : Prop where
  own : w.ownsRow base 35 2 (.slice (some ⟨g, 0, none⟩) n n) n (flat2 vs)
  len : vs.length = n
  short : ts.length ≤ n
  each : ∀ (i : Nat) (t : Ty) (p : Value × Value), ts[i]? = some t → vs[i]? = some p → TyIs w (fun x => base ≤ x ∧ x < w.heap.size ∧ x ≠ g) t p.1 p.2

theorem Fill.kept {g n base : Nat} {ts : List Ty} {vs : List (Value × Value)} {w w' : World} (h : Fill g n base ts vs w) (hb : Below w.heap.size w w') : Fill g n base ts vs w' :=
  ⟨h.own.kept (grownOfBelow hb) (ownNone _), h.len, h.short, fun i t p ht hp => ((h.each i t p ht hp).keep (keptGrown (grownOfBelow hb) fun x hx => ⟨hx.2.1, by simp⟩)).more fun x hx => ⟨hx.1, Nat.lt_of_lt_of_le hx.2.1 hb.size, hx.2.2⟩⟩

theorem Fill.set {g n base k : Nat} {ts : List Ty} {vs : List (Value × Value)} {w : World} {t : Ty} {u v : Value} (h : Fill g n base (ts.take k) vs w) (hk : k < n) (hkt : ts[k]? = some t) (ht : TyIs w (fun x => base ≤ x ∧ x < w.heap.size ∧ x ≠ g) t u v) :
    Fill g n base (ts.take (k + 1)) (vs.set k (u, v)) ((w.setCell ⟨g, k * 2, none⟩ u).setCell ⟨g, k * 2 + 1, none⟩ v) := by
  have h1 := h.own.stored (k * 2) u
  have h2 := h1.1.stored (k * 2 + 1) v
  have hl := h.len
  have hx := h2.1
  rw [flat2_setAt k vs u v (by omega)] at hx
  have hkt2 : k < ts.length := (List.getElem?_eq_some_iff.1 hkt).1
  have hK : Kept (fun x => base ≤ x ∧ x < w.heap.size ∧ x ≠ g) w ((w.setCell ⟨g, k * 2, none⟩ u).setCell ⟨g, k * 2 + 1, none⟩ v) :=
    Kept.trans (keptGrown h1.2 fun x hx => ⟨hx.2.1, fun e => hx.2.2 (Option.some.inj e)⟩) (keptGrown h2.2 fun x hx => ⟨by rw [sizeSet]; exact hx.2.1, fun e => hx.2.2 (Option.some.inj e)⟩)
  refine ⟨hx, by simp [hl], by rw [List.length_take]; omega, fun i t' p ht' hp => ?_⟩
  refine TyIs.more (S := fun x => base ≤ x ∧ x < w.heap.size ∧ x ≠ g) (TyIs.keep (w := w) ?_ hK) fun x hx => ⟨hx.1, by rw [sizeSet, sizeSet]; exact hx.2.1, hx.2.2⟩
  have hi : i < k + 1 := by
    have := (List.getElem?_eq_some_iff.1 ht').1
    rw [List.length_take] at this
    omega
  rw [List.getElem?_take_of_lt hi] at ht'
  rcases Nat.lt_or_ge i k with hik | hik
  · rw [List.getElem?_set_ne (by omega)] at hp
    exact h.each i t' p (by rw [List.getElem?_take_of_lt hik]; exact ht') hp
  · obtain rfl : i = k := by omega
    rw [hkt] at ht'
    rw [List.getElem?_set_self (by omega)] at hp
    cases ht'
    cases hp
    exact ht
theorem Fill.push {g n base : Nat} {ts : List Ty} {vs : List (Value × Value)} {w : World} {t : Ty} {u v : Value} (h : Fill g n base ts vs w) (hk : ts.length < n) (ht : TyIs w (fun x => base ≤ x ∧ x < w.heap.size ∧ x ≠ g) t u v) :
    Fill g n base (ts ++ [t]) (vs.set ts.length (u, v)) ((w.setCell ⟨g, ts.length * 2, none⟩ u).setCell ⟨g, ts.length * 2 + 1, none⟩ v) := by
  have h1 : Fill g n base ((ts ++ [t]).take ts.length) vs w := by rw [List.take_left]; exact h
  have h2 := h1.set hk (by simp) ht
  rw [List.take_of_length_le (by simp)] at h2
  exact h2
theorem Fill.pop {g n base : Nat} {ts : List Ty} {vs : List (Value × Value)} {w : World} {t : Ty} (h : Fill g n base (ts ++ [t]) vs w) : Fill g n base ts vs w :=
  ⟨h.own, h.len, by have := h.short; simp at this; omega, fun i t' p ht hp => h.each i t' p (by rw [List.getElem?_append_left (List.getElem?_eq_some_iff.1 ht).1]; exact ht) hp⟩
theorem Fill.done {g n base : Nat} {ts : List Ty} {vs : List (Value × Value)} {w : World} (h : Fill g n base ts vs w) (hn : ts.length = n) : Tys w (Fr base w.heap.size) (some ⟨g, 0, none⟩) ts vs :=
  ⟨by rw [h.len, hn], Row.ofOwn h.own fun _ _ h1 h2 => ⟨h1, h2⟩, fun i t p ht hp => (h.each i t p ht hp).more fun _ hx => ⟨hx.1, hx.2.1⟩⟩
end

section
open Go.RowKit
def errName : List UInt8 := [101, 114, 114, 111, 114]
def errTy : Ty := .mk errName []

def argOf (f : Found) (p : List UInt8 × List UInt8) : Ty := if 0 ≤ idx f.1 p.1 0 then (f.2[(idx f.1 p.1 0).toNat]?).getD errTy else errTy
def argsOf (h : Hdr) (t : Ty) : Option (List Ty) := if (mtch h.type t ([], [])).1 = true then some (h.params.map (argOf (mtch h.type t ([], [])).2)) else none

def ArgsYes (ts : List Ty) (w : World) (e : Ending) (w' : World) : Prop :=
  ∃ (A : Option Addr) (n c : Nat) (vs : List (Value × Value)), e = .returned (.tuple #[.slice A n c, .bool true]) ∧ n = ts.length ∧ Tys w' (Fr w.heap.size w'.heap.size) A ts vs ∧ Below w.heap.size w w'

def ArgsRes (r : Option (List Ty)) (w : World) (e : Ending) (w' : World) : Prop :=
  match r with
  | some ts => ArgsYes ts w e w'
  | none => Nope (.tuple #[.slice none 0 0, .bool false]) w e w'

theorem err_is (w : World) (S : Nat → Prop) : TyIs w S errTy (sv errName) (.slice none 0 0) := .mk errName [] none 0 [] (by decide) (Nat.zero_le _) ⟨Nat.le_refl _, Nat.zero_le _⟩ rfl (Row.nil _ _ _) (fun i t p h => by simp at h)

set_option maxHeartbeats 2000000 in
set_option maxRecDepth 100000 in
theorem arguments_any (h : Hdr) (t : Ty) (q : HV) (u v : Value) (w : World) (hh : HdIs w (Lt w.heap.size) h q) (ht : TyIs w (Lt w.heap.size) t u v) (hsz : h.type.size ≤ 4000000) :
    Calls Try.prog 24 #[q.val, .agg #[u, v]] w (ArgsRes (argsOf h t) w) := by
  obtain ⟨u, v, rfl, rfl⟩ := ht.shape
  obtain ⟨s, P, m, a, rfl⟩ := hh.shape
  obtain ⟨i0, hi, hz0, hz1, hz2⟩ := info_parts infoT
  obtain ⟨PA, n, PC⟩ := P
  obtain ⟨A0, c0, hP, hle, hmx, hrowP⟩ := hh.p
  simp only [Value.slice.injEq] at hP
  obtain ⟨rfl, hPN, rfl⟩ := hP
  have hb2 : Below w.heap.size w ((w.alloc (.cells #[sv s, .slice PA n PC, sv h.trait, sv m, .slice a.1 a.2.1 a.2.2] 47)).alloc (.cells #[sv u, .slice v.1 v.2.1 v.2.2] 35)) := ((Below.refl _ _).alloc (Nat.le_refl _) _).alloc (by simp) _
  have hmt := matchTop h.type t (sv m) (.slice a.1 a.2.1 a.2.2) (sv u) (.slice v.1 v.2.1 v.2.2) _ (hh.ty.now (Nat.le_refl _) hb2) (ht.now (Nat.le_refl _) hb2) (by omega)
  have hfew := hh.few
  rw [← hPN] at hle hfew
  by_cases hr : (mtch h.type t ([], [])).1 = true
  · have hres : argsOf h t = some (h.params.map (argOf (mtch h.type t ([], [])).2)) := if_pos hr
    rw [hres]
    simp only [hr, if_true] at hmt
    have hfl := mtch_len h.type t ([], []) rfl
    generalize (mtch h.type t ([], [])).2 = f at *
    have hfl1 : f.1.length ≤ 4000000 := by have h5 : f.1.length ≤ 0 + h.type.size := hfl.2; omega
    have HFL := Lib.hid hfl.1
    clear hfl
    have HMT := Lib.hid hmt
    have HH := Lib.hid hh
    have HPN := Lib.hid hPN
    clear hmt hh ht hres hr hPN
    unfold HV.val
    go_enter Try.func24, Try.ntmps24
    go_wp2_with fail
    refine HMT.out.mono ?_
    rintro e w1 ⟨A3, A4, n3, c3, n4, c4, vs, rfl, hn3, hn4, hrow, hT, hb1⟩
    have hb3 : Below w.heap.size w w1 := hb2.trans (hb1.mono (by simp; omega))
    have hq := alloc2 w (.cells #[sv s, .slice PA n PC, sv h.trait, sv m, .slice a.1 a.2.1 a.2.2] 47) (.cells #[sv u, .slice v.1 v.2.1 v.2.2] 35)
    have hq1 := (hb1.block w.heap.size (by simp; omega)).trans hq.1
    have p1 : w1.cell? ⟨w.heap.size, 1, none⟩ = some (.slice PA n PC) := by rw [Lib.cell_of_heap hq1]; rfl
    have hsz1 : w.heap.size < w1.heap.size := lt_of_heap hq1
    have HN3 := Lib.hid hn3
    have HN4 := Lib.hid hn4
    have HQ1 := Lib.hid hq1
    clear hn3 hn4 hq hq1
    go_wp2_with (refine wpList_make_full _ rfl _ _ 33 rfl w.heap.size 35 i0 _ 2 Try.underlying33 hi hz0 hz1 .i64 .i64 (n : Int) (n : Int) n rfl rfl rfl rfl ?c1 ?c2 ?c3 ?_)
    case c1 => rw [hz2]; omega
    case c2 => unfold maxLen; omega
    case c3 => omega
    intro w2 hown hg2
    obtain ⟨z, hz3⟩ : ∃ z, (i0.zero) = some z := ⟨_, hz0⟩
    obtain ⟨vz, hvz1, hvz2⟩ := unflat2 n _ hown.1
    rw [← hvz2] at hown
    have hb23 : Below w1.heap.size w1 w2 := ⟨hg2.os, hg2.tape, hg2.output, hg2.size, fun i hi => hg2.block i hi (by simp)⟩
    have hgl : w1.heap.size < w2.heap.size := (hown.lt _ rfl).2
    have hF0 : Fill w1.heap.size n w.heap.size ([] : List Ty) vz w2 := ⟨hown, hvz1, Nat.zero_le _, fun i t p ht => by simp at ht⟩
    have p1' : w2.cell? ⟨w.heap.size, 1, none⟩ = some (.slice PA n PC) := ((belowCell hb23).1 _ _ hsz1).trans p1
    have HF0 := Lib.hid hF0
    clear hF0 hown hvz1 hvz2 hz3
    go_wp2_with fail
    go_loopw [30] (fun i wr => ∃ k : Nat, k ≤ n ∧ i = .int .i64 k ∧ ∃ vs' : List (Value × Value), Fill w1.heap.size n w.heap.size ((h.params.map (argOf f)).take k) vs' wr ∧ Below w1.heap.size w1 wr) (fun i _ => n - (intOf i).toNat)
    case atStart => exact ⟨0, Nat.zero_le _, rfl, vz, HF0.out, hb23⟩
    case round =>
      obtain ⟨k, hk, rfl, vs', hF, hb⟩ := hrel
      have hbw : Below w.heap.size w wr := hb3.trans (hb.mono hb3.size)
      have hsr := hb.size
      by_cases hlt : k < n
      · have hkp : k < h.params.length := by rw [← HPN.out]; exact hlt
        have hpk : (h.params.map pairV)[k]? = some (pairV h.params[k]) := by rw [List.getElem?_map, List.getElem?_eq_getElem hkp]; rfl
        obtain ⟨x1, x2⟩ := flat2_at _ _ _ hpk
        have hrowr := hrowP.keep (kept_below hbw)
        obtain ⟨ad, rfl, hS, e0⟩ := hrowr.at_ x1
        obtain ⟨ad', h', _, e1⟩ := hrowr.at_ x2
        obtain rfl := Option.some.inj h'
        have e1' : wr.cell? ⟨(ad.add (k * 2)).block, (ad.add (k * 2)).off + 1, none⟩ = some (sv h.params[k].2) := by rw [← addAdd] at e1; exact e1
        have e0' : wr.cell? (ad.add (k * 2)) = some (sv h.params[k].1) := e0
        have hgw : w1.heap.size < wr.heap.size := (hF.own.lt _ rfl).2
        have c0 : ∃ y, wr.cell? ⟨w1.heap.size, k * 2, none⟩ = some y := ⟨_, by rw [hF.own.cellAt _ (by omega)]; exact List.getElem?_eq_getElem (by rw [flat2_length, hF.len]; omega)⟩
        have c1 : ∃ y, wr.cell? ⟨w1.heap.size, k * 2 + 1, none⟩ = some y := ⟨_, by rw [hF.own.cellAt _ (by omega)]; exact List.getElem?_eq_getElem (by rw [flat2_length, hF.len]; omega)⟩
        obtain ⟨y0, c0⟩ := c0
        obtain ⟨y1, c1⟩ := c1
        have z0 : wr.frozen? ⟨w1.heap.size, k * 2, none⟩ = false := hF.own.frozenAt _
        have z1 : wr.frozen? ⟨w1.heap.size, k * 2 + 1, none⟩ = false := hF.own.frozenAt _
        have HF := Lib.hid hF
        clear hF e0 e1 x1 x2 hpk h' hrowr
        have hlk : ((h.params.map (argOf f)).take k).length = k := by rw [List.length_take, List.length_map]; omega
        have hF1 := HF.out.push (t := errTy) (u := sv errName) (v := .slice none 0 0) (by rw [hlk]; exact hlt) (err_is _ _)
        rw [hlk] at hF1
        have hF2 := hF1.kept ((Below.refl _ _).alloc (Nat.le_refl _) (.cells #[.string (bs h.params[k].1), .string (bs h.params[k].2)] 49))
        have hb33 : Below w1.heap.size w1 (((wr.setCell ⟨w1.heap.size, k * 2, none⟩ (sv errName)).setCell ⟨w1.heap.size, k * 2 + 1, none⟩ (.slice none 0 0)).alloc (.cells #[.string (bs h.params[k].1), .string (bs h.params[k].2)] 49)) :=
          ((hb.setCell (p := ⟨w1.heap.size, k * 2, none⟩) (Nat.le_refl _) _).setCell (p := ⟨w1.heap.size, k * 2 + 1, none⟩) (Nat.le_refl _) _).alloc (by rw [sizeSet, sizeSet]; exact hsr) _
        have HLK := Lib.hid hlk
        have HF2 := Lib.hid hF2
        have HB33 := Lib.hid hb33
        have hks : (h.params.map (argOf f)).take (k + 1) = (h.params.map (argOf f)).take k ++ [argOf f h.params[k]] := by
          rw [List.take_succ_eq_append_getElem (by rw [List.length_map]; exact hkp), List.getElem_map]
        have HKS := Lib.hid hks
        clear hlk hF1 hF2 hb33 hks
        go_wp2_with fail
        have hix := index_any A3 c3 _ f.1 h.params[k].1 _ (hrow.keep ((kept_below HB33.out).sub fun y hy => hy.2)) (by omega)
        rw [← HN3.out] at hix
        rcases idx_range f.1 h.params[k].1 0 with hi1 | ⟨j, hj, hi1⟩
        · have har : argOf f h.params[k] = errTy := by rw [argOf, hi1]; rfl
          rw [hi1] at hix
          have HIX := Lib.hid hix
          have HAR := Lib.hid har
          clear hix hi1 har
          refine HIX.out.mono ?_
          rintro e w4 ⟨rfl, rfl⟩
          go_wp2_with fail
          go_roundw
          case rel => exact ⟨k + 1, by omega, by go_num, _, by rw [HKS.out, HAR.out]; exact HF2.out, HB33.out⟩
          case measure => simp [intOf]; omega
        · rw [Nat.zero_add] at hi1
          have hj2 : j < f.2.length := by rw [← HFL.out]; exact hj
          have har : argOf f h.params[k] = f.2[j] := by
            rw [argOf, hi1, if_pos (by omega), show ((j : Int)).toNat = j from by omega, List.getElem?_eq_getElem hj2]
            rfl
          rw [hi1] at hix
          have hT3 := hT.keep ((kept_below HB33.out).sub fun y hy => hy.2)
          obtain ⟨ad2, uy, vy, rfl, hSy, d0, d1, hty⟩ := hT3.at_ (List.getElem?_eq_getElem hj2)
          obtain ⟨uy, vy, rfl, rfl⟩ := hty.shape
          have hcap := HF2.out.own
          have q0 : ∃ y, (((wr.setCell ⟨w1.heap.size, k * 2, none⟩ (sv errName)).setCell ⟨w1.heap.size, k * 2 + 1, none⟩ (.slice none 0 0)).alloc (.cells #[.string (bs h.params[k].1), .string (bs h.params[k].2)] 49)).cell? ⟨w1.heap.size, k * 2, none⟩ = some y := ⟨_, by rw [hcap.cellAt _ (by omega)]; exact List.getElem?_eq_getElem (by rw [flat2_length, HF2.out.len]; omega)⟩
          have q1 : ∃ y, (((wr.setCell ⟨w1.heap.size, k * 2, none⟩ (sv errName)).setCell ⟨w1.heap.size, k * 2 + 1, none⟩ (.slice none 0 0)).alloc (.cells #[.string (bs h.params[k].1), .string (bs h.params[k].2)] 49)).cell? ⟨w1.heap.size, k * 2 + 1, none⟩ = some y := ⟨_, by rw [hcap.cellAt _ (by omega)]; exact List.getElem?_eq_getElem (by rw [flat2_length, HF2.out.len]; omega)⟩
          obtain ⟨r0, q0⟩ := q0
          obtain ⟨r1, q1⟩ := q1
          have zz0 := hcap.frozenAt (k * 2)
          have zz1 := hcap.frozenAt (k * 2 + 1)
          have HIX := Lib.hid hix
          have HAR := Lib.hid har
          have hj4 : j < n4 := by rw [HN4.out]; exact hj2
          clear hix hi1 har hcap hT3 hT
          refine HIX.out.mono ?_
          rintro e w4 ⟨rfl, rfl⟩
          clear HIX
          generalize ((wr.setCell ⟨w1.heap.size, k * 2, none⟩ (sv errName)).setCell ⟨w1.heap.size, k * 2 + 1, none⟩ (.slice none 0 0)).alloc (.cells #[.string (bs h.params[k].1), .string (bs h.params[k].2)] 49) = W3 at *
          have hF4 := HF2.out.pop.push (t := f.2[j]) (by rw [HLK.out]; exact hlt) (hty.more fun y hy => ⟨by have := hy.1; simp at this; omega, by have := HB33.out.size; have := hy.2; omega, by have := hy.2; omega⟩)
          rw [HLK.out] at hF4
          have hB4 : Below w1.heap.size w1 ((W3.setCell ⟨w1.heap.size, k * 2, none⟩ (sv uy)).setCell ⟨w1.heap.size, k * 2 + 1, none⟩ (.slice vy.1 vy.2.1 vy.2.2)) := (HB33.out.setCell (p := ⟨w1.heap.size, k * 2, none⟩) (Nat.le_refl _) _).setCell (p := ⟨w1.heap.size, k * 2 + 1, none⟩) (Nat.le_refl _) _
          have HF4 := Lib.hid hF4
          have HB4 := Lib.hid hB4
          clear hF4 hB4
          go_wp2_with fail
          go_roundw
          case rel => exact ⟨k + 1, by omega, by go_num, _, by rw [HKS.out, HAR.out]; exact HF4.out, HB4.out⟩
          case measure => simp [intOf]; omega
      · have hkn : k = n := by omega
        have hln : (h.params.map (argOf f)).length = n := by rw [List.length_map, HPN.out]
        have htk : (h.params.map (argOf f)).take k = h.params.map (argOf f) := List.take_of_length_le (by omega)
        rw [htk] at hF
        have HF := Lib.hid hF
        have HLN := Lib.hid hln
        have hg : ¬ k < n := hlt
        clear hkn htk hln hF
        go_wp2_with fail
        go_ret2
        refine ⟨some ⟨w1.heap.size, 0, none⟩, n, n, vs', rfl, HLN.out.symm, HF.out.done HLN.out, hbw⟩
  · have hres : argsOf h t = none := if_neg hr
    rw [hres]
    have hrf : (mtch h.type t ([], [])).1 = false := by simpa using hr
    rw [hrf] at hmt
    simp only [Bool.false_eq_true, if_false] at hmt
    have HMT := Lib.hid hmt
    clear hmt hh ht hres hr hrf hPN
    unfold HV.val
    go_enter Try.func24, Try.ntmps24
    go_wp2_with fail
    refine HMT.out.mono ?_
    rintro e w1 ⟨rfl, hb1⟩
    go_wp2_with fail
    go_ret2
    exact ⟨rfl, hb2.trans (hb1.mono (by simp; omega))⟩
end

section
open Go.RowKit
def flat5 (qs : List HV) : List Value := qs.flatMap HV.cells
theorem flat5_length (qs : List HV) : (flat5 qs).length = qs.length * 5 := by
  induction qs with
  | nil => rfl
  | cons v r ih => simp only [flat5, List.flatMap_cons, List.length_append, List.length_cons, HV.cells, List.length_nil] at ih ⊢; omega
theorem flat5_at : ∀ (qs : List HV) (i : Nat) (q : HV), qs[i]? = some q → (flat5 qs)[i * 5]? = some q.d ∧ (flat5 qs)[i * 5 + 1]? = some q.p ∧ (flat5 qs)[i * 5 + 2]? = some q.t ∧ (flat5 qs)[i * 5 + 3]? = some q.n ∧ (flat5 qs)[i * 5 + 4]? = some q.a
  | [], i, q, h => by simp at h
  | v :: r, 0, q, h => by
    simp at h
    subst h
    simp [flat5, HV.cells]
  | v :: r, i + 1, q, h => by
    have := flat5_at r i q (by simpa using h)
    have e : (i + 1) * 5 = i * 5 + 5 := by omega
    rw [e]
    simpa [flat5, HV.cells] using this
theorem flat5_append (a b : List HV) : flat5 (a ++ b) = flat5 a ++ flat5 b := by simp [flat5]

/-- A slice of headers. -/
structure Hds (w : World) (S : Nat → Prop) (A : Option Addr) (hs : List Hdr) (qs : List HV) : Prop where
  len : qs.length = hs.length
  row : Row w S A (flat5 qs)
  each : ∀ (i : Nat) (h : Hdr) (q : HV), hs[i]? = some h → qs[i]? = some q → HdIs w S h q
  small : ∀ h ∈ hs, h.type.size ≤ 4000000
  few : hs.length ≤ 4000000

theorem Hds.keep {w w' : World} {S : Nat → Prop} {A : Option Addr} {hs : List Hdr} {qs : List HV} (h : Hds w S A hs qs) (hk : Kept S w w') : Hds w' S A hs qs := ⟨h.len, h.row.keep hk, fun i t p ht hp => (h.each i t p ht hp).keep hk, h.small, h.few⟩
theorem Hds.more {w : World} {S S' : Nat → Prop} {A : Option Addr} {hs : List Hdr} {qs : List HV} (h : Hds w S A hs qs) (hS : ∀ b, S b → S' b) : Hds w S' A hs qs := ⟨h.len, h.row.more hS, fun i t p ht hp => (h.each i t p ht hp).more hS, h.small, h.few⟩
theorem Hds.now {w w' : World} {n : Nat} {A : Option Addr} {hs : List Hdr} {qs : List HV} (h : Hds w (Lt n) A hs qs) (hn : n ≤ w.heap.size) (hb : Below w.heap.size w w') : Hds w' (Lt w'.heap.size) A hs qs :=
  (h.keep (kept_below (hb.mono hn))).more fun _ h => Nat.lt_of_lt_of_le h (Nat.le_trans hn hb.size)
theorem Hds.at_ {w : World} {S : Nat → Prop} {A : Option Addr} {hs : List Hdr} {qs : List HV} {i : Nat} {h : Hdr} (H : Hds w S A hs qs) (hi : hs[i]? = some h) :
    ∃ (ad : Addr) (q : HV), A = some ad ∧ S ad.block ∧ qs[i]? = some q ∧ w.cell? (ad.add (i * 5)) = some q.d ∧ w.cell? ⟨(ad.add (i * 5)).block, (ad.add (i * 5)).off + 1, none⟩ = some q.p ∧ w.cell? ⟨(ad.add (i * 5)).block, (ad.add (i * 5)).off + 2, none⟩ = some q.t ∧
      w.cell? ⟨(ad.add (i * 5)).block, (ad.add (i * 5)).off + 3, none⟩ = some q.n ∧ w.cell? ⟨(ad.add (i * 5)).block, (ad.add (i * 5)).off + 4, none⟩ = some q.a ∧ HdIs w S h q := by
  have hlt := (List.getElem?_eq_some_iff.1 hi).1
  have hp : qs[i]? = some (qs[i]'(by rw [H.len]; exact hlt)) := List.getElem?_eq_getElem _
  obtain ⟨e0, e1, e2, e3, e4⟩ := flat5_at _ _ _ hp
  obtain ⟨ad, rfl, hS, c0⟩ := H.row.at_ e0
  obtain ⟨_, h', _, c1⟩ := H.row.at_ e1
  obtain rfl := Option.some.inj h'
  obtain ⟨_, h', _, c2⟩ := H.row.at_ e2
  obtain rfl := Option.some.inj h'
  obtain ⟨_, h', _, c3⟩ := H.row.at_ e3
  obtain rfl := Option.some.inj h'
  obtain ⟨_, h', _, c4⟩ := H.row.at_ e4
  obtain rfl := Option.some.inj h'
  rw [← addAdd] at c1 c2 c3 c4
  exact ⟨ad, _, rfl, hS, hp, c0, c1, c2, c3, c4, H.each i h _ hi hp⟩

def selOf : List Hdr → Ty → Nat → Option (Nat × List Ty)
  | [], _, _ => none
  | h :: r, t, k => match argsOf h t with
    | some a => some (k, a)
    | none => selOf r t (k + 1)

def SelYes (k : Nat) (ts : List Ty) (w : World) (e : Ending) (w' : World) : Prop :=
  ∃ (A : Option Addr) (n c : Nat) (vs : List (Value × Value)), e = .returned (.tuple #[.int .i64 (k : Int), .slice A n c, .bool true]) ∧ n = ts.length ∧ Tys w' (Fr w.heap.size w'.heap.size) A ts vs ∧ Below w.heap.size w w'
def SelRes (r : Option (Nat × List Ty)) (w : World) (e : Ending) (w' : World) : Prop :=
  match r with
  | some (k, ts) => SelYes k ts w e w'
  | none => Nope (.tuple #[.int .i64 (-1), .slice none 0 0, .bool false]) w e w'

set_option maxHeartbeats 2000000 in
set_option maxRecDepth 100000 in
theorem select_any (hs : List Hdr) (t : Ty) (A : Option Addr) (c : Nat) (qs : List HV) (u v : Value) (w : World) (hh : Hds w (Lt w.heap.size) A hs qs) (ht : TyIs w (Lt w.heap.size) t u v) :
    Calls Try.prog 13 #[.slice A hs.length c, .agg #[u, v]] w (SelRes (selOf hs t 0) w) := by
  obtain ⟨u, v, rfl, rfl⟩ := ht.shape
  have hfew := hh.few
  obtain ⟨n, hn⟩ : ∃ n, n = hs.length := ⟨_, rfl⟩
  rw [← hn] at hfew ⊢
  have HN := Lib.hid hn
  clear hn
  go_enter Try.func13, Try.ntmps13
  go_wp2_with fail
  go_loopw [13] (fun i wr => ∃ k : Nat, k ≤ n ∧ i = .int .i64 k ∧ selOf (hs.drop k) t k = selOf hs t 0 ∧ wr.heap[w.heap.size]? = some (.cells #[sv u, .slice v.1 v.2.1 v.2.2] 35 (0, 0)) ∧ Below w.heap.size w wr) (fun i _ => n - (intOf i).toNat)
  case atStart => exact ⟨0, Nat.zero_le _, rfl, rfl, alloc1 _ _, (Below.refl _ _).alloc (Nat.le_refl _) _⟩
  case round =>
    obtain ⟨k, hk, rfl, hx, hB, hb⟩ := hrel
    have HX := Lib.hid hx
    have t0 : wr.cell? ⟨w.heap.size, 0, none⟩ = some (sv u) := by rw [Lib.cell_of_heap hB]; rfl
    have t1 : wr.cell? ⟨w.heap.size, 1, none⟩ = some (.slice v.1 v.2.1 v.2.2) := by rw [Lib.cell_of_heap hB]; rfl
    have hlw := lt_of_heap hB
    have HB := Lib.hid hB
    clear hx hB
    by_cases hlt : k < n
    · have hki : k < hs.length := by rw [← HN.out]; exact hlt
      have hgk : hs[k]? = some hs[k] := List.getElem?_eq_getElem hki
      have hhr := hh.now (Nat.le_refl _) hb
      obtain ⟨ad, q, rfl, hS, _, e0, e1, e2, e3, e4, hHd⟩ := hhr.at_ hgk
      have hsm := hh.small _ (List.getElem_mem hki)
      obtain ⟨s, P, m, a, rfl⟩ := hHd.shape
      have htr := ht.now (Nat.le_refl _) hb
      have HD := Lib.hid (List.drop_eq_getElem_cons hki)
      dsimp only at e0 e1 e2 e3 e4
      clear hhr hgk
      have hba : Below wr.heap.size wr (wr.alloc (.cells #[sv s, .slice P.1 P.2.1 P.2.2, sv hs[k].trait, sv m, .slice a.1 a.2.1 a.2.2] 47)) := (Below.refl _ _).alloc (Nat.le_refl _) _
      have har := arguments_any hs[k] t _ _ _ _ (hHd.now (Nat.le_refl _) hba) (htr.now (Nat.le_refl _) hba) hsm
      unfold HV.val at har
      dsimp only at har
      have HAR := Lib.hid har
      clear har
      go_wp2_with fail
      rcases hr : argsOf hs[k] t with _ | ts
      · have har := HAR.out
        rw [hr] at har
        refine har.mono ?_
        rintro e w1 ⟨rfl, hb1⟩
        have HR := Lib.hid hr
        clear hr har HAR
        have hb3 : Below w.heap.size w w1 := hb.trans ((hba.trans (hb1.mono (by simp))).mono hb.size)
        have hB3 : w1.heap[w.heap.size]? = some (.cells #[sv u, .slice v.1 v.2.1 v.2.2] 35 (0, 0)) := ((hba.trans (hb1.mono (by simp))).block _ hlw).trans HB.out
        have HB3 := Lib.hid hB3
        clear hB3
        go_wp2_with fail
        go_roundw
        case rel => exact ⟨k + 1, by omega, by go_num, by rw [← HX.out, HD.out, selOf, HR.out], HB3.out, hb3⟩
        case measure => simp [intOf]; omega
      · have har := HAR.out
        rw [hr] at har
        refine har.mono ?_
        rintro e w1 ⟨A2, n2, c2, vs, rfl, hn2, hT, hb1⟩
        have HR := Lib.hid hr
        have HN2 := Lib.hid hn2
        clear hr har HAR hn2
        have hb3 : Below w.heap.size w w1 := hb.trans ((hba.trans (hb1.mono (by simp))).mono hb.size)
        have hres : selOf hs t 0 = some (k, ts) := by rw [← HX.out, HD.out, selOf, HR.out]
        have HRES := Lib.hid hres
        clear hres
        go_wp2_with fail
        refine bodyPost_ret (v := .tuple #[.int .i64 (k : Int), .slice A2 n2 c2, .bool true]) (by simp [results, Try.results13, go_sem]) rfl ?_
        rw [HRES.out]
        exact ⟨A2, n2, c2, vs, rfl, HN2.out, hT.more fun y hy => ⟨by have := hy.1; simp at this; have := hb.size; omega, hy.2⟩, hb3⟩
    · have hkn : k = n := by omega
      have HKN := Lib.hid hkn
      have hg : ¬ k < n := hlt
      clear hkn
      go_wp2_with fail
      refine bodyPost_ret (v := .tuple #[.int .i64 (-1), .slice none 0 0, .bool false]) (by simp [results, Try.results13, go_sem]) rfl ?_
      rw [← HX.out, List.drop_eq_nil_of_le (by rw [← HN.out, HKN.out]; exact Nat.le_refl _)]
      exact ⟨rfl, hb⟩
end
end Go.Proofs.Ytiijlecidepneaa
