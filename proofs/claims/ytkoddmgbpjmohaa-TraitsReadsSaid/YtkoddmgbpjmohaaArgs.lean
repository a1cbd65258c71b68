/-
  The walk of traits.arguments.
  Conditions: the arguments read as a header and a type; its type has at most 1000000 nodes.
-/
import Derived.Test.YtkoddmgbpjmohaaHdr
import Derived.OwnWalk
namespace Go.Proofs.Ytkoddmgbpjmohaa
open Go.RowKit

def errName : List UInt8 := [101, 114, 114, 111, 114]
def errTy : Ty := .mk errName []

def argOf (f : Found) (p : List UInt8 × List UInt8) : Ty := if 0 ≤ idx f.1 p.1 0 then (f.2[(idx f.1 p.1 0).toNat]?).getD errTy else errTy
def argsOf (h : Hdr) (t : Ty) : Option (List Ty) := if (mtch h.type t ([], [])).1 = true then some (h.params.map (argOf (mtch h.type t ([], [])).2)) else none

def ArgsYes (ts : List Ty) (w : World) (e : Ending) (w' : World) : Prop :=
  ∃ (A : Option Addr) (n c : Nat) (vs : List (Value × Value)), e = .returned (.tuple #[.slice A n c, .bool true]) ∧ n = ts.length ∧ Tys w' (Fr w.heap.size w'.heap.size) A ts vs ∧ Below w.heap.size w w'

def ArgsRes (r : Option (List Ty)) (w : World) (e : Ending) (w' : World) : Prop :=
  match r with
  | some ts => ArgsYes ts w e w'
  | none => Nope (.tuple #[.slice none 0 0, .bool false]) w e w'

theorem err_is (w : World) (S : Nat → Prop) : TyIs w S errTy (sv errName) (.slice none 0 0) := .mk errName [] none 0 [] (by decide) (Nat.zero_le _) ⟨Nat.le_refl _, Nat.zero_le _⟩ rfl (Row.nil _ _ _) (fun i t p h => by simp at h)

set_option maxHeartbeats 2000000 in
theorem arguments_any (h : Hdr) (t : Ty) (q : HV) (u v : Value) (w : World) (hh : HdIs w (Lt w.heap.size) h q) (ht : TyIs w (Lt w.heap.size) t u v) (hsz : h.type.size ≤ 1000000) :
    Calls Try.prog 17 #[q.val, .agg #[u, v]] w (ArgsRes (argsOf h t) w) := by
  obtain ⟨u, v, rfl, rfl⟩ := ht.shape
  obtain ⟨s, P, m, a, rfl⟩ := hh.shape
  obtain ⟨i0, hi, hz0, hz1, hz2⟩ := info_parts infoT
  obtain ⟨PA, n, PC⟩ := P
  obtain ⟨A0, c0, hP, hle, hmx, hrowP⟩ := hh.p
  simp only [Value.slice.injEq] at hP
  obtain ⟨rfl, hPN, rfl⟩ := hP
  have hb2 : Below w.heap.size w ((w.alloc (.cells #[sv s, .slice PA n PC, sv h.trait, sv m, .slice a.1 a.2.1 a.2.2] 37)).alloc (.cells #[sv u, .slice v.1 v.2.1 v.2.2] 26)) := ((Below.refl _ _).alloc (Nat.le_refl _) _).alloc (by simp) _
  have hmt := matchTop h.type t (sv m) (.slice a.1 a.2.1 a.2.2) (sv u) (.slice v.1 v.2.1 v.2.2) _ (hh.ty.now (Nat.le_refl _) hb2) (ht.now (Nat.le_refl _) hb2) hsz
  have hfew := hh.few
  rw [← hPN] at hle hfew
  by_cases hr : (mtch h.type t ([], [])).1 = true
  · have hres : argsOf h t = some (h.params.map (argOf (mtch h.type t ([], [])).2)) := if_pos hr
    rw [hres]
    simp only [hr, if_true] at hmt
    have hfl := mtch_len h.type t ([], []) rfl
    generalize (mtch h.type t ([], [])).2 = f at *
    have hfl1 : f.1.length ≤ 1000000 := by have h5 : f.1.length ≤ 0 + h.type.size := hfl.2; omega
    have HFL := Lib.hid hfl.1
    clear hfl
    have HMT := Lib.hid hmt
    have HH := Lib.hid hh
    have HPN := Lib.hid hPN
    clear hmt hh ht hres hr hPN
    unfold HV.val
    go_enter Try.func17, Try.ntmps17
    go_wp2_with fail
    refine HMT.out.mono ?_
    rintro e w1 ⟨A3, A4, n3, c3, n4, c4, vs, rfl, hn3, hn4, hrow, hT, hb1⟩
    have hb3 : Below w.heap.size w w1 := hb2.trans (hb1.mono (by simp; omega))
    have hq := alloc2 w (.cells #[sv s, .slice PA n PC, sv h.trait, sv m, .slice a.1 a.2.1 a.2.2] 37) (.cells #[sv u, .slice v.1 v.2.1 v.2.2] 26)
    have hq1 := (hb1.block w.heap.size (by simp; omega)).trans hq.1
    have p1 : w1.cell? ⟨w.heap.size, 1, none⟩ = some (.slice PA n PC) := by rw [Lib.cell_of_heap hq1]; rfl
    have hsz1 : w.heap.size < w1.heap.size := lt_of_heap hq1
    have HN3 := Lib.hid hn3
    have HN4 := Lib.hid hn4
    have HQ1 := Lib.hid hq1
    clear hn3 hn4 hq hq1
    go_wp2_with (refine wpList_make_full _ rfl _ _ 24 rfl w.heap.size 26 i0 _ 2 Try.underlying24 hi hz0 hz1 .i64 .i64 (n : Int) (n : Int) n rfl rfl rfl rfl ?c1 ?c2 ?c3 ?_)
    case c1 => rw [hz2]; omega
    case c2 => unfold maxLen; omega
    case c3 => omega
    intro w2 hown hg2
    obtain ⟨z, hz3⟩ : ∃ z, (i0.zero) = some z := ⟨_, hz0⟩
    obtain ⟨vz, hvz1, hvz2⟩ := unflat2 n _ hown.1
    rw [← hvz2] at hown
    have hb23 : Below w1.heap.size w1 w2 := ⟨hg2.os, hg2.tape, hg2.output, hg2.size, fun i hi => hg2.block i hi (by simp)⟩
    have hgl : w1.heap.size < w2.heap.size := (hown.lt _ rfl).2
    have hF0 : Fill w1.heap.size n w.heap.size ([] : List Ty) vz w2 := ⟨hown, hvz1, Nat.zero_le _, fun i t p ht => by simp at ht⟩
    have p1' : w2.cell? ⟨w.heap.size, 1, none⟩ = some (.slice PA n PC) := ((belowCell hb23).1 _ _ hsz1).trans p1
    have HF0 := Lib.hid hF0
    clear hF0 hown hvz1 hvz2 hz3
    go_wp2_with fail
    go_loopw [30] (fun i wr => ∃ k : Nat, k ≤ n ∧ i = .int .i64 k ∧ ∃ vs' : List (Value × Value), Fill w1.heap.size n w.heap.size ((h.params.map (argOf f)).take k) vs' wr ∧ Below w1.heap.size w1 wr) (fun i _ => n - (intOf i).toNat)
    case atStart => exact ⟨0, Nat.zero_le _, rfl, vz, HF0.out, hb23⟩
    case round =>
      obtain ⟨k, hk, rfl, vs', hF, hb⟩ := hrel
      have hbw : Below w.heap.size w wr := hb3.trans (hb.mono hb3.size)
      have hsr := hb.size
      by_cases hlt : k < n
      · have hkp : k < h.params.length := by rw [← HPN.out]; exact hlt
        have hpk : (h.params.map pairV)[k]? = some (pairV h.params[k]) := by rw [List.getElem?_map, List.getElem?_eq_getElem hkp]; rfl
        obtain ⟨x1, x2⟩ := flat2_at _ _ _ hpk
        have hrowr := hrowP.keep (kept_below hbw)
        obtain ⟨ad, rfl, hS, e0⟩ := hrowr.at_ x1
        obtain ⟨ad', h', _, e1⟩ := hrowr.at_ x2
        obtain rfl := Option.some.inj h'
        have e1' : wr.cell? ⟨(ad.add (k * 2)).block, (ad.add (k * 2)).off + 1, none⟩ = some (sv h.params[k].2) := by rw [← addAdd] at e1; exact e1
        have e0' : wr.cell? (ad.add (k * 2)) = some (sv h.params[k].1) := e0
        have hgw : w1.heap.size < wr.heap.size := (hF.own.lt _ rfl).2
        have c0 : ∃ y, wr.cell? ⟨w1.heap.size, k * 2, none⟩ = some y := ⟨_, by rw [hF.own.cellAt _ (by omega)]; exact List.getElem?_eq_getElem (by rw [flat2_length, hF.len]; omega)⟩
        have c1 : ∃ y, wr.cell? ⟨w1.heap.size, k * 2 + 1, none⟩ = some y := ⟨_, by rw [hF.own.cellAt _ (by omega)]; exact List.getElem?_eq_getElem (by rw [flat2_length, hF.len]; omega)⟩
        obtain ⟨y0, c0⟩ := c0
        obtain ⟨y1, c1⟩ := c1
        have z0 : wr.frozen? ⟨w1.heap.size, k * 2, none⟩ = false := hF.own.frozenAt _
        have z1 : wr.frozen? ⟨w1.heap.size, k * 2 + 1, none⟩ = false := hF.own.frozenAt _
        have HF := Lib.hid hF
        clear hF e0 e1 x1 x2 hpk h' hrowr
        have hlk : ((h.params.map (argOf f)).take k).length = k := by rw [List.length_take, List.length_map]; omega
        have hF1 := HF.out.push (t := errTy) (u := sv errName) (v := .slice none 0 0) (by rw [hlk]; exact hlt) (err_is _ _)
        rw [hlk] at hF1
        have hF2 := hF1.kept ((Below.refl _ _).alloc (Nat.le_refl _) (.cells #[.string (bs h.params[k].1), .string (bs h.params[k].2)] 39))
        have hb33 : Below w1.heap.size w1 (((wr.setCell ⟨w1.heap.size, k * 2, none⟩ (sv errName)).setCell ⟨w1.heap.size, k * 2 + 1, none⟩ (.slice none 0 0)).alloc (.cells #[.string (bs h.params[k].1), .string (bs h.params[k].2)] 39)) :=
          ((hb.setCell (p := ⟨w1.heap.size, k * 2, none⟩) (Nat.le_refl _) _).setCell (p := ⟨w1.heap.size, k * 2 + 1, none⟩) (Nat.le_refl _) _).alloc (by rw [sizeSet, sizeSet]; exact hsr) _
        have HLK := Lib.hid hlk
        have HF2 := Lib.hid hF2
        have HB33 := Lib.hid hb33
        have hks : (h.params.map (argOf f)).take (k + 1) = (h.params.map (argOf f)).take k ++ [argOf f h.params[k]] := by
          rw [List.take_succ_eq_append_getElem (by rw [List.length_map]; exact hkp), List.getElem_map]
        have HKS := Lib.hid hks
        clear hlk hF1 hF2 hb33 hks
        go_wp2_with fail
        have hix := index_any A3 c3 _ f.1 h.params[k].1 _ (hrow.keep ((kept_below HB33.out).sub fun y hy => hy.2)) hfl1
        rw [← HN3.out] at hix
        rcases idx_range f.1 h.params[k].1 0 with hi1 | ⟨j, hj, hi1⟩
        · have har : argOf f h.params[k] = errTy := by rw [argOf, hi1]; rfl
          rw [hi1] at hix
          have HIX := Lib.hid hix
          have HAR := Lib.hid har
          clear hix hi1 har
          refine HIX.out.mono ?_
          rintro e w4 ⟨rfl, rfl⟩
          go_wp2_with fail
          go_roundw
          case rel => exact ⟨k + 1, by omega, by go_num, _, by rw [HKS.out, HAR.out]; exact HF2.out, HB33.out⟩
          case measure => simp [intOf]; omega
        · rw [Nat.zero_add] at hi1
          have hj2 : j < f.2.length := by rw [← HFL.out]; exact hj
          have har : argOf f h.params[k] = f.2[j] := by
            rw [argOf, hi1, if_pos (by omega), show ((j : Int)).toNat = j from by omega, List.getElem?_eq_getElem hj2]
            rfl
          rw [hi1] at hix
          have hT3 := hT.keep ((kept_below HB33.out).sub fun y hy => hy.2)
          obtain ⟨ad2, uy, vy, rfl, hSy, d0, d1, hty⟩ := hT3.at_ (List.getElem?_eq_getElem hj2)
          obtain ⟨uy, vy, rfl, rfl⟩ := hty.shape
          have hcap := HF2.out.own
          have q0 : ∃ y, (((wr.setCell ⟨w1.heap.size, k * 2, none⟩ (sv errName)).setCell ⟨w1.heap.size, k * 2 + 1, none⟩ (.slice none 0 0)).alloc (.cells #[.string (bs h.params[k].1), .string (bs h.params[k].2)] 39)).cell? ⟨w1.heap.size, k * 2, none⟩ = some y := ⟨_, by rw [hcap.cellAt _ (by omega)]; exact List.getElem?_eq_getElem (by rw [flat2_length, HF2.out.len]; omega)⟩
          have q1 : ∃ y, (((wr.setCell ⟨w1.heap.size, k * 2, none⟩ (sv errName)).setCell ⟨w1.heap.size, k * 2 + 1, none⟩ (.slice none 0 0)).alloc (.cells #[.string (bs h.params[k].1), .string (bs h.params[k].2)] 39)).cell? ⟨w1.heap.size, k * 2 + 1, none⟩ = some y := ⟨_, by rw [hcap.cellAt _ (by omega)]; exact List.getElem?_eq_getElem (by rw [flat2_length, HF2.out.len]; omega)⟩
          obtain ⟨r0, q0⟩ := q0
          obtain ⟨r1, q1⟩ := q1
          have zz0 := hcap.frozenAt (k * 2)
          have zz1 := hcap.frozenAt (k * 2 + 1)
          have HIX := Lib.hid hix
          have HAR := Lib.hid har
          have hj4 : j < n4 := by rw [HN4.out]; exact hj2
          clear hix hi1 har hcap hT3 hT
          refine HIX.out.mono ?_
          rintro e w4 ⟨rfl, rfl⟩
          clear HIX
          generalize ((wr.setCell ⟨w1.heap.size, k * 2, none⟩ (sv errName)).setCell ⟨w1.heap.size, k * 2 + 1, none⟩ (.slice none 0 0)).alloc (.cells #[.string (bs h.params[k].1), .string (bs h.params[k].2)] 39) = W3 at *
          have hF4 := HF2.out.pop.push (t := f.2[j]) (by rw [HLK.out]; exact hlt) (hty.more fun y hy => ⟨by have := hy.1; simp at this; omega, by have := HB33.out.size; have := hy.2; omega, by have := hy.2; omega⟩)
          rw [HLK.out] at hF4
          have hB4 : Below w1.heap.size w1 ((W3.setCell ⟨w1.heap.size, k * 2, none⟩ (sv uy)).setCell ⟨w1.heap.size, k * 2 + 1, none⟩ (.slice vy.1 vy.2.1 vy.2.2)) := (HB33.out.setCell (p := ⟨w1.heap.size, k * 2, none⟩) (Nat.le_refl _) _).setCell (p := ⟨w1.heap.size, k * 2 + 1, none⟩) (Nat.le_refl _) _
          have HF4 := Lib.hid hF4
          have HB4 := Lib.hid hB4
          clear hF4 hB4
          go_wp2_with fail
          go_roundw
          case rel => exact ⟨k + 1, by omega, by go_num, _, by rw [HKS.out, HAR.out]; exact HF4.out, HB4.out⟩
          case measure => simp [intOf]; omega
      · have hkn : k = n := by omega
        have hln : (h.params.map (argOf f)).length = n := by rw [List.length_map, HPN.out]
        have htk : (h.params.map (argOf f)).take k = h.params.map (argOf f) := List.take_of_length_le (by omega)
        rw [htk] at hF
        have HF := Lib.hid hF
        have HLN := Lib.hid hln
        have hg : ¬ k < n := hlt
        clear hkn htk hln hF
        go_wp2_with fail
        go_ret2
        refine ⟨some ⟨w1.heap.size, 0, none⟩, n, n, vs', rfl, HLN.out.symm, HF.out.done HLN.out, hbw⟩
  · have hres : argsOf h t = none := if_neg hr
    rw [hres]
    have hrf : (mtch h.type t ([], [])).1 = false := by simpa using hr
    rw [hrf] at hmt
    simp only [Bool.false_eq_true, if_false] at hmt
    have HMT := Lib.hid hmt
    clear hmt hh ht hres hr hrf hPN
    unfold HV.val
    go_enter Try.func17, Try.ntmps17
    go_wp2_with fail
    refine HMT.out.mono ?_
    rintro e w1 ⟨rfl, hb1⟩
    go_wp2_with fail
    go_ret2
    exact ⟨rfl, hb2.trans (hb1.mono (by simp; omega))⟩
end Go.Proofs.Ytkoddmgbpjmohaa
