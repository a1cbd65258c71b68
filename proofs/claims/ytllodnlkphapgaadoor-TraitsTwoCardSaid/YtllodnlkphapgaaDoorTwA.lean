/-
  The walk of recompilelaw12.TraitsTwo (printed by genTwo.py with head.tw.txt).
  Conditions: the numbers are ints.
  TraitsTwo at whatever numbers.
  Conditions: the numbers are ints.
-/
import Derived.Test.YtllodnlkphapgaaDoorOvf
import Derived.Test.YtllodnlkphapgaaDoorMix
import Derived.Test.YtllodnlkphapgaaDoorHdrs
import Derived.Test.YtllodnlkphapgaaDoorPlainT
import Derived.Test.YtllodnlkphapgaaDoorAwake
namespace Go.Proofs.YtllodnlkphapgaaDoor
section
open Go.RowKit
def selPhi (b : Bool) (i : Nat) (v : Value) (_ : World) : Prop :=
  if i = 6 ∨ i = 7 then ∃ a1 a2, v = .tuple #[a1, a2, .bool b] else if i = 10 then v = .bool b else True
theorem selPhi_go {b : Bool} (i : Nat) (v : Value) (w w' : World) (h : selPhi b i v w) (_ : Below w.heap.size w w') : selPhi b i v w' := h
theorem Hds.one_at {w : World} {S : Nat → Prop} {A : Option Addr} {hs : List Hdr} {qs : List HV} {h : Hdr} (H : Hds w S A hs qs) (k c : Nat) (hk : hs[k]? = some h) (hc : hs.length ≤ c) : ∃ q, Hds w S (if c = k then A else A.map (·.add (k * 5))) [h] [q] := by
  have hlt := (List.getElem?_eq_some_iff.1 hk).1
  have hq : qs[k]? = some (qs[k]'(by rw [H.len]; exact hlt)) := List.getElem?_eq_getElem _
  refine ⟨qs[k]'(by rw [H.len]; exact hlt), ⟨rfl, ?_, fun i x q hx hq' => ?_, fun x hx => ?_, by simp⟩⟩
  · have h0 : flat5 [qs[k]'(by rw [H.len]; exact hlt)] = ((flat5 qs).drop (k * 5)).take 5 := by
      have key : ∀ (k : Nat) (qs : List HV) (q : HV), qs[k]? = some q → flat5 [q] = ((flat5 qs).drop (k * 5)).take 5 := by
        intro k
        induction k with
        | zero =>
          intro qs q h
          cases qs with
          | nil => simp at h
          | cons a r =>
            simp at h
            subst h
            simp [flat5, HV.cells]
        | succ k ih =>
          intro qs q h
          cases qs with
          | nil => simp at h
          | cons a r =>
            have := ih r q (by simpa using h)
            have e : (k + 1) * 5 = k * 5 + 5 := by omega
            rw [this, e]
            simp [flat5, HV.cells]
      exact key k qs _ hq
    rw [h0]
    refine (H.row.sub _ fun ad hA _ => ?_).front 5
    rw [if_neg (by omega), hA]
    rfl
  · have hi : i = 0 := by
      have := (List.getElem?_eq_some_iff.1 hx).1
      simpa using this
    subst hi
    simp at hx hq'
    subst hx hq'
    exact H.each k _ _ hk hq
  · rw [List.mem_singleton.1 hx]
    exact H.small h (List.mem_of_getElem? hk)
/-- Select out of one header. -/
theorem sel_one (h : Hdr) (t : Ty) (A : Option Addr) (c : Nat) (q : HV) (u v : Value) (w : World) (hh : Hds w (Lt w.heap.size) A [h] [q]) (ht : TyIs w (Lt w.heap.size) t u v) :
    Calls Tryd.prog 11 #[.slice A 1 c, .agg #[u, v]] w fun e w' => ∃ a1 a2, e = .returned (.tuple #[a1, a2, .bool (mtch h.type t ([], [])).1]) ∧ Below w.heap.size w w' := by
  refine (select_any [h] t A c [q] u v w hh ht).mono fun e w' hr => ?_
  cases hm : (mtch h.type t ([], [])).1 with
  | true =>
    have : selOf [h] t 0 = some (0, h.params.map (argOf (mtch h.type t ([], [])).2)) := by simp [selOf, argsOf, hm]
    rw [this] at hr
    obtain ⟨A', n, c', vs, rfl, _, _, hb⟩ := hr
    exact ⟨_, _, rfl, hb⟩
  | false =>
    have : selOf [h] t 0 = none := by simp [selOf, argsOf, hm]
    rw [this] at hr
    obtain ⟨rfl, hb⟩ := hr
    exact ⟨_, _, rfl, hb⟩

set_option maxHeartbeats 32000000 in
set_option maxRecDepth 100000 in
theorem two_light (xs : List Int) (TA : Option Addr) (tc : Nat) (w : World) (hA : Row w (Lt w.heap.size) TA (xs.map (Value.int .i64))) (hn : xs.length ≤ 400) (hf : ∀ x ∈ xs, -9223372036854775808 ≤ x ∧ x ≤ 9223372036854775807) :
    Calls Tryd.prog 3 #[.slice TA xs.length tc] w fun e w' => e = .returned (.bool true) ∧ Below w.heap.size w w' := by
  have hli := light_any xs.length TA tc w
  rw [show decide (xs.length ≤ 400) = true by simpa using hn] at hli
  have hro := roll_any xs TA tc w hA hn hf
  have HLI := Lib.hid hli
  have HRO := Lib.hid hro
  clear hli hro hA hf
  generalize xs.length = nx at *
  go_enter Tryd.func3, Tryd.ntmps3
  go_wp2_with fail
  refine HLI.out.mono ?_
  rintro e w0 ⟨rfl, rfl⟩
  go_wp2_with fail
  refine HRO.out.mono ?_
  rintro e w1 ⟨rfl, hD1, hb1⟩
  have HDR := Lib.hid (headers_any _ xs _ hD1)
  have hs1 := hD1.lt
  have HB1 := Lib.hid hb1
  clear hD1 hb1 HLI HRO
  go_wp2_with fail
  refine HDR.out.mono ?_
  rintro e w2 ⟨hs, LA, lc, qs, rfl, hmade, ⟨_, hlc1, hlc2⟩, hH, hD2, hK2⟩
  have hs2 := hK2.size
  have HB2 : Hid (Below w.heap.size w w2) := Lib.hid (HB1.out.trans ⟨hK2.os, hK2.tape, hK2.output, hK2.size, fun x hx => hK2.block x (by omega) (by omega)⟩)
  have PLN := Lib.hid (plain_any w.heap.size xs 3 3 false w2 rfl (by decide) hD2)
  have HM := Lib.hid hmade
  have HH2 := Lib.hid hH
  have hd2 := hD2.lt
  clear hK2 hmade hH hD2 HB1 HDR
  obtain ⟨n, hnn⟩ : ∃ n, n = hs.length := ⟨_, rfl⟩
  rw [← hnn] at hlc1 ⊢
  have HN := Lib.hid hnn
  clear hnn
  go_wp2_with fail
  refine PLN.out.mono ?_
  rintro e w5 ⟨t, u, v, rfl, hP, hT, hD5, hK5⟩
  obtain ⟨un, va, rfl, rfl⟩ := hT.shape
  have hs5 := hK5.size
  have HB5 := Lib.hid (HB2.out.trans ⟨hK5.os, hK5.tape, hK5.output, hK5.size, fun x hx => hK5.block x (by omega) (by omega)⟩ : Below w.heap.size w w5)
  have HH5 := Lib.hid ((HH2.out.keep (hK5.kept fun y hy => ⟨hy.2, by have := hy.1; omega⟩)).more (S' := Lt w5.heap.size) fun y hy => Nat.lt_of_lt_of_le hy.2 hK5.size)
  have HT5 := Lib.hid (hT.more (S' := Lt w5.heap.size) fun y hy => hy.2)
  clear hP hT hD5 hK5 HB2 HH2 PLN
  have hbx : Below w5.heap.size w5 (w5.alloc (.cells #[sv un, .slice va.1 va.2.1 va.2.2] 31)) := (Below.refl _ _).alloc (Nat.le_refl _) _
  have hBX := alloc1 w5 (.cells #[sv un, .slice va.1 va.2.1 va.2.2] 31)
  have hnl : n ≤ 6 := by rw [HN.out]; exact HM.out.1
  have HPL : Hid (∀ x ∈ hs, SmallH x) := Lib.hid fun x hx => ⟨(HM.out.2 x hx).1.2.2, by have := (HM.out.2 x hx).1.1; omega⟩
  have OVL := overlaps_any hs LA lc qs _ (HH5.out.now (Nat.le_refl _) hbx) (by rw [← HN.out]; omega) (by rw [← HN.out]; exact hlc1) HPL.out
  rw [← HN.out] at OVL
  have OVL := Lib.hid OVL
  go_wp2_with fail
  generalize w5.alloc (.cells #[sv un, .slice va.1 va.2.1 va.2.2] 31) = wx at *
  obtain ⟨xb, hxb⟩ : ∃ xb, xb = w5.heap.size := ⟨_, rfl⟩
  rw [← hxb] at hBX ⊢
  have HXB := Lib.hid hxb
  clear hxb
  refine OVL.out.mono ?_
  rintro e w6 ⟨O, OA, oc, rfl, hRO, hOl, hOv, hb6⟩
  have hb56 := hbx.trans (hb6.mono hbx.size)
  obtain ⟨on, hon⟩ : ∃ on, on = O.length := ⟨_, rfl⟩
  rw [← hon] at hOl ⊢
  have hon6 : on ≤ 6 := by have := HN.out; omega
  have HON := Lib.hid hon
  have HOV := Lib.hid hOv
  have HRO := Lib.hid hRO
  have hBX6 := (hb6.block xb (lt_of_heap hBX)).trans hBX
  have HXC : Hid (∀ w', Below w6.heap.size w6 w' → w'.cell? ⟨xb, 0, none⟩ = some (sv un) ∧ w'.cell? ⟨xb, 1, none⟩ = some (.slice va.1 va.2.1 va.2.2)) := Lib.hid fun w' hb => by
    have := (hb.block xb (lt_of_heap hBX6)).trans hBX6
    exact ⟨(Lib.cell_of_heap this _).trans rfl, (Lib.cell_of_heap this _).trans rfl⟩
  have HH6 := Lib.hid (HH5.out.now (Nat.le_refl _) hb56)
  have HT6 := Lib.hid (HT5.out.now (Nat.le_refl _) hb56)
  have HB6 := Lib.hid (HB5.out.trans (hb56.mono HB5.out.size))
  clear hon hOv hRO hBX hBX6 hb6 hbx hb56 HB5 HH5 HT5 OVL
  go_wp2_with fail
  go_loopw [7] (fun iv wr => ∃ i : Nat, i ≤ n ∧ iv = .int .i64 (i : Int) ∧ Below w6.heap.size w6 wr) (fun iv _ => n - (intOf iv).toNat)
  case atStart => exact ⟨0, Nat.zero_le _, rfl, Below.refl _ _⟩
  case round =>
    obtain ⟨i, hin, rfl, hbi⟩ := hrel
    by_cases hlt : i < n
    · have hil : i < hs.length := by rw [← HN.out]; exact hlt
      have hxi : hs[i]? = some hs[i] := List.getElem?_eq_getElem hil
      generalize hs[i] = xi at *
      have HXI := Lib.hid hxi
      obtain ⟨ad, qi, rfl, hS, -, -, -, eti, -, -, hHi⟩ := HH6.out.at_ hxi
      have hti := hHi.t
      rw [hti] at eti
      have HTI := Lib.hid eti
      have HADL : Hid (ad.block < w6.heap.size) := Lib.hid hS
      have HBI := Lib.hid hbi
      clear hxi hil hS eti hHi hti hbi
      go_wp2_with fail
      go_loopw [8] (fun kv wr => ∃ k : Nat, k ≤ i ∧ kv = .int .i64 (k : Int) ∧ Below w6.heap.size w6 wr) (fun kv _ => i - (intOf kv).toNat)
      case atStart => exact ⟨0, Nat.zero_le _, rfl, HBI.out⟩
      case round =>
        obtain ⟨k, hkin, rfl, hbk⟩ := hrel
        by_cases hki : k < i
        · have hkl : k < hs.length := by rw [← HN.out]; omega
          have hxk : hs[k]? = some hs[k] := List.getElem?_eq_getElem hkl
          generalize hs[k] = xk at *
          have HXK := Lib.hid hxk
          obtain ⟨ad', qk, hae, -, -, -, -, etk, -, -, hHk⟩ := HH6.out.at_ hxk
          obtain rfl := Option.some.inj hae
          have htk := hHk.t
          rw [htk] at etk
          have HTK0 := Lib.hid etk
          obtain ⟨q1, hone⟩ := HH6.out.one_at i lc HXI.out (by rw [← HN.out]; exact hlc1)
          obtain ⟨q2, hone2⟩ := HH6.out.one_at k lc hxk (by rw [← HN.out]; exact hlc1)
          obtain ⟨Sa, hSa⟩ : ∃ Sa, Sa = (if lc = i then some ad else (some ad).map (·.add (i * 5))) := ⟨_, rfl⟩
          obtain ⟨Sb, hSb⟩ : ∃ Sb, Sb = (if lc = k then some ad else (some ad).map (·.add (k * 5))) := ⟨_, rfl⟩
          rw [← hSa] at hone
          rw [← hSb] at hone2
          obtain ⟨ba, hba⟩ : ∃ ba, ba = (mtch xi.type t ([], [])).1 := ⟨_, rfl⟩
          obtain ⟨bb, hbb⟩ : ∃ bb, bb = (mtch xk.type t ([], [])).1 := ⟨_, rfl⟩
          have HSELa : Hid (∀ w', Below w6.heap.size w6 w' → Calls Tryd.prog 11 #[.slice Sa 1 (lc - i), .agg #[sv un, .slice va.1 va.2.1 va.2.2]] w' fun e w'' => ∃ a1 a2, e = .returned (.tuple #[a1, a2, .bool ba]) ∧ Below w'.heap.size w' w'') := Lib.hid fun w' hb => by
            rw [hba]
            exact sel_one xi t Sa _ q1 _ _ w' (hone.now (Nat.le_refl _) hb) (HT6.out.now (Nat.le_refl _) hb)
          have HSELb : Hid (∀ w', Below w6.heap.size w6 w' → Calls Tryd.prog 11 #[.slice Sb 1 (lc - k), .agg #[sv un, .slice va.1 va.2.1 va.2.2]] w' fun e w'' => ∃ a1 a2, e = .returned (.tuple #[a1, a2, .bool bb]) ∧ Below w'.heap.size w' w'') := Lib.hid fun w' hb => by
            rw [hbb]
            exact sel_one xk t Sb _ q2 _ _ w' (hone2.now (Nat.le_refl _) hb) (HT6.out.now (Nat.le_refl _) hb)
          have HSa := Lib.hid hSa
          have HSb := Lib.hid hSb
          have HBAe := Lib.hid hba
          have HBBe := Lib.hid hbb
          have HBLa := Lib.hid hbk
          have hwi : IntKind.i64.wrap ((i : Int) + 1) = (i : Int) + 1 := by rw [IntKind.wrap_i64]; omega
          have hwk : IntKind.i64.wrap ((k : Int) + 1) = (k : Int) + 1 := by rw [IntKind.wrap_i64]; omega
          have hti1 : ((i : Int) + 1).toNat = i + 1 := by omega
          have htk1 : ((k : Int) + 1).toNat = k + 1 := by omega
          have hi0 : (0 : Int) ≤ (i : Int) + 1 := by omega
          have hk0 : (0 : Int) ≤ (k : Int) + 1 := by omega
          have hlci : ¬ lc = i := by omega
          have hlck : ¬ lc = k := by omega
          have hi1 : (i : Int) + 1 ≤ (lc : Int) := by omega
          have hk1 : (k : Int) + 1 ≤ (lc : Int) := by omega
          clear hxk hkl etk hHk htk hae hone hone2 hSa hSb hba hbb hbk
          go_wp2_with fail
          refine wp_region_stable (fun w' => w'.cell? ⟨xb, 0, none⟩ = some (sv un) ∧ w'.cell? ⟨xb, 1, none⟩ = some (.slice va.1 va.2.1 va.2.2)) (fun w w' => Below w.heap.size w w') (selPhi ba) [0, 1, 2, 3, 4, 5] [(6, 47), (7, 40), (8, 48), (9, 49), (10, 50), (11, 9), (12, 10)] [13] (by kernel_rfl) (by kernel_rfl) (by kernel_rfl) (Below.refl _ _) (fun a b c h h' => h.trans (h'.mono h.size)) selPhi_go ?sa ?ha
          case sa => exact HXC.out _ (HBLa.out.drew)
          case ha =>
            simp only [opsAt, List.filterMap_cons, List.filterMap_nil, List.getElem?_toArray, List.getElem?_cons_succ, List.getElem?_cons_zero]
            refine wpLoad_step ?va0 rfl (fun w' hS => ?ya0) ?ka0
            case ya0 =>
              obtain ⟨h1, h2⟩ := hS
              go_simp
              try rfl
            case ka0 =>
            go_simp
            refine wpLoad_step ?va1 rfl (fun w' hS => ?ya1) ?ka1
            case ya1 =>
              obtain ⟨h1, h2⟩ := hS
              go_simp
              try rfl
            case ka1 =>
            go_simp
            refine wpLoad_step ?va2 rfl (fun w' hS => ?ya2) ?ka2
            case ya2 =>
              obtain ⟨h1, h2⟩ := hS
              go_simp
              try rfl
            case ka2 =>
            go_simp
            refine wpLoad_step ?va3 rfl (fun w' hS => ?ya3) ?ka3
            case ya3 =>
              obtain ⟨h1, h2⟩ := hS
              go_simp
              try rfl
            case ka3 =>
            go_simp
            refine wpLoad_step (.slice Sa 1 (lc - i)) rfl (fun w' hS => ?ya4) ?ka4
            case ya4 =>
              obtain ⟨h1, h2⟩ := hS
              go_simp
              rw [HSa.out, if_neg hlci]
              try rfl
            case ka4 =>
            go_simp
            refine wpLoad_step ?va5 rfl (fun w' hS => ?ya5) ?ka5
            case ya5 =>
              obtain ⟨h1, h2⟩ := hS
              go_simp
              try rfl
            case ka5 =>
            go_simp
            refine wpLoad_nil ?_
            refine ⟨?za, ?oa, ?fa⟩
            case za =>
              intro x hx
              simp only [List.mem_cons, List.not_mem_nil, or_false] at hx
              rcases hx with rfl | rfl | rfl | rfl | rfl | rfl | rfl <;> simp
            case oa =>
              intro x hx
              simp only [List.mem_cons, List.not_mem_nil, or_false] at hx
              rcases hx with rfl | rfl | rfl | rfl | rfl | rfl | rfl
              · intro a w7 K hI hK
                have e1 := hI.old 45 _ rfl (by decide)
                have e2 := hI.old 46 _ rfl (by decide)
                have hbl7 : Below w6.heap.size w6 w7 := (HBLa.out.drew).trans (hI.world.mono HBLa.out.size)
                have hS := hI.hold
                have hK : ∀ v w', Below w7.heap.size w7 w' → (w'.cell? ⟨xb, 0, none⟩ = some (sv un) ∧ w'.cell? ⟨xb, 1, none⟩ = some (.slice va.1 va.2.1 va.2.2)) → (∃ a1 a2, v = .tuple #[a1, a2, .bool ba]) → K (a.put (some 47) v) w' := hK
                have SL := Lib.hid (HSELa.out w7 hbl7)
                clear hI
                refine wpOp_go rfl rfl ?_
                go_simp
                refine SL.out.mono ?_
                rintro e w8 ⟨a1, a2, rfl, hb8⟩
                exact hK _ _ hb8 (HXC.out _ (hbl7.trans (hb8.mono hbl7.size))) ⟨a1, a2, rfl⟩
              · intro a w7 K hI hK
                obtain ⟨v47, e47, a1, a2, hv⟩ := hI.new (6, 47) (by decide) (by kernel_rfl)
                have hS := hI.hold
                have hK : ∀ v w', Below w7.heap.size w7 w' → (w'.cell? ⟨xb, 0, none⟩ = some (sv un) ∧ w'.cell? ⟨xb, 1, none⟩ = some (.slice va.1 va.2.1 va.2.2)) → (∃ a1 a2, v = .tuple #[a1, a2, .bool ba]) → K (a.put (some 40) v) w' := hK
                subst hv
                clear hI
                refine wpOp_go rfl rfl ?_
                go_simp
                exact hK _ _ (Below.refl _ _) hS ⟨a1, a2, rfl⟩
              · intro a w7 K hI hK
                obtain ⟨v47, e47, a1, a2, hv⟩ := hI.new (7, 40) (by decide) (by kernel_rfl)
                have hS := hI.hold
                have hK : ∀ v w', Below w7.heap.size w7 w' → (w'.cell? ⟨xb, 0, none⟩ = some (sv un) ∧ w'.cell? ⟨xb, 1, none⟩ = some (.slice va.1 va.2.1 va.2.2)) → True → K (a.put (some 48) v) w' := hK
                subst hv
                clear hI
                refine wpOp_go rfl rfl ?_
                go_simp
                exact hK _ _ (Below.refl _ _) hS trivial
              · intro a w7 K hI hK
                obtain ⟨v47, e47, a1, a2, hv⟩ := hI.new (7, 40) (by decide) (by kernel_rfl)
                have hS := hI.hold
                have hK : ∀ v w', Below w7.heap.size w7 w' → (w'.cell? ⟨xb, 0, none⟩ = some (sv un) ∧ w'.cell? ⟨xb, 1, none⟩ = some (.slice va.1 va.2.1 va.2.2)) → True → K (a.put (some 49) v) w' := hK
                subst hv
                clear hI
                refine wpOp_go rfl rfl ?_
                go_simp
                exact hK _ _ (Below.refl _ _) hS trivial
              · intro a w7 K hI hK
                obtain ⟨v47, e47, a1, a2, hv⟩ := hI.new (7, 40) (by decide) (by kernel_rfl)
                have hS := hI.hold
                have hK : ∀ v w', Below w7.heap.size w7 w' → (w'.cell? ⟨xb, 0, none⟩ = some (sv un) ∧ w'.cell? ⟨xb, 1, none⟩ = some (.slice va.1 va.2.1 va.2.2)) → v = .bool ba → K (a.put (some 50) v) w' := hK
                subst hv
                clear hI
                refine wpOp_go rfl rfl ?_
                go_simp
                exact hK _ _ (Below.refl _ _) hS rfl
              · intro a w7 K hI hK
                obtain ⟨v47, e47, _⟩ := hI.new (8, 48) (by decide) (by kernel_rfl)
                have hS := hI.hold
                have hK : ∀ v w', Below w7.heap.size w7 w' → (w'.cell? ⟨xb, 0, none⟩ = some (sv un) ∧ w'.cell? ⟨xb, 1, none⟩ = some (.slice va.1 va.2.1 va.2.2)) → True → K (a.put (some 9) v) w' := hK
                clear hI
                refine wpOp_go rfl rfl ?_
                go_simp
                exact hK _ _ (Below.refl _ _) hS trivial
              · intro a w7 K hI hK
                obtain ⟨v47, e47, _⟩ := hI.new (9, 49) (by decide) (by kernel_rfl)
                have hS := hI.hold
                have hK : ∀ v w', Below w7.heap.size w7 w' → (w'.cell? ⟨xb, 0, none⟩ = some (sv un) ∧ w'.cell? ⟨xb, 1, none⟩ = some (.slice va.1 va.2.1 va.2.2)) → True → K (a.put (some 10) v) w' := hK
                clear hI
                refine wpOp_go rfl rfl ?_
                go_simp
                exact hK _ _ (Below.refl _ _) hS trivial
            case fa =>
              intro vs wna hbn hSn hΦ
              have q10 : vs 10 = .bool ba := hΦ (10, 50) (by decide)
              simp only [putD, q10]
              clear q10 hΦ
              generalize vs 6 = a6
              generalize vs 7 = a7
              generalize vs 8 = a8
              generalize vs 9 = a9
              generalize vs 11 = a11
              generalize vs 12 = a12
              clear vs
              have HBNa : Hid (Below w6.heap.size w6 wna) := Lib.hid ((HBLa.out.drew).trans (hbn.mono HBLa.out.size))
              clear hbn hSn
              go_simp
              simp only [opsAt, List.filterMap_cons, List.filterMap_nil, List.getElem?_toArray, List.getElem?_cons_succ, List.getElem?_cons_zero]
              go_wp2
              refine NoPanic.normal ?_
              have HBLb : Hid (Below w6.heap.size w6 wna) := HBNa
              go_wp2_with fail
              refine wp_region_stable (fun w' => w'.cell? ⟨xb, 0, none⟩ = some (sv un) ∧ w'.cell? ⟨xb, 1, none⟩ = some (.slice va.1 va.2.1 va.2.2)) (fun w w' => Below w.heap.size w w') (selPhi bb) [0, 1, 2, 3, 4, 5] [(6, 58), (7, 51), (8, 59), (9, 60), (10, 61), (11, 12), (12, 13)] [13] (by kernel_rfl) (by kernel_rfl) (by kernel_rfl) (Below.refl _ _) (fun a b c h h' => h.trans (h'.mono h.size)) selPhi_go ?sb ?hb
              case sb => exact HXC.out _ (HBLb.out.drew)
              case hb =>
                simp only [opsAt, List.filterMap_cons, List.filterMap_nil, List.getElem?_toArray, List.getElem?_cons_succ, List.getElem?_cons_zero]
                refine wpLoad_step ?vb0 rfl (fun w' hS => ?yb0) ?kb0
                case yb0 =>
                  obtain ⟨h1, h2⟩ := hS
                  go_simp
                  try rfl
                case kb0 =>
                go_simp
                refine wpLoad_step ?vb1 rfl (fun w' hS => ?yb1) ?kb1
                case yb1 =>
                  obtain ⟨h1, h2⟩ := hS
                  go_simp
                  try rfl
                case kb1 =>
                go_simp
                refine wpLoad_step ?vb2 rfl (fun w' hS => ?yb2) ?kb2
                case yb2 =>
                  obtain ⟨h1, h2⟩ := hS
                  go_simp
                  try rfl
                case kb2 =>
                go_simp
                refine wpLoad_step ?vb3 rfl (fun w' hS => ?yb3) ?kb3
                case yb3 =>
                  obtain ⟨h1, h2⟩ := hS
                  go_simp
                  try rfl
                case kb3 =>
                go_simp
                refine wpLoad_step (.slice Sb 1 (lc - k)) rfl (fun w' hS => ?yb4) ?kb4
                case yb4 =>
                  obtain ⟨h1, h2⟩ := hS
                  go_simp
                  rw [HSb.out, if_neg hlck]
                  try rfl
                case kb4 =>
                go_simp
                refine wpLoad_step ?vb5 rfl (fun w' hS => ?yb5) ?kb5
                case yb5 =>
                  obtain ⟨h1, h2⟩ := hS
                  go_simp
                  try rfl
                case kb5 =>
                go_simp
                refine wpLoad_nil ?_
                refine ⟨?zb, ?ob, ?fb⟩
                case zb =>
                  intro x hx
                  simp only [List.mem_cons, List.not_mem_nil, or_false] at hx
                  rcases hx with rfl | rfl | rfl | rfl | rfl | rfl | rfl <;> simp
                case ob =>
                  intro x hx
                  simp only [List.mem_cons, List.not_mem_nil, or_false] at hx
                  rcases hx with rfl | rfl | rfl | rfl | rfl | rfl | rfl
                  · intro a w7 K hI hK
                    have e1 := hI.old 56 _ rfl (by decide)
                    have e2 := hI.old 57 _ rfl (by decide)
                    have hbl7 : Below w6.heap.size w6 w7 := (HBLb.out.drew).trans (hI.world.mono HBLb.out.size)
                    have hS := hI.hold
                    have hK : ∀ v w', Below w7.heap.size w7 w' → (w'.cell? ⟨xb, 0, none⟩ = some (sv un) ∧ w'.cell? ⟨xb, 1, none⟩ = some (.slice va.1 va.2.1 va.2.2)) → (∃ a1 a2, v = .tuple #[a1, a2, .bool bb]) → K (a.put (some 58) v) w' := hK
                    have SL := Lib.hid (HSELb.out w7 hbl7)
                    clear hI
                    refine wpOp_go rfl rfl ?_
                    go_simp
                    refine SL.out.mono ?_
                    rintro e w8 ⟨a1, a2, rfl, hb8⟩
                    exact hK _ _ hb8 (HXC.out _ (hbl7.trans (hb8.mono hbl7.size))) ⟨a1, a2, rfl⟩
                  · intro a w7 K hI hK
                    obtain ⟨v47, e47, a1, a2, hv⟩ := hI.new (6, 58) (by decide) (by kernel_rfl)
                    have hS := hI.hold
                    have hK : ∀ v w', Below w7.heap.size w7 w' → (w'.cell? ⟨xb, 0, none⟩ = some (sv un) ∧ w'.cell? ⟨xb, 1, none⟩ = some (.slice va.1 va.2.1 va.2.2)) → (∃ a1 a2, v = .tuple #[a1, a2, .bool bb]) → K (a.put (some 51) v) w' := hK
                    subst hv
                    clear hI
                    refine wpOp_go rfl rfl ?_
                    go_simp
                    exact hK _ _ (Below.refl _ _) hS ⟨a1, a2, rfl⟩
                  · intro a w7 K hI hK
                    obtain ⟨v47, e47, a1, a2, hv⟩ := hI.new (7, 51) (by decide) (by kernel_rfl)
                    have hS := hI.hold
                    have hK : ∀ v w', Below w7.heap.size w7 w' → (w'.cell? ⟨xb, 0, none⟩ = some (sv un) ∧ w'.cell? ⟨xb, 1, none⟩ = some (.slice va.1 va.2.1 va.2.2)) → True → K (a.put (some 59) v) w' := hK
                    subst hv
                    clear hI
                    refine wpOp_go rfl rfl ?_
                    go_simp
                    exact hK _ _ (Below.refl _ _) hS trivial
                  · intro a w7 K hI hK
                    obtain ⟨v47, e47, a1, a2, hv⟩ := hI.new (7, 51) (by decide) (by kernel_rfl)
                    have hS := hI.hold
                    have hK : ∀ v w', Below w7.heap.size w7 w' → (w'.cell? ⟨xb, 0, none⟩ = some (sv un) ∧ w'.cell? ⟨xb, 1, none⟩ = some (.slice va.1 va.2.1 va.2.2)) → True → K (a.put (some 60) v) w' := hK
                    subst hv
                    clear hI
                    refine wpOp_go rfl rfl ?_
                    go_simp
                    exact hK _ _ (Below.refl _ _) hS trivial
                  · intro a w7 K hI hK
                    obtain ⟨v47, e47, a1, a2, hv⟩ := hI.new (7, 51) (by decide) (by kernel_rfl)
                    have hS := hI.hold
                    have hK : ∀ v w', Below w7.heap.size w7 w' → (w'.cell? ⟨xb, 0, none⟩ = some (sv un) ∧ w'.cell? ⟨xb, 1, none⟩ = some (.slice va.1 va.2.1 va.2.2)) → v = .bool bb → K (a.put (some 61) v) w' := hK
                    subst hv
                    clear hI
                    refine wpOp_go rfl rfl ?_
                    go_simp
                    exact hK _ _ (Below.refl _ _) hS rfl
                  · intro a w7 K hI hK
                    obtain ⟨v47, e47, _⟩ := hI.new (8, 59) (by decide) (by kernel_rfl)
                    have hS := hI.hold
                    have hK : ∀ v w', Below w7.heap.size w7 w' → (w'.cell? ⟨xb, 0, none⟩ = some (sv un) ∧ w'.cell? ⟨xb, 1, none⟩ = some (.slice va.1 va.2.1 va.2.2)) → True → K (a.put (some 12) v) w' := hK
                    clear hI
                    refine wpOp_go rfl rfl ?_
                    go_simp
                    exact hK _ _ (Below.refl _ _) hS trivial
                  · intro a w7 K hI hK
                    obtain ⟨v47, e47, _⟩ := hI.new (9, 60) (by decide) (by kernel_rfl)
                    have hS := hI.hold
                    have hK : ∀ v w', Below w7.heap.size w7 w' → (w'.cell? ⟨xb, 0, none⟩ = some (sv un) ∧ w'.cell? ⟨xb, 1, none⟩ = some (.slice va.1 va.2.1 va.2.2)) → True → K (a.put (some 13) v) w' := hK
                    clear hI
                    refine wpOp_go rfl rfl ?_
                    go_simp
                    exact hK _ _ (Below.refl _ _) hS trivial
                case fb =>
                  intro vs wnb hbn hSn hΦ
                  have q10 : vs 10 = .bool bb := hΦ (10, 61) (by decide)
                  simp only [putD, q10]
                  clear q10 hΦ
                  generalize vs 6 = a6
                  generalize vs 7 = a7
                  generalize vs 8 = a8
                  generalize vs 9 = a9
                  generalize vs 11 = a11
                  generalize vs 12 = a12
                  clear vs
                  have HBNb : Hid (Below w6.heap.size w6 wnb) := Lib.hid ((HBLb.out.drew).trans (hbn.mono HBLb.out.size))
                  clear hbn hSn
                  go_simp
                  simp only [opsAt, List.filterMap_cons, List.filterMap_nil, List.getElem?_toArray, List.getElem?_cons_succ, List.getElem?_cons_zero]
                  go_wp2
                  refine NoPanic.normal ?_
                  -- what both say
                  have hcI : Hid (∀ w', Below w6.heap.size w6 w' → w'.cell? ⟨(ad.add (i * 5)).block, (ad.add (i * 5)).off + 2, none⟩ = some (sv xi.trait)) := Lib.hid fun w' hb => (hb.cell (p := ⟨(ad.add (i * 5)).block, (ad.add (i * 5)).off + 2, none⟩) (by dsimp only; rw [blkAdd]; exact HADL.out)).trans HTI.out
                  have hcK : Hid (∀ w', Below w6.heap.size w6 w' → w'.cell? ⟨(ad.add (k * 5)).block, (ad.add (k * 5)).off + 2, none⟩ = some (sv xk.trait)) := Lib.hid fun w' hb => (hb.cell (p := ⟨(ad.add (k * 5)).block, (ad.add (k * 5)).off + 2, none⟩) (by dsimp only; rw [blkAdd]; exact HADL.out)).trans HTK0.out
                  have HTC : Hid (∀ w', Below w6.heap.size w6 w' → w'.cell? ⟨(ad.add (i * 5)).block, (ad.add (i * 5)).off + 2, none⟩ = some (sv xi.trait) ∧ w'.cell? ⟨(ad.add (k * 5)).block, (ad.add (k * 5)).off + 2, none⟩ = some (sv xk.trait)) := Lib.hid fun w' hb => ⟨hcI.out w' hb, hcK.out w' hb⟩
                  clear hcI hcK
                  have hii : (0 : Int) ≤ (i : Int) ∧ (i : Int) < (n : Int) := ⟨by omega, by omega⟩
                  have hkk : (0 : Int) ≤ (k : Int) ∧ (k : Int) < (n : Int) := ⟨by omega, by omega⟩
                  cases ba with
                  | false =>
                    go_wp2_with fail
                    refine wp_region_mix (fun w' => Below w6.heap.size w6 w') [(true, 0), (true, 1), (true, 2), (true, 3), (true, 4), (true, 5), (true, 6), (true, 7), (true, 8), (true, 9), (true, 10), (true, 11), (true, 12), (true, 13), (true, 14), (true, 15), (true, 16), (true, 17), (true, 18)] [] (by kernel_rfl) (by kernel_rfl) (HBNb.out.drew) ?mp
                    case mp =>
                    simp only [mixAt, opsAt, List.filterMap_cons, List.filterMap_nil, List.getElem?_toArray, List.getElem?_cons_succ, List.getElem?_cons_zero, Option.map_some]
                    obtain ⟨wm, hwm⟩ : ∃ wm, wm = wnb.drew := ⟨_, rfl⟩
                    have HBM : Hid (Below w6.heap.size w6 wm) := Lib.hid (by rw [hwm]; exact HBNb.out.drew)
                    rw [← hwm]
                    clear hwm
                    refine wpMix_load ?vp0 rfl (fun w' hS => ?yp0) ?kp0
                    case yp0 =>
                      obtain ⟨h1, h2⟩ := HTC.out w' hS
                      go_simp
                      try rfl
                    case kp0 =>
                    go_simp
                    refine wpMix_load ?vp1 rfl (fun w' hS => ?yp1) ?kp1
                    case yp1 =>
                      obtain ⟨h1, h2⟩ := HTC.out w' hS
                      go_simp
                      try rfl
                    case kp1 =>
                    go_simp
                    refine wpMix_load ?vp2 rfl (fun w' hS => ?yp2) ?kp2
                    case yp2 =>
                      obtain ⟨h1, h2⟩ := HTC.out w' hS
                      go_simp
                      try rfl
                    case kp2 =>
                    go_simp
                    refine wpMix_skip rfl ?_
                    go_simp
                    refine wpMix_skip rfl ?_
                    go_simp
                    refine wpMix_load ?vp5 rfl (fun w' hS => ?yp5) ?kp5
                    case yp5 =>
                      obtain ⟨h1, h2⟩ := HTC.out w' hS
                      go_simp
                      try rfl
                    case kp5 =>
                    go_simp
                    refine wpMix_load ?vp6 rfl (fun w' hS => ?yp6) ?kp6
                    case yp6 =>
                      obtain ⟨h1, h2⟩ := HTC.out w' hS
                      go_simp
                      try rfl
                    case kp6 =>
                    go_simp
                    refine wpMix_skip rfl ?_
                    go_simp
                    refine wpMix_skip rfl ?_
                    go_simp
                    refine wpMix_skip rfl ?_
                    go_simp
                    refine wpMix_skip rfl ?_
                    go_simp
                    refine wpMix_skip rfl ?_
                    go_simp
                    refine wpMix_skip rfl ?_
                    go_simp
                    refine wpMix_skip rfl ?_
                    go_simp
                    refine wpMix_skip rfl ?_
                    go_simp
                    refine wpMix_skip rfl ?_
                    go_simp
                    refine wpMix_skip rfl ?_
                    go_simp
                    refine wpMix_skip rfl ?_
                    go_simp
                    refine wpMix_load ?vp18 rfl (fun w' hS => ?yp18) ?kp18
                    case yp18 =>
                      obtain ⟨h1, h2⟩ := HTC.out w' hS
                      go_simp
                      try rfl
                    case kp18 =>
                    go_simp
                    refine wpMix_nil ?_
                    go_wp2
                    refine NoPanic.normal ?_
                    go_wp2
                    go_roundw
                    case rel => exact ⟨k + 1, by omega, by go_num, HBM.out⟩
                    case measure => simp [intOf]; omega
                  | true =>
                    cases bb with
                    | false =>
                      go_wp2_with fail
                      refine wp_region_mix (fun w' => Below w6.heap.size w6 w') [(true, 0), (true, 1), (true, 2), (true, 3), (true, 4), (true, 5), (true, 6), (true, 7), (true, 8), (true, 9), (true, 10), (true, 11), (true, 12), (true, 13), (true, 14), (true, 15), (true, 16), (true, 17), (true, 18)] [] (by kernel_rfl) (by kernel_rfl) (HBNb.out.drew) ?mq
                      case mq =>
                      simp only [mixAt, opsAt, List.filterMap_cons, List.filterMap_nil, List.getElem?_toArray, List.getElem?_cons_succ, List.getElem?_cons_zero, Option.map_some]
                      obtain ⟨wm, hwm⟩ : ∃ wm, wm = wnb.drew := ⟨_, rfl⟩
                      have HBM : Hid (Below w6.heap.size w6 wm) := Lib.hid (by rw [hwm]; exact HBNb.out.drew)
                      rw [← hwm]
                      clear hwm
                      refine wpMix_load ?vq0 rfl (fun w' hS => ?yq0) ?kq0
                      case yq0 =>
                        obtain ⟨h1, h2⟩ := HTC.out w' hS
                        go_simp
                        try rfl
                      case kq0 =>
                      go_simp
                      refine wpMix_load ?vq1 rfl (fun w' hS => ?yq1) ?kq1
                      case yq1 =>
                        obtain ⟨h1, h2⟩ := HTC.out w' hS
                        go_simp
                        try rfl
                      case kq1 =>
                      go_simp
                      refine wpMix_load ?vq2 rfl (fun w' hS => ?yq2) ?kq2
                      case yq2 =>
                        obtain ⟨h1, h2⟩ := HTC.out w' hS
                        go_simp
                        try rfl
                      case kq2 =>
                      go_simp
                      refine wpMix_load ?vq3 rfl (fun w' hS => ?yq3) ?kq3
                      case yq3 =>
                        obtain ⟨h1, h2⟩ := HTC.out w' hS
                        go_simp
                        try rfl
                      case kq3 =>
                      go_simp
                      refine wpMix_load ?vq4 rfl (fun w' hS => ?yq4) ?kq4
                      case yq4 =>
                        obtain ⟨h1, h2⟩ := HTC.out w' hS
                        go_simp
                        try rfl
                      case kq4 =>
                      go_simp
                      refine wpMix_load ?vq5 rfl (fun w' hS => ?yq5) ?kq5
                      case yq5 =>
                        obtain ⟨h1, h2⟩ := HTC.out w' hS
                        go_simp
                        try rfl
                      case kq5 =>
                      go_simp
                      refine wpMix_load ?vq6 rfl (fun w' hS => ?yq6) ?kq6
                      case yq6 =>
                        obtain ⟨h1, h2⟩ := HTC.out w' hS
                        go_simp
                        try rfl
                      case kq6 =>
                      go_simp
                      refine wpMix_skip rfl ?_
                      go_simp
                      refine wpMix_skip rfl ?_
                      go_simp
                      refine wpMix_skip rfl ?_
                      go_simp
                      refine wpMix_skip rfl ?_
                      go_simp
                      refine wpMix_skip rfl ?_
                      go_simp
                      refine wpMix_skip rfl ?_
                      go_simp
                      refine wpMix_skip rfl ?_
                      go_simp
                      refine wpMix_skip rfl ?_
                      go_simp
                      refine wpMix_skip rfl ?_
                      go_simp
                      refine wpMix_skip rfl ?_
                      go_simp
                      refine wpMix_skip rfl ?_
                      go_simp
                      refine wpMix_load ?vq18 rfl (fun w' hS => ?yq18) ?kq18
                      case yq18 =>
                        obtain ⟨h1, h2⟩ := HTC.out w' hS
                        go_simp
                        try rfl
                      case kq18 =>
                      go_simp
                      refine wpMix_nil ?_
                      go_wp2
                      refine NoPanic.normal ?_
                      go_wp2
                      go_roundw
                      case rel => exact ⟨k + 1, by omega, by go_num, HBM.out⟩
                      case measure => simp [intOf]; omega
                    | true =>
                      have HMA : Hid ((mtch xi.type t ([], [])).1 = true) := Lib.hid HBAe.out.symm
                      have HMB : Hid ((mtch xk.type t ([], [])).1 = true) := Lib.hid HBBe.out.symm
                      by_cases hte : xi.trait = xk.trait
                      · have hbe := bytesEq hte
                        have HTE := Lib.hid hte
                        clear hte
                        go_wp2_with fail
                        refine wp_region_mix (fun w' => Below w6.heap.size w6 w') [(true, 0), (true, 1), (true, 2), (true, 3), (true, 4), (true, 5), (true, 6), (true, 7), (true, 8), (true, 9), (true, 10), (true, 11), (true, 12), (true, 13), (true, 14), (true, 15), (true, 16), (true, 17), (true, 18)] [] (by kernel_rfl) (by kernel_rfl) (HBNb.out.drew) ?mr
                        case mr =>
                        simp only [mixAt, opsAt, List.filterMap_cons, List.filterMap_nil, List.getElem?_toArray, List.getElem?_cons_succ, List.getElem?_cons_zero, Option.map_some]
                        obtain ⟨wm, hwm⟩ : ∃ wm, wm = wnb.drew := ⟨_, rfl⟩
                        have HBM : Hid (Below w6.heap.size w6 wm) := Lib.hid (by rw [hwm]; exact HBNb.out.drew)
                        rw [← hwm]
                        clear hwm
                        refine wpMix_load ?vr0 rfl (fun w' hS => ?yr0) ?kr0
                        case yr0 =>
                          obtain ⟨h1, h2⟩ := HTC.out w' hS
                          go_simp
                          try rfl
                        case kr0 =>
                        go_simp
                        refine wpMix_load ?vr1 rfl (fun w' hS => ?yr1) ?kr1
                        case yr1 =>
                          obtain ⟨h1, h2⟩ := HTC.out w' hS
                          go_simp
                          try rfl
                        case kr1 =>
                        go_simp
                        refine wpMix_load ?vr2 rfl (fun w' hS => ?yr2) ?kr2
                        case yr2 =>
                          obtain ⟨h1, h2⟩ := HTC.out w' hS
                          go_simp
                          try rfl
                        case kr2 =>
                        go_simp
                        refine wpMix_load ?vr3 rfl (fun w' hS => ?yr3) ?kr3
                        case yr3 =>
                          obtain ⟨h1, h2⟩ := HTC.out w' hS
                          go_simp
                          try rfl
                        case kr3 =>
                        go_simp
                        refine wpMix_load ?vr4 rfl (fun w' hS => ?yr4) ?kr4
                        case yr4 =>
                          obtain ⟨h1, h2⟩ := HTC.out w' hS
                          go_simp
                          try rfl
                        case kr4 =>
                        go_simp
                        refine wpMix_load ?vr5 rfl (fun w' hS => ?yr5) ?kr5
                        case yr5 =>
                          obtain ⟨h1, h2⟩ := HTC.out w' hS
                          go_simp
                          try rfl
                        case kr5 =>
                        go_simp
                        refine wpMix_load ?vr6 rfl (fun w' hS => ?yr6) ?kr6
                        case yr6 =>
                          obtain ⟨h1, h2⟩ := HTC.out w' hS
                          go_simp
                          try rfl
                        case kr6 =>
                        go_simp
                        refine wpMix_load ?vr7 rfl (fun w' hS => ?yr7) ?kr7
                        case yr7 =>
                          obtain ⟨h1, h2⟩ := HTC.out w' hS
                          go_simp
                          try rfl
                        case kr7 =>
                        go_simp
                        refine wpMix_load ?vr8 rfl (fun w' hS => ?yr8) ?kr8
                        case yr8 =>
                          obtain ⟨h1, h2⟩ := HTC.out w' hS
                          go_simp
                          try rfl
                        case kr8 =>
                        go_simp
                        refine wpMix_load ?vr9 rfl (fun w' hS => ?yr9) ?kr9
                        case yr9 =>
                          obtain ⟨h1, h2⟩ := HTC.out w' hS
                          go_simp
                          try rfl
                        case kr9 =>
                        go_simp
                        refine wpMix_load ?vr10 rfl (fun w' hS => ?yr10) ?kr10
                        case yr10 =>
                          obtain ⟨h1, h2⟩ := HTC.out w' hS
                          go_simp
                          try rfl
                        case kr10 =>
                        go_simp
                        refine wpMix_load ?vr11 rfl (fun w' hS => ?yr11) ?kr11
                        case yr11 =>
                          obtain ⟨h1, h2⟩ := HTC.out w' hS
                          go_simp
                          try rfl
                        case kr11 =>
                        go_simp
                        refine wpMix_load ?vr12 rfl (fun w' hS => ?yr12) ?kr12
                        case yr12 =>
                          obtain ⟨h1, h2⟩ := HTC.out w' hS
                          go_simp
                          try rfl
                        case kr12 =>
                        go_simp
                        refine wpMix_load ?vr13 rfl (fun w' hS => ?yr13) ?kr13
                        case yr13 =>
                          obtain ⟨h1, h2⟩ := HTC.out w' hS
                          go_simp
                          try rfl
                        case kr13 =>
                        go_simp
                        refine wpMix_load ?vr14 rfl (fun w' hS => ?yr14) ?kr14
                        case yr14 =>
                          obtain ⟨h1, h2⟩ := HTC.out w' hS
                          go_simp
                          try rfl
                        case kr14 =>
                        go_simp
                        refine wpMix_load ?vr15 rfl (fun w' hS => ?yr15) ?kr15
                        case yr15 =>
                          obtain ⟨h1, h2⟩ := HTC.out w' hS
                          go_simp
                          try rfl
                        case kr15 =>
                        go_simp
                        refine wpMix_load ?vr16 rfl (fun w' hS => ?yr16) ?kr16
                        case yr16 =>
                          obtain ⟨h1, h2⟩ := HTC.out w' hS
                          go_simp
                          try rfl
                        case kr16 =>
                        go_simp
                        refine wpMix_load ?vr17 rfl (fun w' hS => ?yr17) ?kr17
                        case yr17 =>
                          obtain ⟨h1, h2⟩ := HTC.out w' hS
                          go_simp
                          try rfl
                        case kr17 =>
                        go_simp
                        refine wpMix_load ?vr18 rfl (fun w' hS => ?yr18) ?kr18
                        case yr18 =>
                          obtain ⟨h1, h2⟩ := HTC.out w' hS
                          go_simp
                          try rfl
                        case kr18 =>
                        go_simp
                        refine wpMix_nil ?_
                        go_wp2
                        refine NoPanic.normal ?_
                        -- both match, and the trait is one: the later one is among those that overlap
                        have hin : i ∈ O := HOV.out i k xk xi HXI.out HXK.out hki ⟨HTE.out.symm, two_one (HPL.out _ (List.mem_of_getElem? HXK.out)).1 (HPL.out _ (List.mem_of_getElem? HXI.out)).1 HMB.out HMA.out⟩
                        have HIN := Lib.hid hin
                        clear hin
                        go_wp2_with fail
                        go_loopw [15, 16] (fun tv jv wr => ∃ j : Nat, j ≤ on ∧ jv = .int .i64 (j : Int) ∧ tv = .bool (decide (i ∈ O.take j)) ∧ Below w6.heap.size w6 wr) (fun _ jv _ => on - (intOf jv).toNat)
                        case atStart => exact ⟨0, Nat.zero_le _, rfl, by simp, HBM.out⟩
                        case round =>
                          obtain ⟨j, hjo, rfl, rfl, hbj⟩ := hrel
                          by_cases hjl : j < on
                          · have hjO : j < O.length := by rw [← HON.out]; exact hjl
                            have hoj : O[j]? = some O[j] := List.getElem?_eq_getElem hjO
                            have htk : O.take (j + 1) = O.take j ++ [O[j]] := List.take_succ_eq_append_getElem hjO
                            generalize O[j] = oj at *
                            obtain ⟨adO, hae, hSO, eO⟩ := (HRO.out.keep (kept_below hbj)).at_ (k := j) (u := .int .i64 (oj : Int)) (by unfold intsV; rw [List.getElem?_map, hoj]; rfl)
                            have HBJ := Lib.hid hbj
                            have HTK := Lib.hid htk
                            have hjj : (0 : Int) ≤ (j : Int) ∧ (j : Int) < (on : Int) := ⟨by omega, by omega⟩
                            subst hae
                            clear hbj hoj htk hSO hjO
                            by_cases hit : i ∈ O.take j
                            · have hdt : decide (i ∈ O.take j) = true := decide_eq_true hit
                              have HIT := Lib.hid hit
                              rw [hdt]
                              clear hit hdt
                              go_wp2
                              go_roundw
                              case rel => exact ⟨j + 1, by omega, by go_num, by rw [HTK.out, decide_eq_true (List.mem_append.2 (.inl HIT.out))], HBJ.out⟩
                              case measure => simp [intOf]; omega
                            · have hdt : decide (i ∈ O.take j) = false := decide_eq_false hit
                              have HIT := Lib.hid hit
                              rw [hdt]
                              clear hit hdt
                              by_cases hij : oj = i
                              · have hb : ((oj : Int) == (i : Int)) = true := by simp [hij]
                                have HIJ := Lib.hid hij
                                clear hij
                                go_wp2
                                go_roundw
                                case rel => exact ⟨j + 1, by omega, by go_num, by rw [HTK.out, decide_eq_true (List.mem_append.2 (.inr (by rw [HIJ.out]; simp)))], HBJ.out⟩
                                case measure => simp [intOf]; omega
                              · have hb : ((oj : Int) == (i : Int)) = false := by simp; omega
                                have HIJ := Lib.hid hij
                                clear hij
                                go_wp2
                                go_roundw
                                case rel => exact ⟨j + 1, by omega, by go_num, by
                                  rw [HTK.out, decide_eq_false (fun h => ?_)]
                                  rcases List.mem_append.1 h with h | h
                                  · exact HIT.out h
                                  · exact HIJ.out (List.mem_singleton.1 h).symm, HBJ.out⟩
                                case measure => simp [intOf]; omega
                          · obtain rfl : j = on := by omega
                            have hdt : decide (i ∈ O.take j) = true := by
                              rw [List.take_of_length_le (by rw [HON.out]; exact Nat.le_refl _)]
                              exact decide_eq_true HIN.out
                            rw [hdt]
                            have HBJ := Lib.hid hbj
                            clear hdt hbj
                            go_wp2
                            go_roundw
                            case rel => exact ⟨k + 1, by omega, by go_num, HBJ.out⟩
                            case measure => simp [intOf]; omega
                      · have hbe := bytesNe hte
                        clear hte
                        go_wp2_with fail
                        refine wp_region_mix (fun w' => Below w6.heap.size w6 w') [(true, 0), (true, 1), (true, 2), (true, 3), (true, 4), (true, 5), (true, 6), (true, 7), (true, 8), (true, 9), (true, 10), (true, 11), (true, 12), (true, 13), (true, 14), (true, 15), (true, 16), (true, 17), (true, 18)] [] (by kernel_rfl) (by kernel_rfl) (HBNb.out.drew) ?ms
                        case ms =>
                        simp only [mixAt, opsAt, List.filterMap_cons, List.filterMap_nil, List.getElem?_toArray, List.getElem?_cons_succ, List.getElem?_cons_zero, Option.map_some]
                        obtain ⟨wm, hwm⟩ : ∃ wm, wm = wnb.drew := ⟨_, rfl⟩
                        have HBM : Hid (Below w6.heap.size w6 wm) := Lib.hid (by rw [hwm]; exact HBNb.out.drew)
                        rw [← hwm]
                        clear hwm
                        refine wpMix_load ?vs0 rfl (fun w' hS => ?ys0) ?ks0
                        case ys0 =>
                          obtain ⟨h1, h2⟩ := HTC.out w' hS
                          go_simp
                          try rfl
                        case ks0 =>
                        go_simp
                        refine wpMix_load ?vs1 rfl (fun w' hS => ?ys1) ?ks1
                        case ys1 =>
                          obtain ⟨h1, h2⟩ := HTC.out w' hS
                          go_simp
                          try rfl
                        case ks1 =>
                        go_simp
                        refine wpMix_load ?vs2 rfl (fun w' hS => ?ys2) ?ks2
                        case ys2 =>
                          obtain ⟨h1, h2⟩ := HTC.out w' hS
                          go_simp
                          try rfl
                        case ks2 =>
                        go_simp
                        refine wpMix_load ?vs3 rfl (fun w' hS => ?ys3) ?ks3
                        case ys3 =>
                          obtain ⟨h1, h2⟩ := HTC.out w' hS
                          go_simp
                          try rfl
                        case ks3 =>
                        go_simp
                        refine wpMix_load ?vs4 rfl (fun w' hS => ?ys4) ?ks4
                        case ys4 =>
                          obtain ⟨h1, h2⟩ := HTC.out w' hS
                          go_simp
                          try rfl
                        case ks4 =>
                        go_simp
                        refine wpMix_load ?vs5 rfl (fun w' hS => ?ys5) ?ks5
                        case ys5 =>
                          obtain ⟨h1, h2⟩ := HTC.out w' hS
                          go_simp
                          try rfl
                        case ks5 =>
                        go_simp
                        refine wpMix_load ?vs6 rfl (fun w' hS => ?ys6) ?ks6
                        case ys6 =>
                          obtain ⟨h1, h2⟩ := HTC.out w' hS
                          go_simp
                          try rfl
                        case ks6 =>
                        go_simp
                        refine wpMix_load ?vs7 rfl (fun w' hS => ?ys7) ?ks7
                        case ys7 =>
                          obtain ⟨h1, h2⟩ := HTC.out w' hS
                          go_simp
                          try rfl
                        case ks7 =>
                        go_simp
                        refine wpMix_load ?vs8 rfl (fun w' hS => ?ys8) ?ks8
                        case ys8 =>
                          obtain ⟨h1, h2⟩ := HTC.out w' hS
                          go_simp
                          try rfl
                        case ks8 =>
                        go_simp
                        refine wpMix_load ?vs9 rfl (fun w' hS => ?ys9) ?ks9
                        case ys9 =>
                          obtain ⟨h1, h2⟩ := HTC.out w' hS
                          go_simp
                          try rfl
                        case ks9 =>
                        go_simp
                        refine wpMix_load ?vs10 rfl (fun w' hS => ?ys10) ?ks10
                        case ys10 =>
                          obtain ⟨h1, h2⟩ := HTC.out w' hS
                          go_simp
                          try rfl
                        case ks10 =>
                        go_simp
                        refine wpMix_load ?vs11 rfl (fun w' hS => ?ys11) ?ks11
                        case ys11 =>
                          obtain ⟨h1, h2⟩ := HTC.out w' hS
                          go_simp
                          try rfl
                        case ks11 =>
                        go_simp
                        refine wpMix_load ?vs12 rfl (fun w' hS => ?ys12) ?ks12
                        case ys12 =>
                          obtain ⟨h1, h2⟩ := HTC.out w' hS
                          go_simp
                          try rfl
                        case ks12 =>
                        go_simp
                        refine wpMix_load ?vs13 rfl (fun w' hS => ?ys13) ?ks13
                        case ys13 =>
                          obtain ⟨h1, h2⟩ := HTC.out w' hS
                          go_simp
                          try rfl
                        case ks13 =>
                        go_simp
                        refine wpMix_load ?vs14 rfl (fun w' hS => ?ys14) ?ks14
                        case ys14 =>
                          obtain ⟨h1, h2⟩ := HTC.out w' hS
                          go_simp
                          try rfl
                        case ks14 =>
                        go_simp
                        refine wpMix_load ?vs15 rfl (fun w' hS => ?ys15) ?ks15
                        case ys15 =>
                          obtain ⟨h1, h2⟩ := HTC.out w' hS
                          go_simp
                          try rfl
                        case ks15 =>
                        go_simp
                        refine wpMix_load ?vs16 rfl (fun w' hS => ?ys16) ?ks16
                        case ys16 =>
                          obtain ⟨h1, h2⟩ := HTC.out w' hS
                          go_simp
                          try rfl
                        case ks16 =>
                        go_simp
                        refine wpMix_load ?vs17 rfl (fun w' hS => ?ys17) ?ks17
                        case ys17 =>
                          obtain ⟨h1, h2⟩ := HTC.out w' hS
                          go_simp
                          try rfl
                        case ks17 =>
                        go_simp
                        refine wpMix_load ?vs18 rfl (fun w' hS => ?ys18) ?ks18
                        case ys18 =>
                          obtain ⟨h1, h2⟩ := HTC.out w' hS
                          go_simp
                          try rfl
                        case ks18 =>
                        go_simp
                        refine wpMix_nil ?_
                        go_wp2
                        refine NoPanic.normal ?_
                        go_wp2
                        go_roundw
                        case rel => exact ⟨k + 1, by omega, by go_num, HBM.out⟩
                        case measure => simp [intOf]; omega
        · obtain rfl : k = i := by omega
          have HBK := Lib.hid hbk
          clear hbk
          go_wp2
          go_roundw
          case rel => exact ⟨k + 1, by omega, by go_num, HBK.out⟩
          case measure => simp [intOf]; omega
    · obtain rfl : i = n := by omega
      have HBI := Lib.hid (HB6.out.trans (hbi.mono HB6.out.size))
      clear hbi
      go_wp2_with fail
      refine (awake_any wr).mono ?_
      rintro e w10 ⟨rfl, hb10⟩
      have HB10 := Lib.hid (HBI.out.trans (hb10.mono HBI.out.size))
      clear hb10
      go_wp2
      go_ret
      exact ⟨rfl, HB10.out⟩
end

section
open Go.RowKit
set_option maxHeartbeats 4000000 in
set_option maxRecDepth 100000 in
theorem law_heavy (n : Nat) (TA : Option Addr) (tc : Nat) (w : World) (hn : ¬ n ≤ 400) :
    Calls Tryd.prog 3 #[.slice TA n tc] w fun e w' => e = .returned (.bool true) ∧ Below w.heap.size w w' := by
  have hli := light_any n TA tc w
  rw [show decide (n ≤ 400) = false by simpa using hn] at hli
  have HLI := Lib.hid hli
  clear hli
  go_enter Tryd.func3, Tryd.ntmps3
  go_wp2_with fail
  refine HLI.out.mono ?_
  rintro e w0 ⟨rfl, rfl⟩
  go_wp2_with fail
  refine (awake_any _).mono ?_
  rintro e w1 ⟨rfl, hb1⟩
  have HB1 := Lib.hid hb1
  clear hb1
  go_wp2
  go_ret
  exact ⟨rfl, HB1.out⟩

theorem law_all (xs : List Int) (TA : Option Addr) (tc : Nat) (w : World) (hA : Row w (Lt w.heap.size) TA (xs.map (Value.int .i64))) (hf : ∀ x ∈ xs, -9223372036854775808 ≤ x ∧ x ≤ 9223372036854775807) :
    Calls Tryd.prog 3 #[.slice TA xs.length tc] w fun e w' => e = .returned (.bool true) ∧ Below w.heap.size w w' := by
  by_cases hn : xs.length ≤ 400
  · exact two_light xs TA tc w hA hn hf
  · exact law_heavy _ TA tc w hn
end
end Go.Proofs.YtllodnlkphapgaaDoor
