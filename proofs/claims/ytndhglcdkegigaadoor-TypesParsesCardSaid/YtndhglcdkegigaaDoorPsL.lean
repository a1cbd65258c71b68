/-
  The walk of recompilelaw09.TypesParses (printed by genPs.py with head.ps.txt).
  Conditions: the numbers are ints.
-/
import Derived.Test.YtndhglcdkegigaaDoorByts
import Derived.Test.YtndhglcdkegigaaDoorStab
import Derived.Test.YtndhglcdkegigaaDoorMix
import Derived.Test.YtndhglcdkegigaaDoorSizes
import Derived.Test.YtndhglcdkegigaaDoorAwk
import Derived.Test.YtndhglcdkegigaaDoorRefSame
import Derived.Test.YtndhglcdkegigaaDoorRefPrn
import Derived.Test.YtndhglcdkegigaaDoorRefParse
namespace Go.Proofs.YtndhglcdkegigaaDoor
open Go.RowKit

theorem DTy.wlng {d : Nat} {t : Ty} (h : DTy d t) : wt lng t ≤ 8 * t.size := by
  induction h with
  | mk d n ks hn hk h0 h ih =>
    have h1 := wtL_le (c := lng) (M := 8) ks ih
    have h2 := dname_lng hn
    rw [wt, Ty.size]
    omega
theorem DTy.text {t : Ty} (h : DTy 4 t) : 0 < (prn t).length ∧ (prn t).length ≤ 300 := by
  have h1 := h.wlng
  have h2 := h.size
  have h3 := prn_wt t
  refine ⟨?_, by omega⟩
  cases h with
  | mk d n ks hn hk h0 h =>
    have : ∀ n ∈ dnames, 0 < n.length := by decide
    have := this n hn
    simp only [prn, List.length_append]
    omega
theorem ParsedRes.both {r : Option Ty} {w w' : World} {e : Ending} (h : ParsedRes r w e w') : ∃ u v, e = .returned (.tuple #[.agg #[u, v], .bool r.isSome]) ∧ TyIs w' (Lt w'.heap.size) (r.getD (.mk [] [])) u v ∧ Below w.heap.size w w' := by
  cases r with
  | some t =>
    obtain ⟨u, v, rfl, h2, h3⟩ := h
    exact ⟨u, v, rfl, h2.more fun y hy => hy.2, h3⟩
  | none =>
    obtain ⟨rfl, h3⟩ := h
    exact ⟨_, _, rfl, (Tys.nil w' _ none).close (by simp) (by simp) ⟨Nat.le_refl _, Nat.zero_le _⟩, h3⟩
/-- A new block of one byte. -/
def OneByte (c : UInt8) (v : Value) (w : World) : Prop := ∃ x, v = .slice (some ⟨x, 0, none⟩) 1 1 ∧ w.heap[x]? = some (.cells #[.int .u8 (c.toNat : Int)] 5 (0, 0))
theorem OneByte.str {c : UInt8} {v : Value} {w : World} (h : OneByte c v w) : (convert 26 9 v).run Tryd.prog w = .ok (sv [c]) w := by
  obtain ⟨x, rfl, hx⟩ := h
  exact run_convert_bytes_back (P := Tryd.prog) w 26 9 5 ⟨x, 0, none⟩ 1 [c] Tryd.underlying26 Tryd.underlying5 Tryd.underlying9 (fun j hj => by
    have : j = 0 := by simpa using hj
    subst this
    exact (Lib.cell_of_heap hx _).trans rfl)
theorem infoS : (Tryd.prog.info? 9).map (fun i => (i.zero, i.size, i.bytes)) = some (some (.string ⟨#[]⟩), 1, 16) := by kernel_rfl
def psPhi (l : List UInt8) (k : Nat) (c : UInt8) (i : Nat) (v : Value) (w : World) : Prop :=
  if i = 10 ∨ i = 18 then OneByte c v w else if i = 11 ∨ i = 19 then v = sv [c] else if i = 12 then v = sv (l ++ [c]) else if i = 20 then v = sv (l.take k ++ [c]) else v = sv (l.take k ++ [c] ++ l.drop k)
theorem psPhi_go {l : List UInt8} {k : Nat} {c : UInt8} (i : Nat) (v : Value) (w w' : World) (h : psPhi l k c i v w) (hb : Below w.heap.size w w') : psPhi l k c i v w' := by
  unfold psPhi at h ⊢
  split
  · rename_i h0
    rw [if_pos h0] at h
    obtain ⟨x, hv, hx⟩ := h
    exact ⟨x, hv, (hb.block x (lt_of_heap hx)).trans hx⟩
  · rename_i h0
    rw [if_neg h0] at h
    exact h

set_option maxHeartbeats 16000000 in
set_option maxRecDepth 100000 in
theorem parses_light (s : List UInt8) (xs : List Int) (TA : Option Addr) (tc : Nat) (at_ : Int) (w : World) (hA : Row w (Lt w.heap.size) TA (xs.map (Value.int .i64))) (hn : xs.length ≤ 400) (hf : ∀ x ∈ xs, -9223372036854775808 ≤ x ∧ x ≤ 9223372036854775807) (hs : s.length ≤ 2000) (ha0 : -9223372036854775808 ≤ at_) (ha1 : at_ ≤ 9223372036854775807) :
    Calls Tryd.prog 3 #[sv s, .slice TA xs.length tc, .int .i64 at_] w fun e w' => e = .returned (.bool true) ∧ Below w.heap.size w w' := by
  have hli := light_any xs.length TA tc w
  rw [show decide (xs.length ≤ 400) = true by simpa using hn] at hli
  have hro := roll_any xs TA tc w hA hn hf
  have HLI := Lib.hid hli
  have HRO := Lib.hid hro
  clear hli hro hA hf
  generalize xs.length = nx at *
  have hss := bs_size s
  obtain ⟨ns, hns⟩ : ∃ ns, ns = (bs s).size := ⟨_, rfl⟩
  have hns2 : (bs s).size ≤ 2000 := by omega
  have HS := Lib.hid hs
  clear hns hss hs
  obtain ⟨cb, hcb⟩ : ∃ cb : UInt8, at_ / 512 % 256 = (cb.toNat : Int) := ⟨UInt8.ofNat (at_ / 512 % 256).toNat, by rw [UInt8.toNat_ofNat']; omega⟩
  go_enter Tryd.func3, Tryd.ntmps3
  go_wp2_with fail
  refine HLI.out.mono ?_
  rintro e w0 ⟨rfl, rfl⟩
  go_wp2_with fail
  refine HRO.out.mono ?_
  rintro e w1 ⟨rfl, hD1, hb1⟩
  have TY := Lib.hid (dtype_any 4 w.heap.size xs w1 (by omega) hD1)
  have HB1 := Lib.hid hb1
  clear hb1 HLI HRO hD1
  go_wp2_with fail
  refine TY.out.mono ?_
  rintro e w2 ⟨t, u, v, rfl, hd, hT, hD2, hK2⟩
  obtain ⟨u, v, rfl, rfl⟩ := hT.shape
  have htx := hd.text
  have PR := Lib.hid (refPrint_any t (sv u) (.slice v.1 v.2.1 v.2.2) w2 (hT.more fun y hy => hy.2) (by omega))
  have HB2 : Hid (Below w.heap.size w w2) := Lib.hid (by
    have hb1 := HB1.out
    exact hb1.trans ⟨hK2.os, hK2.tape, hK2.output, hK2.size, fun y hy => hK2.block y (by have := hb1.size; omega) (by omega)⟩)
  clear TY hT hd hD2 hK2
  go_wp2_with fail
  refine PR.out.mono ?_
  rintro e w3 ⟨rfl, hb3⟩
  have HB3 := Lib.hid (HB2.out.trans (hb3.mono HB2.out.size))
  obtain ⟨l, hl⟩ : ∃ l, l = prn t := ⟨_, rfl⟩
  rw [← hl] at htx ⊢
  obtain ⟨cap, w4, hconv, hcap, hBy, hb4⟩ := bytes_new l w3
  have HB4 := Lib.hid (HB3.out.trans (hb4.mono HB3.out.size))
  obtain ⟨bb, hbb⟩ : ∃ bb, bb = w3.heap.size := ⟨_, rfl⟩
  rw [← hbb] at hconv hBy
  have HBB : Hid (w.heap.size ≤ bb) := Lib.hid (by rw [hbb]; exact HB3.out.size)
  have HBY := Lib.hid hBy
  clear hb3 hb4 hBy hl PR hbb
  obtain ⟨k, hk, hkl⟩ : ∃ k : Nat, at_ % ((l.length : Nat) : Int) = (k : Int) ∧ k < l.length := by
    have h1 := Int.emod_nonneg at_ (b := ((l.length : Nat) : Int)) (by omega)
    have h2 := Int.emod_lt_of_pos at_ (b := ((l.length : Nat) : Int)) (by omega)
    exact ⟨(at_ % ((l.length : Nat) : Int)).toNat, by omega, by omega⟩
  have md := mod_any at_ ((l.length : Nat) : Int) w4 ha0 ha1 (by omega) (by omega)
  rw [hk] at md
  have MD := Lib.hid md
  clear md hk
  go_wp2_with fail
  refine MD.out.mono ?_
  rintro e w5 ⟨rfl, rfl⟩
  clear MD hconv
  have hik1 : (0 : Int) ≤ (k : Int) := by omega
  have hik2 : (k : Int) ≤ ((l.length : Nat) : Int) := by omega
  have hik3 : (k : Int) ≤ (cap : Int) := by omega
  have hcap0 : ¬ cap = 0 := by omega
  have hcapk : ¬ cap = k := by omega
  go_wp2_with fail
  refine wp_region_stable (fun w' => BytesAt w' bb l) (fun w w' => Below w.heap.size w w') (psPhi l k cb) [0, 1, 2, 3, 4, 5, 6, 7, 8, 9, 13, 14, 15, 16, 17, 21, 22, 23, 24] [(10, 47), (11, 48), (12, 49), (18, 55), (19, 56), (20, 57), (25, 62)] [26, 27] (by kernel_rfl) (by kernel_rfl) (by kernel_rfl) (Below.refl _ _) (fun a b c h h' => h.trans (h'.mono h.size)) psPhi_go ?sa ?ha
  case sa => exact HBY.out.keep rfl
  case ha =>
        simp only [opsAt, List.filterMap_cons, List.filterMap_nil, List.getElem?_toArray, List.getElem?_cons_succ, List.getElem?_cons_zero]
        refine wpLoad_step ?v0 rfl (fun w' hS => ?y0) ?k0
        case y0 =>
          go_simp
          try rfl
        case k0 =>
        go_simp
        refine wpLoad_step ?v1 rfl (fun w' hS => ?y1) ?k1
        case y1 =>
          go_simp
          try rfl
        case k1 =>
        go_simp
        refine wpLoad_step (sv l) rfl (fun w' hS => ?y2) ?k2
        case y2 =>
          go_simp
          rw [hS.str 0 l.length cap (by omega)]
          simp only [List.drop_zero, List.take_length, Result.andThen]
          try rfl
        case k2 =>
        go_simp
        refine wpLoad_step ?v3 rfl (fun w' hS => ?y3) ?k3
        case y3 =>
          go_simp
          try rfl
        case k3 =>
        go_simp
        refine wpLoad_step ?v4 rfl (fun w' hS => ?y4) ?k4
        case y4 =>
          go_simp
          try rfl
        case k4 =>
        go_simp
        refine wpLoad_step (.slice (some ⟨bb, 0, none⟩) k cap) rfl (fun w' hS => ?y5) ?k5
        case y5 =>
          go_simp
          try rfl
        case k5 =>
        go_simp
        refine wpLoad_step (sv (l.take k)) rfl (fun w' hS => ?y6) ?k6
        case y6 =>
          go_simp
          rw [hS.str 0 k cap (by omega)]
          simp only [List.drop_zero, Result.andThen]
          try rfl
        case k6 =>
        go_simp
        refine wpLoad_step ?v7 rfl (fun w' hS => ?y7) ?k7
        case y7 =>
          go_simp
          try rfl
        case k7 =>
        go_simp
        refine wpLoad_step (sv l) rfl (fun w' hS => ?y8) ?k8
        case y8 =>
          go_simp
          rw [hS.str 0 l.length cap (by omega)]
          simp only [List.drop_zero, List.take_length, Result.andThen]
          try rfl
        case k8 =>
        go_simp
        refine wpLoad_step ?v9 rfl (fun w' hS => ?y9) ?k9
        case y9 =>
          go_simp
          try rfl
        case k9 =>
        go_simp
        refine wpLoad_step ?v13 rfl (fun w' hS => ?y13) ?k13
        case y13 =>
          go_simp
          try rfl
        case k13 =>
        go_simp
        refine wpLoad_step ?v14 rfl (fun w' hS => ?y14) ?k14
        case y14 =>
          go_simp
          try rfl
        case k14 =>
        go_simp
        refine wpLoad_step (.slice (some ⟨bb, 0, none⟩) k cap) rfl (fun w' hS => ?y15) ?k15
        case y15 =>
          go_simp
          try rfl
        case k15 =>
        go_simp
        refine wpLoad_step (sv (l.take k)) rfl (fun w' hS => ?y16) ?k16
        case y16 =>
          go_simp
          rw [hS.str 0 k cap (by omega)]
          simp only [List.drop_zero, Result.andThen]
          try rfl
        case k16 =>
        go_simp
        refine wpLoad_step ?v17 rfl (fun w' hS => ?y17) ?k17
        case y17 =>
          go_simp
          try rfl
        case k17 =>
        go_simp
        refine wpLoad_step ?v21 rfl (fun w' hS => ?y21) ?k21
        case y21 =>
          go_simp
          try rfl
        case k21 =>
        go_simp
        refine wpLoad_step ?v22 rfl (fun w' hS => ?y22) ?k22
        case y22 =>
          go_simp
          try rfl
        case k22 =>
        go_simp
        refine wpLoad_step (.slice (some ⟨bb, k, none⟩) (l.length - k) (cap - k)) rfl (fun w' hS => ?y23) ?k23
        case y23 =>
          go_simp
          try rfl
        case k23 =>
        go_simp
        refine wpLoad_step (sv (l.drop k)) rfl (fun w' hS => ?y24) ?k24
        case y24 =>
          go_simp
          rw [hS.str k (l.length - k) (cap - k) (by omega)]
          rw [show (l.drop k).take (l.length - k) = l.drop k from List.take_of_length_le (by rw [List.length_drop]; exact Nat.le_refl _)]
          try rfl
        case k24 =>
        go_simp
        refine wpLoad_nil ?_
        refine ⟨?sz, ?st, ?fin⟩
        case sz =>
          intro x hx
          simp only [List.mem_cons, List.not_mem_nil, or_false] at hx
          rcases hx with rfl | rfl | rfl | rfl | rfl | rfl | rfl <;> simp
        case st =>
          intro x hx
          simp only [List.mem_cons, List.not_mem_nil, or_false] at hx
          rcases hx with rfl | rfl | rfl | rfl | rfl | rfl | rfl
          · intro a w7 K hI hK
            have e46 := hI.old 46 _ rfl (by decide)
            have hS := hI.hold
            have hK : ∀ v w', Below w7.heap.size w7 w' → BytesAt w' bb l → OneByte cb v w' → K (a.put (some 47) v) w' := hK
            clear hI
            refine wpOp_go rfl rfl ?_
            go_simp
            have hb7 : Below w7.heap.size w7 (w7.alloc (.cells #[.int .u8 (cb.toNat : Int)] 5)) := (Below.refl _ _).alloc (Nat.le_refl _) _
            exact hK _ _ hb7 (hS.keep (hb7.block _ hS.lt)) ⟨_, rfl, alloc1 _ _⟩
          · intro a w7 K hI hK
            obtain ⟨v47, e47, hv⟩ := hI.new (10, 47) (by decide) (by kernel_rfl)
            have hS := hI.hold
            have hcv := OneByte.str hv
            have hK : ∀ v w', Below w7.heap.size w7 w' → BytesAt w' bb l → v = sv [cb] → K (a.put (some 48) v) w' := hK
            clear hI hv
            refine wpOp_go rfl rfl ?_
            go_simp
            exact hK _ _ (Below.refl _ _) hS rfl
          · intro a w7 K hI hK
            obtain ⟨v48, e48, hv⟩ := hI.new (11, 48) (by decide) (by kernel_rfl)
            have e45 := hI.old 45 _ rfl (by decide)
            have hS := hI.hold
            have hv : v48 = sv [cb] := hv
            subst hv
            have hK : ∀ v w', Below w7.heap.size w7 w' → BytesAt w' bb l → v = sv (l ++ [cb]) → K (a.put (some 49) v) w' := hK
            clear hI
            refine wpOp_go rfl rfl ?_
            go_simp
            rw [bs_append', if_neg (by simp only [bs_size, List.length_cons, List.length_nil]; omega)]
            exact hK _ _ (Below.refl _ _) hS rfl
          · intro a w7 K hI hK
            have e54 := hI.old 54 _ rfl (by decide)
            have hS := hI.hold
            have hK : ∀ v w', Below w7.heap.size w7 w' → BytesAt w' bb l → OneByte cb v w' → K (a.put (some 55) v) w' := hK
            clear hI
            refine wpOp_go rfl rfl ?_
            go_simp
            have hb7 : Below w7.heap.size w7 (w7.alloc (.cells #[.int .u8 (cb.toNat : Int)] 5)) := (Below.refl _ _).alloc (Nat.le_refl _) _
            exact hK _ _ hb7 (hS.keep (hb7.block _ hS.lt)) ⟨_, rfl, alloc1 _ _⟩
          · intro a w7 K hI hK
            obtain ⟨v47, e47, hv⟩ := hI.new (18, 55) (by decide) (by kernel_rfl)
            have hS := hI.hold
            have hcv := OneByte.str hv
            have hK : ∀ v w', Below w7.heap.size w7 w' → BytesAt w' bb l → v = sv [cb] → K (a.put (some 56) v) w' := hK
            clear hI hv
            refine wpOp_go rfl rfl ?_
            go_simp
            exact hK _ _ (Below.refl _ _) hS rfl
          · intro a w7 K hI hK
            obtain ⟨v48, e48, hv⟩ := hI.new (19, 56) (by decide) (by kernel_rfl)
            have e53 := hI.old 53 _ rfl (by decide)
            have hS := hI.hold
            have hv : v48 = sv [cb] := hv
            subst hv
            have hK : ∀ v w', Below w7.heap.size w7 w' → BytesAt w' bb l → v = sv (l.take k ++ [cb]) → K (a.put (some 57) v) w' := hK
            clear hI
            refine wpOp_go rfl rfl ?_
            go_simp
            rw [bs_append', if_neg (by simp only [bs_size, List.length_take, List.length_cons, List.length_nil]; omega)]
            exact hK _ _ (Below.refl _ _) hS rfl
          · intro a w7 K hI hK
            obtain ⟨v48, e48, hv⟩ := hI.new (20, 57) (by decide) (by kernel_rfl)
            have e61 := hI.old 61 _ rfl (by decide)
            have hS := hI.hold
            have hv : v48 = sv (l.take k ++ [cb]) := hv
            subst hv
            have hK : ∀ v w', Below w7.heap.size w7 w' → BytesAt w' bb l → v = sv (l.take k ++ [cb] ++ l.drop k) → K (a.put (some 62) v) w' := hK
            clear hI
            refine wpOp_go rfl rfl ?_
            go_simp
            rw [bs_append', if_neg (by simp only [bs_size, List.length_append, List.length_take, List.length_drop, List.length_cons, List.length_nil]; omega)]
            exact hK _ _ (Below.refl _ _) hS rfl
        case fin =>
          intro vs w6 hb6 hS6 hΦ
          have q12 : vs 12 = sv (l ++ [cb]) := hΦ (12, 49) (by decide)
          have q25 : vs 25 = sv (l.take k ++ [cb] ++ l.drop k) := hΦ (25, 62) (by decide)
          obtain ⟨sp, hsp⟩ : ∃ sp, sp = l.take k ++ [cb] ++ l.drop k := ⟨_, rfl⟩
          rw [← hsp] at q25
          have hspl : sp.length ≤ 3000 := by rw [hsp]; simp only [List.length_append, List.length_take, List.length_drop, List.length_cons, List.length_nil]; omega
          clear hsp
          simp only [putD, q12, q25]
          clear q12 q25 hΦ
          generalize vs 10 = a10
          generalize vs 11 = a11
          generalize vs 18 = a18
          generalize vs 19 = a19
          generalize vs 20 = a20
          clear vs
          have hb6 : Below w4.heap.size w4 w6 := ((Below.refl w4.heap.size w4).drew).trans hb6
          have HB6 := Lib.hid (HB4.out.trans (hb6.mono HB4.out.size))
          clear hb6
          go_simp
          simp only [opsAt, List.filterMap_cons, List.filterMap_nil, List.getElem?_toArray, List.getElem?_cons_succ, List.getElem?_cons_zero]
          go_wp2
          refine NoPanic.normal ?_
          obtain ⟨ys, hys⟩ : ∃ ys, ys = [s, l, l.take k, l ++ [cb], sp] := ⟨_, rfl⟩
          have hyl : ∀ y ∈ ys, y.length ≤ 3000 := fun y hy => by
            have := HS.out
            rw [hys] at hy
            simp only [List.mem_cons, List.not_mem_nil, or_false] at hy
            rcases hy with rfl | rfl | rfl | rfl | rfl <;> (try simp only [List.length_append, List.length_take, List.length_cons, List.length_nil]) <;> omega
          have hown : (w6.alloc (.cells #[sv s, sv l, sv (l.take k), sv (l ++ [cb]), sv sp] 9)).ownsRow w6.heap.size 9 1 (.slice (some ⟨w6.heap.size, 0, none⟩) 5 5) 5 (ys.map sv) := by
            rw [hys]
            exact World.ownsRow_lit w6 _ 5 (Nat.le_refl _) (by unfold maxLen; omega) rfl
          have hb7 : Below w6.heap.size w6 (w6.alloc (.cells #[sv s, sv l, sv (l.take k), sv (l ++ [cb]), sv sp] 9)) := (Below.refl _ _).alloc (Nat.le_refl _) _
          have hBy7 := hS6.keep (hb7.block _ hS6.lt)
          have hlt7 := hS6.lt
          generalize w6.alloc (.cells #[sv s, sv l, sv (l.take k), sv (l ++ [cb]), sv sp] 9) = w7 at *
          have HYL := Lib.hid hyl
          have HYS : Hid (ys.length = 5) := Lib.hid (by rw [hys]; rfl)
          have HOWN := Lib.hid hown
          have HBY7 := Lib.hid hBy7
          have HB7 := Lib.hid (HB6.out.trans (hb7.mono HB6.out.size))
          have hsz7 := hb7.size
          clear hyl hys hown hBy7 hb7 hS6 hb6 hspl
          obtain ⟨lb, hlb⟩ : ∃ lb, lb = w6.heap.size := ⟨_, rfl⟩
          have hbl : bb < lb := by omega
          rw [← hlb] at HOWN hsz7 ⊢
          clear hlb hlt7
          obtain ⟨LA, m, lc, hlv, hm5, hoB⟩ : ∃ (LA : Option Addr) (m lc : Nat), Value.slice (some ⟨lb, 0, none⟩) 5 5 = Value.slice LA m lc ∧ m = 5 ∧ LA = some ⟨lb, 0, none⟩ := ⟨_, _, _, rfl, rfl, rfl⟩
          rw [hlv] at HOWN ⊢
          have HM := Lib.hid hm5
          have HOB := Lib.hid hoB
          have HOWN : Hid (w7.ownsRow lb 9 1 (.slice LA m lc) m (ys.map sv)) := Lib.hid (by have := HOWN.out; rw [HM.out] at this ⊢; exact this)
          have hm6 : m ≤ 5 := by omega
          clear hlv hm5 hoB
          obtain ⟨j, hj, hj4⟩ : ∃ j : Nat, at_.tdiv 7 % 4 = (j : Int) ∧ j < 4 := by
            have h1 := Int.emod_nonneg (at_.tdiv 7) (b := 4) (by omega)
            have h2 := Int.emod_lt_of_pos (at_.tdiv 7) (b := 4) (by omega)
            exact ⟨(at_.tdiv 7 % 4).toNat, by omega, by omega⟩
          have hq1 : -9223372036854775808 ≤ at_.tdiv 7 := by have := Int.tdiv_eq_ediv (a := at_) (b := 7); rw [show Int.sign 7 = 1 from rfl] at this; split at this <;> omega
          have hq2 : at_.tdiv 7 ≤ 9223372036854775807 := by have := Int.tdiv_eq_ediv (a := at_) (b := 7); rw [show Int.sign 7 = 1 from rfl] at this; split at this <;> omega
          have md := mod_any (at_.tdiv 7) 4 (w7.alloc (.cells #[.int .u8 60, .int .u8 62, .int .u8 44, .int .u8 (cb.toNat : Int)] 5)) hq1 hq2 (by omega) (by omega)
          rw [hj] at md
          have MD := Lib.hid md
          clear md hj hq1 hq2
          go_wp2_with fail
          refine MD.out.mono ?_
          rintro e w8 ⟨rfl, rfl⟩
          clear MD
          obtain ⟨y, hy⟩ : ∃ y : UInt8, #[Value.int .u8 60, .int .u8 62, .int .u8 44, .int .u8 (cb.toNat : Int)][j]? = some (.int .u8 (y.toNat : Int)) := by
            have : j = 0 ∨ j = 1 ∨ j = 2 ∨ j = 3 := by omega
            rcases this with rfl | rfl | rfl | rfl
            · exact ⟨60, rfl⟩
            · exact ⟨62, rfl⟩
            · exact ⟨44, rfl⟩
            · exact ⟨cb, rfl⟩
          have hB8 := alloc1 w7 (.cells #[.int .u8 60, .int .u8 62, .int .u8 44, .int .u8 (cb.toNat : Int)] 5)
          have hb8 : Below w7.heap.size w7 (w7.alloc (.cells #[.int .u8 60, .int .u8 62, .int .u8 44, .int .u8 (cb.toNat : Int)] 5)) := (Below.refl _ _).alloc (Nat.le_refl _) _
          obtain ⟨g, hg⟩ : ∃ g, g = w7.heap.size := ⟨_, rfl⟩
          rw [← hg] at hB8 ⊢
          generalize w7.alloc (.cells #[.int .u8 60, .int .u8 62, .int .u8 44, .int .u8 (cb.toNat : Int)] 5) = w8 at *
          have c8 : w8.cell? ⟨g, j, none⟩ = some (.int .u8 (y.toNat : Int)) := (Lib.cell_of_heap hB8 _).trans hy
          have hBy8 := HBY7.out.keep (hb8.block _ HBY7.out.lt)
          have hown8 := HOWN.out.kept (grownOfBelow hb8) (ownNone _)
          have z8 := hBy8.open_ hkl
          obtain ⟨yo, hyo⟩ : ∃ yo : UInt8, l[k]? = some yo := ⟨_, List.getElem?_eq_getElem hkl⟩
          have ck8 := hBy8.cell hyo
          clear hyo
          have HBY8 := Lib.hid hBy8
          have HOWN8 := Lib.hid hown8
          have HB8 := Lib.hid (HB7.out.trans (hb8.mono HB7.out.size))
          have hsz8 := hb8.size
          have hbw8 := hBy8.lt
          have hjk : (0 : Int) ≤ (j : Int) ∧ (j : Int) < 4 := ⟨by omega, by omega⟩
          have hkk : (0 : Int) ≤ (k : Int) ∧ (k : Int) < ((l.length : Nat) : Int) := ⟨by omega, by omega⟩
          clear hB8 hb8 hg hy hBy8 hown8
          have hset := HBY8.out.set hkl y
          have hll : (l.set k y).length = l.length := List.length_set
          obtain ⟨l', hl'⟩ : ∃ l', l' = l.set k y := ⟨_, rfl⟩
          rw [← hl'] at hset hll
          have hcv := hset.str 0 l.length cap (by omega)
          rw [List.drop_zero, List.take_of_length_le (by omega)] at hcv
          have HSET := Lib.hid hset
          have HLL := Lib.hid hll
          clear hl' hset hll
          obtain ⟨i0, hi, hz0, hz1, hz2⟩ := info_parts infoS
          have hownS : (w8.setCell ⟨bb, k, none⟩ (.int .u8 (y.toNat : Int))).ownsRow lb 9 1 (.slice LA m lc) m (ys.map sv) := HOWN8.out.kept (row := some bb) ⟨rfl, rfl, rfl, by simp, fun x hx hne => Below.heap_setCell _ _ _ _ (fun e => hne (by rw [e]))⟩ (.inr fun e => by rw [HOB.out] at e; have h0 : lb = bb := Option.some.inj e; omega)
          go_wp2_with (at_builtin; refine wpList_append_lies _ rfl _ _ 35 rfl lb 9 i0 _ 1 16 Tryd.underlying35 hi hz0 hz1 hz2 rfl (by omega) _ m (ys.map sv) rfl (hownS.alloc _) ⟨w8.heap.size, 0, none⟩ 1 1 [sv l'] rfl rfl ?d1 ?d2 (by omega) ?d3 ?d4 ?d5 _ rfl ?_)
          case d1 =>
            have h := alloc1 (w8.setCell ⟨bb, k, none⟩ (.int .u8 (y.toNat : Int))) (.cells #[sv l'] 9)
            rw [sizeSet] at h
            exact World.news_of_block (cs := #[sv l']) h
          case d2 => simp [Value.oneCell']
          case d3 => unfold maxLen; omega
          case d4 => omega
          case d5 => simp; omega
          intro gx capx wx hownx hgx hatx _
          have HBX : Hid (Below w.heap.size w wx) := Lib.hid (by
            have h0 := HB8.out
            have h1 := (h0.setCell (p := ⟨bb, k, none⟩) HBB.out (.int .u8 (y.toNat : Int))).alloc (by have := h0.size; simp; omega) (.cells #[sv l'] 9)
            exact h1.grown hgx (by have := h0.size; simp; omega) (fun r hr => by have := (hownS.lt r hr).1; have := HBB.out; omega))
          have hrow : Row wx (Lt wx.heap.size) (some ⟨gx, 0, none⟩) ((ys ++ [l']).map sv) := by
            rw [List.map_append]
            exact Row.ofOwn hownx fun g hg _ h2 => h2
          have hzl : (ys ++ [l']).length = m + 1 := by rw [List.length_append, HYS.out, HM.out]; rfl
          have hzs : ∀ z ∈ ys ++ [l'], z.length ≤ 3000 := fun z hz => by
            rcases List.mem_append.1 hz with h | h
            · exact HYL.out z h
            · rw [List.mem_singleton.1 h, HLL.out]
              omega
          obtain ⟨zs, hzse⟩ : ∃ zs, zs = ys ++ [l'] := ⟨_, rfl⟩
          rw [← hzse] at hrow hzl hzs
          obtain ⟨ad, had⟩ : ∃ ad : Addr, ad = ⟨gx, 0, none⟩ := ⟨_, rfl⟩
          rw [← had] at hrow ⊢
          obtain ⟨N, hN⟩ : ∃ N, N = m + 1 := ⟨_, rfl⟩
          rw [← hN] at hzl ⊢
          have HZL := Lib.hid hzl
          have HZS := Lib.hid hzs
          have HROW := Lib.hid hrow
          have hN6 : N ≤ 6 := by omega
          clear hzl hzs hrow hzse had hN hgx hatx hownx hownS hcv
          go_wp2_with fail
          go_loopw [11] (fun iv wr => ∃ i : Nat, i ≤ N ∧ iv = .int .i64 (i : Int) ∧ Below wx.heap.size wx wr) (fun iv _ => N - (intOf iv).toNat)
          case atStart => exact ⟨0, by omega, rfl, Below.refl _ _⟩
          case round =>
            obtain ⟨i, hiN, rfl, hbl⟩ := hrel
            have HBW := Lib.hid (HBX.out.trans (hbl.mono HBX.out.size))
            by_cases hlt : i < N
            · have hil : i < zs.length := by rw [HZL.out]; exact hlt
              have hz0 : zs[i]? = some zs[i] := List.getElem?_eq_getElem hil
              have hzl := HZS.out zs[i] (List.getElem_mem hil)
              generalize zs[i] = z at hz0 hzl
              clear hil
              obtain ⟨ad', hae, hS, e0⟩ := (HROW.out.keep (kept_below hbl)).at_ (k := i) (u := sv z) (by rw [List.getElem?_map, hz0]; rfl)
              obtain rfl := Option.some.inj hae
              have hSr : ad.block < wr.heap.size := Nat.lt_of_lt_of_le hS hbl.size
              have hbs : (bs z).size ≤ 3000 := by rw [bs_size]; exact hzl
              have PA := Lib.hid (parse_any z wr (by omega))
              have hNN : (0 : Int) ≤ (i : Int) ∧ (i : Int) < (N : Int) := ⟨by omega, by omega⟩
              have HBL := Lib.hid hbl
              clear hz0 hae hS hbl
              go_wp2_with fail
              refine PA.out.mono ?_
              intro e w10 hres
              obtain ⟨u1, v1, rfl, hT1, hb10⟩ := hres.both
              obtain ⟨u1, v1, rfl, rfl⟩ := hT1.shape
              have e0 := (hb10.cell (p := ad.add i) (by rw [blkAdd]; exact hSr)).trans e0
              have HB10 := Lib.hid (HBL.out.trans (hb10.mono HBL.out.size))
              have hS10 : ad.block < w10.heap.size := Nat.lt_of_lt_of_le hSr hb10.size
              obtain ⟨b, hbe⟩ : ∃ b, b = (parse z).isSome := ⟨_, rfl⟩
              rw [← hbe]
              have HBE := Lib.hid hbe
              have HT1 := Lib.hid hT1
              have hc10 : (w10.alloc (.cells #[.string (bs u1), .slice v1.1 v1.2.1 v1.2.2] 30)).cell? (ad.add i) = some (sv z) := (World.cell?_of_block (heap_alloc_old w10 _ (by rw [blkAdd]; exact hS10))).trans e0
              have hbx : Below w10.heap.size w10 (w10.alloc (.cells #[.string (bs u1), .slice v1.1 v1.2.1 v1.2.2] 30)) := (Below.refl _ _).alloc (Nat.le_refl _) _
              have hB11 := alloc1 w10 (.cells #[.string (bs u1), .slice v1.1 v1.2.1 v1.2.2] 30)
              have PB := Lib.hid (refParse_any z (w10.alloc (.cells #[.string (bs u1), .slice v1.1 v1.2.1 v1.2.2] 30)) (by omega))
              clear hbe hT1 hb10 hres PA
              go_wp2_with fail
              generalize w10.alloc (.cells #[.string (bs u1), .slice v1.1 v1.2.1 v1.2.2] 30) = w11 at *
              refine PB.out.mono ?_
              intro e w12 hres
              obtain ⟨u2, v2, rfl, hT2, hb12⟩ := hres.both
              obtain ⟨u2, v2, rfl, rfl⟩ := hT2.shape
              rw [← HBE.out]
              obtain ⟨p1, hp1⟩ : ∃ p1, p1 = w10.heap.size := ⟨_, rfl⟩
              rw [← hp1] at hB11 ⊢
              have HP1 := Lib.hid hp1
              clear hp1
              have hB12 := (hb12.block p1 (lt_of_heap hB11)).trans hB11
              have hs11 := hbx.size
              have hs12 := hb12.size
              have hT112 : TyIs w12 (Lt w12.heap.size) ((parse z).getD (.mk [] [])) (sv u1) (.slice v1.1 v1.2.1 v1.2.2) := (((HT1.out.lower hbx).lower (hb12.mono hs11))).more fun y hy => Nat.lt_of_lt_of_le hy (Nat.le_trans hs11 hs12)
              have e12 := (hb12.cell (p := ad.add i) (by rw [blkAdd]; omega)).trans hc10
              have HB12 := Lib.hid (HB10.out.trans ((hbx.trans (hb12.mono hs11)).mono HB10.out.size))
              have HT12 := Lib.hid hT112
              have HT2 := Lib.hid hT2
              clear hT112 hT2 hb12 hbx hres PB hc10 hB11
              go_wp2_with fail
              have hb13 : Below w12.heap.size w12 (w12.alloc (.cells #[.string (bs u2), .slice v2.1 v2.2.1 v2.2.2] 30)) := (Below.refl _ _).alloc (Nat.le_refl _) _
              have hB13 := alloc1 w12 (.cells #[.string (bs u2), .slice v2.1 v2.2.1 v2.2.2] 30)
              obtain ⟨p2, hp2⟩ : ∃ p2, p2 = w12.heap.size := ⟨_, rfl⟩
              rw [← hp2] at hB13 ⊢
              have HP2 := Lib.hid hp2
              clear hp2
              generalize w12.alloc (.cells #[.string (bs u2), .slice v2.1 v2.2.1 v2.2.2] 30) = w13 at *
              have hB1 := (hb13.block p1 (lt_of_heap hB12)).trans hB12
              have e13 := (hb13.cell (p := ad.add i) (by rw [blkAdd]; omega)).trans e12
              have hs13 := hb13.size
              have hS13 : ∀ w', Below w13.heap.size w13 w' → w'.cell? ⟨p1, 0, none⟩ = some (sv u1) ∧ w'.cell? ⟨p1, 1, none⟩ = some (.slice v1.1 v1.2.1 v1.2.2) ∧ w'.cell? ⟨p2, 0, none⟩ = some (sv u2) ∧ w'.cell? ⟨p2, 1, none⟩ = some (.slice v2.1 v2.2.1 v2.2.2) ∧ w'.cell? (ad.add i) = some (sv z) := fun w' hb => by
                have h1 := (hb.block p1 (lt_of_heap hB1)).trans hB1
                have h2 := (hb.block p2 (lt_of_heap hB13)).trans hB13
                exact ⟨(Lib.cell_of_heap h1 _).trans rfl, (Lib.cell_of_heap h1 _).trans rfl, (Lib.cell_of_heap h2 _).trans rfl, (Lib.cell_of_heap h2 _).trans rfl, (hb.cell (p := ad.add i) (by rw [blkAdd]; omega)).trans e13⟩
              have HSS := Lib.hid hS13
              have HTA : Hid (∀ w', Below w13.heap.size w13 w' → TyIs w' (Lt w'.heap.size) ((parse z).getD (.mk [] [])) (sv u1) (.slice v1.1 v1.2.1 v1.2.2)) := Lib.hid fun w' hb => ((HT12.out.lower hb13).lower (hb.mono hs13)).more fun y hy => Nat.lt_of_lt_of_le hy (Nat.le_trans hs13 hb.size)
              have HTB : Hid (∀ w', Below w13.heap.size w13 w' → TyIs w' (Lt w'.heap.size) ((parse z).getD (.mk [] [])) (sv u2) (.slice v2.1 v2.2.1 v2.2.2)) := Lib.hid fun w' hb => ((HT2.out.lower hb13).lower (hb.mono hs13)).more fun y hy => Nat.lt_of_lt_of_le hy (Nat.le_trans hs13 hb.size)
              have HB13 := Lib.hid (HB12.out.trans (hb13.mono HB12.out.size))
              clear hS13 hB1 hB12 hB13 e12 e13 hb13
              cases b with
              | true =>
                go_wp2_with fail
                refine wp_region_mix (fun w' => Below w13.heap.size w13 w') [(true, 0), (true, 1), (true, 2), (true, 3), (true, 4), (true, 5), (false, 6), (true, 7), (true, 8), (true, 9), (true, 10), (true, 11), (true, 12), (true, 14), (true, 15), (true, 16), (true, 17), (false, 13), (true, 18), (true, 19)] [20] (by kernel_rfl) (by kernel_rfl) ((Below.refl _ _).drew) ?ht
                case ht =>
                simp only [mixAt, opsAt, List.filterMap_cons, List.filterMap_nil, List.getElem?_toArray, List.getElem?_cons_succ, List.getElem?_cons_zero, Option.map_some]
                obtain ⟨w14, hw14⟩ : ∃ w14, w14 = w13.drew := ⟨_, rfl⟩
                have HB14 : Hid (Below w13.heap.size w13 w14) := Lib.hid (by rw [hw14]; exact (Below.refl _ _).drew)
                rw [← hw14]
                clear hw14
                refine wpMix_load ?vt0 rfl (fun w' hS => ?yt0) ?kt0
                case yt0 =>
                  obtain ⟨h1, h2, h3, h4, h5⟩ := HSS.out w' hS
                  go_simp
                  try rfl
                case kt0 =>
                go_simp
                refine wpMix_load ?vt1 rfl (fun w' hS => ?yt1) ?kt1
                case yt1 =>
                  obtain ⟨h1, h2, h3, h4, h5⟩ := HSS.out w' hS
                  go_simp
                  try rfl
                case kt1 =>
                go_simp
                refine wpMix_load ?vt2 rfl (fun w' hS => ?yt2) ?kt2
                case yt2 =>
                  obtain ⟨h1, h2, h3, h4, h5⟩ := HSS.out w' hS
                  go_simp
                  try rfl
                case kt2 =>
                go_simp
                refine wpMix_load ?vt3 rfl (fun w' hS => ?yt3) ?kt3
                case yt3 =>
                  obtain ⟨h1, h2, h3, h4, h5⟩ := HSS.out w' hS
                  go_simp
                  try rfl
                case kt3 =>
                go_simp
                refine wpMix_load ?vt4 rfl (fun w' hS => ?yt4) ?kt4
                case yt4 =>
                  obtain ⟨h1, h2, h3, h4, h5⟩ := HSS.out w' hS
                  go_simp
                  try rfl
                case kt4 =>
                go_simp
                refine wpMix_load ?vt5 rfl (fun w' hS => ?yt5) ?kt5
                case yt5 =>
                  obtain ⟨h1, h2, h3, h4, h5⟩ := HSS.out w' hS
                  go_simp
                  try rfl
                case kt5 =>
                go_simp
                have SM := Lib.hid (refSame_any _ _ _ _ _ _ w14 (HTA.out w14 HB14.out) (HTB.out w14 HB14.out))
                refine wpMix_keep rfl ?_
                go_simp
                refine SM.out.mono ?_
                rintro e w15 ⟨r, rfl, hr, hb15⟩
                obtain rfl : r = true := hr.2 rfl
                have HB15 := Lib.hid (HB14.out.trans (hb15.mono HB14.out.size))
                refine ⟨HB15.out, ?_⟩
                clear SM hr hb15
                refine wpMix_load ?vt7 rfl (fun w' hS => ?yt7) ?kt7
                case yt7 =>
                  obtain ⟨h1, h2, h3, h4, h5⟩ := HSS.out w' hS
                  go_simp
                  try rfl
                case kt7 =>
                go_simp
                refine wpMix_load ?vt8 rfl (fun w' hS => ?yt8) ?kt8
                case yt8 =>
                  obtain ⟨h1, h2, h3, h4, h5⟩ := HSS.out w' hS
                  go_simp
                  try rfl
                case kt8 =>
                go_simp
                refine wpMix_load ?vt9 rfl (fun w' hS => ?yt9) ?kt9
                case yt9 =>
                  obtain ⟨h1, h2, h3, h4, h5⟩ := HSS.out w' hS
                  go_simp
                  try rfl
                case kt9 =>
                go_simp
                refine wpMix_load ?vt10 rfl (fun w' hS => ?yt10) ?kt10
                case yt10 =>
                  obtain ⟨h1, h2, h3, h4, h5⟩ := HSS.out w' hS
                  go_simp
                  try rfl
                case kt10 =>
                go_simp
                refine wpMix_load ?vt11 rfl (fun w' hS => ?yt11) ?kt11
                case yt11 =>
                  obtain ⟨h1, h2, h3, h4, h5⟩ := HSS.out w' hS
                  go_simp
                  try rfl
                case kt11 =>
                go_simp
                refine wpMix_load ?vt12 rfl (fun w' hS => ?yt12) ?kt12
                case yt12 =>
                  obtain ⟨h1, h2, h3, h4, h5⟩ := HSS.out w' hS
                  go_simp
                  try rfl
                case kt12 =>
                go_simp
                refine wpMix_load ?vt14 rfl (fun w' hS => ?yt14) ?kt14
                case yt14 =>
                  obtain ⟨h1, h2, h3, h4, h5⟩ := HSS.out w' hS
                  go_simp
                  try rfl
                case kt14 =>
                go_simp
                refine wpMix_load ?vt15 rfl (fun w' hS => ?yt15) ?kt15
                case yt15 =>
                  obtain ⟨h1, h2, h3, h4, h5⟩ := HSS.out w' hS
                  go_simp
                  try rfl
                case kt15 =>
                go_simp
                refine wpMix_load ?vt16 rfl (fun w' hS => ?yt16) ?kt16
                case yt16 =>
                  obtain ⟨h1, h2, h3, h4, h5⟩ := HSS.out w' hS
                  go_simp
                  try rfl
                case kt16 =>
                go_simp
                refine wpMix_load ?vt17 rfl (fun w' hS => ?yt17) ?kt17
                case yt17 =>
                  obtain ⟨h1, h2, h3, h4, h5⟩ := HSS.out w' hS
                  go_simp
                  try rfl
                case kt17 =>
                go_simp
                obtain ⟨t0, ht0⟩ := Option.isSome_iff_exists.1 HBE.out.symm
                have PR := print_any _ _ _ w15 (HTA.out w15 HB15.out) (by rw [ht0, Option.getD_some, parse_prn ht0]; omega)
                rw [ht0, Option.getD_some, parse_prn ht0] at PR
                have PR := Lib.hid PR
                clear ht0
                refine wpMix_keep rfl ?_
                go_simp
                refine PR.out.mono ?_
                rintro e w16 ⟨rfl, hb16⟩
                have HB16 := Lib.hid (HB15.out.trans (hb16.mono HB15.out.size))
                refine ⟨HB16.out, ?_⟩
                clear PR hb16
                have hne : ((bs z).toList != (bs z).toList) = false := by simp
                refine wpMix_load ?vt18 rfl (fun w' hS => ?yt18) ?kt18
                case yt18 =>
                  obtain ⟨h1, h2, h3, h4, h5⟩ := HSS.out w' hS
                  go_simp
                  try rfl
                case kt18 =>
                go_simp
                refine wpMix_load ?vt19 rfl (fun w' hS => ?yt19) ?kt19
                case yt19 =>
                  obtain ⟨h1, h2, h3, h4, h5⟩ := HSS.out w' hS
                  go_simp
                  try rfl
                case kt19 =>
                go_simp
                refine wpMix_nil ?_
                go_wp2
                refine NoPanic.normal ?_
                go_wp2
                go_roundw
                case rel => exact ⟨i + 1, by omega, by go_num, HB13.out.trans (HB16.out.mono HB13.out.size)⟩
                case measure => simp [intOf]; omega
              | false =>
                go_wp2_with fail
                refine wp_region_mix (fun w' => Below w13.heap.size w13 w') [(true, 0), (true, 1), (true, 2), (true, 3), (true, 4), (true, 5), (false, 6), (true, 7), (true, 8), (true, 9), (true, 10), (true, 11), (true, 12), (true, 14), (true, 15), (true, 16), (true, 17), (true, 13), (true, 18), (true, 19)] [20] (by kernel_rfl) (by kernel_rfl) ((Below.refl _ _).drew) ?hf
                case hf =>
                simp only [mixAt, opsAt, List.filterMap_cons, List.filterMap_nil, List.getElem?_toArray, List.getElem?_cons_succ, List.getElem?_cons_zero, Option.map_some]
                obtain ⟨w14, hw14⟩ : ∃ w14, w14 = w13.drew := ⟨_, rfl⟩
                have HB14 : Hid (Below w13.heap.size w13 w14) := Lib.hid (by rw [hw14]; exact (Below.refl _ _).drew)
                rw [← hw14]
                clear hw14
                refine wpMix_load ?vf0 rfl (fun w' hS => ?yf0) ?kf0
                case yf0 =>
                  obtain ⟨h1, h2, h3, h4, h5⟩ := HSS.out w' hS
                  go_simp
                  try rfl
                case kf0 =>
                go_simp
                refine wpMix_load ?vf1 rfl (fun w' hS => ?yf1) ?kf1
                case yf1 =>
                  obtain ⟨h1, h2, h3, h4, h5⟩ := HSS.out w' hS
                  go_simp
                  try rfl
                case kf1 =>
                go_simp
                refine wpMix_load ?vf2 rfl (fun w' hS => ?yf2) ?kf2
                case yf2 =>
                  obtain ⟨h1, h2, h3, h4, h5⟩ := HSS.out w' hS
                  go_simp
                  try rfl
                case kf2 =>
                go_simp
                refine wpMix_load ?vf3 rfl (fun w' hS => ?yf3) ?kf3
                case yf3 =>
                  obtain ⟨h1, h2, h3, h4, h5⟩ := HSS.out w' hS
                  go_simp
                  try rfl
                case kf3 =>
                go_simp
                refine wpMix_load ?vf4 rfl (fun w' hS => ?yf4) ?kf4
                case yf4 =>
                  obtain ⟨h1, h2, h3, h4, h5⟩ := HSS.out w' hS
                  go_simp
                  try rfl
                case kf4 =>
                go_simp
                refine wpMix_load ?vf5 rfl (fun w' hS => ?yf5) ?kf5
                case yf5 =>
                  obtain ⟨h1, h2, h3, h4, h5⟩ := HSS.out w' hS
                  go_simp
                  try rfl
                case kf5 =>
                go_simp
                have SM := Lib.hid (refSame_any _ _ _ _ _ _ w14 (HTA.out w14 HB14.out) (HTB.out w14 HB14.out))
                refine wpMix_keep rfl ?_
                go_simp
                refine SM.out.mono ?_
                rintro e w15 ⟨r, rfl, hr, hb15⟩
                obtain rfl : r = true := hr.2 rfl
                have HB15 := Lib.hid (HB14.out.trans (hb15.mono HB14.out.size))
                refine ⟨HB15.out, ?_⟩
                clear SM hr hb15
                refine wpMix_load ?vf7 rfl (fun w' hS => ?yf7) ?kf7
                case yf7 =>
                  obtain ⟨h1, h2, h3, h4, h5⟩ := HSS.out w' hS
                  go_simp
                  try rfl
                case kf7 =>
                go_simp
                refine wpMix_load ?vf8 rfl (fun w' hS => ?yf8) ?kf8
                case yf8 =>
                  obtain ⟨h1, h2, h3, h4, h5⟩ := HSS.out w' hS
                  go_simp
                  try rfl
                case kf8 =>
                go_simp
                refine wpMix_load ?vf9 rfl (fun w' hS => ?yf9) ?kf9
                case yf9 =>
                  obtain ⟨h1, h2, h3, h4, h5⟩ := HSS.out w' hS
                  go_simp
                  try rfl
                case kf9 =>
                go_simp
                refine wpMix_load ?vf10 rfl (fun w' hS => ?yf10) ?kf10
                case yf10 =>
                  obtain ⟨h1, h2, h3, h4, h5⟩ := HSS.out w' hS
                  go_simp
                  try rfl
                case kf10 =>
                go_simp
                refine wpMix_load ?vf11 rfl (fun w' hS => ?yf11) ?kf11
                case yf11 =>
                  obtain ⟨h1, h2, h3, h4, h5⟩ := HSS.out w' hS
                  go_simp
                  try rfl
                case kf11 =>
                go_simp
                refine wpMix_skip rfl ?_
                go_simp
                refine wpMix_skip rfl ?_
                go_simp
                refine wpMix_skip rfl ?_
                go_simp
                refine wpMix_skip rfl ?_
                go_simp
                refine wpMix_skip rfl ?_
                go_simp
                refine wpMix_skip rfl ?_
                go_simp
                refine wpMix_skip rfl ?_
                go_simp
                refine wpMix_load ?vf19 rfl (fun w' hS => ?yf19) ?kf19
                case yf19 =>
                  obtain ⟨h1, h2, h3, h4, h5⟩ := HSS.out w' hS
                  go_simp
                  try rfl
                case kf19 =>
                go_simp
                refine wpMix_nil ?_
                go_wp2
                refine NoPanic.normal ?_
                go_wp2
                go_roundw
                case rel => exact ⟨i + 1, by omega, by go_num, HB13.out.trans (HB15.out.mono HB13.out.size)⟩
                case measure => simp [intOf]; omega
            · obtain rfl : i = N := by omega
              clear hbl
              go_wp2_with fail
              refine (awake_any wr).mono ?_
              rintro e w10 ⟨rfl, hb10⟩
              have HB10 := Lib.hid (HBW.out.trans (hb10.mono HBW.out.size))
              clear hb10
              go_wp2
              go_ret
              exact ⟨rfl, HB10.out⟩
end Go.Proofs.YtndhglcdkegigaaDoor
