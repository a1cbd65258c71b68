/-
  The walk of recompilelaw10.FactPacks: it returns true, and of what was there nothing has turned.
  Conditions: 'Env'; the first argument reads as a list of strings; each string and the list are no longer than Go's own limit lets them be.
-/
import Derived.Test.YthhjokdjacfkiaaDoorAwake
import Derived.Test.YthhjokdjacfkiaaDoorWalkA
namespace Go.Proofs.YthhjokdjacfkiaaDoor
open Go.RowKit

def sumLen (l : List (List UInt8)) : Nat := (l.map List.length).sum
theorem sumLen_snoc (l : List (List UInt8)) (a : List UInt8) : sumLen (l ++ [a]) = sumLen l + a.length := by simp [sumLen]
theorem sumLen_le (l : List (List UInt8)) (b : Nat) (h : ∀ a ∈ l, a.length ≤ b) : sumLen l ≤ l.length * b := by
  induction l with
  | nil => simp [sumLen]
  | cons a l ih =>
    have h1 := ih fun x hx => h x (by simp [hx])
    have h2 := h a (by simp)
    have h3 : sumLen (a :: l) = a.length + sumLen l := by simp [sumLen]
    rw [h3, List.length_cons, Nat.add_mul]
    omega
theorem pack_sum (l : List (List UInt8)) (h : sumLen l ≤ 5000) : (pack l).length ≤ sumLen l + 22 * l.length := by
  induction l with
  | nil => simp [sumLen, pack]
  | cons a l ih =>
    have h3 : sumLen (a :: l) = a.length + sumLen l := by simp [sumLen]
    have h1 := ih (by omega)
    have h4 := Lib.itoa_length_le (a.length : Int) (by omega) (by omega)
    rw [Lib.itoa_nonneg] at h4
    rw [pack_cons, List.length_append, pk_length, h3, List.length_cons]
    omega

theorem bytesOf (l : List UInt8) (W : World) : ∃ (cap : Nat) (C : Array Value) (rest : List Value),
    (convert 9 29 (sv l)).run Tryd.prog W = .ok (.slice (some ⟨W.heap.size, 0, none⟩) (bs l).size cap) (W.drew.alloc (.cells C 5 (C.size, C.size + 1))) ∧ C.toList = Lib.byteCells l ++ rest := by
  refine ⟨_, _, List.replicate (grownCap W (bs l).size 0 5 - (bs l).size) (.int .u8 0), run_bytes_of_string W _ _ 5 (bs l) Tryd.underlying9 Tryd.underlying29 Tryd.underlying5, ?_⟩
  unfold bytesRow Lib.byteCells bs
  simp

theorem cellSet (w : World) (C : Array Value) (T : TypeId) (fr : Nat × Nat) (idx : Nat) (v : Value) (j : Nat) (u : Value) (hj : (C.toList.set idx v)[j]? = some u) :
    ((w.alloc (.cells C T fr)).setCell ⟨w.heap.size, idx, none⟩ v).cell? ((⟨w.heap.size, 0, none⟩ : Addr).add j) = some u := by
  have hadd : (⟨w.heap.size, 0, none⟩ : Addr).add j = ⟨w.heap.size, j, none⟩ := by unfold Addr.add; split <;> simp_all
  have hb := Joins.block_setCell (i := idx) (heap_alloc_new w (.cells C T fr)) v
  rw [hadd, Joins.cell_of_block hb, ← hj, ← Array.getElem?_toList, Array.toList_setIfInBounds]
theorem cellNew (w : World) (C : Array Value) (T : TypeId) (fr : Nat × Nat) (j : Nat) (u : Value) (hj : C.toList[j]? = some u) :
    (w.alloc (.cells C T fr)).cell? ⟨w.heap.size, j, none⟩ = some u := by
  rw [Joins.cell_of_block (heap_alloc_new w (.cells C T fr)), ← hj, Array.getElem?_toList]
theorem frozenNew (w : World) (C : Array Value) (T : TypeId) (j : Nat) (hj : j < C.size) :
    (w.alloc (.cells C T (C.size, C.size + 1))).frozen? ⟨w.heap.size, j, none⟩ = false := by
  have hb := heap_alloc_new w (.cells C T (C.size, C.size + 1))
  simp only [World.frozen?, hb]
  simp
  omega

theorem refUnpack_yes (L : List (List UInt8)) (w : World) (hsz : (pack L).length ≤ 1000000000) :
    Calls Tryd.prog 10 #[sv (pack L)] w fun e w' => ∃ v, e = .returned (.tuple #[v, .bool true]) ∧ w'.ownsRow w.heap.size 9 1 v L.length (L.map sv) ∧ Below w.heap.size w w' :=
  (refUnpack_any (pack L) w hsz).mono fun e w' h => by
    rcases h with ⟨⟨L', v, hL, he, ho⟩ | ⟨hn, _⟩, hb⟩
    · obtain rfl := pack_inj _ _ hL
      exact ⟨v, he, ho, hb⟩
    · exact absurd rfl (hn L)
theorem refUnpack_no (s : List UInt8) (w : World) (hsz : s.length ≤ 1000000000) (h : ∀ L, s ≠ pack L) :
    Calls Tryd.prog 10 #[sv s] w fun e w' => e = .returned (.tuple #[.slice none 0 0, .bool false]) ∧ Below w.heap.size w w' :=
  (refUnpack_any s w hsz).mono fun e w' h' => by
    rcases h' with ⟨⟨L', v, hL, _⟩ | ⟨_, he⟩, hb⟩
    · exact absurd hL (h L')
    · exact ⟨he, hb⟩

def ysOf (s q r : List UInt8) : List (List UInt8) := [s, q, r, [48, 49, 58, 97], [45, 49, 58], [49, 58], [58], [50, 58, 97]]
theorem ysOf_le {s q r : List UInt8} (hs : s.length ≤ 1000000) (hq : q.length ≤ 1000000) (hr : r.length ≤ 1000000) : ∀ y ∈ ysOf s q r, y.length ≤ 1000000 := by
  unfold ysOf
  intro y hy
  simp only [List.mem_cons, List.not_mem_nil, or_false] at hy
  rcases hy with rfl | rfl | rfl | rfl | rfl | rfl | rfl | rfl
  · exact hs
  · exact hq
  · exact hr
  · decide
  · decide
  · decide
  · decide
  · decide
def ysCells (s q r : List UInt8) : Array Value := #[sv s, sv q, sv r, .string ⟨#[48, 49, 58, 97]⟩, .string ⟨#[45, 49, 58]⟩, .string ⟨#[49, 58]⟩, .string ⟨#[58]⟩, .string ⟨#[50, 58, 97]⟩]
theorem ysBlock (w : World) (T : TypeId) (s q r : List UInt8) : Strs (w.alloc (.cells (ysCells s q r) T)) (w.heap.size + 1) (some ⟨w.heap.size, 0, none⟩) 8 (ysOf s q r) :=
  strsNew w T (ysOf s q r)
theorem Strs.atB {w : World} {B b n k : Nat} {ls : List (List UInt8)} (h : Strs w B (some ⟨b, 0, none⟩) n ls) (hk : k < n) :
    ∃ l, l ∈ ls ∧ w.cell? ⟨b, k, none⟩ = some (sv l) := by
  obtain ⟨ad, l, e, _, e1, hc⟩ := h.at_ hk
  obtain rfl := Option.some.inj e
  have hadd : (⟨b, 0, none⟩ : Addr).add k = ⟨b, k, none⟩ := by unfold Addr.add; split <;> simp_all
  rw [hadd] at hc
  exact ⟨l, List.mem_of_getElem? e1, hc⟩

set_option maxHeartbeats 2000000 in
set_option maxRecDepth 100000 in
theorem law_any (A : Option Addr) (n c B0 : Nat) (ls : List (List UInt8)) (s : List UInt8) (at_ : Int) (w : World) (he : Env w) (h : Strs w B0 A n ls) (hB0 : B0 ≤ w.heap.size)
    (hn : n ≤ 140737488355328) (hl : ∀ a ∈ ls, a.length ≤ 140737488355328) (hs : s.length ≤ 140737488355328) (ha0 : -9223372036854775808 ≤ at_) (ha1 : at_ ≤ 9223372036854775807) :
    Calls Tryd.prog 3 #[.slice A n c, sv s, .int .i64 at_] w fun e w' => e = .returned (.bool true) ∧ Below w.heap.size w w' := by
  have hss := bs_size s
  by_cases hbig : 100 < n
  · go_enter Tryd.func3, Tryd.ntmps3
    go_wp2_with (go_at_call 4; refine (awake_any _ he).mono ?_; rintro e w1 ⟨rfl, hb⟩)
    go_ret
    exact ⟨rfl, hb⟩
  by_cases hbig2 : 2000 < s.length
  · have hss2 : 2000 < (bs s).size := by omega
    clear hss
    go_enter Tryd.func3, Tryd.ntmps3
    go_wp2_with (go_at_call 4; refine (awake_any _ he).mono ?_; rintro e w1 ⟨rfl, hb⟩)
    go_ret
    exact ⟨rfl, hb⟩
  have hss2 : (bs s).size ≤ 2000 := by omega
  have Hss := Lib.hid hss
  clear hss
  go_enter Tryd.func3, Tryd.ntmps3
  have hn100 : n ≤ 100 := by omega
  clear hbig hbig2
  go_wp2_with fail
  go_loop [8, 9] (fun x i => ∃ k : Nat, k ≤ n ∧ i = .int .i64 k ∧ x = .int .i64 (sumLen (ls.take k) : Nat)) (fun _ i => n - (intOf i).toNat)
  case atStart => exact ⟨0, Nat.zero_le _, rfl, rfl⟩
  case round =>
    obtain ⟨k, hk, rfl, rfl⟩ := hrel
    have hsum : sumLen (ls.take k) ≤ 100 * 140737488355328 := by
      refine Nat.le_trans (sumLen_le _ 140737488355328 fun a ha => hl a (List.mem_of_mem_take ha)) (Nat.mul_le_mul_right _ ?_)
      rw [List.length_take]
      omega
    by_cases hlt : k < n
    · obtain ⟨ad, l, rfl, _, e1, hc⟩ := h.at_ hlt
      have hl1 : (bs l).size ≤ 140737488355328 := by rw [bs_size]; exact hl l (List.mem_of_getElem? e1)
      have hsn : sumLen (ls.take (k + 1)) = sumLen (ls.take k) + (bs l).size := by
        rw [List.take_add_one, e1, bs_size]
        exact sumLen_snoc _ _
      have Hsn := Lib.hid hsn
      clear hsn e1
      go_wp2_with fail
      go_round
      case rel => exact ⟨k + 1, by omega, by go_num, by rw [Hsn.out]; go_num⟩
      case measure => simp [intOf]; omega
    · obtain rfl : k = n := by omega
      have hk2 : ls.take k = ls := List.take_of_length_le (by rw [h.len]; omega)
      rw [hk2] at hsum ⊢
      clear hk2 hlt hk
      by_cases hbig3 : 5000 < sumLen ls
      · go_wp2_with (go_at_call 4; refine (awake_any _ he).mono ?_; rintro e w1 ⟨rfl, hb⟩)
        go_ret
        exact ⟨rfl, hb⟩
      have hs5 : sumLen ls ≤ 5000 := by omega
      have hpl : (pack ls).length ≤ 10000 := by
        have := pack_sum ls hs5
        rw [h.len] at this
        omega
      clear hbig3
      go_wp2_with fail
      refine (pack_any A k c B0 ls w he h hB0 (by omega) (by omega)).mono ?_
      rintro e w1 ⟨rfl, hb1⟩
      have he1 := he.below hb1
      go_wp2_with fail
      refine (unpack_yes ls w1 he1 (by omega)).mono ?_
      rintro e w2 ⟨v, rfl, hown2, hb2⟩
      obtain ⟨A2, c2, rfl⟩ := ownForm hown2
      have hS2 := strsOfOwn hown2
      have hb2' : Below w.heap.size w w2 := hb1.trans (hb2.mono hb1.size)
      have h2 := h.below (hb2'.mono hB0)
      go_wp2_with fail
      refine (refPack_any A k c B0 ls w2 h2 (by have := hb2'.size; omega) (by omega) (by omega)).mono ?_
      rintro e w3 ⟨rfl, hb3⟩
      have hb3' : Below w.heap.size w w3 := hb2'.trans (hb3.mono hb2'.size)
      go_wp2_with fail
      refine (sameTexts_yes A2 A ls.length c2 k c w2.heap.size ls w3 (hS2.below hb3) ((h.below (hb3'.mono hB0)).more (by have := hb2'.size; omega)) (by rw [h.len]; omega)).mono ?_
      rintro e w4 ⟨rfl, q4, rfl⟩
      have hb4 : Below w.heap.size w (w3.drewN q4) := belowDrewN hb3' q4
      go_wp2_with fail
      obtain ⟨cb, hcb⟩ : ∃ cb : UInt8, at_ / 512 % 256 = (cb.toNat : Int) := ⟨UInt8.ofNat (at_ / 512 % 256).toNat, by rw [UInt8.toNat_ofNat']; omega⟩
      rw [hcb]
      clear hcb
      obtain ⟨w4, hw4⟩ : ∃ w4, w4 = w3.drewN q4 := ⟨_, rfl⟩
      rw [← hw4] at hb4 ⊢
      clear hw4 hS2 hown2 h2 he1 hb1 hb2 hb2' hb3 hb3'
      obtain ⟨cap, C, rest, hconv, hC⟩ := bytesOf (pack ls) w4
      have HC := Lib.hid hC
      clear hC
      have hpz := bs_size (pack ls)
      by_cases hp : pack ls = []
      · rw [hconv]
        simp only [Result.andThen]
        rw [Oper.upon_value]
        clear hconv
        rw [hp] at hpz ⊢
        have hz : (bs []).size = 0 := rfl
        go_wp2_with fail
        have hback : (convert 29 9 (.slice (some ⟨w4.heap.size, 0, none⟩) 0 cap)).run Tryd.prog (w4.alloc (.cells C 5 (C.size, C.size + 1))).drew = .ok (sv []) (w4.alloc (.cells C 5 (C.size, C.size + 1))).drew :=
          run_convert_bytes_back _ _ _ 5 _ cap [] Tryd.underlying29 Tryd.underlying5 Tryd.underlying9 (fun j hj => absurd hj (by simp))
        have hb7 : Below w.heap.size w (w4.alloc (.cells C 5 (C.size, C.size + 1))).drew := (hb4.alloc hb4.size _).drew
        have hq9 : ([] : List UInt8).length ≤ 10000 := by decide
        rw [hback]
        simp only [Result.andThen]
        rw [Oper.upon_value]
        clear hback
        obtain ⟨w7, hw7⟩ : ∃ w7, w7 = (w4.alloc (.cells C 5 (C.size, C.size + 1))).drew := ⟨_, rfl⟩
        rw [← hw7] at hb7 ⊢
        clear hw7
        have hs2 : s.length ≤ 2000 := by rw [← Hss.out]; exact hss2
        have hpp : (bs ([] : List UInt8)).size ≤ 10000 := by decide
        go_wp2_with fail
        rw [← bs_append]
        have hyl := ysOf_le (s := s) (q := []) (r := [] ++ s) (by omega) (by omega) (by rw [List.length_append]; omega)
        have hY := ysBlock w7 9 s [] ([] ++ s)
        have hb8 : Below w.heap.size w (w7.alloc (.cells (ysCells s [] ([] ++ s)) 9)) := hb7.alloc hb7.size _
        have hsz8 : w7.heap.size + 1 ≤ (w7.alloc (.cells (ysCells s [] ([] ++ s)) 9)).heap.size := by simp
        obtain ⟨w8, hw8⟩ : ∃ w8, w8 = w7.alloc (.cells (ysCells s [] ([] ++ s)) 9) := ⟨_, rfl⟩
        change Code.wp _ _ _ _ (w7.alloc (.cells (ysCells s [] ([] ++ s)) 9))
        rw [← hw8] at hY hb8 hsz8 ⊢
        obtain ⟨b8, hb8e⟩ : ∃ b8, b8 = w7.heap.size := ⟨_, rfl⟩
        rw [← hb8e] at hY hsz8 ⊢
        obtain ⟨ys, hys⟩ : ∃ ys, ys = ysOf s [] ([] ++ s) := ⟨_, rfl⟩
        rw [← hys] at hY hyl
        clear hys hw8 hb8e hb7 hq9
        clear hz hpz hp hpl hs5 hsum
        have he8 := he.below hb8
        go_loopw [87] (fun i wr => ∃ j : Nat, j ≤ 8 ∧ i = .int .i64 j ∧ Below w8.heap.size w8 wr) (fun i _ => 8 - (intOf i).toNat)
        case atStart => exact ⟨0, by omega, rfl, Below.refl _ _⟩
        case round =>
          obtain ⟨j, hj, rfl, hbr⟩ := hrel
          have her := he8.below hbr
          have hbw : Below w.heap.size w wr := hb8.trans (hbr.mono hb8.size)
          by_cases hlt : j < 8
          · obtain ⟨y, hy, hcy⟩ := (hY.below (hbr.mono hsz8)).atB hlt
            have hyl1 := hyl y hy
            by_cases hpk : ∃ L, y = pack L
            · obtain ⟨L, rfl⟩ := hpk
              go_wp2_with fail
              refine (unpack_yes L wr her (by omega)).mono ?_
              rintro e x1 ⟨v, rfl, ho1, hx1⟩
              obtain ⟨A3, c3, rfl⟩ := ownForm ho1
              have hT1 := strsOfOwn ho1
              have her1 := her.below hx1
              go_wp2_with fail
              refine (refUnpack_yes L x1 (by omega)).mono ?_
              rintro e x2 ⟨v2, rfl, ho2, hx2⟩
              obtain ⟨A4, c4, rfl⟩ := ownForm ho2
              have hT2 := strsOfOwn ho2
              have hT3 := hT1.below hx2
              have hT4 := hT3.more hx2.size
              have her2 := her1.below hx2
              have hLl := pack_len L
              clear ho1 ho2
              go_wp2_with fail
              refine (sameTexts_yes A3 A4 L.length c3 L.length c4 x2.heap.size L x2 hT4 hT2 (by omega)).mono ?_
              rintro e x3 ⟨rfl, q3, rfl⟩
              have her3 := her2.below (belowDrewN (Below.refl x2.heap.size x2) q3)
              go_wp2_with fail
              refine (pack_any A3 L.length c3 x2.heap.size L (x2.drewN q3) her3 (hT4.drewN q3) (Nat.le_refl _) (by omega) (by omega)).mono ?_
              rintro e x4 ⟨rfl, hx4⟩
              have hx5 : Below w8.heap.size w8 x4 := (hbr.trans ((hx1.trans (hx2.mono hx1.size)).mono hbr.size)).trans ((belowDrewN (Below.refl x2.heap.size x2) q3 |>.trans hx4).mono (by have := hbr.size; have := hx1.size; have := hx2.size; omega))
              go_wp2
              go_roundw
              case rel => first | exact ⟨j + 1, by omega, by go_num, hx5⟩ | ((repeat apply Exists.intro); exact ⟨⟨j + 1, by omega, by go_num, hx5⟩, rfl⟩)
              case measure => simp [intOf]; omega
            · have hno : ∀ L, y ≠ pack L := fun L h => hpk ⟨L, h⟩
              have Hno := Lib.hid hno
              clear hpk hno
              go_wp2_with fail
              refine (unpack_no y wr her (by omega) Hno.out).mono ?_
              rintro e x1 ⟨rfl, hx1⟩
              go_wp2_with fail
              refine (refUnpack_no y x1 (by omega) Hno.out).mono ?_
              rintro e x2 ⟨rfl, hx2⟩
              go_wp2_with fail
              refine (sameTexts_yes none none 0 0 0 0 0 [] x2 ⟨rfl, Row.nil _ _ _⟩ ⟨rfl, Row.nil _ _ _⟩ (by omega)).mono ?_
              rintro e x3 ⟨rfl, q3, rfl⟩
              have hx5 : Below w8.heap.size w8 (x2.drewN q3) := belowDrewN (hbr.trans ((hx1.trans (hx2.mono hx1.size)).mono hbr.size)) q3
              go_wp2
              go_roundw
              case rel => first | exact ⟨j + 1, by omega, by go_num, hx5⟩ | ((repeat apply Exists.intro); exact ⟨⟨j + 1, by omega, by go_num, hx5⟩, rfl⟩)
              case measure => simp [intOf]; omega
          · obtain rfl : j = 8 := by omega
            go_wp2_with (go_at_call 4; refine (awake_any _ her).mono ?_; rintro e y1 ⟨rfl, hby⟩)
            go_ret
            exact ⟨rfl, hbw.trans (hby.mono hbw.size)⟩
      · have hpos : 0 < (bs (pack ls)).size := by rw [hpz]; exact List.length_pos_iff.2 hp
        have hp9 : (bs (pack ls)).size ≤ 10000 := by omega
        have Hpz := Lib.hid hpz
        obtain ⟨idx, hidx⟩ : ∃ idx : Nat, at_ % ((bs (pack ls)).size : Int) = (idx : Int) := ⟨(at_ % ((bs (pack ls)).size : Int)).toNat, by have := Int.emod_nonneg at_ (b := ((bs (pack ls)).size : Int)) (by omega); omega⟩
        have hidx2 : idx < (bs (pack ls)).size := by have := Int.emod_lt_of_pos at_ (b := ((bs (pack ls)).size : Int)) (by omega); omega
        have Hidx := Lib.hid hidx
        clear hp hpz hidx
        have hCs : idx < C.size := by
          rw [← Array.length_toList, HC.out, List.length_append, Lib.byteCells_length, ← Hpz.out]
          omega
        have hcell := cellNew w4 C 5 (C.size, C.size + 1) idx (.int .u8 ((pack ls)[idx]'(by rw [← Hpz.out]; exact hidx2)).toNat) (by
          rw [HC.out, List.getElem?_append_left (by rw [Lib.byteCells_length, ← Hpz.out]; exact hidx2)]
          unfold Lib.byteCells
          rw [List.getElem?_map, List.getElem?_eq_getElem (by rw [← Hpz.out]; exact hidx2)]
          rfl)
        have hfroz := frozenNew w4 C 5 idx hCs
        rw [hconv]
        simp only [Result.andThen]
        rw [Oper.upon_value]
        clear hconv
        go_wp2_with fail
        refine (mod_any at_ _ _ ha0 ha1 (by omega) (by omega)).mono ?_
        rintro e w6 ⟨rfl, rfl⟩
        rw [Hidx.out]
        go_wp2_with fail
        have hql : ((pack ls).set idx cb).length = (bs (pack ls)).size := by rw [List.length_set]; exact Hpz.out.symm
        have hback : (convert 29 9 (.slice (some ⟨w4.heap.size, 0, none⟩) (bs (pack ls)).size cap)).run Tryd.prog ((w4.alloc (.cells C 5 (C.size, C.size + 1))).setCell ⟨w4.heap.size, idx, none⟩ (.int .u8 cb.toNat)).drew = .ok (sv ((pack ls).set idx cb)) ((w4.alloc (.cells C 5 (C.size, C.size + 1))).setCell ⟨w4.heap.size, idx, none⟩ (.int .u8 cb.toNat)).drew := by
          rw [← hql]
          refine run_convert_bytes_back _ _ _ 5 _ cap ((pack ls).set idx cb) Tryd.underlying29 Tryd.underlying5 Tryd.underlying9 (fun j hj => ?_)
          refine cellSet w4 C 5 (C.size, C.size + 1) idx (.int .u8 cb.toNat) j _ ?_
          rw [HC.out, List.set_append_left _ _ (by rw [Lib.byteCells_length, ← Hpz.out]; exact hidx2), List.getElem?_append_left (by rw [List.length_set, Lib.byteCells_length]; rw [List.length_set] at hj; exact hj)]
          unfold Lib.byteCells
          rw [← List.map_set, List.getElem?_map, List.getElem?_eq_getElem hj]
          rfl
        have hb7 : Below w.heap.size w ((w4.alloc (.cells C 5 (C.size, C.size + 1))).setCell ⟨w4.heap.size, idx, none⟩ (.int .u8 cb.toNat)).drew := ((hb4.alloc hb4.size _).setCell (p := ⟨w4.heap.size, idx, none⟩) hb4.size _).drew
        have hq9 : ((pack ls).set idx cb).length ≤ 10000 := by omega
        rw [hback]
        simp only [Result.andThen]
        rw [Oper.upon_value]
        clear hback hcell hfroz hql
        obtain ⟨w7, hw7⟩ : ∃ w7, w7 = ((w4.alloc (.cells C 5 (C.size, C.size + 1))).setCell ⟨w4.heap.size, idx, none⟩ (.int .u8 cb.toNat)).drew := ⟨_, rfl⟩
        rw [← hw7] at hb7 ⊢
        clear hw7
        obtain ⟨q, hq⟩ : ∃ q, q = (pack ls).set idx cb := ⟨_, rfl⟩
        rw [← hq] at hq9 ⊢
        clear hq
        have hs2 : s.length ≤ 2000 := by rw [← Hss.out]; exact hss2
        have hpp : (bs (pack ls)).size ≤ 10000 := by rw [bs_size]; exact hpl
        go_wp2_with fail
        rw [← bs_append]
        have hyl := ysOf_le (s := s) (q := q) (r := pack ls ++ s) (by omega) (by omega) (by rw [List.length_append]; omega)
        have hY := ysBlock w7 9 s q (pack ls ++ s)
        have hb8 : Below w.heap.size w (w7.alloc (.cells (ysCells s q (pack ls ++ s)) 9)) := hb7.alloc hb7.size _
        have hsz8 : w7.heap.size + 1 ≤ (w7.alloc (.cells (ysCells s q (pack ls ++ s)) 9)).heap.size := by simp
        obtain ⟨w8, hw8⟩ : ∃ w8, w8 = w7.alloc (.cells (ysCells s q (pack ls ++ s)) 9) := ⟨_, rfl⟩
        change Code.wp _ _ _ _ (w7.alloc (.cells (ysCells s q (pack ls ++ s)) 9))
        rw [← hw8] at hY hb8 hsz8 ⊢
        obtain ⟨b8, hb8e⟩ : ∃ b8, b8 = w7.heap.size := ⟨_, rfl⟩
        rw [← hb8e] at hY hsz8 ⊢
        obtain ⟨ys, hys⟩ : ∃ ys, ys = ysOf s q (pack ls ++ s) := ⟨_, rfl⟩
        rw [← hys] at hY hyl
        clear hys hw8 hb8e hb7 hq9
        have he8 := he.below hb8
        go_loopw [87] (fun i wr => ∃ j : Nat, j ≤ 8 ∧ i = .int .i64 j ∧ Below w8.heap.size w8 wr) (fun i _ => 8 - (intOf i).toNat)
        case atStart => exact ⟨0, by omega, rfl, Below.refl _ _⟩
        case round =>
          obtain ⟨j, hj, rfl, hbr⟩ := hrel
          have her := he8.below hbr
          have hbw : Below w.heap.size w wr := hb8.trans (hbr.mono hb8.size)
          by_cases hlt : j < 8
          · obtain ⟨y, hy, hcy⟩ := (hY.below (hbr.mono hsz8)).atB hlt
            have hyl1 := hyl y hy
            by_cases hpk : ∃ L, y = pack L
            · obtain ⟨L, rfl⟩ := hpk
              go_wp2_with fail
              refine (unpack_yes L wr her (by omega)).mono ?_
              rintro e x1 ⟨v, rfl, ho1, hx1⟩
              obtain ⟨A3, c3, rfl⟩ := ownForm ho1
              have hT1 := strsOfOwn ho1
              have her1 := her.below hx1
              go_wp2_with fail
              refine (refUnpack_yes L x1 (by omega)).mono ?_
              rintro e x2 ⟨v2, rfl, ho2, hx2⟩
              obtain ⟨A4, c4, rfl⟩ := ownForm ho2
              have hT2 := strsOfOwn ho2
              have hT3 := hT1.below hx2
              have hT4 := hT3.more hx2.size
              have her2 := her1.below hx2
              have hLl := pack_len L
              clear ho1 ho2
              go_wp2_with fail
              refine (sameTexts_yes A3 A4 L.length c3 L.length c4 x2.heap.size L x2 hT4 hT2 (by omega)).mono ?_
              rintro e x3 ⟨rfl, q3, rfl⟩
              have her3 := her2.below (belowDrewN (Below.refl x2.heap.size x2) q3)
              go_wp2_with fail
              refine (pack_any A3 L.length c3 x2.heap.size L (x2.drewN q3) her3 (hT4.drewN q3) (Nat.le_refl _) (by omega) (by omega)).mono ?_
              rintro e x4 ⟨rfl, hx4⟩
              have hx5 : Below w8.heap.size w8 x4 := (hbr.trans ((hx1.trans (hx2.mono hx1.size)).mono hbr.size)).trans ((belowDrewN (Below.refl x2.heap.size x2) q3 |>.trans hx4).mono (by have := hbr.size; have := hx1.size; have := hx2.size; omega))
              go_wp2
              go_roundw
              case rel => first | exact ⟨j + 1, by omega, by go_num, hx5⟩ | ((repeat apply Exists.intro); exact ⟨⟨j + 1, by omega, by go_num, hx5⟩, rfl⟩)
              case measure => simp [intOf]; omega
            · have hno : ∀ L, y ≠ pack L := fun L h => hpk ⟨L, h⟩
              have Hno := Lib.hid hno
              clear hpk hno
              go_wp2_with fail
              refine (unpack_no y wr her (by omega) Hno.out).mono ?_
              rintro e x1 ⟨rfl, hx1⟩
              go_wp2_with fail
              refine (refUnpack_no y x1 (by omega) Hno.out).mono ?_
              rintro e x2 ⟨rfl, hx2⟩
              go_wp2_with fail
              refine (sameTexts_yes none none 0 0 0 0 0 [] x2 ⟨rfl, Row.nil _ _ _⟩ ⟨rfl, Row.nil _ _ _⟩ (by omega)).mono ?_
              rintro e x3 ⟨rfl, q3, rfl⟩
              have hx5 : Below w8.heap.size w8 (x2.drewN q3) := belowDrewN (hbr.trans ((hx1.trans (hx2.mono hx1.size)).mono hbr.size)) q3
              go_wp2
              go_roundw
              case rel => first | exact ⟨j + 1, by omega, by go_num, hx5⟩ | ((repeat apply Exists.intro); exact ⟨⟨j + 1, by omega, by go_num, hx5⟩, rfl⟩)
              case measure => simp [intOf]; omega
          · obtain rfl : j = 8 := by omega
            go_wp2_with (go_at_call 4; refine (awake_any _ her).mono ?_; rintro e y1 ⟨rfl, hby⟩)
            go_ret
            exact ⟨rfl, hbw.trans (hby.mono hbw.size)⟩
end Go.Proofs.YthhjokdjacfkiaaDoor
