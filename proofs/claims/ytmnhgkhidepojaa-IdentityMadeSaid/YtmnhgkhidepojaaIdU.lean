/-
  The walk of identity.Update, first part: the copy of the identities.
  Conditions: the arguments read as identities and items.
-/
import Derived.Test.YtmnhgkhidepojaaIdF
import Derived.Test.YtmnhgkhidepojaaIdE
import Derived.Test.YtmnhgkhidepojaaIdUP
import Derived.Test.YtmnhgkhidepojaaBown
import Derived.Test.YtmnhgkhidepojaaBstab
import Derived.Shelf.SlSortCmp.NoneTotal
namespace Go.Proofs.Ytmnhgkhidepojaa
open Go.RowKit

def upPhi (n : Int) (m : Nat) (vs : List Value) (B : Nat) (i : Nat) (v : Value) (w : World) : Prop :=
  match i with
  | 4 => ∃ A c, v = .slice A m c ∧ (A = none → c = 0) ∧ w.ownsRow B 39 4 (.slice A m c) m vs
  | 5 => ∃ A c, v = .agg #[.int .i64 n, .slice A m c] ∧ (A = none → c = 0) ∧ w.ownsRow B 39 4 (.slice A m c) m vs
  | 6 => ∃ b, v = .pointer (some ⟨b, 0, none⟩) ∧ B ≤ b ∧ w.heap[b]? = some (.cells #[.int .i64 0, .slice none 0 0] 29 (0, 0))
  | _ => True
theorem upPhi_go {n : Int} {m : Nat} {vs : List Value} {B : Nat} (i : Nat) (v : Value) (w w' : World) (h : upPhi n m vs B i v w) (hb : Below w.heap.size w w') : upPhi n m vs B i v w' := by
  have hk : Kp (fun _ => False) w w' := Kp.ofBelow hb
  unfold upPhi at h ⊢
  split at h
  · obtain ⟨A, c, h1, h2, h3⟩ := h
    exact ⟨A, c, h1, h2, hk.own h3 fun _ _ e => e⟩
  · obtain ⟨A, c, h1, h2, h3⟩ := h
    exact ⟨A, c, h1, h2, hk.own h3 fun _ _ e => e⟩
  · obtain ⟨b, h1, h2, h3⟩ := h
    exact ⟨b, h1, h2, hk.heap h3 fun e => e⟩
  · trivial

def UpdRes (n : Int) (xs : List Idn) (l : List It) (w : World) (e : Ending) (w' : World) : Prop :=
  ∃ (m : Int) (ys : List Idn) (A : Option Addr) (c : Nat) (eno : Int), e = .returned (.tuple #[.agg #[.int .i64 m, .slice A ys.length c], .int .i64 eno]) ∧ (A = none → c = 0) ∧ Row w' (Fr w.heap.size w'.heap.size) A (flt idC ys) ∧ Upd 1 3 n xs l m ys eno ∧ Below w.heap.size w w'

set_option maxHeartbeats 1600000 in
set_option maxRecDepth 100000 in
theorem update_any (n : Int) (xs : List Idn) (l : List It) (A B : Option Addr) (c d : Nat) (w : World) (hA : A = none → c = 0) (hl : xs.length ≤ 1000) (hl2 : l.length ≤ 1000) (h : Row w (Lt w.heap.size) A (flt idC xs)) (h2 : Row w (Lt w.heap.size) B (flt itC l)) :
    Calls Try.prog 14 #[.agg #[.int .i64 n, .slice A xs.length c], .slice B l.length d] w (UpdRes n xs l w) := by
  obtain ⟨m, hm⟩ : ∃ m, m = xs.length := ⟨_, rfl⟩
  obtain ⟨q, hq⟩ : ∃ q, q = l.length := ⟨_, rfl⟩
  have hx0 := alloc2 w (.cells #[.int .i64 n, .slice A m c] 29) (.cells #[.int .i64 0, .slice none 0 0] 29)
  have hb0 : Below w.heap.size w ((w.alloc (.cells #[.int .i64 n, .slice A m c] 29)).alloc (.cells #[.int .i64 0, .slice none 0 0] 29)) := ((Below.refl _ _).alloc (Nat.le_refl _) _).alloc (by simp) _
  have hs0 : ((w.alloc (.cells #[.int .i64 n, .slice A m c] 29)).alloc (.cells #[.int .i64 0, .slice none 0 0] 29)).heap.size = w.heap.size + 2 := by simp
  rw [← hm] at hl
  rw [← hq] at hl2
  have HM := Lib.hid hm
  have HQL := Lib.hid hq
  have HR := Lib.hid h
  have HR2 := Lib.hid h2
  obtain ⟨Q, hQ⟩ : ∃ Q, Q = UpdRes n xs l w := ⟨_, rfl⟩
  have HQ := Lib.hid hQ
  have HA := Lib.hid hA
  rw [← hm, ← hq, ← hQ]
  clear hm hq h h2 hQ hA
  go_enter Try.func14, Try.ntmps14
  go_wp2_with fail
  obtain ⟨w0, hw0⟩ : ∃ w0, w0 = ((w.alloc (.cells #[.int .i64 n, .slice A m c] 29)).alloc (.cells #[.int .i64 0, .slice none 0 0] 29)) := ⟨_, rfl⟩
  rw [← hw0] at hx0 hb0 hs0 ⊢
  clear hw0
  have c0 : w0.cell? ⟨w.heap.size, 0, none⟩ = some (.int .i64 n) := (Lib.cell_of_heap hx0.1 _).trans rfl
  have c1 : w0.cell? ⟨w.heap.size, 1, none⟩ = some (.slice A m c) := (Lib.cell_of_heap hx0.1 _).trans rfl
  have HX0 := Lib.hid hx0
  have HB0 := Lib.hid hb0
  have HS0 := Lib.hid hs0
  clear hx0 hb0 hs0
  refine wp_region_stable (fun w' => Below w0.heap.size w0 w' ∧ w'.cell? ⟨w.heap.size, 0, none⟩ = some (.int .i64 n) ∧ w'.cell? ⟨w.heap.size, 1, none⟩ = some (.slice A m c)) (fun w w' => Below w.heap.size w w') (upPhi n m (flt idC xs) w0.heap.size) [0, 1, 2, 3] [(4, 23), (5, 24), (6, 6)] [7] (by kernel_rfl) (by kernel_rfl) (by kernel_rfl) (Below.refl _ _) (fun a b c h h' => h.trans (h'.mono h.size)) upPhi_go ?sa ?ha
  case sa => exact ⟨(Below.refl _ _).drew, c0, c1⟩
  case ha =>
    simp only [opsAt, List.filterMap_cons, List.filterMap_nil, List.getElem?_toArray, List.getElem?_cons_succ, List.getElem?_cons_zero]
    refine wpLoad_step ?va0 rfl (fun w' hS => ?ya0) ?ka0
    case ya0 =>
      obtain ⟨_, g0, g1⟩ := hS
      go_simp
      try rfl
    case ka0 =>
    go_simp
    refine wpLoad_step ?va1 rfl (fun w' hS => ?ya1) ?ka1
    case ya1 =>
      obtain ⟨_, g0, g1⟩ := hS
      go_simp
      try rfl
    case ka1 =>
    go_simp
    refine wpLoad_step ?va2 rfl (fun w' hS => ?ya2) ?ka2
    case ya2 =>
      obtain ⟨_, g0, g1⟩ := hS
      go_simp
      try rfl
    case ka2 =>
    go_simp
    refine wpLoad_step ?va3 rfl (fun w' hS => ?ya3) ?ka3
    case ya3 =>
      obtain ⟨_, g0, g1⟩ := hS
      go_simp
      try rfl
    case ka3 =>
    go_simp
    refine wpLoad_nil ?_
    refine ⟨?sz, ?st, ?fin⟩
    case sz =>
      intro x hx
      simp only [List.mem_cons, List.not_mem_nil, or_false] at hx
      rcases hx with rfl | rfl | rfl <;> simp
    case st =>
      intro x hx
      simp only [List.mem_cons, List.not_mem_nil, or_false] at hx
      rcases hx with rfl | rfl | rfl
      · intro a w7 K hI hK
        have e22 := hI.old 22 _ rfl (by decide)
        have hS := hI.hold
        have hK : ∀ v w', Below w7.heap.size w7 w' → (Below w0.heap.size w0 w' ∧ w'.cell? ⟨w.heap.size, 0, none⟩ = some (.int .i64 n) ∧ w'.cell? ⟨w.heap.size, 1, none⟩ = some (.slice A m c)) → (∃ A c, v = .slice A m c ∧ (A = none → c = 0) ∧ w'.ownsRow w0.heap.size 39 4 (.slice A m c) m (flt idC xs)) → K (a.put (some 23) v) w' := hK
        have hrow : Row w7 (Lt w7.heap.size) A (flt idC xs) := (HR.out.keep (kept_below (HB0.out.trans (hS.1.mono HB0.out.size)))).more fun b hb => by have h1 := HB0.out.size; have h2 := hS.1.size; unfold Lt at hb ⊢; omega
        have HC := Lib.hid (clone_any xs A c w7 (by rw [← HM.out]; exact hl) HA.out hrow)
        clear hI hrow
        refine wpOp_go rfl rfl ?_
        go_simp
        have hcl := HC.out
        rw [← HM.out] at hcl
        refine hcl.mono ?_
        rintro e w8 ⟨A2, c2, rfl, hA2, ho2, hb8⟩
        rw [← HM.out] at ho2 ⊢
        exact hK _ _ hb8 ⟨hS.1.trans (hb8.mono hS.1.size), (hb8.cell (block_lt_of_cell hS.2.1)).trans hS.2.1, (hb8.cell (block_lt_of_cell hS.2.2)).trans hS.2.2⟩ ⟨A2, c2, rfl, hA2, ownMono ho2 hS.1.size⟩
      · intro a w7 K hI hK
        obtain ⟨v23, e23, hv⟩ := hI.new (4, 23) (by decide) (by kernel_rfl)
        have e20 := hI.old 20 _ rfl (by decide)
        have hS := hI.hold
        obtain ⟨A2, c2, rfl, hA2, ho2⟩ := hv
        have hK : ∀ v w', Below w7.heap.size w7 w' → (Below w0.heap.size w0 w' ∧ w'.cell? ⟨w.heap.size, 0, none⟩ = some (.int .i64 n) ∧ w'.cell? ⟨w.heap.size, 1, none⟩ = some (.slice A m c)) → (∃ A c, v = .agg #[.int .i64 n, .slice A m c] ∧ (A = none → c = 0) ∧ w'.ownsRow w0.heap.size 39 4 (.slice A m c) m (flt idC xs)) → K (a.put (some 24) v) w' := hK
        have HO := Lib.hid ho2
        clear hI ho2
        refine wpOp_go rfl rfl ?_
        go_simp
        exact hK _ _ (Below.refl _ _) hS ⟨A2, c2, rfl, hA2, HO.out⟩
      · intro a w7 K hI hK
        have hS := hI.hold
        have hK : ∀ v w', Below w7.heap.size w7 w' → (Below w0.heap.size w0 w' ∧ w'.cell? ⟨w.heap.size, 0, none⟩ = some (.int .i64 n) ∧ w'.cell? ⟨w.heap.size, 1, none⟩ = some (.slice A m c)) → (∃ b, v = .pointer (some ⟨b, 0, none⟩) ∧ w0.heap.size ≤ b ∧ w'.heap[b]? = some (.cells #[.int .i64 0, .slice none 0 0] 29 (0, 0))) → K (a.put (some 6) v) w' := hK
        have hb7 : Below w7.heap.size w7 (w7.alloc (.cells #[.int .i64 0, .slice none 0 0] 29)) := (Below.refl _ _).alloc (Nat.le_refl _) _
        have ha7 := alloc1 w7 (.cells #[.int .i64 0, .slice none 0 0] 29)
        clear hI
        refine wpOp_go rfl rfl ?_
        go_simp
        exact hK _ _ hb7 ⟨hS.1.trans (hb7.mono hS.1.size), (hb7.cell (block_lt_of_cell hS.2.1)).trans hS.2.1, (hb7.cell (block_lt_of_cell hS.2.2)).trans hS.2.2⟩ ⟨_, rfl, hS.1.size, ha7⟩
    case fin =>
      intro vs w6 hb6 hS6 hΦ
      have q5 : ∃ A c, vs 5 = .agg #[.int .i64 n, .slice A m c] ∧ (A = none → c = 0) ∧ w6.ownsRow w0.heap.size 39 4 (.slice A m c) m (flt idC xs) := hΦ (5, 24) (by decide)
      have q6 : ∃ b, vs 6 = .pointer (some ⟨b, 0, none⟩) ∧ w0.heap.size ≤ b ∧ w6.heap[b]? = some (.cells #[.int .i64 0, .slice none 0 0] 29 (0, 0)) := hΦ (6, 6) (by decide)
      obtain ⟨CA, cc, e5, hCA, hown⟩ := q5
      obtain ⟨b6, e6, hb6l, hblk⟩ := q6
      simp only [putD, e5, e6]
      clear e5 e6 hΦ
      generalize vs 4 = a4
      clear vs
      go_simp
      simp only [opsAt, List.filterMap_cons, List.filterMap_nil, List.getElem?_toArray, List.getElem?_cons_succ, List.getElem?_cons_zero]
      have f60 : w6.frozen? ⟨b6, 0, none⟩ = false := Lib.frozen_of_heap hblk 0
      have f61 : w6.frozen? ⟨b6, 1, none⟩ = false := Lib.frozen_of_heap hblk 1
      have z60 : w6.cell? ⟨b6, 0, none⟩ = some (.int .i64 0) := (Lib.cell_of_heap hblk _).trans rfl
      have z61 : w6.cell? ⟨b6, 1, none⟩ = some (.slice none 0 0) := (Lib.cell_of_heap hblk _).trans rfl
      have hne := own_ne hown hblk (by decide)
      have HBLK := Lib.hid hblk
      have HOWN := Lib.hid hown
      have HNE := Lib.hid hne
      have HS6 := Lib.hid hS6
      have HCA := Lib.hid hCA
      clear hblk hown hne hS6 hb6 hCA c0 c1
      go_wp2
      refine NoPanic.normal ?_
      have hs0 := HS0.out
      have h6 := setCell_heap (o := 1) (v := .slice CA m cc) (setCell_heap (o := 0) (v := .int .i64 n) HBLK.out)
      have hk6 : Kp (fun y => y = b6) w6 ((w6.setCell ⟨b6, 0, none⟩ (.int .i64 n)).setCell ⟨b6, 1, none⟩ (.slice CA m cc)) := Kp.setCell (M := fun y => y = b6) (Kp.setCell (M := fun y => y = b6) (Kp.refl _ _) (fun _ => rfl) _) (fun _ => rfl) _
      obtain ⟨w1, hw1⟩ : ∃ w1, w1 = (w6.setCell ⟨b6, 0, none⟩ (.int .i64 n)).setCell ⟨b6, 1, none⟩ (.slice CA m cc) := ⟨_, rfl⟩
      have h6' : w1.heap[b6]? = some (.cells #[.int .i64 n, .slice CA m cc] 29 (0, 0)) := by rw [hw1]; exact h6
      rw [← hw1] at hk6 ⊢
      have hl6 := HS6.out.1.size
      have hbw : Below w.heap.size w w1 := by
        have hb := HB0.out.trans (HS6.out.1.mono HB0.out.size)
        exact ⟨hk6.os.trans hb.os, hk6.tape.trans hb.tape, hk6.output.trans hb.output, Nat.le_trans hb.size hk6.size, fun b hb' => (hk6.block b (by omega) (by omega)).trans (hb.block b hb')⟩
      have HX1 := Lib.hid (hk6.heap ((HS6.out.1.block _ (by omega)).trans HX0.out.1) (by omega))
      have HR1 := Lib.hid (hk6.heap ((HS6.out.1.block _ (by omega)).trans HX0.out.2) (by omega))
      have HOWN1 := Lib.hid (hk6.own HOWN.out HNE.out)
      have HB1 := Lib.hid hbw
      have H6 := Lib.hid h6'
      clear h6 h6' hk6 hw1 hbw f60 f61 z60 z61 hs0
      have c0 : w1.cell? ⟨w.heap.size, 0, none⟩ = some (.int .i64 n) := (Lib.cell_of_heap HX1.out _).trans rfl
      have c1 : w1.cell? ⟨w.heap.size, 1, none⟩ = some (.slice A m c) := (Lib.cell_of_heap HX1.out _).trans rfl
      go_wp2_with fail
      have hrow1 : Row w1 (Lt w1.heap.size) A (flt idC xs) := (HR.out.keep (kept_below HB1.out)).more fun b hb => Nat.lt_of_lt_of_le hb HB1.out.size
      have hck := check_any n xs A c w1 (by rw [← HM.out]; exact hl) hrow1
      rw [← HM.out] at hck
      refine hck.mono ?_
      rintro e w2 ⟨r, rfl, hr, hb2⟩
      clear hck hrow1 c0 c1
      have HB2 := Lib.hid hb2
      cases r with
      | false =>
        have HUPD : Hid (Upd 1 3 n xs l n xs 1) := Lib.hid (.inl ⟨(fun h => by have := hr.2 h.1; cases this), rfl, rfl, rfl⟩)
        obtain ⟨ws, hws⟩ : ∃ ws, ws = w2 := ⟨_, rfl⟩
        rw [← hws] at HB2 ⊢
        have HBB := Lib.hid HB2.out
        clear hr hb2 hws
        have hs0 := HS0.out
        have hlb6 := lt_of_heap H6.out
        have hlx := lt_of_heap HR1.out
        have HRB := Lib.hid ((HBB.out.block _ hlx).trans HR1.out)
        have HSB := Lib.hid ((HBB.out.block _ hlb6).trans H6.out)
        have s0 : ws.cell? ⟨b6, 0, none⟩ = some (.int .i64 n) := (Lib.cell_of_heap HSB.out _).trans rfl
        have s1 : ws.cell? ⟨b6, 1, none⟩ = some (.slice CA m cc) := (Lib.cell_of_heap HSB.out _).trans rfl
        have z0 : ws.cell? ⟨w.heap.size + 1, 0, none⟩ = some (.int .i64 0) := (Lib.cell_of_heap HRB.out _).trans rfl
        have z1 : ws.cell? ⟨w.heap.size + 1, 1, none⟩ = some (.slice none 0 0) := (Lib.cell_of_heap HRB.out _).trans rfl
        have f0 : ws.frozen? ⟨w.heap.size + 1, 0, none⟩ = false := Lib.frozen_of_heap HRB.out 0
        have f1 : ws.frozen? ⟨w.heap.size + 1, 1, none⟩ = false := Lib.frozen_of_heap HRB.out 1
        clear hs0 hlb6 hlx
        go_wp2_with fail
        have hw9 := setCell_heap (o := 1) (v := .slice CA m cc) (setCell_heap (o := 0) (v := .int .i64 n) HRB.out)
        have hk9 : Kp (fun y => y = w.heap.size + 1) ws ((ws.setCell ⟨w.heap.size + 1, 0, none⟩ (.int .i64 n)).setCell ⟨w.heap.size + 1, 1, none⟩ (.slice CA m cc)) := Kp.setCell (M := fun y => y = w.heap.size + 1) (Kp.setCell (M := fun y => y = w.heap.size + 1) (Kp.refl _ _) (fun _ => rfl) _) (fun _ => rfl) _
        obtain ⟨w9, hw9e⟩ : ∃ w9, w9 = (ws.setCell ⟨w.heap.size + 1, 0, none⟩ (.int .i64 n)).setCell ⟨w.heap.size + 1, 1, none⟩ (.slice CA m cc) := ⟨_, rfl⟩
        have hw9' : w9.heap[w.heap.size + 1]? = some (.cells #[.int .i64 n, .slice CA m cc] 29 (0, 0)) := by rw [hw9e]; exact hw9
        rw [← hw9e] at hk9 ⊢
        have q0 : w9.cell? ⟨w.heap.size + 1, 0, none⟩ = some (.int .i64 n) := (Lib.cell_of_heap hw9' _).trans rfl
        have q1 : w9.cell? ⟨w.heap.size + 1, 1, none⟩ = some (.slice CA m cc) := (Lib.cell_of_heap hw9' _).trans rfl
        have HW9 := Lib.hid hw9'
        have HK9 := Lib.hid hk9
        clear hw9 hw9' hw9e hk9 s0 s1 z0 z1 f0 f1
        refine bodyPost_ret (v := .tuple #[.agg #[.int .i64 n, .slice CA m cc], .int .i64 1]) ?_ rfl ?_
        · clear HW9 HK9 HRB HSB HBB HUPD HNE HOWN HOWN1 HB1 H6 HR1 HX1 HS6 HBLK HS0 HB0 HX0 HR HR2 HQ HM HQL HA
          simp [results, Try.results14, go_sem, q0, q1]
        · rw [HQ.out]
          have hown9 := HK9.out.own ((Kp.ofBelow HBB.out : Kp (fun _ => False) w1 ws).own HOWN1.out (fun _ _ e => e.elim)) (fun g hg e => by have := (HOWN1.out.lt g hg).1; have := HS0.out; omega)
          have hs0 := HS0.out
          have hsb := HBB.out.size
          have hb1s := HB1.out.size
          refine ⟨n, xs, CA, cc, 1, by rw [HM.out], HCA.out, Row.ofOwn hown9 (fun g hg h3 h4 => ⟨by omega, h4⟩), HUPD.out, ?_⟩
          have hb := HB1.out.trans (HBB.out.mono hb1s)
          exact ⟨HK9.out.os.trans hb.os, HK9.out.tape.trans hb.tape, HK9.out.output.trans hb.output, Nat.le_trans hb.size HK9.out.size, fun b hb' => (HK9.out.block b (by omega) (by omega)).trans (hb.block b hb')⟩
      | true =>
        have HCHK := Lib.hid (hr.1 rfl)
        clear hr hb2
        go_wp2_with fail
        have hrow2 : Row w2 (Lt w2.heap.size) B (flt itC l) := (HR2.out.keep (kept_below (HB1.out.trans (HB2.out.mono HB1.out.size)))).more fun b hb => by have h1 := HB1.out.size; have h2 := HB2.out.size; unfold Lt at hb ⊢; omega
        have hso := sorted_any l B d w2 (by rw [← HQL.out]; exact hl2) hrow2
        rw [← HQL.out] at hso
        refine hso.mono ?_
        rintro e w3 ⟨r, rfl, hr, hb3⟩
        clear hso hrow2
        have HB3 := Lib.hid (HB2.out.trans (hb3.mono HB2.out.size))
        cases r with
        | false =>
          have HUPD : Hid (Upd 1 3 n xs l n xs 1) := Lib.hid (.inl ⟨(fun h => by have := hr.2 h.2; cases this), rfl, rfl, rfl⟩)
          obtain ⟨ws, hws⟩ : ∃ ws, ws = w3 := ⟨_, rfl⟩
          rw [← hws] at HB3 ⊢
          have HBB := Lib.hid HB3.out
          clear hr hb3 hws
          have hs0 := HS0.out
          have hlb6 := lt_of_heap H6.out
          have hlx := lt_of_heap HR1.out
          have HRB := Lib.hid ((HBB.out.block _ hlx).trans HR1.out)
          have HSB := Lib.hid ((HBB.out.block _ hlb6).trans H6.out)
          have s0 : ws.cell? ⟨b6, 0, none⟩ = some (.int .i64 n) := (Lib.cell_of_heap HSB.out _).trans rfl
          have s1 : ws.cell? ⟨b6, 1, none⟩ = some (.slice CA m cc) := (Lib.cell_of_heap HSB.out _).trans rfl
          have z0 : ws.cell? ⟨w.heap.size + 1, 0, none⟩ = some (.int .i64 0) := (Lib.cell_of_heap HRB.out _).trans rfl
          have z1 : ws.cell? ⟨w.heap.size + 1, 1, none⟩ = some (.slice none 0 0) := (Lib.cell_of_heap HRB.out _).trans rfl
          have f0 : ws.frozen? ⟨w.heap.size + 1, 0, none⟩ = false := Lib.frozen_of_heap HRB.out 0
          have f1 : ws.frozen? ⟨w.heap.size + 1, 1, none⟩ = false := Lib.frozen_of_heap HRB.out 1
          clear hs0 hlb6 hlx
          go_wp2_with fail
          have hw9 := setCell_heap (o := 1) (v := .slice CA m cc) (setCell_heap (o := 0) (v := .int .i64 n) HRB.out)
          have hk9 : Kp (fun y => y = w.heap.size + 1) ws ((ws.setCell ⟨w.heap.size + 1, 0, none⟩ (.int .i64 n)).setCell ⟨w.heap.size + 1, 1, none⟩ (.slice CA m cc)) := Kp.setCell (M := fun y => y = w.heap.size + 1) (Kp.setCell (M := fun y => y = w.heap.size + 1) (Kp.refl _ _) (fun _ => rfl) _) (fun _ => rfl) _
          obtain ⟨w9, hw9e⟩ : ∃ w9, w9 = (ws.setCell ⟨w.heap.size + 1, 0, none⟩ (.int .i64 n)).setCell ⟨w.heap.size + 1, 1, none⟩ (.slice CA m cc) := ⟨_, rfl⟩
          have hw9' : w9.heap[w.heap.size + 1]? = some (.cells #[.int .i64 n, .slice CA m cc] 29 (0, 0)) := by rw [hw9e]; exact hw9
          rw [← hw9e] at hk9 ⊢
          have q0 : w9.cell? ⟨w.heap.size + 1, 0, none⟩ = some (.int .i64 n) := (Lib.cell_of_heap hw9' _).trans rfl
          have q1 : w9.cell? ⟨w.heap.size + 1, 1, none⟩ = some (.slice CA m cc) := (Lib.cell_of_heap hw9' _).trans rfl
          have HW9 := Lib.hid hw9'
          have HK9 := Lib.hid hk9
          clear hw9 hw9' hw9e hk9 s0 s1 z0 z1 f0 f1
          refine bodyPost_ret (v := .tuple #[.agg #[.int .i64 n, .slice CA m cc], .int .i64 1]) ?_ rfl ?_
          · clear HW9 HK9 HRB HSB HBB HUPD HNE HOWN HOWN1 HB1 H6 HR1 HX1 HS6 HBLK HS0 HB0 HX0 HR HR2 HQ HM HQL HA
            simp [results, Try.results14, go_sem, q0, q1]
          · rw [HQ.out]
            have hown9 := HK9.out.own ((Kp.ofBelow HBB.out : Kp (fun _ => False) w1 ws).own HOWN1.out (fun _ _ e => e.elim)) (fun g hg e => by have := (HOWN1.out.lt g hg).1; have := HS0.out; omega)
            have hs0 := HS0.out
            have hsb := HBB.out.size
            have hb1s := HB1.out.size
            refine ⟨n, xs, CA, cc, 1, by rw [HM.out], HCA.out, Row.ofOwn hown9 (fun g hg h3 h4 => ⟨by omega, h4⟩), HUPD.out, ?_⟩
            have hb := HB1.out.trans (HBB.out.mono hb1s)
            exact ⟨HK9.out.os.trans hb.os, HK9.out.tape.trans hb.tape, HK9.out.output.trans hb.output, Nat.le_trans hb.size HK9.out.size, fun b hb' => (HK9.out.block b (by omega) (by omega)).trans (hb.block b hb')⟩
        | true =>
          have HASC := Lib.hid (hr.1 rfl)
          clear hr hb3
          have hlb6 := lt_of_heap H6.out
          have hlx1 := lt_of_heap HX1.out
          have hsz3 := HB3.out.size
          have hb1s := HB1.out.size
          have c1 : w3.cell? ⟨w.heap.size, 1, none⟩ = some (.slice A m c) := (Lib.cell_of_heap ((HB3.out.block _ hlx1).trans HX1.out) _).trans rfl
          have hlx3 : w.heap.size < w3.heap.size := by omega
          have hbm : Below w1.heap.size w1 (w3.alloc (.map #[] 0)) := HB3.out.alloc (by omega) _
          have HBM := Lib.hid hbm
          have HMPA : Hid (MapG nmV (Value.int .i64) (w3.alloc (.map #[] 0)) w3.heap.size fun _ => none) := Lib.hid (MapG.new w3)
          have hmm := @run_makeMap Try.prog
          clear hbm
          go_wp2_with fail
          clear hmm c1
          obtain ⟨w4, hw4⟩ : ∃ w4, w4 = w3.alloc (.map #[] 0) := ⟨_, rfl⟩
          rw [← hw4] at HBM HMPA ⊢
          have HS4 := Lib.hid (show w4.heap.size = w3.heap.size + 1 by rw [hw4]; simp)
          clear hw4
          go_loopw [42] (fun i wr => ∃ k : Nat, k ≤ m ∧ i = .int .i64 k ∧ Below w1.heap.size w1 wr ∧ MapG nmV (Value.int .i64) wr w3.heap.size (idO (xs.take k))) (fun i _ => m - (intOf i).toNat)
          case atStart => exact ⟨0, by omega, rfl, HBM.out, HMPA.out⟩
          case round =>
            obtain ⟨k, hkm, rfl, hB, hMp⟩ := hrel
            have hszr := hB.size
            have hlm := hMp.lt
            by_cases hlt : k < m
            · obtain ⟨y, hy⟩ : ∃ y, xs[k]? = some y := ⟨_, List.getElem?_eq_getElem (by rw [← HM.out]; exact hlt)⟩
              obtain ⟨ad, rfl, hS, a0, a1, a2, a3⟩ := id_at (HR.out.keep (kept_below (HB1.out.trans (hB.mono hb1s)))) hy
              have hno : ∀ z ∈ xs.take k, z.key ≠ y.key := fun z hz => (chkP_snoc.1 (by rw [← take_snoc hy]; exact chkP_take (n := n) ⟨HCHK.out.2.2.1, HCHK.out.2.2.2⟩ (k + 1))).2.2.2 z hz
              have hy1 := alloc1 wr (.cells #[.int .i64 y.id, sv y.it.md, sv y.it.nm, sv y.it.sh] 39)
              have hby : Below wr.heap.size wr (wr.alloc (.cells #[.int .i64 y.id, sv y.it.md, sv y.it.nm, sv y.it.sh] 39)) := (Below.refl _ _).alloc (Nat.le_refl _) _
              have HNO := Lib.hid hno
              have HY := Lib.hid hy
              have HBy := Lib.hid (hB.trans (hby.mono hszr))
              have HMy := Lib.hid (hMp.same (hby.block _ hlm))
              obtain ⟨w5, hw5⟩ : ∃ w5, w5 = wr.alloc (.cells #[.int .i64 y.id, sv y.it.md, sv y.it.nm, sv y.it.sh] 39) := ⟨_, rfl⟩
              have HS5 := Lib.hid (show w5.heap.size = wr.heap.size + 1 by rw [hw5]; simp)
              rw [← hw5] at hy1 HBy HMy
              have r0 : w5.cell? ⟨wr.heap.size, 0, none⟩ = some (.int .i64 y.id) := (Lib.cell_of_heap hy1 _).trans rfl
              have r1 : w5.cell? ⟨wr.heap.size, 1, none⟩ = some (sv y.it.md) := (Lib.cell_of_heap hy1 _).trans rfl
              have r2 : w5.cell? ⟨wr.heap.size, 2, none⟩ = some (sv y.it.nm) := (Lib.cell_of_heap hy1 _).trans rfl
              have r3 : w5.cell? ⟨wr.heap.size, 3, none⟩ = some (sv y.it.sh) := (Lib.cell_of_heap hy1 _).trans rfl
              have HW5 := Lib.hid hw5
              clear hno hy hB hMp hby hy1 hw5
              go_wp2_with fail
              rw [← HW5.out]
              refine wp_region_held' (fun w' => w'.cell? ⟨wr.heap.size, 0, none⟩ = some (.int .i64 y.id) ∧ w'.cell? ⟨wr.heap.size, 1, none⟩ = some (sv y.it.md) ∧ w'.cell? ⟨wr.heap.size, 2, none⟩ = some (sv y.it.nm) ∧ w'.cell? ⟨wr.heap.size, 3, none⟩ = some (sv y.it.sh)) [] [0, 1, 2, 4, 5] [3] [6] (by kernel_rfl) (by kernel_rfl) ?sb ?hb
              case sb => exact ⟨r0, r1, r2, r3⟩
              case hb =>
                simp only [opsAt, List.filterMap_cons, List.filterMap_nil, List.getElem?_toArray, List.getElem?_cons_succ, List.getElem?_cons_zero]
                refine wpFloat_nil ?_
                refine wpLoad_step ?vb0 rfl (fun w' hS => ?yb0) ?kb0
                case yb0 =>
                  obtain ⟨g0, g1, g2, g3⟩ := hS
                  go_simp
                  try rfl
                case kb0 =>
                go_simp
                refine wpLoad_step ?vb1 rfl (fun w' hS => ?yb1) ?kb1
                case yb1 =>
                  obtain ⟨g0, g1, g2, g3⟩ := hS
                  go_simp
                  try rfl
                case kb1 =>
                go_simp
                refine wpLoad_step ?vb2 rfl (fun w' hS => ?yb2) ?kb2
                case yb2 =>
                  obtain ⟨g0, g1, g2, g3⟩ := hS
                  go_simp
                  try rfl
                case kb2 =>
                go_simp
                refine wpLoad_step ?vb3 rfl (fun w' hS => ?yb3) ?kb3
                case yb3 =>
                  obtain ⟨g0, g1, g2, g3⟩ := hS
                  go_simp
                  try rfl
                case kb3 =>
                go_simp
                refine wpLoad_step ?vb4 rfl (fun w' hS => ?yb4) ?kb4
                case yb4 =>
                  obtain ⟨g0, g1, g2, g3⟩ := hS
                  go_simp
                  try rfl
                case kb4 =>
                go_simp
                refine wpLoad_nil ?_
                refine wpKeep_step rfl ?_
                go_simp
                refine (ofk_any _ _ _ w5.drew).mono ?_
                rintro e w7 ⟨rfl, hb7⟩
                have hs5 := HS5.out
                have hd : Below w5.heap.size w5 w7 := (Below.refl _ w5).drew.trans hb7
                refine ⟨⟨(hd.cell (block_lt_of_cell r0)).trans r0, (hd.cell (block_lt_of_cell r1)).trans r1, (hd.cell (block_lt_of_cell r2)).trans r2, (hd.cell (block_lt_of_cell r3)).trans r3⟩, ?_⟩
                have hb7w := HBy.out.trans (hd.mono HBy.out.size)
                obtain ⟨w8, hput, hm8, hk8⟩ := (HMy.out.same (hd.block _ (by omega))).put (P := Try.prog) (K := KNm) (fun _ _ => nmV_inj) Try.underlying56 keyNamed (fun k => ⟨k, rfl⟩) y.key y.id
                have hput' : (Instr.mapUpdate 56 (.map (some w3.heap.size)) (.agg #[sv y.it.md, sv y.it.nm]) (.int .i64 y.id)).run Try.prog w7 = .ok () w8 := hput
                have HM8 := Lib.hid hm8
                have HB8 : Hid (Below w1.heap.size w1 w8) := Lib.hid ⟨hk8.os.trans hb7w.os, hk8.tape.trans hb7w.tape, hk8.output.trans hb7w.output, Nat.le_trans hb7w.size hk8.size, fun b hb' => (hk8.block b (by have := hb7w.size; omega) (by omega)).trans (hb7w.block b hb')⟩
                clear hput hm8 hk8 hb7w hb7 hd r0 r1 r2 r3 hs5
                refine wpKeep_nil ?_
                go_wp2
                refine NoPanic.normal ?_
                go_wp2
                go_roundw
                case rel =>
                  refine ⟨k + 1, by omega, by go_num, HB8.out, HM8.out.ext fun k' => ?_⟩
                  rw [take_snoc HY.out, idO_snoc HNO.out]
                case measure => simp [intOf]; omega
            · obtain rfl : k = m := by omega
              have hxk : xs.take k = xs := List.take_of_length_le (by rw [← HM.out]; exact Nat.le_refl _)
              rw [hxk] at hMp
              obtain ⟨i0, hi0, hz0, hz1, hz2⟩ := info_parts infoI
              obtain ⟨wa, rfl⟩ : ∃ wa, wa = wr := ⟨_, rfl⟩
              obtain ⟨wc, hmk, hIown, hIgr⟩ := run_make_full (P := Try.prog) wa w1.heap.size 22 3 i0 _ 1 Try.underlying22 hi0 hz0 hz1 .i64 .i64 q (by rw [hz2]; omega) (by unfold maxLen; omega) hszr
              have hbc : Below wa.heap.size wa wc := ⟨hIgr.os, hIgr.tape, hIgr.output, hIgr.size, fun y hy => hIgr.block y hy (by simp)⟩
              rw [madeZ] at hIown
              have HBc := Lib.hid (hB.trans (hbc.mono hszr))
              have HMc := Lib.hid (hMp.same (hbc.block _ hlm))
              have HIc := Lib.hid hIown
              have hmbi : w3.heap.size < wa.heap.size := hlm
              clear hxk hB hMp hbc hIown hIgr
              go_wp2_with fail
              clear hmk
              go_loopw [58] (fun i wr => ∃ j : Nat, j ≤ q ∧ i = .int .i64 j ∧ Below w1.heap.size w1 wr ∧ MapG nmV (Value.int .i64) wr w3.heap.size (knownG xs (l.take j)) ∧ wr.ownsRow w1.heap.size 3 1 (.slice (some ⟨wa.heap.size, 0, none⟩) q q) q ((row0 xs l j).map (Value.int .i64))) (fun i _ => q - (intOf i).toNat)
              case atStart =>
                refine ⟨0, by omega, rfl, HBc.out, HMc.out.ext fun k => (knownG_nil xs k).symm, ?_⟩
                rw [row0_start, ← HQL.out]
                exact HIc.out
              case round =>
                obtain ⟨j, hjq, rfl, hB, hMp, hI⟩ := hrel
                have hszb := hB.size
                have hlm1 := hMp.lt
                have hli := (hI.lt wa.heap.size rfl).2
                by_cases hlt2 : j < q
                · obtain ⟨x, hx⟩ : ∃ x, l[j]? = some x := ⟨_, List.getElem?_eq_getElem (by rw [← HQL.out]; exact hlt2)⟩
                  obtain ⟨ad, rfl, hS, a0, a1, a2⟩ := it_at (HR2.out.keep (kept_below (HB1.out.trans (hB.mono hb1s)))) hx
                  have hx1 := alloc1 wr (.cells #[sv x.md, sv x.nm, sv x.sh] 37)
                  have hby : Below wr.heap.size wr (wr.alloc (.cells #[sv x.md, sv x.nm, sv x.sh] 37)) := (Below.refl _ _).alloc (Nat.le_refl _) _
                  have HY := Lib.hid hx
                  have HBy := Lib.hid (hB.trans (hby.mono hszb))
                  have HMy := Lib.hid (hMp.same (hby.block _ hlm1))
                  have HIy := Lib.hid (hI.alloc (.cells #[sv x.md, sv x.nm, sv x.sh] 37))
                  obtain ⟨w5, hw5⟩ : ∃ w5, w5 = wr.alloc (.cells #[sv x.md, sv x.nm, sv x.sh] 37) := ⟨_, rfl⟩
                  have HS5 := Lib.hid (show w5.heap.size = wr.heap.size + 1 by rw [hw5]; simp)
                  rw [← hw5] at hx1 HBy HMy HIy
                  have HX1b := Lib.hid hx1
                  have HW5 := Lib.hid hw5
                  clear hx hB hMp hI hby hx1 hw5
                  go_wp2_with fail
                  rw [← HW5.out]
                  refine (ofk_any _ _ _ w5).mono ?_
                  rintro e w7 ⟨rfl, hb7⟩
                  have hs5 := HS5.out
                  have hsz7 := hb7.size
                  have hx7 := (hb7.block _ (by omega)).trans HX1b.out
                  have hb7w := HBy.out.trans (hb7.mono HBy.out.size)
                  have hm7 := HMy.out.same (hb7.block _ (by omega))
                  have hi7 := (Kp.ofBelow hb7 : Kp (fun _ => False) w5 w7).own HIy.out (fun _ _ e => e.elim)
                  obtain ⟨v, hv⟩ : ∃ v, v = idOf xs x.key := ⟨_, rfl⟩
                  have hlk : (Instr.lookup 56 (.map (some w3.heap.size)) (.agg #[sv x.md, sv x.nm]) false).run Try.prog w7 = .ok (.int .i64 v) w7 := by
                    have hg := knownG_at (xs := xs) HASC.out.keys HY.out
                    cases hid : idO xs x.key with
                    | none =>
                      rw [hv, idOf_eq, hid]
                      exact hm7.no (K := KNm) (k := x.key) (fun _ _ => nmV_inj) Try.underlying56 keyNamed (fun k => ⟨k, rfl⟩) (by kernel_rfl) (hg.trans hid)
                    | some i =>
                      rw [hv, idOf_eq, hid]
                      exact hm7.yes (K := KNm) (k := x.key) Try.underlying56 keyNamed (fun k => ⟨k, rfl⟩) (hg.trans hid)
                  have i7 : w7.cell? ⟨wa.heap.size, j, none⟩ = ((row0 xs l j).map (Value.int .i64))[j]? := hi7.cellAt j (by omega)
                  have hrl := row0_len xs l (j := j) (by rw [← HQL.out]; omega)
                  rw [List.getElem?_map, List.getElem?_eq_getElem (by rw [hrl, ← HQL.out]; exact hlt2), Option.map_some] at i7
                  have fz := hi7.frozenAt j
                  have hst := hi7.stored j (.int .i64 v)
                  have r0 : w7.cell? ⟨wr.heap.size, 0, none⟩ = some (sv x.md) := (Lib.cell_of_heap hx7 _).trans rfl
                  have r1 : w7.cell? ⟨wr.heap.size, 1, none⟩ = some (sv x.nm) := (Lib.cell_of_heap hx7 _).trans rfl
                  have r2 : w7.cell? ⟨wr.heap.size, 2, none⟩ = some (sv x.sh) := (Lib.cell_of_heap hx7 _).trans rfl
                  have hne : wr.heap.size ≠ wa.heap.size := by omega
                  have hne2 : wa.heap.size ≠ wr.heap.size := by omega
                  have hk8 : Kp (fun y => y = wa.heap.size) w7 (w7.setCell ⟨wa.heap.size, j, none⟩ (.int .i64 v)) := Kp.setCell (M := fun y => y = wa.heap.size) (Kp.refl _ _) (fun _ => rfl) _
                  have HI8 := Lib.hid (show (w7.setCell ⟨wa.heap.size, j, none⟩ (.int .i64 v)).ownsRow w1.heap.size 3 1 (.slice (some ⟨wa.heap.size, 0, none⟩) q q) q ((row0 xs l (j + 1)).map (Value.int .i64)) by rw [← row0_set xs HY.out, List.map_set, ← hv]; exact hst.1)
                  have HM8 := Lib.hid (hm7.kp hk8 (by omega))
                  have HB8 : Hid (Below w1.heap.size w1 (w7.setCell ⟨wa.heap.size, j, none⟩ (.int .i64 v))) := Lib.hid ⟨hk8.os.trans hb7w.os, hk8.tape.trans hb7w.tape, hk8.output.trans hb7w.output, Nat.le_trans hb7w.size hk8.size, fun b hb' => (hk8.block b (by have := hb7w.size; omega) (by omega)).trans (hb7w.block b hb')⟩
                  clear hx7 hb7w hm7 hi7 hv hst hk8 hb7
                  go_wp2_with fail
                  refine (ofk_any _ _ _ _).mono ?_
                  rintro e w9 ⟨rfl, hb9⟩
                  have hs9 := hb9.size
                  rw [sizeSet] at hb9 hs9
                  have hm9 := HM8.out.same (hb9.block _ (by omega))
                  have hb9w := HB8.out.trans (hb9.mono (by have := HB8.out.size; rwa [sizeSet] at this))
                  have hi9 := (Kp.ofBelow (by rw [sizeSet]; exact hb9) : Kp (fun _ => False) (w7.setCell ⟨wa.heap.size, j, none⟩ (.int .i64 v)) w9).own HI8.out (fun _ _ e => e.elim)
                  obtain ⟨w10, hdel, hm10, hk10⟩ := hm9.del (P := Try.prog) (K := KNm) (kt' := 58) (ty := 0) (fun _ _ => nmV_inj) Try.underlying56 keyNamed (fun k => ⟨k, rfl⟩) x.key
                  have hdel' : (Builtin.delete_ #[56, 58] 0 #[.map (some w3.heap.size), .agg #[sv x.md, sv x.nm]]).run Try.prog w9 = .ok (.tuple #[]) w10 := hdel
                  have HM10 := Lib.hid hm10
                  have HI10 := Lib.hid (hk10.own hi9 (fun g hg e => by have h9 : wa.heap.size = g := Option.some.inj hg; omega))
                  have HB10 : Hid (Below w1.heap.size w1 w10) := Lib.hid ⟨hk10.os.trans hb9w.os, hk10.tape.trans hb9w.tape, hk10.output.trans hb9w.output, Nat.le_trans hb9w.size hk10.size, fun b hb' => (hk10.block b (by have := hb9w.size; omega) (by omega)).trans (hb9w.block b hb')⟩
                  clear hm9 hb9w hi9 hdel hm10 hk10 hb9 hlk i7 fz r0 r1 r2
                  go_wp2
                  go_roundw
                  case rel =>
                    refine ⟨j + 1, by omega, by go_num, HB10.out, HM10.out.ext fun k' => ?_, HI10.out⟩
                    rw [take_snoc HY.out, knownG_snoc]
                  case measure => simp [intOf]; omega
                · obtain rfl : j = q := by omega
                  have htl : l.take j = l := List.take_of_length_le (by rw [← HQL.out]; exact Nat.le_refl _)
                  rw [htl] at hMp
                  rw [show row0 xs l j = ids0 xs l by rw [HQL.out, row0_end]] at hI
                  have hlx3b : w.heap.size < wr.heap.size := by omega
                  have c1 : wr.cell? ⟨w.heap.size, 1, none⟩ = some (.slice A k c) := (Lib.cell_of_heap ((hB.block _ hlx1).trans HX1.out) _).trans rfl
                  obtain ⟨wd, rfl⟩ : ∃ wd, wd = wr := ⟨_, rfl⟩
                  have HBd := Lib.hid hB
                  have HMd := Lib.hid hMp
                  have HId := Lib.hid hI
                  clear htl hB hMp hI
                  go_wp2_with fail
                  clear c1
                  obtain ⟨i1, hi1, hz10, hz11, hz12⟩ := info_parts infoId
                  go_loopw [13, 77] (fun ov i wr => ∃ k2 : Nat, k2 ≤ k ∧ i = .int .i64 k2 ∧ Below w1.heap.size w1 wr ∧ MapG nmV (Value.int .i64) wr w3.heap.size (knownG xs l) ∧ wr.ownsRow w1.heap.size 3 1 (.slice (some ⟨wa.heap.size, 0, none⟩) j j) j ((ids0 xs l).map (Value.int .i64)) ∧
                    wr.ownsRow w1.heap.size 39 4 ov (left (xs.take k2) l).length (flt idC (left (xs.take k2) l))) (fun _ i _ => k - (intOf i).toNat)
                  case atStart => exact ⟨0, by omega, rfl, HBd.out, HMd.out, HId.out, World.ownsRow_nil _ _ _ _⟩
                  case round =>
                    obtain ⟨k2, hkm2, rfl, hB, hMp, hI, hO⟩ := hrel
                    have hszc := hB.size
                    have hlm2 := hMp.lt
                    have hli2 := (hI.lt wa.heap.size rfl).2
                    obtain ⟨OA, oc, hov, hoc⟩ := own_slice hO
                    by_cases hlt3 : k2 < k
                    · obtain ⟨y, hy⟩ : ∃ y, xs[k2]? = some y := ⟨_, List.getElem?_eq_getElem (by rw [← HM.out]; exact hlt3)⟩
                      obtain ⟨ad, rfl, hS, a0, a1, a2, a3⟩ := id_at (HR.out.keep (kept_below (HB1.out.trans (hB.mono hb1s)))) hy
                      have hy1 := alloc1 wr (.cells #[.int .i64 y.id, sv y.it.md, sv y.it.nm, sv y.it.sh] 39)
                      have hby : Below wr.heap.size wr (wr.alloc (.cells #[.int .i64 y.id, sv y.it.md, sv y.it.nm, sv y.it.sh] 39)) := (Below.refl _ _).alloc (Nat.le_refl _) _
                      obtain ⟨p, hp⟩ : ∃ p, p = (left (xs.take k2) l).length := ⟨_, rfl⟩
                      rw [← hp] at hO hov
                      have HPL : Hid (p ≤ k2) := Lib.hid (by rw [hp]; exact Nat.le_trans (List.length_filter_le _ _) (by rw [List.length_take]; omega))
                      have HPP := Lib.hid hp
                      subst hov
                      have hkg := knownG_left (l := l) HCHK.out.2.2.2.2 (List.mem_of_getElem? hy)
                      have hid1 := HCHK.out.2.2.1 y (List.mem_of_getElem? hy)
                      have htk : left (xs.take (k2 + 1)) l = left (xs.take k2) l ++ (if (∀ z ∈ l, z.key ≠ y.key) then [y] else []) := by rw [take_snoc hy, left_snoc]
                      have HTK := Lib.hid htk
                      have HBy := Lib.hid (hB.trans (hby.mono hszc))
                      have HMy := Lib.hid (hMp.same (hby.block _ hlm2))
                      have HIy := Lib.hid (hI.alloc (.cells #[.int .i64 y.id, sv y.it.md, sv y.it.nm, sv y.it.sh] 39))
                      have HOy := Lib.hid (hO.alloc (.cells #[.int .i64 y.id, sv y.it.md, sv y.it.nm, sv y.it.sh] 39))
                      obtain ⟨w5, hw5⟩ : ∃ w5, w5 = wr.alloc (.cells #[.int .i64 y.id, sv y.it.md, sv y.it.nm, sv y.it.sh] 39) := ⟨_, rfl⟩
                      have HS5 := Lib.hid (show w5.heap.size = wr.heap.size + 1 by rw [hw5]; simp)
                      rw [← hw5] at hy1 HBy HMy HIy HOy
                      have HY1b := Lib.hid hy1
                      have HW5 := Lib.hid hw5
                      have HKG := Lib.hid hkg
                      clear hy hB hMp hI hO hby hy1 hw5 hp hkg htk hoc
                      go_wp2_with fail
                      rw [← HW5.out]
                      refine (ofk_any _ _ _ w5).mono ?_
                      rintro e w7 ⟨rfl, hb7⟩
                      have hs5 := HS5.out
                      have hsz7 := hb7.size
                      have hy7 := (hb7.block _ (by omega)).trans HY1b.out
                      have hb7w := HBy.out.trans (hb7.mono HBy.out.size)
                      have hm7 := HMy.out.same (hb7.block _ (by omega))
                      have HI7 := Lib.hid ((Kp.ofBelow hb7 : Kp (fun _ => False) w5 w7).own HIy.out (fun _ _ e => e.elim))
                      have HO7 := Lib.hid ((Kp.ofBelow hb7 : Kp (fun _ => False) w5 w7).own HOy.out (fun _ _ e => e.elim))
                      have r0 : w7.cell? ⟨wr.heap.size, 0, none⟩ = some (.int .i64 y.id) := (Lib.cell_of_heap hy7 _).trans rfl
                      have r1 : w7.cell? ⟨wr.heap.size, 1, none⟩ = some (sv y.it.md) := (Lib.cell_of_heap hy7 _).trans rfl
                      have r2 : w7.cell? ⟨wr.heap.size, 2, none⟩ = some (sv y.it.nm) := (Lib.cell_of_heap hy7 _).trans rfl
                      have r3 : w7.cell? ⟨wr.heap.size, 3, none⟩ = some (sv y.it.sh) := (Lib.cell_of_heap hy7 _).trans rfl
                      by_cases hin : ∀ z ∈ l, z.key ≠ y.key
                      · have hlk : (Instr.lookup 56 (.map (some w3.heap.size)) (.agg #[sv y.it.md, sv y.it.nm]) false).run Try.prog w7 = .ok (.int .i64 y.id) w7 :=
                          hm7.yes (K := KNm) (k := y.key) Try.underlying56 keyNamed (fun k => ⟨k, rfl⟩) (by rw [HKG.out, if_pos hin])
                        have hq0 : (y.id == 0) = false := by rw [beq_eq_false_iff_ne]; omega
                        have hq1 : (y.id != 0) = true := by simp [bne, hq0]
                        have HIN := Lib.hid hin
                        have HM7 := Lib.hid hm7
                        have HB7 := Lib.hid hb7w
                        clear hin hm7 hb7w hy7 hb7
                        go_wp2_with (at_builtin; refine wpList_append_lies _ rfl _ _ 27 rfl w1.heap.size 39 i1 _ 4 56 Try.underlying27 hi1 hz10 hz11 hz12 rfl (by omega) _ p (flt idC (left (xs.take k2) l)) rfl (HO7.out.alloc _) ⟨w7.heap.size, 0, none⟩ 1 1 (idC y) rfl rfl ?d1c ?d2c (by omega) ?d3c ?d4c ?d5c _ rfl ?_)
                        case d1c => exact World.news_of_block (cs := #[.int .i64 y.id, sv y.it.md, sv y.it.nm, sv y.it.sh]) (alloc1 w7 _)
                        case d2c => exact idC_one y
                        case d3c => have := HPL.out; unfold maxLen; omega
                        case d4c => have := HPL.out; omega
                        case d5c => simp; omega
                        intro g cap w8 hown8 hgrow hat _
                        have hrow : ∀ r, (Value.slice OA p oc).ownBlock = some r → w1.heap.size ≤ r := fun r hr => (HO7.out.lt r hr).1
                        have hl7 : w3.heap.size < w7.heap.size := by omega
                        have HB8 := Lib.hid ((HB7.out.alloc (by omega) (.cells #[.int .i64 y.id, sv y.it.md, sv y.it.nm, sv y.it.sh] 39)).grown hgrow (by simp; omega) (fun r hr => by have := hrow r hr; omega))
                        have hk8 : Kp (fun y => some y = (Value.slice OA p oc).ownBlock) w7 w8 := ((Kp.refl _ _).alloc _).grown hgrow fun r hr _ => hr.symm
                        have hmo : some w3.heap.size ≠ (Value.slice OA p oc).ownBlock := fun e => by
                          obtain ⟨es, cl, hes, _⟩ : ∃ es cl, w7.heap[w3.heap.size]? = some (.map es cl) ∧ True := by
                            obtain ⟨L9, ⟨es, cl, h9, _⟩, _⟩ := HM7.out
                            exact ⟨es, cl, h9, trivial⟩
                          rcases HO7.out.2 with ⟨hv, _⟩ | ⟨g9, cap9, cur9, hv, _, hgg9, _⟩
                          · rw [hv] at e; cases e
                          · rw [hv] at e
                            obtain rfl : w3.heap.size = g9 := Option.some.inj e
                            rw [hes] at hgg9
                            cases hgg9
                        have HM8 := Lib.hid (HM7.out.kp hk8 hmo)
                        have HI8 := Lib.hid (hk8.own HI7.out (fun g' hg' e => rows_ne HO7.out HI7.out (by decide) g' e.symm hg'))
                        have HO8 := Lib.hid hown8
                        clear hown8 hgrow hat hrow hk8 hmo
                        go_wp2
                        go_roundw
                        case rel =>
                          refine ⟨k2 + 1, by omega, by go_num, HB8.out, HM8.out, HI8.out, ?_⟩
                          rw [HTK.out, if_pos HIN.out, flt_append, flt_one, List.length_append, ← HPP.out]
                          exact HO8.out
                        case measure => simp [intOf]; omega
                      · have hlk : (Instr.lookup 56 (.map (some w3.heap.size)) (.agg #[sv y.it.md, sv y.it.nm]) false).run Try.prog w7 = .ok (.int .i64 0) w7 :=
                          hm7.no (K := KNm) (k := y.key) (fun _ _ => nmV_inj) Try.underlying56 keyNamed (fun k => ⟨k, rfl⟩) (by kernel_rfl) (by rw [HKG.out, if_neg hin])
                        have HIN := Lib.hid hin
                        have HM7 := Lib.hid hm7
                        have HB7 := Lib.hid hb7w
                        clear hin hm7 hb7w hy7 hb7
                        go_wp2
                        go_roundw
                        case rel =>
                          refine ⟨k2 + 1, by omega, by go_num, HB7.out, HM7.out, HI7.out, ?_⟩
                          rw [HTK.out, if_neg HIN.out, List.append_nil, ← HPP.out]
                          exact HO7.out
                        case measure => simp [intOf]; omega
                    · obtain rfl : k2 = k := by omega
                      have hxk2 : xs.take k2 = xs := List.take_of_length_le (by rw [← HM.out]; exact Nat.le_refl _)
                      rw [hxk2] at hO hov
                      obtain ⟨p, hp⟩ : ∃ p, p = (left xs l).length := ⟨_, rfl⟩
                      rw [← hp] at hO hov
                      subst hov
                      have hpl : (left xs l).length ≤ 1000 := Nat.le_trans (List.length_filter_le _ _) (by rw [← HM.out]; exact hl)
                      have hrowL : Row wr (fun x => x < wr.heap.size ∧ x ≠ wa.heap.size) OA (flt idC (left xs l)) := Row.ofOwn hO fun g hg h3 h4 => ⟨h4, fun e => rows_ne hO hI (by decide) g (by rw [hg]; rfl) (by rw [e]; rfl)⟩
                      have hrowI : Row wr (fun x => x < wr.heap.size ∧ x ≠ wa.heap.size) B (flt itC l) := (HR2.out.keep (kept_below (HB1.out.trans (hB.mono hb1s)))).more fun b hb => by have := HB1.out.size; unfold Lt at hb; exact ⟨by omega, by omega⟩
                      have hpa := pairs_any (ids0 xs l) l (left xs l) w1.heap.size wa.heap.size j B OA d oc wr (by simp [ids0]) (by rw [← HQL.out]; exact hl2) hpl (by rw [← HQL.out]; exact hI) hrowI hrowL
                      rw [← HQL.out, ← hp] at hpa
                      have HPA := Lib.hid hpa
                      have HBp := Lib.hid hB
                      obtain ⟨wp, hwp⟩ : ∃ wp : World, wp = wr := ⟨_, rfl⟩
                      clear hpa hrowL hrowI hpl hO hI hMp hB hxk2 hp hoc
                      go_wp2_with fail
                      refine HPA.out.mono ?_
                      rintro e we ⟨rfl, cur, hcur, hIe, hke⟩
                      rw [cur_ids1 hcur, ← HQL.out] at hIe
                      have hse := hke.size
                      have hbe : Below w1.heap.size w1 we := by
                        have hb := HBp.out
                        exact ⟨hke.os.trans hb.os, hke.tape.trans hb.tape, hke.output.trans hb.output, Nat.le_trans hb.size hke.size, fun b hb' => (hke.block b (by have := hb.size; omega) (by omega)).trans (hb.block b hb')⟩
                      have hse2 := hbe.size
                      have hbx := hbe.alloc (by omega) (.cells #[.int .i64 n, .slice none 0 0] 29)
                      have hal := alloc1 we (.cells #[.int .i64 n, .slice none 0 0] 29)
                      have hlx9 : w.heap.size < we.heap.size := by omega
                      have c0 : we.cell? ⟨w.heap.size, 0, none⟩ = some (.int .i64 n) := (Lib.cell_of_heap ((hbe.block _ hlx1).trans HX1.out) _).trans rfl
                      have HIf := Lib.hid (hIe.alloc (.cells #[.int .i64 n, .slice none 0 0] 29))
                      have HBf := Lib.hid hbx
                      have HAL := Lib.hid hal
                      clear hcur hIe hke hbe hbx hal HPA HBp hwp
                      go_wp2_with fail
                      clear c0
                      obtain ⟨wf, hwf⟩ : ∃ wf, wf = we.alloc (.cells #[.int .i64 n, .slice none 0 0] 29) := ⟨_, rfl⟩
                      rw [← hwf] at HIf HBf HAL ⊢
                      have HSF := Lib.hid (show wf.heap.size = we.heap.size + 1 by rw [hwf]; simp)
                      clear hwf
                      obtain ⟨is, his⟩ : ∃ is, is = ids1 xs l := ⟨_, rfl⟩
                      rw [← his] at HIf
                      have HIS := Lib.hid his
                      have hisl : is.length = j := by rw [his, ids1_length, HQL.out]
                      have htop : 1 ≤ n ∧ n ≤ 1099511627776 := ⟨HCHK.out.1, HCHK.out.2.1⟩
                      have hiw : wa.heap.size < we.heap.size := by omega
                      clear his
                      go_loopw [101] (fun i wr => ∃ (k : Nat) (OA : Option Addr) (oc : Nat), k ≤ j ∧ i = .int .i64 k ∧ Below w1.heap.size w1 wr ∧ wr.heap[we.heap.size]? = some (.cells #[.int .i64 (n + zeros (is.take k)), .slice OA k oc] 29 (0, 0)) ∧ (OA = none → oc = 0) ∧
                        wr.ownsRow w1.heap.size 3 1 (.slice (some ⟨wa.heap.size, 0, none⟩) j j) j ((rowN n is k).map (Value.int .i64)) ∧
                        wr.ownsRow (we.heap.size + 1) 39 4 (.slice OA k oc) k (flt idC (outJ n is l k))) (fun i _ => j - (intOf i).toNat)
                      case atStart =>
                        refine ⟨0, none, 0, by omega, rfl, HBf.out, ?_, fun _ => rfl, ?_, World.ownsRow_nil _ _ _ _⟩
                        · rw [HAL.out]; simp [zeros]
                        · have : rowN n is 0 = is := by simp [rowN, numb]
                          rw [this]
                          exact HIf.out
                      case round =>
                        clear HIf HBf HAL
                        obtain ⟨k, OA2, oc2, hkj, rfl, hB, hT, hoc2, hI, hO⟩ := hrel
                        have hszd := hB.size
                        have hltT := lt_of_heap hT
                        by_cases hlt4 : k < j
                        · obtain ⟨x, hx⟩ : ∃ x, l[k]? = some x := ⟨_, List.getElem?_eq_getElem (by rw [← HQL.out]; exact hlt4)⟩
                          obtain ⟨a, ha⟩ : ∃ a, is[k]? = some a := ⟨_, List.getElem?_eq_getElem (by rw [hisl]; exact hlt4)⟩
                          obtain ⟨ad, rfl, hS, a0, a1, a2⟩ := it_at (HR2.out.keep (kept_below (HB1.out.trans (hB.mono hb1s)))) hx
                          have hzk : zeros (is.take k) ≤ 1000 := Nat.le_trans List.countP_le_length (by rw [List.length_take]; omega)
                          obtain ⟨nx, hnx⟩ : ∃ nx : Int, nx = n + zeros (is.take k) := ⟨_, rfl⟩
                          rw [← hnx] at hT
                          have hnxb : 1 ≤ nx ∧ nx ≤ 1099511628776 := by omega
                          have i0 : wr.cell? ⟨wa.heap.size, k, none⟩ = some (.int .i64 a) := by
                            rw [hI.cellAt k (by omega), List.getElem?_map, rowN_at, ha]
                            rfl
                          have fz := hI.frozenAt k
                          have hli := (hI.lt wa.heap.size rfl).2
                          have hx1 := alloc1 wr (.cells #[sv x.md, sv x.nm, sv x.sh] 37)
                          have hby : Below wr.heap.size wr (wr.alloc (.cells #[sv x.md, sv x.nm, sv x.sh] 37)) := (Below.refl _ _).alloc (Nat.le_refl _) _
                          have t0 : wr.cell? ⟨we.heap.size, 0, none⟩ = some (.int .i64 nx) := (Lib.cell_of_heap hT _).trans rfl
                          have t1 : wr.cell? ⟨we.heap.size, 1, none⟩ = some (.slice OA2 k oc2) := (Lib.cell_of_heap hT _).trans rfl
                          have g0 : wr.frozen? ⟨we.heap.size, 0, none⟩ = false := Lib.frozen_of_heap hT 0
                          have HNX := Lib.hid hnx
                          have HAA := Lib.hid ha
                          have HXX := Lib.hid hx
                          have HOC := Lib.hid hoc2
                          have HBr := Lib.hid hB
                          have HTr := Lib.hid hT
                          have HIr := Lib.hid hI
                          have HOr := Lib.hid hO
                          have HFZ := Lib.hid fz
                          clear hnx ha hx hoc2 hB hT hI hO hx1 hby hzk
                          have hne1 : wa.heap.size ≠ we.heap.size := by omega
                          have hne2 : we.heap.size ≠ wa.heap.size := by omega
                          by_cases h0 : a = 0
                          · subst h0
                            have hst := HIr.out.stored k (.int .i64 nx)
                            have hk1 : Kp (fun y => y = wa.heap.size) wr (wr.setCell ⟨wa.heap.size, k, none⟩ (.int .i64 nx)) := Kp.setCell (M := fun y => y = wa.heap.size) (Kp.refl _ _) (fun _ => rfl) _
                            have hk2 : Kp (fun y => y = we.heap.size) (wr.setCell ⟨wa.heap.size, k, none⟩ (.int .i64 nx)) ((wr.setCell ⟨wa.heap.size, k, none⟩ (.int .i64 nx)).setCell ⟨we.heap.size, 0, none⟩ (.int .i64 (nx + 1))) := Kp.setCell (M := fun y => y = we.heap.size) (Kp.refl _ _) (fun _ => rfl) _
                            have hrn := rowN_set (n := n) HAA.out
                            rw [if_pos rfl, ← HNX.out] at hrn
                            have hi2 := hk2.own hst.1 (fun g' hg' e => by have h9 : wa.heap.size = g' := Option.some.inj hg'; omega)
                            rw [show ((rowN n is k).map (Value.int .i64)).set k (.int .i64 nx) = (rowN n is (k + 1)).map (Value.int .i64) by rw [← hrn, List.map_set]] at hi2
                            have ht2 := setCell_heap (o := 0) (v := .int .i64 (nx + 1)) (hk1.heap HTr.out (by omega))
                            have ho2 := hk2.own (hk1.own HOr.out (fun g' hg' e => by have := (HOr.out.lt g' hg').1; omega)) (fun g' hg' e => by have := (HOr.out.lt g' hg').1; omega)
                            have hb2 := (HBr.out.setCell (p := ⟨wa.heap.size, k, none⟩) (by simp; omega) (.int .i64 nx)).setCell (p := ⟨we.heap.size, 0, none⟩) (by simp; omega) (.int .i64 (nx + 1))
                            have hwz0 : ((wr.setCell ⟨wa.heap.size, k, none⟩ (.int .i64 nx)).setCell ⟨we.heap.size, 0, none⟩ (.int .i64 (nx + 1))).heap.size = wr.heap.size := by rw [sizeSet, sizeSet]
                            obtain ⟨wy, hwy⟩ : ∃ wy, wy = (wr.setCell ⟨wa.heap.size, k, none⟩ (.int .i64 nx)).setCell ⟨we.heap.size, 0, none⟩ (.int .i64 (nx + 1)) := ⟨_, rfl⟩
                            rw [← hwy] at hi2 ht2 ho2 hb2 hwz0
                            have HWY := Lib.hid hwy
                            have HIy := Lib.hid hi2
                            have HTy := Lib.hid ht2
                            have HOy := Lib.hid ho2
                            have HBy := Lib.hid hb2
                            have HSy := Lib.hid hwz0
                            clear hst hk1 hk2 hrn hi2 ht2 ho2 hb2 hwz0 hwy
                            go_wp2_with fail
                            rw [← HWY.out]
                            obtain ⟨wz, hwz⟩ : ∃ wz, wz = wy.alloc (.cells #[sv x.md, sv x.nm, sv x.sh] 37) := ⟨_, rfl⟩
                            have hsy := HSy.out
                            have HXz : Hid (wz.heap[wr.heap.size]? = some (.cells #[sv x.md, sv x.nm, sv x.sh] 37 (0, 0))) := Lib.hid (by rw [hwz, ← hsy]; exact alloc1 wy _)
                            have hkz : Kp (fun _ => False) wy wz := by rw [hwz]; exact (Kp.refl _ _).alloc _
                            have HTz := Lib.hid (hkz.heap HTy.out (fun e => e))
                            have HIz := Lib.hid (hkz.own HIy.out (fun _ _ e => e))
                            have HOz := Lib.hid (hkz.own HOy.out (fun _ _ e => e))
                            have HBz : Hid (Below w1.heap.size w1 wz) := Lib.hid (by rw [hwz]; exact HBy.out.alloc (by omega) _)
                            have hszz : wz.heap.size = wr.heap.size + 1 := by rw [hwz]; simp [hsy]
                            have HNZ : Hid (nx + 1 = n + zeros (is.take (k + 1))) := Lib.hid (by rw [HNX.out, take_snoc HAA.out, zeros_snoc, if_pos rfl]; omega)
                            obtain ⟨aA, haA⟩ : ∃ aA : Int, aA = 0 := ⟨_, rfl⟩
                            have HAA0 := HAA
                            rw [← haA] at HAA
                            have HVA : Hid (nx = if aA = 0 then n + zeros (is.take k) else aA) := Lib.hid (by rw [haA, if_pos rfl]; exact HNX.out)
                            obtain ⟨vA, hvA⟩ : ∃ vA, vA = nx := ⟨_, rfl⟩
                            rw [← hvA] at HVA
                            have HvA := Lib.hid hvA
                            rw [← hwz]
                            clear hwz hkz hsy haA hvA i0 t0 t1 g0
                            have hvv : vA = if aA = 0 then n + zeros (is.take k) else aA := HVA.out
                            have x0 : wz.cell? ⟨wr.heap.size, 0, none⟩ = some (sv x.md) := (Lib.cell_of_heap HXz.out _).trans rfl
                            have x1 : wz.cell? ⟨wr.heap.size, 1, none⟩ = some (sv x.nm) := (Lib.cell_of_heap HXz.out _).trans rfl
                            have x2 : wz.cell? ⟨wr.heap.size, 2, none⟩ = some (sv x.sh) := (Lib.cell_of_heap HXz.out _).trans rfl
                            have y1 : wz.cell? ⟨we.heap.size, 1, none⟩ = some (.slice OA2 k oc2) := (Lib.cell_of_heap HTz.out _).trans rfl
                            have iz : wz.cell? ⟨wa.heap.size, k, none⟩ = some (.int .i64 vA) := by
                              rw [HIz.out.cellAt k (by omega), List.getElem?_map, rowN_at' HAA.out, hvv]
                              rfl
                            clear hvv
                            refine wp_region_held' (fun w' => w'.cell? ⟨we.heap.size, 1, none⟩ = some (.slice OA2 k oc2) ∧ w'.cell? ⟨wa.heap.size, k, none⟩ = some (.int .i64 vA) ∧ w'.cell? ⟨wr.heap.size, 0, none⟩ = some (sv x.md) ∧ w'.cell? ⟨wr.heap.size, 1, none⟩ = some (sv x.nm) ∧ w'.cell? ⟨wr.heap.size, 2, none⟩ = some (sv x.sh)) [] [0, 1, 2, 3, 4, 5, 6, 7] [8] [9, 10, 11] (by kernel_rfl) (by kernel_rfl) ?seA ?heA
                            case seA => exact ⟨y1, iz, x0, x1, x2⟩
                            case heA =>
                              simp only [opsAt, List.filterMap_cons, List.filterMap_nil, List.getElem?_toArray, List.getElem?_cons_succ, List.getElem?_cons_zero]
                              refine wpFloat_nil ?_
                              refine wpLoad_step ?veA0 rfl (fun w' hS => ?yeA0) ?keA0
                              case yeA0 =>
                                obtain ⟨g0', g1', g2', g3', g4'⟩ := hS
                                go_simp
                                try rfl
                              case keA0 =>
                              go_simp
                              refine wpLoad_step ?veA1 rfl (fun w' hS => ?yeA1) ?keA1
                              case yeA1 =>
                                obtain ⟨g0', g1', g2', g3', g4'⟩ := hS
                                go_simp
                                try rfl
                              case keA1 =>
                              go_simp
                              refine wpLoad_step ?veA2 rfl (fun w' hS => ?yeA2) ?keA2
                              case yeA2 =>
                                obtain ⟨g0', g1', g2', g3', g4'⟩ := hS
                                go_simp
                                try rfl
                              case keA2 =>
                              go_simp
                              refine wpLoad_step ?veA3 rfl (fun w' hS => ?yeA3) ?keA3
                              case yeA3 =>
                                obtain ⟨g0', g1', g2', g3', g4'⟩ := hS
                                go_simp
                                try rfl
                              case keA3 =>
                              go_simp
                              refine wpLoad_step ?veA4 rfl (fun w' hS => ?yeA4) ?keA4
                              case yeA4 =>
                                obtain ⟨g0', g1', g2', g3', g4'⟩ := hS
                                go_simp
                                try rfl
                              case keA4 =>
                              go_simp
                              refine wpLoad_step ?veA5 rfl (fun w' hS => ?yeA5) ?keA5
                              case yeA5 =>
                                obtain ⟨g0', g1', g2', g3', g4'⟩ := hS
                                go_simp
                                try rfl
                              case keA5 =>
                              go_simp
                              refine wpLoad_step ?veA6 rfl (fun w' hS => ?yeA6) ?keA6
                              case yeA6 =>
                                obtain ⟨g0', g1', g2', g3', g4'⟩ := hS
                                go_simp
                                try rfl
                              case keA6 =>
                              go_simp
                              refine wpLoad_step ?veA7 rfl (fun w' hS => ?yeA7) ?keA7
                              case yeA7 =>
                                obtain ⟨g0', g1', g2', g3', g4'⟩ := hS
                                go_simp
                                try rfl
                              case keA7 =>
                              go_simp
                              refine wpLoad_nil ?_
                              have Y1 := Lib.hid y1
                              have IZ := Lib.hid iz
                              have X0 := Lib.hid x0
                              have X1 := Lib.hid x1
                              have X2 := Lib.hid x2
                              have HSZ := Lib.hid hszz
                              clear x0 x1 x2 y1 iz hszz
                              refine wpKeep_step rfl ?_
                              go_simp
                              have hszz := HSZ.out
                              refine ⟨⟨?_, ?_, ?_, ?_, ?_⟩, ?_⟩
                              · first | exact Y1.out | exact (cellAlloc (by omega)).trans Y1.out
                              · first | exact IZ.out | exact (cellAlloc (by omega)).trans IZ.out
                              · first | exact X0.out | exact (cellAlloc (by omega)).trans X0.out
                              · first | exact X1.out | exact (cellAlloc (by omega)).trans X1.out
                              · first | exact X2.out | exact (cellAlloc (by omega)).trans X2.out
                              refine wpKeep_nil ?_
                              refine (wpList_append_lies _ rfl _ _ 27 rfl (we.heap.size + 1) 39 i1 _ 4 56 Try.underlying27 hi1 hz10 hz11 hz12 rfl (by omega) _ k (flt idC (outJ n is l k)) rfl ((World.ownsRow.drew HOz.out).alloc _) ⟨wz.heap.size, 0, none⟩ 1 1 (idC ⟨vA, x⟩) rfl rfl ?d1eA ?d2eA (by omega) ?d3eA ?d4eA ?d5eA _ rfl ?_)
                              case d1eA => exact World.news_of_block (cs := #[.int .i64 vA, sv x.md, sv x.nm, sv x.sh]) (alloc1 wz.drew _)
                              case d2eA => exact idC_one ⟨vA, x⟩
                              case d3eA => unfold maxLen; omega
                              case d4eA => omega
                              case d5eA => simp; omega
                              intro g cap w8 hown8 hgrow hat _
                              have hmb : ∀ r, (Value.slice OA2 k oc2).ownBlock = some r → we.heap.size + 1 ≤ r := fun r hr => (HOz.out.lt r hr).1
                              have hb8 : Below w1.heap.size w1 w8 := (HBz.out.drew.alloc (by simp; omega) (.cells #[.int .i64 vA, sv x.md, sv x.nm, sv x.sh] 39)).grown hgrow (by simp; omega) (fun r hr => by have := hmb r hr; omega)
                              have hk8 : Kp (fun y => some y = (Value.slice OA2 k oc2).ownBlock) wz w8 := ((Kp.refl _ _).drew.alloc _).grown hgrow fun r hr _ => hr.symm
                              have ht8 := hk8.heap HTz.out (fun e => by have := hmb _ e.symm; omega)
                              have hi8 := hk8.own HIz.out (fun g' hg' e => by have h9 : wa.heap.size = g' := Option.some.inj hg'; have := hmb g' e.symm; omega)
                              have f8 : w8.frozen? ⟨we.heap.size, 1, none⟩ = false := Lib.frozen_of_heap ht8 1
                              have u8 : w8.cell? ⟨we.heap.size, 1, none⟩ = some (.slice OA2 k oc2) := (Lib.cell_of_heap ht8 _).trans rfl
                              have hg8 := (hown8.lt g rfl)
                              have hk9 : Kp (fun y => y = we.heap.size) w8 (w8.setCell ⟨we.heap.size, 1, none⟩ (.slice (some ⟨g, 0, none⟩) (k + 1) cap)) := Kp.setCell (M := fun y => y = we.heap.size) (Kp.refl _ _) (fun _ => rfl) _
                              have HT9 := Lib.hid (setCell_heap (o := 1) (v := .slice (some ⟨g, 0, none⟩) (k + 1) cap) ht8)
                              have HI9 := Lib.hid (hk9.own hi8 (fun g' hg' e => by have h9 : wa.heap.size = g' := Option.some.inj hg'; omega))
                              have HO9 := Lib.hid (hk9.own hown8 (fun g' hg' e => by have h9 : g = g' := Option.some.inj hg'; omega))
                              have HB9 := Lib.hid (hb8.setCell (p := ⟨we.heap.size, 1, none⟩) (by simp; omega) (.slice (some ⟨g, 0, none⟩) (k + 1) cap))
                              clear hown8 hgrow hat hb8 hk8 ht8 hi8 hk9 hmb
                              go_wp2
                              refine NoPanic.normal ?_
                              go_wp2
                              go_roundw
                              case rel =>
                                refine ⟨k + 1, some ⟨g, 0, none⟩, cap, by omega, by go_num, HB9.out, ?_, (fun h => by cases h), HI9.out, ?_⟩
                                · rw [← HNZ.out]
                                  exact HT9.out
                                · rw [outJ_snoc (by rw [hisl, HQL.out]) HAA.out HXX.out, flt_append, flt_one, ← HVA.out]
                                  exact HO9.out
                              case measure => simp [intOf]; omega
                          · have hq0 : (a == 0) = false := by simpa using h0
                            go_wp2_with fail
                            obtain ⟨wz, hwz⟩ : ∃ wz, wz = wr.alloc (.cells #[sv x.md, sv x.nm, sv x.sh] 37) := ⟨_, rfl⟩
                            have HXz : Hid (wz.heap[wr.heap.size]? = some (.cells #[sv x.md, sv x.nm, sv x.sh] 37 (0, 0))) := Lib.hid (by rw [hwz]; exact alloc1 wr _)
                            have hkz : Kp (fun _ => False) wr wz := by rw [hwz]; exact (Kp.refl _ _).alloc _
                            have HTz := Lib.hid (hkz.heap HTr.out (fun e => e))
                            have HIz : Hid (wz.ownsRow w1.heap.size 3 1 (.slice (some ⟨wa.heap.size, 0, none⟩) j j) j ((rowN n is (k + 1)).map (Value.int .i64))) := Lib.hid (by rw [rowN_keep HAA.out h0]; exact hkz.own HIr.out (fun _ _ e => e))
                            have HOz := Lib.hid (hkz.own HOr.out (fun _ _ e => e))
                            have HBz : Hid (Below w1.heap.size w1 wz) := Lib.hid (by rw [hwz]; exact HBr.out.alloc (by omega) _)
                            have hszz : wz.heap.size = wr.heap.size + 1 := by rw [hwz]; simp
                            have HNZ : Hid (nx = n + zeros (is.take (k + 1))) := Lib.hid (by rw [HNX.out, take_snoc HAA.out, zeros_snoc, if_neg h0]; omega)
                            obtain ⟨aB, haB⟩ : ∃ aB : Int, aB = a := ⟨_, rfl⟩
                            obtain ⟨vB, hvB⟩ : ∃ vB : Int, vB = a := ⟨_, rfl⟩
                            rw [← haB] at HAA
                            have HVB : Hid (vB = if aB = 0 then n + zeros (is.take k) else aB) := Lib.hid (by rw [haB, hvB, if_neg h0])
                            rw [← hwz]
                            clear hwz hkz haB hvB i0 t0 t1 g0
                            have hvv : vB = if aB = 0 then n + zeros (is.take k) else aB := HVB.out
                            have x0 : wz.cell? ⟨wr.heap.size, 0, none⟩ = some (sv x.md) := (Lib.cell_of_heap HXz.out _).trans rfl
                            have x1 : wz.cell? ⟨wr.heap.size, 1, none⟩ = some (sv x.nm) := (Lib.cell_of_heap HXz.out _).trans rfl
                            have x2 : wz.cell? ⟨wr.heap.size, 2, none⟩ = some (sv x.sh) := (Lib.cell_of_heap HXz.out _).trans rfl
                            have y1 : wz.cell? ⟨we.heap.size, 1, none⟩ = some (.slice OA2 k oc2) := (Lib.cell_of_heap HTz.out _).trans rfl
                            have iz : wz.cell? ⟨wa.heap.size, k, none⟩ = some (.int .i64 vB) := by
                              rw [HIz.out.cellAt k (by omega), List.getElem?_map, rowN_at' HAA.out, hvv]
                              rfl
                            clear hvv
                            refine wp_region_held' (fun w' => w'.cell? ⟨we.heap.size, 1, none⟩ = some (.slice OA2 k oc2) ∧ w'.cell? ⟨wa.heap.size, k, none⟩ = some (.int .i64 vB) ∧ w'.cell? ⟨wr.heap.size, 0, none⟩ = some (sv x.md) ∧ w'.cell? ⟨wr.heap.size, 1, none⟩ = some (sv x.nm) ∧ w'.cell? ⟨wr.heap.size, 2, none⟩ = some (sv x.sh)) [] [0, 1, 2, 3, 4, 5, 6, 7] [8] [9, 10, 11] (by kernel_rfl) (by kernel_rfl) ?seB ?heB
                            case seB => exact ⟨y1, iz, x0, x1, x2⟩
                            case heB =>
                              simp only [opsAt, List.filterMap_cons, List.filterMap_nil, List.getElem?_toArray, List.getElem?_cons_succ, List.getElem?_cons_zero]
                              refine wpFloat_nil ?_
                              refine wpLoad_step ?veB0 rfl (fun w' hS => ?yeB0) ?keB0
                              case yeB0 =>
                                obtain ⟨g0', g1', g2', g3', g4'⟩ := hS
                                go_simp
                                try rfl
                              case keB0 =>
                              go_simp
                              refine wpLoad_step ?veB1 rfl (fun w' hS => ?yeB1) ?keB1
                              case yeB1 =>
                                obtain ⟨g0', g1', g2', g3', g4'⟩ := hS
                                go_simp
                                try rfl
                              case keB1 =>
                              go_simp
                              refine wpLoad_step ?veB2 rfl (fun w' hS => ?yeB2) ?keB2
                              case yeB2 =>
                                obtain ⟨g0', g1', g2', g3', g4'⟩ := hS
                                go_simp
                                try rfl
                              case keB2 =>
                              go_simp
                              refine wpLoad_step ?veB3 rfl (fun w' hS => ?yeB3) ?keB3
                              case yeB3 =>
                                obtain ⟨g0', g1', g2', g3', g4'⟩ := hS
                                go_simp
                                try rfl
                              case keB3 =>
                              go_simp
                              refine wpLoad_step ?veB4 rfl (fun w' hS => ?yeB4) ?keB4
                              case yeB4 =>
                                obtain ⟨g0', g1', g2', g3', g4'⟩ := hS
                                go_simp
                                try rfl
                              case keB4 =>
                              go_simp
                              refine wpLoad_step ?veB5 rfl (fun w' hS => ?yeB5) ?keB5
                              case yeB5 =>
                                obtain ⟨g0', g1', g2', g3', g4'⟩ := hS
                                go_simp
                                try rfl
                              case keB5 =>
                              go_simp
                              refine wpLoad_step ?veB6 rfl (fun w' hS => ?yeB6) ?keB6
                              case yeB6 =>
                                obtain ⟨g0', g1', g2', g3', g4'⟩ := hS
                                go_simp
                                try rfl
                              case keB6 =>
                              go_simp
                              refine wpLoad_step ?veB7 rfl (fun w' hS => ?yeB7) ?keB7
                              case yeB7 =>
                                obtain ⟨g0', g1', g2', g3', g4'⟩ := hS
                                go_simp
                                try rfl
                              case keB7 =>
                              go_simp
                              refine wpLoad_nil ?_
                              have Y1 := Lib.hid y1
                              have IZ := Lib.hid iz
                              have X0 := Lib.hid x0
                              have X1 := Lib.hid x1
                              have X2 := Lib.hid x2
                              have HSZ := Lib.hid hszz
                              clear x0 x1 x2 y1 iz hszz
                              refine wpKeep_step rfl ?_
                              go_simp
                              have hszz := HSZ.out
                              refine ⟨⟨?_, ?_, ?_, ?_, ?_⟩, ?_⟩
                              · first | exact Y1.out | exact (cellAlloc (by omega)).trans Y1.out
                              · first | exact IZ.out | exact (cellAlloc (by omega)).trans IZ.out
                              · first | exact X0.out | exact (cellAlloc (by omega)).trans X0.out
                              · first | exact X1.out | exact (cellAlloc (by omega)).trans X1.out
                              · first | exact X2.out | exact (cellAlloc (by omega)).trans X2.out
                              refine wpKeep_nil ?_
                              refine (wpList_append_lies _ rfl _ _ 27 rfl (we.heap.size + 1) 39 i1 _ 4 56 Try.underlying27 hi1 hz10 hz11 hz12 rfl (by omega) _ k (flt idC (outJ n is l k)) rfl ((World.ownsRow.drew HOz.out).alloc _) ⟨wz.heap.size, 0, none⟩ 1 1 (idC ⟨vB, x⟩) rfl rfl ?d1eB ?d2eB (by omega) ?d3eB ?d4eB ?d5eB _ rfl ?_)
                              case d1eB => exact World.news_of_block (cs := #[.int .i64 vB, sv x.md, sv x.nm, sv x.sh]) (alloc1 wz.drew _)
                              case d2eB => exact idC_one ⟨vB, x⟩
                              case d3eB => unfold maxLen; omega
                              case d4eB => omega
                              case d5eB => simp; omega
                              intro g cap w8 hown8 hgrow hat _
                              have hmb : ∀ r, (Value.slice OA2 k oc2).ownBlock = some r → we.heap.size + 1 ≤ r := fun r hr => (HOz.out.lt r hr).1
                              have hb8 : Below w1.heap.size w1 w8 := (HBz.out.drew.alloc (by simp; omega) (.cells #[.int .i64 vB, sv x.md, sv x.nm, sv x.sh] 39)).grown hgrow (by simp; omega) (fun r hr => by have := hmb r hr; omega)
                              have hk8 : Kp (fun y => some y = (Value.slice OA2 k oc2).ownBlock) wz w8 := ((Kp.refl _ _).drew.alloc _).grown hgrow fun r hr _ => hr.symm
                              have ht8 := hk8.heap HTz.out (fun e => by have := hmb _ e.symm; omega)
                              have hi8 := hk8.own HIz.out (fun g' hg' e => by have h9 : wa.heap.size = g' := Option.some.inj hg'; have := hmb g' e.symm; omega)
                              have f8 : w8.frozen? ⟨we.heap.size, 1, none⟩ = false := Lib.frozen_of_heap ht8 1
                              have u8 : w8.cell? ⟨we.heap.size, 1, none⟩ = some (.slice OA2 k oc2) := (Lib.cell_of_heap ht8 _).trans rfl
                              have hg8 := (hown8.lt g rfl)
                              have hk9 : Kp (fun y => y = we.heap.size) w8 (w8.setCell ⟨we.heap.size, 1, none⟩ (.slice (some ⟨g, 0, none⟩) (k + 1) cap)) := Kp.setCell (M := fun y => y = we.heap.size) (Kp.refl _ _) (fun _ => rfl) _
                              have HT9 := Lib.hid (setCell_heap (o := 1) (v := .slice (some ⟨g, 0, none⟩) (k + 1) cap) ht8)
                              have HI9 := Lib.hid (hk9.own hi8 (fun g' hg' e => by have h9 : wa.heap.size = g' := Option.some.inj hg'; omega))
                              have HO9 := Lib.hid (hk9.own hown8 (fun g' hg' e => by have h9 : g = g' := Option.some.inj hg'; omega))
                              have HB9 := Lib.hid (hb8.setCell (p := ⟨we.heap.size, 1, none⟩) (by simp; omega) (.slice (some ⟨g, 0, none⟩) (k + 1) cap))
                              clear hown8 hgrow hat hb8 hk8 ht8 hi8 hk9 hmb
                              go_wp2
                              refine NoPanic.normal ?_
                              go_wp2
                              go_roundw
                              case rel =>
                                refine ⟨k + 1, some ⟨g, 0, none⟩, cap, by omega, by go_num, HB9.out, ?_, (fun h => by cases h), HI9.out, ?_⟩
                                · rw [← HNZ.out]
                                  exact HT9.out
                                · rw [outJ_snoc (by rw [hisl, HQL.out]) HAA.out HXX.out, flt_append, flt_one, ← HVB.out]
                                  exact HO9.out
                              case measure => simp [intOf]; omega
                        · obtain rfl : k = j := by omega
                          have htk : is.take k = is := List.take_of_length_le (by omega)
                          rw [htk] at hT
                          obtain ⟨nx, hnx⟩ : ∃ nx : Int, nx = nextOf n xs l := ⟨_, rfl⟩
                          rw [show n + (zeros is : Int) = nx by rw [hnx, HIS.out]; rfl] at hT
                          rw [show outJ n is l k = zipI (ids2 n xs l) l by rw [HIS.out, HQL.out, outJ_end]] at hO
                          have t0 : wr.cell? ⟨we.heap.size, 0, none⟩ = some (.int .i64 nx) := (Lib.cell_of_heap hT _).trans rfl
                          have HNX := Lib.hid hnx
                          have HBr := Lib.hid hB
                          have HTr := Lib.hid hT
                          have HOr := Lib.hid hO
                          have HOC := Lib.hid hoc2
                          clear htk hnx hB hT hI hO hoc2
                          by_cases hbig : 1099511627776 < nx
                          · have HUPD : Hid (Upd 1 3 n xs l n xs 3) := Lib.hid (.inr (.inl ⟨HCHK.out, HASC.out, by rw [← HNX.out]; exact hbig, rfl, rfl, rfl⟩))
                            obtain ⟨ws, hws⟩ : ∃ ws, ws = wr := ⟨_, rfl⟩
                            rw [← hws] at HBr t0 ⊢
                            have HBB := Lib.hid HBr.out
                            clear hws
                            have hs0 := HS0.out
                            have hlb6 := lt_of_heap H6.out
                            have hlx := lt_of_heap HR1.out
                            have HRB := Lib.hid ((HBB.out.block _ hlx).trans HR1.out)
                            have HSB := Lib.hid ((HBB.out.block _ hlb6).trans H6.out)
                            have s0 : ws.cell? ⟨b6, 0, none⟩ = some (.int .i64 n) := (Lib.cell_of_heap HSB.out _).trans rfl
                            have s1 : ws.cell? ⟨b6, 1, none⟩ = some (.slice CA k2 cc) := (Lib.cell_of_heap HSB.out _).trans rfl
                            have z0 : ws.cell? ⟨w.heap.size + 1, 0, none⟩ = some (.int .i64 0) := (Lib.cell_of_heap HRB.out _).trans rfl
                            have z1 : ws.cell? ⟨w.heap.size + 1, 1, none⟩ = some (.slice none 0 0) := (Lib.cell_of_heap HRB.out _).trans rfl
                            have f0 : ws.frozen? ⟨w.heap.size + 1, 0, none⟩ = false := Lib.frozen_of_heap HRB.out 0
                            have f1 : ws.frozen? ⟨w.heap.size + 1, 1, none⟩ = false := Lib.frozen_of_heap HRB.out 1
                            clear hs0 hlb6 hlx
                            go_wp2_with fail
                            have hw9 := setCell_heap (o := 1) (v := .slice CA k2 cc) (setCell_heap (o := 0) (v := .int .i64 n) HRB.out)
                            have hk9 : Kp (fun y => y = w.heap.size + 1) ws ((ws.setCell ⟨w.heap.size + 1, 0, none⟩ (.int .i64 n)).setCell ⟨w.heap.size + 1, 1, none⟩ (.slice CA k2 cc)) := Kp.setCell (M := fun y => y = w.heap.size + 1) (Kp.setCell (M := fun y => y = w.heap.size + 1) (Kp.refl _ _) (fun _ => rfl) _) (fun _ => rfl) _
                            obtain ⟨w9, hw9e⟩ : ∃ w9, w9 = (ws.setCell ⟨w.heap.size + 1, 0, none⟩ (.int .i64 n)).setCell ⟨w.heap.size + 1, 1, none⟩ (.slice CA k2 cc) := ⟨_, rfl⟩
                            have hw9' : w9.heap[w.heap.size + 1]? = some (.cells #[.int .i64 n, .slice CA k2 cc] 29 (0, 0)) := by rw [hw9e]; exact hw9
                            rw [← hw9e] at hk9 ⊢
                            have q0 : w9.cell? ⟨w.heap.size + 1, 0, none⟩ = some (.int .i64 n) := (Lib.cell_of_heap hw9' _).trans rfl
                            have q1 : w9.cell? ⟨w.heap.size + 1, 1, none⟩ = some (.slice CA k2 cc) := (Lib.cell_of_heap hw9' _).trans rfl
                            have HW9 := Lib.hid hw9'
                            have HK9 := Lib.hid hk9
                            clear hw9 hw9' hw9e hk9 s0 s1 z0 z1 f0 f1
                            refine bodyPost_ret (v := .tuple #[.agg #[.int .i64 n, .slice CA k2 cc], .int .i64 3]) ?_ rfl ?_
                            · clear HW9 HK9 HRB HSB HBB HUPD HNE HOWN HOWN1 HB1 H6 HR1 HX1 HS6 HBLK HS0 HB0 HX0 HR HR2 HQ HM HQL HA
                              simp [results, Try.results14, go_sem, q0, q1]
                            · rw [HQ.out]
                              have hown9 := HK9.out.own ((Kp.ofBelow HBB.out : Kp (fun _ => False) w1 ws).own HOWN1.out (fun _ _ e => e.elim)) (fun g hg e => by have := (HOWN1.out.lt g hg).1; have := HS0.out; omega)
                              have hs0 := HS0.out
                              have hsb := HBB.out.size
                              have hb1s := HB1.out.size
                              refine ⟨n, xs, CA, cc, 3, by rw [HM.out], HCA.out, Row.ofOwn hown9 (fun g hg h3 h4 => ⟨by omega, h4⟩), HUPD.out, ?_⟩
                              have hb := HB1.out.trans (HBB.out.mono hb1s)
                              exact ⟨HK9.out.os.trans hb.os, HK9.out.tape.trans hb.tape, HK9.out.output.trans hb.output, Nat.le_trans hb.size HK9.out.size, fun b hb' => (HK9.out.block b (by omega) (by omega)).trans (hb.block b hb')⟩
                          · have hlr := lt_of_heap HR1.out
                            have t1 : wr.cell? ⟨we.heap.size, 1, none⟩ = some (.slice OA2 k oc2) := (Lib.cell_of_heap HTr.out _).trans rfl
                            have hso := sortO_any (we.heap.size + 1) OA2 oc2 k (zipI (ids2 n xs l) l) wr HOr.out (by rw [zipI_length (by rw [ids2_length]), HQL.out]) hl2
                            have HSO := Lib.hid hso
                            clear hso
                            go_wp2_with fail
                            refine HSO.out.mono ?_
                            rintro e ws ⟨rfl, ys, hyp, hys, hyo, g, hgl, hkg⟩
                            have hlT := lt_of_heap HTr.out
                            have hb1s' := HBr.out.size
                            have HTs := Lib.hid (hkg.heap HTr.out (by omega))
                            have HRs := Lib.hid (hkg.heap ((HBr.out.block _ hlr).trans HR1.out) (by omega))
                            have HYO := Lib.hid hyo
                            have HYP := Lib.hid hyp
                            have HYS := Lib.hid hys
                            have HBs : Hid (Below w1.heap.size w1 ws) := Lib.hid (by
                              have hb := HBr.out
                              exact ⟨hkg.os.trans hb.os, hkg.tape.trans hb.tape, hkg.output.trans hb.output, Nat.le_trans hb.size hkg.size, fun b hb' => (hkg.block b (by omega) (by omega)).trans (hb.block b hb')⟩)
                            clear hyp hys hyo hkg HSO t0 t1
                            have s0 : ws.cell? ⟨we.heap.size, 0, none⟩ = some (.int .i64 nx) := (Lib.cell_of_heap HTs.out _).trans rfl
                            have s1 : ws.cell? ⟨we.heap.size, 1, none⟩ = some (.slice OA2 k oc2) := (Lib.cell_of_heap HTs.out _).trans rfl
                            have z0 : ws.cell? ⟨w.heap.size + 1, 0, none⟩ = some (.int .i64 0) := (Lib.cell_of_heap HRs.out _).trans rfl
                            have z1 : ws.cell? ⟨w.heap.size + 1, 1, none⟩ = some (.slice none 0 0) := (Lib.cell_of_heap HRs.out _).trans rfl
                            have f0 : ws.frozen? ⟨w.heap.size + 1, 0, none⟩ = false := Lib.frozen_of_heap HRs.out 0
                            have f1 : ws.frozen? ⟨w.heap.size + 1, 1, none⟩ = false := Lib.frozen_of_heap HRs.out 1
                            go_wp2_with fail
                            have hw9 := setCell_heap (o := 1) (v := .slice OA2 k oc2) (setCell_heap (o := 0) (v := .int .i64 nx) HRs.out)
                            have hk9 : Kp (fun y => y = w.heap.size + 1) ws ((ws.setCell ⟨w.heap.size + 1, 0, none⟩ (.int .i64 nx)).setCell ⟨w.heap.size + 1, 1, none⟩ (.slice OA2 k oc2)) := Kp.setCell (M := fun y => y = w.heap.size + 1) (Kp.setCell (M := fun y => y = w.heap.size + 1) (Kp.refl _ _) (fun _ => rfl) _) (fun _ => rfl) _
                            obtain ⟨w9, hw9e⟩ : ∃ w9, w9 = (ws.setCell ⟨w.heap.size + 1, 0, none⟩ (.int .i64 nx)).setCell ⟨w.heap.size + 1, 1, none⟩ (.slice OA2 k oc2) := ⟨_, rfl⟩
                            have hw9' : w9.heap[w.heap.size + 1]? = some (.cells #[.int .i64 nx, .slice OA2 k oc2] 29 (0, 0)) := by rw [hw9e]; exact hw9
                            rw [← hw9e] at hk9 ⊢
                            have q0 : w9.cell? ⟨w.heap.size + 1, 0, none⟩ = some (.int .i64 nx) := (Lib.cell_of_heap hw9' _).trans rfl
                            have q1 : w9.cell? ⟨w.heap.size + 1, 1, none⟩ = some (.slice OA2 k oc2) := (Lib.cell_of_heap hw9' _).trans rfl
                            have HK9 := Lib.hid hk9
                            clear hw9 hw9' hw9e hk9 s0 s1 z0 z1 f0 f1
                            refine bodyPost_ret (v := .tuple #[.agg #[.int .i64 nx, .slice OA2 k oc2], .int .i64 0]) ?_ rfl ?_
                            · clear HK9 HRs HTs HYO HYP HYS HBs HNE HOWN HOWN1 HB1 H6 HR1 HX1 HS6 HBLK HS0 HB0 HX0 HR HR2 HQ HM HQL HA HOC HOr HTr HBr HNX HCHK HASC HIS
                              simp [results, Try.results14, go_sem, q0, q1]
                            · rw [HQ.out]
                              have hs0 := HS0.out
                              have hyl : ys.length = k := by rw [HYP.out.length_eq, zipI_length (by rw [ids2_length]), HQL.out]
                              have hown9 := HK9.out.own HYO.out (fun g hg e => by have := (HYO.out.lt g hg).1; omega)
                              refine ⟨nx, ys, OA2, oc2, 0, by rw [hyl], HOC.out, Row.ofOwn hown9 (fun g hg h3 h4 => ⟨by omega, h4⟩), .inr (.inr ⟨HCHK.out, HASC.out, ?_, HNX.out, HYP.out, HYS.out, rfl⟩), ?_⟩
                              · rw [← HNX.out]
                                unfold top
                                omega
                              · have hb := HB1.out.trans (HBs.out.mono hb1s)
                                have hb9 := HK9.out
                                exact ⟨hb9.os.trans hb.os, hb9.tape.trans hb.tape, hb9.output.trans hb.output, Nat.le_trans hb.size hb9.size, fun b hb' => (hb9.block b (by have := hb.size; omega) (by omega)).trans (hb.block b hb')⟩
end Go.Proofs.Ytmnhgkhidepojaa
