/-
  The walk of recompilelaw05.IdentityMade.
  Conditions: the numbers that came in lie in memory.
-/
import Derived.Test.YtmnhgkhidepojaaIdV
import Derived.Test.YtmnhgkhidepojaaIdI
import Derived.Test.YtmnhgkhidepojaaIdW
import Derived.Test.YtmnhgkhidepojaaBexp
namespace Go.Proofs.Ytmnhgkhidepojaa
open Go.RowKit

theorem AtCells.kp {M : Nat → Prop} {w w' : World} (hk : Kp M w w') : ∀ {cs : List (Addr × Value)}, (∀ x ∈ cs, ¬ M x.1.block) → AtCells cs w → AtCells cs w'
  | [], _, _ => trivial
  | x :: _, hm, h => ⟨(World.cell?_of_block (hk.block _ (block_lt_of_cell h.1) (hm x (by simp)))).trans h.1, AtCells.kp hk (fun y hy => hm y (by simp [hy])) h.2⟩
theorem flt_setG {α : Type} {f : α → List Value} {s : Nat} (hf : ∀ x, (f x).length = s) {j : Nat} (hj : j < s) {u : Value} : ∀ {l : List α} {k : Nat} {x y : α}, l[k]? = some x → (f x).set j u = f y → (flt f l).set (k * s + j) u = flt f (l.set k y)
  | [], _, _, _, h, _ => by simp at h
  | z :: r, 0, x, y, h, e => by
    simp at h
    subst h
    rw [Nat.zero_mul, Nat.zero_add, List.set_cons_zero, flt_cons, flt_cons, List.set_append_left _ _ (by rw [hf]; exact hj), e]
  | z :: r, k + 1, x, y, h, e => by
    have ih := flt_setG (l := r) (k := k) hf hj (u := u) (by simpa using h) e
    rw [List.set_cons_succ, flt_cons, flt_cons, ← ih, List.set_append_right _ _ (by rw [hf, Nat.add_mul]; omega), hf]
    congr 2
    rw [Nat.add_mul]
    omega

/-- What the region that updates has: items, identities in a row of their own, a block for them. -/
def mdPhi (V0 : Value) (dd B : Nat) (i : Nat) (v : Value) (u : World) : Prop :=
  match i with
  | 0 => v = V0
  | 1 => v = .pointer (some ⟨dd, 0, none⟩)
  | 2 => ∃ (l : List It) (A : Option Addr) (c : Nat), v = .slice A l.length c ∧ MadeIt l ∧ dd < B ∧ Row u (Fr B u.heap.size) A (flt itC l)
  | 3 => ∃ (mm : Int) (ys : List Idn) (A : Option Addr) (c : Nat) (eno : Int), v = .tuple #[.agg #[.int .i64 mm, .slice A ys.length c], .int .i64 eno] ∧ dd < B ∧ (A = none → c = 0) ∧ ys.length ≤ 1000 ∧ u.ownsRow B 39 4 (.slice A ys.length c) ys.length (flt idC ys)
  | 4 => ∃ (mm : Int) (ys : List Idn) (A : Option Addr) (c : Nat) (eno : Int), v = .tuple #[.agg #[.int .i64 mm, .slice A ys.length c], .int .i64 eno] ∧ dd < B ∧ (A = none → c = 0) ∧ ys.length ≤ 1000 ∧ u.ownsRow B 39 4 (.slice A ys.length c) ys.length (flt idC ys)
  | 5 => ∃ (mm : Int) (ys : List Idn) (A : Option Addr) (c : Nat), v = .agg #[.int .i64 mm, .slice A ys.length c] ∧ dd < B ∧ (A = none → c = 0) ∧ ys.length ≤ 1000 ∧ u.ownsRow B 39 4 (.slice A ys.length c) ys.length (flt idC ys)
  | 6 => ∃ eno : Int, v = .int .i64 eno
  | 7 => ∃ b, v = .pointer (some ⟨b, 0, none⟩) ∧ dd < B ∧ B ≤ b ∧ u.heap[b]? = some (.cells #[.int .i64 0, .slice none 0 0] 29 (0, 0))
  | _ => True
theorem mdPhi_go {V0 : Value} {dd B : Nat} (i : Nat) (v : Value) (u u' : World) (h : mdPhi V0 dd B i v u) (hk : Kp (fun y => y = dd) u u') : mdPhi V0 dd B i v u' := by
  unfold mdPhi at h ⊢
  split at h
  · exact h
  · exact h
  · obtain ⟨l, A, c, h1, h2, h3, h4⟩ := h
    exact ⟨l, A, c, h1, h2, h3, (h4.keep (hk.kept fun b hb => ⟨hb.2, fun e => by have := hb.1; omega⟩)).more fun b hb => ⟨hb.1, Nat.lt_of_lt_of_le hb.2 hk.size⟩⟩
  · obtain ⟨mm, ys, A, c, eno, h1, h2, h3, h4, h5⟩ := h
    exact ⟨mm, ys, A, c, eno, h1, h2, h3, h4, hk.own h5 fun g hg e => by have := (h5.lt g hg).1; omega⟩
  · obtain ⟨mm, ys, A, c, eno, h1, h2, h3, h4, h5⟩ := h
    exact ⟨mm, ys, A, c, eno, h1, h2, h3, h4, hk.own h5 fun g hg e => by have := (h5.lt g hg).1; omega⟩
  · obtain ⟨mm, ys, A, c, h1, h2, h3, h4, h5⟩ := h
    exact ⟨mm, ys, A, c, h1, h2, h3, h4, hk.own h5 fun g hg e => by have := (h5.lt g hg).1; omega⟩
  · exact h
  · obtain ⟨b, h1, h2, h3, h4⟩ := h
    exact ⟨b, h1, h2, h3, hk.heap h4 fun e => by omega⟩
  · trivial
/-- What the last region has: two lists of texts, one of each, and that all agree. -/
def edPhi (dd B : Nat) (i : Nat) (v : Value) (u : World) : Prop :=
  match i with
  | 6 => ∃ b, v = .slice (some ⟨b, 0, none⟩) 3 3 ∧ dd < B ∧ B ≤ b ∧ u.heap[b]? = some (.cells #[.string ⟨#[97]⟩, .string ⟨#[98]⟩, .string ⟨#[99]⟩] 9 (0, 0))
  | 7 => ∃ s, v = sv s
  | 9 => ∃ b, v = .slice (some ⟨b, 0, none⟩) 3 3 ∧ dd < B ∧ B ≤ b ∧ u.heap[b]? = some (.cells #[.string ⟨#[102]⟩, .string ⟨#[103]⟩, .string ⟨#[122]⟩] 9 (0, 0))
  | 10 => ∃ s, v = sv s
  | 11 => v = .bool true
  | 12 => v = .bool true
  | _ => True
theorem edPhi_go {dd B : Nat} (i : Nat) (v : Value) (u u' : World) (h : edPhi dd B i v u) (hk : Kp (fun y => y = dd) u u') : edPhi dd B i v u' := by
  unfold edPhi at h ⊢
  split at h
  · obtain ⟨b, h1, h2, h3, h4⟩ := h
    exact ⟨b, h1, h2, h3, hk.heap h4 fun e => by omega⟩
  · exact h
  · obtain ⟨b, h1, h2, h3, h4⟩ := h
    exact ⟨b, h1, h2, h3, hk.heap h4 fun e => by omega⟩
  · exact h
  · exact h
  · exact h
  · trivial
set_option maxHeartbeats 1600000 in
set_option maxRecDepth 100000 in
theorem made_heavy (m : Nat) (TA : Option Addr) (tc : Nat) (w : World) (hfew : ¬ m ≤ 400) :
    Calls Try.prog 3 #[.slice TA m tc] w fun e w' => e = .returned (.bool true) ∧ Below w.heap.size w w' := by
  have HL := Lib.hid (light_any m TA tc w)
  have hd0 : decide (m ≤ 400) = false := by simpa using hfew
  go_enter Try.func3, Try.ntmps3
  go_wp2_with fail
  refine HL.out.mono ?_
  rintro e w1 ⟨rfl, rfl⟩
  rw [hd0]
  clear HL hd0
  go_wp2_with fail
  refine (awake_any w).mono ?_
  rintro e wz ⟨rfl, hbz⟩
  have HBz := Lib.hid hbz
  clear hbz
  go_wp2
  go_ret
  exact ⟨rfl, HBz.out⟩

set_option maxHeartbeats 1600000 in
set_option maxRecDepth 100000 in
theorem made_light (xs : List Int) (TA : Option Addr) (tc : Nat) (w : World) (hA : Row w (Lt w.heap.size) TA (xs.map (Value.int .i64))) (hfew : xs.length ≤ 400) (hf : ∀ x ∈ xs, -9223372036854775808 ≤ x ∧ x ≤ 9223372036854775807) :
    Calls Try.prog 3 #[.slice TA xs.length tc] w fun e w' => e = .returned (.bool true) ∧ Below w.heap.size w w' := by
  have hr := roll_any xs TA tc w hA hfew hf
  obtain ⟨m, hm⟩ : ∃ m, m = xs.length := ⟨_, rfl⟩
  rw [← hm] at hr hfew ⊢
  have HR := Lib.hid hr
  have HL := Lib.hid (light_any m TA tc w)
  have hd0 : decide (m ≤ 400) = true := by simpa using hfew
  clear hr hA hf hm
  go_enter Try.func3, Try.ntmps3
  go_wp2_with fail
  refine HL.out.mono ?_
  rintro e w1 ⟨rfl, rfl⟩
  rw [hd0]
  clear HL hd0
  go_wp2_with fail
  refine HR.out.mono ?_
  rintro e w1 ⟨rfl, hD1, hb1⟩
  have hdl := hD1.lt
  have HD1 := Lib.hid hD1
  have HB1 := Lib.hid hb1
  clear HR hD1 hb1
  go_wp2_with fail
  refine (next_any 3 w.heap.size xs w1 (by decide) (by decide) HD1.out).mono ?_
  rintro e w2 ⟨k0, hk0, rfl, hD2, hK2⟩
  have hs1 := HB1.out.size
  have hs2 := hK2.size
  have HD2 := Lib.hid hD2
  have HB2 := Lib.hid (kp_below HB1.out hK2 fun y e => by omega)
  have hw0 : IntKind.i64.wrap (1 + (k0 : Int)) = 1 + (k0 : Int) := by rw [IntKind.wrap_i64]; omega
  clear hD2 hK2 HD1 HB1
  go_wp2_with fail
  refine (items_any w.heap.size xs w2 HD2.out).mono ?_
  rintro e w3 ⟨l0, LA0, lc0, rfl, hM0, _, hlo0, hD3, hK3⟩
  have hs3 := hK3.size
  have HD3 := Lib.hid hD3
  have HB3 := Lib.hid (kp_below HB2.out hK3 fun y e => by omega)
  have HLR0 : Hid (Row w3 (Lt w3.heap.size) LA0 (flt itC l0)) := Lib.hid (Row.ofOwn hlo0 fun g _ _ h4 => h4)
  have hq8 := hM0.2.1
  obtain ⟨q0, hq0⟩ : ∃ q, q = l0.length := ⟨_, rfl⟩
  rw [← hq0] at hq8 ⊢
  have HQ0 := Lib.hid hq0
  clear hM0 hlo0 hD3 hK3 hq0 HD2 HB2
  go_wp2_with fail
  have hu := rupdate_any (1 + (k0 : Int)) [] l0 none LA0 0 lc0 w3 (by simp) (by rw [← HQ0.out]; omega) (Row.nil _ _ _) HLR0.out
  rw [← HQ0.out] at hu
  refine hu.mono ?_
  rintro e w4 ⟨n4, O, OA, oc, eno, rfl, hOA, hOown, hup, hb4⟩
  have hol := upd_few hup (by simp) (by rw [← HQ0.out]; omega)
  obtain ⟨o, ho⟩ : ∃ o, o = O.length := ⟨_, rfl⟩
  rw [← ho] at hol hOown ⊢
  have hs4 := hb4.size
  have hb5 : Below w4.heap.size w4 (w4.alloc (.cells #[.int .i64 n4, .slice OA o oc] 29)) := (Below.refl _ _).alloc (Nat.le_refl _) _
  have ha5 := alloc1 w4 (.cells #[.int .i64 n4, .slice OA o oc] 29)
  obtain ⟨w5, hw5⟩ : ∃ w5, w5 = w4.alloc (.cells #[.int .i64 n4, .slice OA o oc] 29) := ⟨_, rfl⟩
  rw [← hw5] at hb5 ha5
  have hs5 : w5.heap.size = w4.heap.size + 1 := by rw [hw5]; simp
  obtain ⟨p4, hp4⟩ : ∃ p, p = w4.heap.size := ⟨_, rfl⟩
  rw [← hp4] at ha5
  have hp4a : w.heap.size < p4 := by omega
  have hp4b : p4 < w5.heap.size := by omega
  have hb35 := hb4.trans (hb5.mono hs4)
  have HD5 := Lib.hid (HD3.out.below hb35)
  have HB5 := Lib.hid (HB3.out.trans (hb35.mono HB3.out.size))
  have HA5 := Lib.hid ha5
  have HOR5 : Hid (Row w5 (fun y => y < w5.heap.size ∧ y ≠ w.heap.size) OA (flt idC O)) := Lib.hid (((Row.ofOwn (S := Fr w3.heap.size w4.heap.size) hOown fun g _ h3 h4 => ⟨h3, h4⟩).keep ((kept_below hb5).sub fun b hb => hb.2)).more fun b hb => ⟨by have := hb.2; omega, by have := hb.1; omega⟩)
  have HOL := Lib.hid ho
  have HOA := Lib.hid hOA
  have HW5 := Lib.hid hw5
  have HP4 := Lib.hid hp4
  have hd5 := HD5.out.lt
  have HS5 := Lib.hid hs5
  clear hs5 hu hOA hOown hup hb4 hb5 ha5 hw5 hp4 hb35 ho HLR0 HQ0 HD3 HB3 hw0
  go_wp2_with fail
  rw [← HW5.out, ← HP4.out]
  clear HW5 HP4
  have c0 : w5.cell? ⟨p4, 0, none⟩ = some (.int .i64 n4) := (Lib.cell_of_heap HA5.out _).trans rfl
  have c1 : w5.cell? ⟨p4, 1, none⟩ = some (.slice OA o oc) := (Lib.cell_of_heap HA5.out _).trans rfl
  refine wp_region_exp (fun u => ((DiceAt u w.heap.size xs ∧ Kp (fun y => y = w.heap.size) w5 u) ∧ AtCells [(⟨p4, 0, none⟩, .int .i64 n4), (⟨p4, 1, none⟩, .slice OA o oc)] u)) (fun u v => Kp (fun y => y = w.heap.size) u v) (mdPhi (.agg #[.int .i64 n4, .slice OA o oc]) w.heap.size w5.heap.size) [1, 4, 5, 6] [(0, 26), (1, 27), (2, 28), (3, 29), (4, 25), (5, 30), (6, 31), (7, 6)] [8, 9] (by kernel_rfl) (by kernel_rfl) (by kernel_rfl) (fun _ => Kp.refl _ _) (fun _ _ _ h h' => h.one h') mdPhi_go ?sA ?hA
  case sA => exact ⟨⟨HD5.out.below (Below.refl _ w5).drew, (Kp.refl _ _).drew⟩, c0, c1, trivial⟩
  case hA =>
  clear c0 c1
  refine ⟨?szA, ?stA, ?puA, ?finA⟩
  case szA =>
    intro x hx
    simp only [List.mem_cons, List.not_mem_nil, or_false] at hx
    rcases hx with rfl | rfl | rfl | rfl | rfl | rfl | rfl | rfl <;> simp
  case stA =>
    have hkS : ∀ u u' : World, Kp (fun y => y = w.heap.size) u u' → DiceAt u' w.heap.size xs → ((DiceAt u w.heap.size xs ∧ Kp (fun y => y = w.heap.size) w5 u) ∧ AtCells [(⟨p4, 0, none⟩, .int .i64 n4), (⟨p4, 1, none⟩, .slice OA o oc)] u) → ((DiceAt u' w.heap.size xs ∧ Kp (fun y => y = w.heap.size) w5 u') ∧ AtCells [(⟨p4, 0, none⟩, .int .i64 n4), (⟨p4, 1, none⟩, .slice OA o oc)] u') := fun u u' hk hD hS => ⟨⟨hD, hS.1.2.one hk⟩, hS.2.kp hk (by
      intro x hx
      simp only [List.mem_cons, List.not_mem_nil, or_false] at hx
      rcases hx with rfl | rfl <;> (simp only; omega))⟩
    have HKS := Lib.hid hkS
    clear hkS
    intro x hx hnp
    simp only [List.mem_cons, List.not_mem_nil, or_false] at hx
    rcases hx with rfl | rfl | rfl | rfl | rfl | rfl | rfl | rfl
    · intro a' w7 K hI hK
      have e4 := hI.old 4 _ rfl (by decide)
      have hS := hI.hold
      have hK : ∀ v w', Kp (fun y => y = w.heap.size) w7 w' → _ → (v = .agg #[.int .i64 n4, .slice OA o oc]) → K (a'.put (some 26) v) w' := hK
      obtain ⟨g0, g1, _⟩ := hS.2
      clear hI
      refine wpOp_go rfl rfl ?_
      go_simp
      exact hK _ _ (Kp.refl _ _) hS rfl
    · exact absurd (by simp) hnp
    · intro a' w7 K hI hK
      obtain ⟨v0, e27, hv⟩ := hI.new (1, 27) (by decide) (by kernel_rfl)
      obtain rfl : v0 = .pointer (some ⟨w.heap.size, 0, none⟩) := hv
      have hS := hI.hold
      have hK : ∀ v w', Kp (fun y => y = w.heap.size) w7 w' → _ → (∃ (l : List It) (A : Option Addr) (c : Nat), v = .slice A l.length c ∧ MadeIt l ∧ w.heap.size < w5.heap.size ∧ Row w' (Fr w5.heap.size w'.heap.size) A (flt itC l)) → K (a'.put (some 28) v) w' := hK
      have HIT := Lib.hid (items_any w.heap.size xs w7 hS.1.1)
      clear hI
      refine wpOp_go rfl rfl ?_
      go_simp
      refine HIT.out.mono ?_
      rintro e w8 ⟨l, A, c, rfl, hM, _, hlo, hD8, hK8⟩
      exact hK _ _ hK8 (HKS.out _ _ hK8 hD8 hS) ⟨l, A, c, rfl, hM, hd5, Row.ofOwn hlo fun g _ h3 h4 => ⟨Nat.le_trans hS.1.2.size h3, h4⟩⟩
    · intro a' w7 K hI hK
      obtain ⟨v0, e26, hv0⟩ := hI.new (0, 26) (by decide) (by kernel_rfl)
      obtain rfl : v0 = .agg #[.int .i64 n4, .slice OA o oc] := hv0
      obtain ⟨v1, e28, hv⟩ := hI.new (2, 28) (by decide) (by kernel_rfl)
      have hS := hI.hold
      obtain ⟨l, A, c, rfl, hM, _, hrow⟩ : ∃ (l : List It) (A : Option Addr) (c : Nat), v1 = .slice A l.length c ∧ MadeIt l ∧ w.heap.size < w5.heap.size ∧ Row w7 (Fr w5.heap.size w7.heap.size) A (flt itC l) := hv
      have hK : ∀ v w', Kp (fun y => y = w.heap.size) w7 w' → _ → (∃ (mm : Int) (ys : List Idn) (A : Option Addr) (c : Nat) (eno : Int), v = .tuple #[.agg #[.int .i64 mm, .slice A ys.length c], .int .i64 eno] ∧ w.heap.size < w5.heap.size ∧ (A = none → c = 0) ∧ ys.length ≤ 1000 ∧ w'.ownsRow w5.heap.size 39 4 (.slice A ys.length c) ys.length (flt idC ys)) → K (a'.put (some 29) v) w' := hK
      have hq9 := hM.2.1
      have hu := rupdate_any n4 O l OA A oc c w7 (by rw [← HOL.out]; omega) (by omega) ((HOR5.out.keep (hS.1.2.kept fun b hb => hb)).more fun b hb => Nat.lt_of_lt_of_le hb.1 hS.1.2.size) (hrow.more fun b hb => hb.2)
      rw [← HOL.out] at hu
      have HU := Lib.hid hu
      clear hI hu hrow
      refine wpOp_go rfl rfl ?_
      go_simp
      refine HU.out.mono ?_
      rintro e w8 ⟨mm, ys, YA, yc, eno, rfl, hYA, hYo, hup, hb8⟩
      exact hK _ _ (Kp.ofBelow hb8) (HKS.out _ _ (Kp.ofBelow hb8) (hS.1.1.below hb8) hS) ⟨mm, ys, YA, yc, eno, rfl, hd5, hYA, upd_few hup (by rw [← HOL.out]; omega) (by omega), ownMono hYo hS.1.2.size⟩
    · exact absurd (by simp) hnp
    · exact absurd (by simp) hnp
    · exact absurd (by simp) hnp
    · intro a' w7 K hI hK
      have hS := hI.hold
      have hK : ∀ v w', Kp (fun y => y = w.heap.size) w7 w' → _ → (∃ b, v = .pointer (some ⟨b, 0, none⟩) ∧ w.heap.size < w5.heap.size ∧ w5.heap.size ≤ b ∧ w'.heap[b]? = some (.cells #[.int .i64 0, .slice none 0 0] 29 (0, 0))) → K (a'.put (some 6) v) w' := hK
      have hk7 : Kp (fun y => y = w.heap.size) w7 (w7.alloc (.cells #[.int .i64 0, .slice none 0 0] 29)) := (Kp.refl _ _).alloc _
      have ha7 := alloc1 w7 (.cells #[.int .i64 0, .slice none 0 0] 29)
      have hsz := hS.1.2.size
      clear hI
      refine wpOp_go rfl rfl ?_
      go_simp
      exact hK _ _ hk7 (HKS.out _ _ hk7 (hS.1.1.below ((Below.refl _ _).alloc (Nat.le_refl _) _)) hS) ⟨_, rfl, hd5, hsz, ha7⟩
  case puA =>
    intro i hi
    simp only [List.mem_cons, List.not_mem_nil, or_false] at hi
    rcases hi with rfl | rfl | rfl | rfl
    · intro a' w7 hI
      have e3 := hI.old 3 _ rfl (by decide)
      clear hI
      refine pu_go (.pointer (some ⟨w.heap.size, 0, none⟩)) rfl rfl (fun w' => ?_) rfl
      go_simp
      try rfl
    · intro a' w7 hI
      obtain ⟨v1, e29, hv⟩ := hI.new (3, 29) (by decide) (by kernel_rfl)
      have hS := hI.hold
      obtain ⟨mm, ys, YA, yc, eno, rfl, h2, h3, h4, h5⟩ : ∃ (mm : Int) (ys : List Idn) (A : Option Addr) (c : Nat) (eno : Int), v1 = .tuple #[.agg #[.int .i64 mm, .slice A ys.length c], .int .i64 eno] ∧ w.heap.size < w5.heap.size ∧ (A = none → c = 0) ∧ ys.length ≤ 1000 ∧ w7.ownsRow w5.heap.size 39 4 (.slice A ys.length c) ys.length (flt idC ys) := hv
      have H5 := Lib.hid h5
      clear hI h5
      refine pu_go (.tuple #[.agg #[.int .i64 mm, .slice YA ys.length yc], .int .i64 eno]) rfl rfl (fun w' => ?_) (Exists.intro mm (Exists.intro ys (Exists.intro YA (Exists.intro yc (Exists.intro eno ⟨rfl, h2, h3, h4, H5.out⟩)))))
      go_simp
      try rfl
    · intro a' w7 hI
      obtain ⟨v1, e25, hv⟩ := hI.new (4, 25) (by decide) (by kernel_rfl)
      have hS := hI.hold
      obtain ⟨mm, ys, YA, yc, eno, rfl, h2, h3, h4, h5⟩ : ∃ (mm : Int) (ys : List Idn) (A : Option Addr) (c : Nat) (eno : Int), v1 = .tuple #[.agg #[.int .i64 mm, .slice A ys.length c], .int .i64 eno] ∧ w.heap.size < w5.heap.size ∧ (A = none → c = 0) ∧ ys.length ≤ 1000 ∧ w7.ownsRow w5.heap.size 39 4 (.slice A ys.length c) ys.length (flt idC ys) := hv
      have H5 := Lib.hid h5
      clear hI h5
      refine pu_go (.agg #[.int .i64 mm, .slice YA ys.length yc]) rfl rfl (fun w' => ?_) (Exists.intro mm (Exists.intro ys (Exists.intro YA (Exists.intro yc ⟨rfl, h2, h3, h4, H5.out⟩))))
      go_simp
      try rfl
    · intro a' w7 hI
      obtain ⟨v1, e25, hv⟩ := hI.new (4, 25) (by decide) (by kernel_rfl)
      have hS := hI.hold
      obtain ⟨mm, ys, YA, yc, eno, rfl, _⟩ : ∃ (mm : Int) (ys : List Idn) (A : Option Addr) (c : Nat) (eno : Int), v1 = .tuple #[.agg #[.int .i64 mm, .slice A ys.length c], .int .i64 eno] ∧ w.heap.size < w5.heap.size ∧ (A = none → c = 0) ∧ ys.length ≤ 1000 ∧ w7.ownsRow w5.heap.size 39 4 (.slice A ys.length c) ys.length (flt idC ys) := hv
      clear hI
      refine pu_go (.int .i64 eno) rfl rfl (fun w' => ?_) (Exists.intro eno rfl)
      go_simp
      try rfl
  case finA =>
    intro vs w6 _ hS6 hΦ
    have q5 : ∃ (mm : Int) (ys : List Idn) (A : Option Addr) (c : Nat), vs 5 = .agg #[.int .i64 mm, .slice A ys.length c] ∧ w.heap.size < w5.heap.size ∧ (A = none → c = 0) ∧ ys.length ≤ 1000 ∧ w6.ownsRow w5.heap.size 39 4 (.slice A ys.length c) ys.length (flt idC ys) := hΦ (5, 30) (by decide)
    have q6 : ∃ eno : Int, vs 6 = .int .i64 eno := hΦ (6, 31) (by decide)
    have q7 : ∃ b, vs 7 = .pointer (some ⟨b, 0, none⟩) ∧ w.heap.size < w5.heap.size ∧ w5.heap.size ≤ b ∧ w6.heap[b]? = some (.cells #[.int .i64 0, .slice none 0 0] 29 (0, 0)) := hΦ (7, 6) (by decide)
    obtain ⟨nx, X, XA, xc, e5, _, hXA, hpl, hXo⟩ := q5
    obtain ⟨en, e6⟩ := q6
    obtain ⟨b6, e7, _, hb6l, hblk⟩ := q7
    simp only [putD, e5, e6, e7]
    clear e5 e6 e7 hΦ
    generalize vs 0 = a0
    generalize vs 1 = a1
    generalize vs 2 = a2
    generalize vs 3 = a3
    generalize vs 4 = a4
    clear vs
    obtain ⟨p, hp⟩ : ∃ p, p = X.length := ⟨_, rfl⟩
    rw [← hp] at hpl hXo ⊢
    have HXL := Lib.hid hp
    clear hp
    go_simp
    simp only [opsAt, List.filterMap_cons, List.filterMap_nil, List.getElem?_toArray, List.getElem?_cons_succ, List.getElem?_cons_zero]
    have f60 : w6.frozen? ⟨b6, 0, none⟩ = false := Lib.frozen_of_heap hblk 0
    have f61 : w6.frozen? ⟨b6, 1, none⟩ = false := Lib.frozen_of_heap hblk 1
    have z60 : w6.cell? ⟨b6, 0, none⟩ = some (.int .i64 0) := (Lib.cell_of_heap hblk _).trans rfl
    have z61 : w6.cell? ⟨b6, 1, none⟩ = some (.slice none 0 0) := (Lib.cell_of_heap hblk _).trans rfl
    have hne := own_ne hXo hblk (by decide)
    have hkw6 := hS6.1.2
    have hs6 := hkw6.size
    have hblt := lt_of_heap hblk
    obtain ⟨w8, hw8⟩ : ∃ w8, w8 = (w6.setCell ⟨b6, 0, none⟩ (.int .i64 nx)).setCell ⟨b6, 1, none⟩ (.slice XA p xc) := ⟨_, rfl⟩
    have hk8 : Kp (fun y => y = b6) w6 w8 := by rw [hw8]; exact Kp.setCell (M := fun y => y = b6) (Kp.setCell (M := fun y => y = b6) (Kp.refl _ _) (fun _ => rfl) _) (fun _ => rfl) _
    have HX8 : Hid (w8.heap[b6]? = some (.cells #[.int .i64 nx, .slice XA p xc] 29 (0, 0))) := Lib.hid (by rw [hw8]; exact setCell_heap (o := 1) (v := .slice XA p xc) (setCell_heap (o := 0) (v := .int .i64 nx) hblk))
    have HD8 := Lib.hid (hS6.1.1.keep hk8 fun y e => by omega)
    have HXO8 := Lib.hid (hk8.own hXo hne)
    have HB8 := Lib.hid (kp_below (kp_below HB5.out hkw6 fun y e => by omega) hk8 fun y e => by omega)
    have HO8 := Lib.hid (hk8.heap (hkw6.heap HA5.out (by omega)) (by omega))
    have HOR8 := Lib.hid (((HOR5.out.keep (hkw6.kept fun b hb => hb)).keep (hk8.kept fun b hb => ⟨by omega, by omega⟩)))
    have HS8 := Lib.hid hk8.size
    have HW8 := Lib.hid hw8
    have HXA := Lib.hid hXA
    clear hXo hblk hne hkw6 hw8 hk8 hS6 hXA HD5 HB5 HA5 HOR5
    go_wp2
    refine NoPanic.normal ?_
    go_wp2_with fail
    rw [← HW8.out]
    clear HW8 f60 f61 z60 z61
    refine (items_any w.heap.size xs w8 HD8.out).mono ?_
    rintro e w9 ⟨L, LA, lc, rfl, hM, hLA, hlo, hD9, hK9⟩
    have hs9 := hK9.size
    have hs8 := HS8.out
    have hd8 := HD8.out.lt
    have hql := hM.2.1
    obtain ⟨q, hq⟩ : ∃ q, q = L.length := ⟨_, rfl⟩
    rw [← hq] at hlo hql ⊢
    have HLL := Lib.hid hq
    have HLO9 := Lib.hid hlo
    have HD9 := Lib.hid hD9
    have HX9 := Lib.hid (hK9.heap HX8.out (by omega))
    have HXO9 := Lib.hid (hK9.own HXO8.out fun g hg e => by have := (HXO8.out.lt g hg).1; omega)
    have HB9 := Lib.hid (kp_below HB8.out hK9 fun y e => by omega)
    have HO9 := Lib.hid (hK9.heap HO8.out (by omega))
    have HOR9 := Lib.hid (HOR8.out.keep (hK9.kept fun b hb => ⟨by omega, hb.2⟩))
    clear hM hlo hD9 hK9 hq HX8 HD8 HXO8 HB8 HO8 HOR8 hLA
    go_wp2_with fail
    refine (next_any 8 w.heap.size xs w9 (by decide) (by decide) HD9.out).mono ?_
    rintro e w10 ⟨kn, hkn, rfl, hD, hK⟩
    have hs10 := hK.size
    have HD10 := Lib.hid hD
    have HX10 := Lib.hid (hK.heap HX9.out (by omega))
    have HXO10 := Lib.hid (hK.own HXO9.out fun g hg e => by have := (HXO9.out.lt g hg).1; omega)
    have HB10 := Lib.hid (kp_below HB9.out hK fun y e => by omega)
    have HO10 := Lib.hid (hK.heap HO9.out (by omega))
    have HOR10 := Lib.hid (HOR9.out.keep (hK.kept fun b hb => ⟨by omega, hb.2⟩))
    have HLO10 := Lib.hid (hK.own HLO9.out fun g hg e => by have := (HLO9.out.lt g hg).1; omega)
    have hlt5 : w5.heap.size ≤ w10.heap.size := by omega
    have hlt8 : w8.heap.size ≤ w10.heap.size := by omega
    have hltb : b6 < w10.heap.size := by omega
    have hlt58 : w5.heap.size ≤ w8.heap.size := by omega
    have HLT := Lib.hid hlt5
    clear hD hK HX9 HXO9 HB9 HO9 HOR9 HLO9 HD9 hs4 hs6 hs8 hs9 hs10 hs1 hs2 hs3 hblt
    have hkc : kn = 0 ∨ kn = 1 ∨ kn = 2 ∨ 3 ≤ kn := by omega
    rcases hkc with rfl | rfl | rfl | hk3
    · clear hkn
      go_wp2_with fail
      have hb11 : Below w10.heap.size w10 (w10.alloc (.cells #[.int .i64 0, .int .i64 1, .int .i64 1099511627776, .int .i64 1099511627777] 3)) := (Below.refl _ _).alloc (Nat.le_refl _) _
      have ha11 := alloc1 w10 (.cells #[.int .i64 0, .int .i64 1, .int .i64 1099511627776, .int .i64 1099511627777] 3)
      obtain ⟨w11, hw11⟩ : ∃ w11, w11 = w10.alloc (.cells #[.int .i64 0, .int .i64 1, .int .i64 1099511627776, .int .i64 1099511627777] 3) := ⟨_, rfl⟩
      rw [← hw11] at hb11 ha11 ⊢
      clear hw11
      refine (next_any 4 w.heap.size xs w11 (by decide) (by decide) (HD10.out.below hb11)).mono ?_
      rintro e w12 ⟨j, hj, rfl, hD12, hK12⟩
      have hdl10 := HD10.out.lt
      have hs11 := hb11.size
      have hs12 := hK12.size
      have ha12 := hK12.heap ha11 (by omega)
      obtain ⟨v9, hv9⟩ : ∃ v9 : Int, w12.cell? ⟨w10.heap.size, j, none⟩ = some (.int .i64 v9) := by
        have h4 : j = 0 ∨ j = 1 ∨ j = 2 ∨ j = 3 := by omega
        rcases h4 with rfl | rfl | rfl | rfl <;> exact ⟨_, (Lib.cell_of_heap ha12 _).trans rfl⟩
      have hij : (0 : Int) ≤ (j : Int) ∧ (j : Int) < 4 := ⟨by omega, by omega⟩
      have hk12 : Kp (fun y => y = w.heap.size) w10 w12 := (Kp.ofBelow hb11 : Kp (fun y => y = w.heap.size) w10 w11).one hK12
      have hx12 := hk12.heap HX10.out (by omega)
      have b0 : w12.cell? ⟨b6, 0, none⟩ = some (.int .i64 nx) := (Lib.cell_of_heap hx12 _).trans rfl
      have fb0 : w12.frozen? ⟨b6, 0, none⟩ = false := Lib.frozen_of_heap hx12 0
      obtain ⟨wq, hwq⟩ : ∃ wq, wq = w12.setCell ⟨b6, 0, none⟩ (.int .i64 v9) := ⟨_, rfl⟩
      have hkq : Kp (fun y => y = b6) w12 wq := by rw [hwq]; exact Kp.setCell (M := fun y => y = b6) (Kp.refl _ _) (fun _ => rfl) _
      have hsq := hkq.size
      have hxne := own_ne HXO10.out HX10.out (by decide)
      have hlne := own_ne HLO10.out HX10.out (by decide)
      have HXq : Hid (wq.heap[b6]? = some (.cells #[.int .i64 v9, .slice XA p xc] 29 (0, 0))) := Lib.hid (by rw [hwq]; exact setCell_heap (o := 0) (v := .int .i64 v9) hx12)
      have HXOq := Lib.hid (hkq.own (hk12.own HXO10.out fun g hg e => by have := (HXO10.out.lt g hg).1; omega) hxne)
      have HLOq := Lib.hid (hkq.own (hk12.own HLO10.out fun g hg e => by have := (HLO10.out.lt g hg).1; omega) hlne)
      have HOq := Lib.hid (hkq.heap (hk12.heap HO10.out (by omega)) (by omega))
      have HORq := Lib.hid ((HOR10.out.keep (hk12.kept fun b hb => ⟨by omega, hb.2⟩)).keep (hkq.kept fun b hb => ⟨by omega, by omega⟩))
      have HD := Lib.hid (hD12.keep hkq fun y e => by omega)
      have HB := Lib.hid (kp_below (kp_below HB10.out hk12 fun y e => by omega) hkq fun y e => by omega)
      clear HLT
      have HCL : Hid (AtCells [(⟨b6, 0, none⟩, .int .i64 v9), (⟨b6, 1, none⟩, .slice XA p xc), (⟨p4, 0, none⟩, .int .i64 n4), (⟨p4, 1, none⟩, .slice OA o oc)] wq) := Lib.hid ⟨(Lib.cell_of_heap HXq.out _).trans rfl, (Lib.cell_of_heap HXq.out _).trans rfl, (Lib.cell_of_heap HOq.out _).trans rfl, (Lib.cell_of_heap HOq.out _).trans rfl, trivial⟩
      have HLT : Hid (w.heap.size < wq.heap.size) := Lib.hid HD.out.lt
      have HXR : Hid (Row wq (fun y => y < wq.heap.size ∧ y ≠ w.heap.size) XA (flt idC X)) := Lib.hid (Row.ofOwn HXOq.out fun g _ h3 h4 => ⟨h4, by omega⟩)
      have HOR : Hid (Row wq (fun y => y < wq.heap.size ∧ y ≠ w.heap.size) OA (flt idC O)) := Lib.hid (HORq.out.more fun b hb => ⟨by omega, hb.2⟩)
      have HLR : Hid (Row wq (fun y => y < wq.heap.size ∧ y ≠ w.heap.size) LA (flt itC L)) := Lib.hid (Row.ofOwn HLOq.out fun g _ h3 h4 => ⟨h4, by omega⟩)
      have HWQ := Lib.hid hwq
      clear hb11 ha11 hD12 hK12 ha12 hk12 hx12 hwq hkq hxne hlne HX10 HXO10 HLO10 HO10 HOR10 HD10 HB10 HXq HXOq HLOq HOq HORq
      go_wp2_with fail
      rw [← HWQ.out]
      clear HWQ hv9 b0 fb0 hij
      refine wp_region_mstab (fun u => (DiceAt u w.heap.size xs ∧ Kp (fun y => y = w.heap.size) wq u) ∧ AtCells [(⟨b6, 0, none⟩, .int .i64 v9), (⟨b6, 1, none⟩, .slice XA p xc), (⟨p4, 0, none⟩, .int .i64 n4), (⟨p4, 1, none⟩, .slice OA o oc)] u) (fun u v => Kp (fun y => y = w.heap.size) u v) (edPhi w.heap.size wq.heap.size) [(false, 0), (true, 1), (true, 2), (true, 3), (true, 4), (true, 5), (true, 8)] [(6, 78), (7, 79), (9, 81), (10, 82), (11, 83), (12, 84)] [13] (by kernel_rfl) (by kernel_rfl) (by kernel_rfl) (fun _ => Kp.refl _ _) (fun _ _ _ h h' => h.one h') edPhi_go ?sA ?hA
      case sA => exact ⟨⟨HD.out.below (Below.refl _ wq).drew, (Kp.refl _ _).drew⟩, HCL.out.below (Below.refl _ wq).drew⟩
      case hA =>
      simp only [mixAt, List.filterMap_cons, List.filterMap_nil, List.getElem?_toArray, List.getElem?_cons_succ, List.getElem?_cons_zero, Option.map_some]
      refine wpMix_keep rfl ?_
      go_wp2_with fail
      refine (awake_any wq.drew).mono ?_
      rintro e u0 ⟨rfl, hbu⟩
      have hbu0 : Below wq.heap.size wq u0 := (Below.refl _ wq).drew.trans hbu
      refine ⟨⟨⟨HD.out.below hbu0, Kp.ofBelow hbu0⟩, HCL.out.below hbu0⟩, ?_⟩
      have HBU0 := Lib.hid hbu0
      clear hbu hbu0
      refine wpMix_load ?vAa1 rfl (fun w' hS => ?yAa1) ?kAa1
      case yAa1 =>
        obtain ⟨⟨_, _⟩, g0, g1, g2, g3, _⟩ := hS
        go_simp
        try rfl
      case kAa1 =>
      go_simp
      refine wpMix_load ?vAa2 rfl (fun w' hS => ?yAa2) ?kAa2
      case yAa2 =>
        obtain ⟨⟨_, _⟩, g0, g1, g2, g3, _⟩ := hS
        go_simp
        try rfl
      case kAa2 =>
      go_simp
      refine wpMix_load ?vAa3 rfl (fun w' hS => ?yAa3) ?kAa3
      case yAa3 =>
        obtain ⟨⟨_, _⟩, g0, g1, g2, g3, _⟩ := hS
        go_simp
        try rfl
      case kAa3 =>
      go_simp
      refine wpMix_load ?vAa4 rfl (fun w' hS => ?yAa4) ?kAa4
      case yAa4 =>
        obtain ⟨⟨_, _⟩, g0, g1, g2, g3, _⟩ := hS
        go_simp
        try rfl
      case kAa4 =>
      go_simp
      refine wpMix_load ?vAa5 rfl (fun w' hS => ?yAa5) ?kAa5
      case yAa5 =>
        obtain ⟨⟨_, _⟩, g0, g1, g2, g3, _⟩ := hS
        go_simp
        try rfl
      case kAa5 =>
      go_simp
      refine wpMix_load ?vAa6 rfl (fun w' hS => ?yAa6) ?kAa6
      case yAa6 =>
        obtain ⟨⟨_, _⟩, g0, g1, g2, g3, _⟩ := hS
        go_simp
        try rfl
      case kAa6 =>
      go_simp
      refine wpMix_nil ?_
      refine ⟨?szA, ?stA, ?finA⟩
      case szA =>
        intro x hx
        simp only [List.mem_cons, List.not_mem_nil, or_false] at hx
        rcases hx with rfl | rfl | rfl | rfl | rfl | rfl <;> simp
      case stA =>
        have hkS : ∀ u u' : World, Kp (fun y => y = w.heap.size) u u' → DiceAt u' w.heap.size xs → ((DiceAt u w.heap.size xs ∧ Kp (fun y => y = w.heap.size) wq u) ∧ AtCells [(⟨b6, 0, none⟩, .int .i64 v9), (⟨b6, 1, none⟩, .slice XA p xc), (⟨p4, 0, none⟩, .int .i64 n4), (⟨p4, 1, none⟩, .slice OA o oc)] u) → ((DiceAt u' w.heap.size xs ∧ Kp (fun y => y = w.heap.size) wq u') ∧ AtCells [(⟨b6, 0, none⟩, .int .i64 v9), (⟨b6, 1, none⟩, .slice XA p xc), (⟨p4, 0, none⟩, .int .i64 n4), (⟨p4, 1, none⟩, .slice OA o oc)] u') := fun u u' hk hD hS => ⟨⟨hD, hS.1.2.one hk⟩, hS.2.kp hk (by
          intro x hx
          simp only [List.mem_cons, List.not_mem_nil, or_false] at hx
          rcases hx with rfl | rfl | rfl | rfl <;> (simp only; omega))⟩
        have HKS := Lib.hid hkS
        clear hkS
        intro x hx
        simp only [List.mem_cons, List.not_mem_nil, or_false] at hx
        rcases hx with rfl | rfl | rfl | rfl | rfl | rfl
        · intro a' w7 K hI hK
          have e73 := hI.old 73 _ rfl (by decide)
          have hS := hI.hold
          have hK : ∀ v w', Kp (fun y => y = w.heap.size) w7 w' → _ → (∃ b, v = .slice (some ⟨b, 0, none⟩) 3 3 ∧ w.heap.size < wq.heap.size ∧ wq.heap.size ≤ b ∧ w'.heap[b]? = some (.cells #[.string ⟨#[97]⟩, .string ⟨#[98]⟩, .string ⟨#[99]⟩] 9 (0, 0))) → K (a'.put (some 78) v) w' := hK
          have hsz := hS.1.2.size
          have hk7 : Kp (fun y => y = w.heap.size) w7 (w7.alloc (.cells #[.string ⟨#[97]⟩, .string ⟨#[98]⟩, .string ⟨#[99]⟩] 9)) := (Kp.refl _ _).alloc _
          have ha7 := alloc1 w7 (.cells #[.string ⟨#[97]⟩, .string ⟨#[98]⟩, .string ⟨#[99]⟩] 9)
          clear hI
          refine wpOp_go rfl (wanted_open rfl rfl e73) ?_
          clear e73
          go_simp
          exact hK _ _ hk7 (HKS.out _ _ hk7 (hS.1.1.below ((Below.refl _ _).alloc (Nat.le_refl _) _)) hS) ⟨_, rfl, HLT.out, hsz, ha7⟩
        · intro a' w7 K hI hK
          have e73 := hI.old 73 _ rfl (by decide)
          have e77 := hI.old 77 _ rfl (by decide)
          obtain ⟨v1, e78, hv⟩ := hI.new (6, 78) (by decide) (by kernel_rfl)
          have hS := hI.hold
          obtain ⟨b, rfl, hlt1, hlt2, hblk⟩ : ∃ b, v1 = .slice (some ⟨b, 0, none⟩) 3 3 ∧ w.heap.size < wq.heap.size ∧ wq.heap.size ≤ b ∧ w7.heap[b]? = some (.cells #[.string ⟨#[97]⟩, .string ⟨#[98]⟩, .string ⟨#[99]⟩] 9 (0, 0)) := hv
          have hK : ∀ v w', Kp (fun y => y = w.heap.size) w7 w' → _ → (∃ s, v = sv s) → K (a'.put (some 79) v) w' := hK
          have HOF := Lib.hid (of_any [[97], [98], [99]] (some ⟨b, 0, none⟩) 3 w.heap.size xs w7 (by decide) (by decide) hS.1.1 (row_heap hblk rfl ⟨lt_of_heap hblk, by omega⟩))
          clear hI hblk
          refine wpOp_go rfl (wanted_open rfl rfl e73) ?_
          clear e73
          go_simp
          refine HOF.out.mono ?_
          rintro e w8 ⟨s, _, rfl, hD8, hK8⟩
          exact hK _ _ hK8 (HKS.out _ _ hK8 hD8 hS) ⟨s, rfl⟩
        · intro a' w7 K hI hK
          have e73 := hI.old 73 _ rfl (by decide)
          have hS := hI.hold
          have hK : ∀ v w', Kp (fun y => y = w.heap.size) w7 w' → _ → (∃ b, v = .slice (some ⟨b, 0, none⟩) 3 3 ∧ w.heap.size < wq.heap.size ∧ wq.heap.size ≤ b ∧ w'.heap[b]? = some (.cells #[.string ⟨#[102]⟩, .string ⟨#[103]⟩, .string ⟨#[122]⟩] 9 (0, 0))) → K (a'.put (some 81) v) w' := hK
          have hsz := hS.1.2.size
          have hk7 : Kp (fun y => y = w.heap.size) w7 (w7.alloc (.cells #[.string ⟨#[102]⟩, .string ⟨#[103]⟩, .string ⟨#[122]⟩] 9)) := (Kp.refl _ _).alloc _
          have ha7 := alloc1 w7 (.cells #[.string ⟨#[102]⟩, .string ⟨#[103]⟩, .string ⟨#[122]⟩] 9)
          clear hI
          refine wpOp_go rfl (wanted_open rfl rfl e73) ?_
          clear e73
          go_simp
          exact hK _ _ hk7 (HKS.out _ _ hk7 (hS.1.1.below ((Below.refl _ _).alloc (Nat.le_refl _) _)) hS) ⟨_, rfl, HLT.out, hsz, ha7⟩
        · intro a' w7 K hI hK
          have e73 := hI.old 73 _ rfl (by decide)
          have e80 := hI.old 80 _ rfl (by decide)
          obtain ⟨v1, e81, hv⟩ := hI.new (9, 81) (by decide) (by kernel_rfl)
          have hS := hI.hold
          obtain ⟨b, rfl, hlt1, hlt2, hblk⟩ : ∃ b, v1 = .slice (some ⟨b, 0, none⟩) 3 3 ∧ w.heap.size < wq.heap.size ∧ wq.heap.size ≤ b ∧ w7.heap[b]? = some (.cells #[.string ⟨#[102]⟩, .string ⟨#[103]⟩, .string ⟨#[122]⟩] 9 (0, 0)) := hv
          have hK : ∀ v w', Kp (fun y => y = w.heap.size) w7 w' → _ → (∃ s, v = sv s) → K (a'.put (some 82) v) w' := hK
          have HOF := Lib.hid (of_any [[102], [103], [122]] (some ⟨b, 0, none⟩) 3 w.heap.size xs w7 (by decide) (by decide) hS.1.1 (row_heap hblk rfl ⟨lt_of_heap hblk, by omega⟩))
          clear hI hblk
          refine wpOp_go rfl (wanted_open rfl rfl e73) ?_
          clear e73
          go_simp
          refine HOF.out.mono ?_
          rintro e w8 ⟨s, _, rfl, hD8, hK8⟩
          exact hK _ _ hK8 (HKS.out _ _ hK8 hD8 hS) ⟨s, rfl⟩
        · intro a' w7 K hI hK
          have e73 := hI.old 73 _ rfl (by decide)
          have e74 := hI.old 74 _ rfl (by decide)
          have e75 := hI.old 75 _ rfl (by decide)
          have e76 := hI.old 76 _ rfl (by decide)
          obtain ⟨v1, e79, hv1⟩ := hI.new (7, 79) (by decide) (by kernel_rfl)
          obtain ⟨v2, e82, hv2⟩ := hI.new (10, 82) (by decide) (by kernel_rfl)
          have hS := hI.hold
          obtain ⟨sa, rfl⟩ : ∃ s, v1 = sv s := hv1
          obtain ⟨sb, rfl⟩ : ∃ s, v2 = sv s := hv2
          have hK : ∀ v w', Kp (fun y => y = w.heap.size) w7 w' → _ → (v = .bool true) → K (a'.put (some 83) v) w' := hK
          have hq7 := hS.1.2.kept (S := fun y => y < wq.heap.size ∧ y ≠ w.heap.size) fun b hb => hb
          have hup : ∀ b, (b < wq.heap.size ∧ b ≠ w.heap.size) → Lt w7.heap.size b := fun b hb => Nat.lt_of_lt_of_le hb.1 hS.1.2.size
          have hag := agree_any v9 n4 X O L XA OA LA xc oc lc sa sb w7 HXA.out (by rw [← HXL.out]; omega) (by rw [← HOL.out]; omega) (by rw [← HLL.out]; omega) ((HXR.out.keep hq7).more hup) ((HOR.out.keep hq7).more hup) ((HLR.out.keep hq7).more hup)
          rw [← HXL.out, ← HOL.out, ← HLL.out] at hag
          have HAG := Lib.hid hag
          clear hI hag hq7 hup
          refine wpOp_go rfl (wanted_open rfl rfl e73) ?_
          clear e73
          go_simp
          refine HAG.out.mono ?_
          rintro e w8 ⟨rfl, hb8⟩
          exact hK _ _ (Kp.ofBelow hb8) (HKS.out _ _ (Kp.ofBelow hb8) (hS.1.1.below hb8) hS) rfl
        · intro a' w7 K hI hK
          have e73 := hI.old 73 _ rfl (by decide)
          obtain ⟨v1, e83, hv1⟩ := hI.new (11, 83) (by decide) (by kernel_rfl)
          have hS := hI.hold
          obtain rfl : v1 = .bool true := hv1
          have hK : ∀ v w', Kp (fun y => y = w.heap.size) w7 w' → _ → (v = .bool true) → K (a'.put (some 84) v) w' := hK
          clear hI
          refine wpOp_go rfl rfl ?_
          go_simp
          exact hK _ _ (Kp.refl _ _) hS rfl
      case finA =>
        intro vs w6 _ hS6 hΦ
        have q12 : vs 12 = .bool true := hΦ (12, 84) (by decide)
        simp only [putD, q12]
        clear q12 hΦ
        generalize vs 6 = a6
        generalize vs 7 = a7
        generalize vs 9 = a9
        generalize vs 10 = a10
        generalize vs 11 = a11
        clear vs
        have hb6 : Below w.heap.size w w6 := kp_below HB.out hS6.1.2 fun y e => by omega
        have HB6 := Lib.hid hb6
        clear hb6 hS6
        simp only [opsAt, List.filterMap_cons, List.filterMap_nil, List.getElem?_toArray, List.getElem?_cons_succ, List.getElem?_cons_zero]
        go_wp2
        refine NoPanic.normal ?_
        go_wp2
        go_ret
        exact ⟨rfl, HB6.out⟩
    · clear hkn HLT
      have b1 : w10.cell? ⟨b6, 1, none⟩ = some (.slice XA p xc) := (Lib.cell_of_heap HX10.out _).trans rfl
      rcases Nat.eq_zero_or_pos p with hp0 | hp0
      · have hpb : decide ((p : Int) > 0) = false := by simp; omega
        have hpb2 : ¬ (0 : Int) < (p : Int) := by omega
        have hpb3 : ¬ 0 < p := by omega
        have HP0 := Lib.hid hp0
        clear hp0
        have HD := HD10
        have HB := HB10
        have HCL : Hid (AtCells [(⟨b6, 0, none⟩, .int .i64 nx), (⟨b6, 1, none⟩, .slice XA p xc), (⟨p4, 0, none⟩, .int .i64 n4), (⟨p4, 1, none⟩, .slice OA o oc)] w10) := Lib.hid ⟨(Lib.cell_of_heap HX10.out _).trans rfl, (Lib.cell_of_heap HX10.out _).trans rfl, (Lib.cell_of_heap HO10.out _).trans rfl, (Lib.cell_of_heap HO10.out _).trans rfl, trivial⟩
        have HLT : Hid (w.heap.size < w10.heap.size) := Lib.hid HD.out.lt
        have HXR : Hid (Row w10 (fun y => y < w10.heap.size ∧ y ≠ w.heap.size) XA (flt idC X)) := Lib.hid (Row.ofOwn HXO10.out fun g _ h3 h4 => ⟨h4, by omega⟩)
        have HOR : Hid (Row w10 (fun y => y < w10.heap.size ∧ y ≠ w.heap.size) OA (flt idC O)) := Lib.hid (HOR10.out.more fun b hb => ⟨by omega, hb.2⟩)
        have HLR : Hid (Row w10 (fun y => y < w10.heap.size ∧ y ≠ w.heap.size) LA (flt itC L)) := Lib.hid (Row.ofOwn HLO10.out fun g _ h3 h4 => ⟨h4, by omega⟩)
        clear HD10 HB10 HX10 HXO10 HO10 HOR10 HLO10
        go_wp2_with fail
        clear b1 hpb hpb2 hpb3
        refine wp_region_mstab (fun u => (DiceAt u w.heap.size xs ∧ Kp (fun y => y = w.heap.size) w10 u) ∧ AtCells [(⟨b6, 0, none⟩, .int .i64 nx), (⟨b6, 1, none⟩, .slice XA p xc), (⟨p4, 0, none⟩, .int .i64 n4), (⟨p4, 1, none⟩, .slice OA o oc)] u) (fun u v => Kp (fun y => y = w.heap.size) u v) (edPhi w.heap.size w10.heap.size) [(false, 0), (true, 1), (true, 2), (true, 3), (true, 4), (true, 5), (true, 8)] [(6, 78), (7, 79), (9, 81), (10, 82), (11, 83), (12, 84)] [13] (by kernel_rfl) (by kernel_rfl) (by kernel_rfl) (fun _ => Kp.refl _ _) (fun _ _ _ h h' => h.one h') edPhi_go ?sE ?hE
        case sE => exact ⟨⟨HD.out.below (Below.refl _ w10).drew, (Kp.refl _ _).drew⟩, HCL.out.below (Below.refl _ w10).drew⟩
        case hE =>
        simp only [mixAt, List.filterMap_cons, List.filterMap_nil, List.getElem?_toArray, List.getElem?_cons_succ, List.getElem?_cons_zero, Option.map_some]
        refine wpMix_keep rfl ?_
        go_wp2_with fail
        refine (awake_any w10.drew).mono ?_
        rintro e u0 ⟨rfl, hbu⟩
        have hbu0 : Below w10.heap.size w10 u0 := (Below.refl _ w10).drew.trans hbu
        refine ⟨⟨⟨HD.out.below hbu0, Kp.ofBelow hbu0⟩, HCL.out.below hbu0⟩, ?_⟩
        have HBU0 := Lib.hid hbu0
        clear hbu hbu0
        refine wpMix_load ?vEa1 rfl (fun w' hS => ?yEa1) ?kEa1
        case yEa1 =>
          obtain ⟨⟨_, _⟩, g0, g1, g2, g3, _⟩ := hS
          go_simp
          try rfl
        case kEa1 =>
        go_simp
        refine wpMix_load ?vEa2 rfl (fun w' hS => ?yEa2) ?kEa2
        case yEa2 =>
          obtain ⟨⟨_, _⟩, g0, g1, g2, g3, _⟩ := hS
          go_simp
          try rfl
        case kEa2 =>
        go_simp
        refine wpMix_load ?vEa3 rfl (fun w' hS => ?yEa3) ?kEa3
        case yEa3 =>
          obtain ⟨⟨_, _⟩, g0, g1, g2, g3, _⟩ := hS
          go_simp
          try rfl
        case kEa3 =>
        go_simp
        refine wpMix_load ?vEa4 rfl (fun w' hS => ?yEa4) ?kEa4
        case yEa4 =>
          obtain ⟨⟨_, _⟩, g0, g1, g2, g3, _⟩ := hS
          go_simp
          try rfl
        case kEa4 =>
        go_simp
        refine wpMix_load ?vEa5 rfl (fun w' hS => ?yEa5) ?kEa5
        case yEa5 =>
          obtain ⟨⟨_, _⟩, g0, g1, g2, g3, _⟩ := hS
          go_simp
          try rfl
        case kEa5 =>
        go_simp
        refine wpMix_load ?vEa6 rfl (fun w' hS => ?yEa6) ?kEa6
        case yEa6 =>
          obtain ⟨⟨_, _⟩, g0, g1, g2, g3, _⟩ := hS
          go_simp
          try rfl
        case kEa6 =>
        go_simp
        refine wpMix_nil ?_
        refine ⟨?szE, ?stE, ?finE⟩
        case szE =>
          intro x hx
          simp only [List.mem_cons, List.not_mem_nil, or_false] at hx
          rcases hx with rfl | rfl | rfl | rfl | rfl | rfl <;> simp
        case stE =>
          have hkS : ∀ u u' : World, Kp (fun y => y = w.heap.size) u u' → DiceAt u' w.heap.size xs → ((DiceAt u w.heap.size xs ∧ Kp (fun y => y = w.heap.size) w10 u) ∧ AtCells [(⟨b6, 0, none⟩, .int .i64 nx), (⟨b6, 1, none⟩, .slice XA p xc), (⟨p4, 0, none⟩, .int .i64 n4), (⟨p4, 1, none⟩, .slice OA o oc)] u) → ((DiceAt u' w.heap.size xs ∧ Kp (fun y => y = w.heap.size) w10 u') ∧ AtCells [(⟨b6, 0, none⟩, .int .i64 nx), (⟨b6, 1, none⟩, .slice XA p xc), (⟨p4, 0, none⟩, .int .i64 n4), (⟨p4, 1, none⟩, .slice OA o oc)] u') := fun u u' hk hD hS => ⟨⟨hD, hS.1.2.one hk⟩, hS.2.kp hk (by
            intro x hx
            simp only [List.mem_cons, List.not_mem_nil, or_false] at hx
            rcases hx with rfl | rfl | rfl | rfl <;> (simp only; omega))⟩
          have HKS := Lib.hid hkS
          clear hkS
          intro x hx
          simp only [List.mem_cons, List.not_mem_nil, or_false] at hx
          rcases hx with rfl | rfl | rfl | rfl | rfl | rfl
          · intro a' w7 K hI hK
            have e73 := hI.old 73 _ rfl (by decide)
            have hS := hI.hold
            have hK : ∀ v w', Kp (fun y => y = w.heap.size) w7 w' → _ → (∃ b, v = .slice (some ⟨b, 0, none⟩) 3 3 ∧ w.heap.size < w10.heap.size ∧ w10.heap.size ≤ b ∧ w'.heap[b]? = some (.cells #[.string ⟨#[97]⟩, .string ⟨#[98]⟩, .string ⟨#[99]⟩] 9 (0, 0))) → K (a'.put (some 78) v) w' := hK
            have hsz := hS.1.2.size
            have hk7 : Kp (fun y => y = w.heap.size) w7 (w7.alloc (.cells #[.string ⟨#[97]⟩, .string ⟨#[98]⟩, .string ⟨#[99]⟩] 9)) := (Kp.refl _ _).alloc _
            have ha7 := alloc1 w7 (.cells #[.string ⟨#[97]⟩, .string ⟨#[98]⟩, .string ⟨#[99]⟩] 9)
            clear hI
            refine wpOp_go rfl (wanted_open rfl rfl e73) ?_
            clear e73
            go_simp
            exact hK _ _ hk7 (HKS.out _ _ hk7 (hS.1.1.below ((Below.refl _ _).alloc (Nat.le_refl _) _)) hS) ⟨_, rfl, HLT.out, hsz, ha7⟩
          · intro a' w7 K hI hK
            have e73 := hI.old 73 _ rfl (by decide)
            have e77 := hI.old 77 _ rfl (by decide)
            obtain ⟨v1, e78, hv⟩ := hI.new (6, 78) (by decide) (by kernel_rfl)
            have hS := hI.hold
            obtain ⟨b, rfl, hlt1, hlt2, hblk⟩ : ∃ b, v1 = .slice (some ⟨b, 0, none⟩) 3 3 ∧ w.heap.size < w10.heap.size ∧ w10.heap.size ≤ b ∧ w7.heap[b]? = some (.cells #[.string ⟨#[97]⟩, .string ⟨#[98]⟩, .string ⟨#[99]⟩] 9 (0, 0)) := hv
            have hK : ∀ v w', Kp (fun y => y = w.heap.size) w7 w' → _ → (∃ s, v = sv s) → K (a'.put (some 79) v) w' := hK
            have HOF := Lib.hid (of_any [[97], [98], [99]] (some ⟨b, 0, none⟩) 3 w.heap.size xs w7 (by decide) (by decide) hS.1.1 (row_heap hblk rfl ⟨lt_of_heap hblk, by omega⟩))
            clear hI hblk
            refine wpOp_go rfl (wanted_open rfl rfl e73) ?_
            clear e73
            go_simp
            refine HOF.out.mono ?_
            rintro e w8 ⟨s, _, rfl, hD8, hK8⟩
            exact hK _ _ hK8 (HKS.out _ _ hK8 hD8 hS) ⟨s, rfl⟩
          · intro a' w7 K hI hK
            have e73 := hI.old 73 _ rfl (by decide)
            have hS := hI.hold
            have hK : ∀ v w', Kp (fun y => y = w.heap.size) w7 w' → _ → (∃ b, v = .slice (some ⟨b, 0, none⟩) 3 3 ∧ w.heap.size < w10.heap.size ∧ w10.heap.size ≤ b ∧ w'.heap[b]? = some (.cells #[.string ⟨#[102]⟩, .string ⟨#[103]⟩, .string ⟨#[122]⟩] 9 (0, 0))) → K (a'.put (some 81) v) w' := hK
            have hsz := hS.1.2.size
            have hk7 : Kp (fun y => y = w.heap.size) w7 (w7.alloc (.cells #[.string ⟨#[102]⟩, .string ⟨#[103]⟩, .string ⟨#[122]⟩] 9)) := (Kp.refl _ _).alloc _
            have ha7 := alloc1 w7 (.cells #[.string ⟨#[102]⟩, .string ⟨#[103]⟩, .string ⟨#[122]⟩] 9)
            clear hI
            refine wpOp_go rfl (wanted_open rfl rfl e73) ?_
            clear e73
            go_simp
            exact hK _ _ hk7 (HKS.out _ _ hk7 (hS.1.1.below ((Below.refl _ _).alloc (Nat.le_refl _) _)) hS) ⟨_, rfl, HLT.out, hsz, ha7⟩
          · intro a' w7 K hI hK
            have e73 := hI.old 73 _ rfl (by decide)
            have e80 := hI.old 80 _ rfl (by decide)
            obtain ⟨v1, e81, hv⟩ := hI.new (9, 81) (by decide) (by kernel_rfl)
            have hS := hI.hold
            obtain ⟨b, rfl, hlt1, hlt2, hblk⟩ : ∃ b, v1 = .slice (some ⟨b, 0, none⟩) 3 3 ∧ w.heap.size < w10.heap.size ∧ w10.heap.size ≤ b ∧ w7.heap[b]? = some (.cells #[.string ⟨#[102]⟩, .string ⟨#[103]⟩, .string ⟨#[122]⟩] 9 (0, 0)) := hv
            have hK : ∀ v w', Kp (fun y => y = w.heap.size) w7 w' → _ → (∃ s, v = sv s) → K (a'.put (some 82) v) w' := hK
            have HOF := Lib.hid (of_any [[102], [103], [122]] (some ⟨b, 0, none⟩) 3 w.heap.size xs w7 (by decide) (by decide) hS.1.1 (row_heap hblk rfl ⟨lt_of_heap hblk, by omega⟩))
            clear hI hblk
            refine wpOp_go rfl (wanted_open rfl rfl e73) ?_
            clear e73
            go_simp
            refine HOF.out.mono ?_
            rintro e w8 ⟨s, _, rfl, hD8, hK8⟩
            exact hK _ _ hK8 (HKS.out _ _ hK8 hD8 hS) ⟨s, rfl⟩
          · intro a' w7 K hI hK
            have e73 := hI.old 73 _ rfl (by decide)
            have e74 := hI.old 74 _ rfl (by decide)
            have e75 := hI.old 75 _ rfl (by decide)
            have e76 := hI.old 76 _ rfl (by decide)
            obtain ⟨v1, e79, hv1⟩ := hI.new (7, 79) (by decide) (by kernel_rfl)
            obtain ⟨v2, e82, hv2⟩ := hI.new (10, 82) (by decide) (by kernel_rfl)
            have hS := hI.hold
            obtain ⟨sa, rfl⟩ : ∃ s, v1 = sv s := hv1
            obtain ⟨sb, rfl⟩ : ∃ s, v2 = sv s := hv2
            have hK : ∀ v w', Kp (fun y => y = w.heap.size) w7 w' → _ → (v = .bool true) → K (a'.put (some 83) v) w' := hK
            have hq7 := hS.1.2.kept (S := fun y => y < w10.heap.size ∧ y ≠ w.heap.size) fun b hb => hb
            have hup : ∀ b, (b < w10.heap.size ∧ b ≠ w.heap.size) → Lt w7.heap.size b := fun b hb => Nat.lt_of_lt_of_le hb.1 hS.1.2.size
            have hag := agree_any nx n4 X O L XA OA LA xc oc lc sa sb w7 HXA.out (by rw [← HXL.out]; omega) (by rw [← HOL.out]; omega) (by rw [← HLL.out]; omega) ((HXR.out.keep hq7).more hup) ((HOR.out.keep hq7).more hup) ((HLR.out.keep hq7).more hup)
            rw [← HXL.out, ← HOL.out, ← HLL.out] at hag
            have HAG := Lib.hid hag
            clear hI hag hq7 hup
            refine wpOp_go rfl (wanted_open rfl rfl e73) ?_
            clear e73
            go_simp
            refine HAG.out.mono ?_
            rintro e w8 ⟨rfl, hb8⟩
            exact hK _ _ (Kp.ofBelow hb8) (HKS.out _ _ (Kp.ofBelow hb8) (hS.1.1.below hb8) hS) rfl
          · intro a' w7 K hI hK
            have e73 := hI.old 73 _ rfl (by decide)
            obtain ⟨v1, e83, hv1⟩ := hI.new (11, 83) (by decide) (by kernel_rfl)
            have hS := hI.hold
            obtain rfl : v1 = .bool true := hv1
            have hK : ∀ v w', Kp (fun y => y = w.heap.size) w7 w' → _ → (v = .bool true) → K (a'.put (some 84) v) w' := hK
            clear hI
            refine wpOp_go rfl rfl ?_
            go_simp
            exact hK _ _ (Kp.refl _ _) hS rfl
        case finE =>
          intro vs w6 _ hS6 hΦ
          have q12 : vs 12 = .bool true := hΦ (12, 84) (by decide)
          simp only [putD, q12]
          clear q12 hΦ
          generalize vs 6 = a6
          generalize vs 7 = a7
          generalize vs 9 = a9
          generalize vs 10 = a10
          generalize vs 11 = a11
          clear vs
          have hb6 : Below w.heap.size w w6 := kp_below HB.out hS6.1.2 fun y e => by omega
          have HB6 := Lib.hid hb6
          clear hb6 hS6
          simp only [opsAt, List.filterMap_cons, List.filterMap_nil, List.getElem?_toArray, List.getElem?_cons_succ, List.getElem?_cons_zero]
          go_wp2
          refine NoPanic.normal ?_
          go_wp2
          go_ret
          exact ⟨rfl, HB6.out⟩
      · obtain ⟨g, cap, hv, hgb, hglt⟩ := HXO10.out.form hp0
        obtain ⟨rfl, _, rfl⟩ := Value.slice.inj hv
        have hpb : decide ((p : Int) > 0) = true := by simp; omega
        have hpb2 : (0 : Int) < (p : Int) := by omega
        clear hv
        go_wp2_with fail
        refine wp_region_mix (fun u => (DiceAt u w.heap.size xs ∧ Kp (fun y => y = w.heap.size) w10 u) ∧ AtCells [(⟨b6, 1, none⟩, .slice (some ⟨g, 0, none⟩) p xc)] u) [(true, 0), (true, 1), (true, 2), (true, 3), (true, 4), (true, 5), (true, 10), (false, 6), (true, 7), (true, 8), (true, 9), (false, 11), (true, 12), (true, 13)] [14, 15, 16] (by kernel_rfl) (by kernel_rfl) ?sM ?hM
        case sM => exact ⟨⟨HD10.out.below (Below.refl _ w10).drew, (Kp.refl _ _).drew⟩, b1, trivial⟩
        case hM =>
        have hkS : ∀ u u' : World, Kp (fun y => y = w.heap.size) u u' → DiceAt u' w.heap.size xs → ((DiceAt u w.heap.size xs ∧ Kp (fun y => y = w.heap.size) w10 u) ∧ AtCells [(⟨b6, 1, none⟩, .slice (some ⟨g, 0, none⟩) p xc)] u) → ((DiceAt u' w.heap.size xs ∧ Kp (fun y => y = w.heap.size) w10 u') ∧ AtCells [(⟨b6, 1, none⟩, .slice (some ⟨g, 0, none⟩) p xc)] u') := fun u u' hk hD hS => ⟨⟨hD, hS.1.2.one hk⟩, hS.2.kp hk (by
          intro x hx
          simp only [List.mem_cons, List.not_mem_nil, or_false] at hx
          subst hx
          simp only
          omega)⟩
        have HKS := Lib.hid hkS
        have HS0 : Hid ((DiceAt w10.drew w.heap.size xs ∧ Kp (fun y => y = w.heap.size) w10 w10.drew) ∧ AtCells [(⟨b6, 1, none⟩, .slice (some ⟨g, 0, none⟩) p xc)] w10.drew) := Lib.hid ⟨⟨HD10.out.below (Below.refl _ w10).drew, (Kp.refl _ _).drew⟩, b1, trivial⟩
        simp only [mixAt, List.filterMap_cons, List.filterMap_nil, List.getElem?_toArray, List.getElem?_cons_succ, List.getElem?_cons_zero, Option.map_some]
        clear hkS b1
        refine wpMix_load ?vMa0 rfl (fun w' hS => ?yMa0) ?kMa0
        case yMa0 =>
          obtain ⟨⟨_, _⟩, g1, _⟩ := hS
          go_simp
          try rfl
        case kMa0 =>
        go_simp
        refine wpMix_load ?vMa1 rfl (fun w' hS => ?yMa1) ?kMa1
        case yMa1 =>
          obtain ⟨⟨_, _⟩, g1, _⟩ := hS
          go_simp
          try rfl
        case kMa1 =>
        go_simp
        refine wpMix_load ?vMa2 rfl (fun w' hS => ?yMa2) ?kMa2
        case yMa2 =>
          obtain ⟨⟨_, _⟩, g1, _⟩ := hS
          go_simp
          try rfl
        case kMa2 =>
        go_simp
        refine wpMix_load ?vMa3 rfl (fun w' hS => ?yMa3) ?kMa3
        case yMa3 =>
          obtain ⟨⟨_, _⟩, g1, _⟩ := hS
          go_simp
          try rfl
        case kMa3 =>
        go_simp
        refine wpMix_load ?vMa4 rfl (fun w' hS => ?yMa4) ?kMa4
        case yMa4 =>
          obtain ⟨⟨_, _⟩, g1, _⟩ := hS
          go_simp
          try rfl
        case kMa4 =>
        go_simp
        refine wpMix_load ?vMa5 rfl (fun w' hS => ?yMa5) ?kMa5
        case yMa5 =>
          obtain ⟨⟨_, _⟩, g1, _⟩ := hS
          go_simp
          try rfl
        case kMa5 =>
        go_simp
        refine wpMix_load ?vMa6 rfl (fun w' hS => ?yMa6) ?kMa6
        case yMa6 =>
          obtain ⟨⟨_, _⟩, g1, _⟩ := hS
          go_simp
          try rfl
        case kMa6 =>
        go_simp
        refine wpMix_keep rfl ?_
        go_wp2_with fail
        refine (next_any p w.heap.size xs w10.drew hp0 hpl HS0.out.1.1).mono ?_
        rintro e u1 ⟨kk, hkk, rfl, hDu, hKu⟩
        have HS1 := Lib.hid (HKS.out _ _ hKu hDu HS0.out)
        refine ⟨HS1.out, ?_⟩
        obtain ⟨y, hy⟩ : ∃ y, X[kk]? = some y := ⟨_, List.getElem?_eq_getElem (by rw [← HXL.out]; exact hkk)⟩
        have hik : (0 : Int) ≤ (kk : Int) ∧ (kk : Int) < (p : Int) := ⟨by omega, by omega⟩
        have HY := Lib.hid hy
        clear hDu hKu hy
        refine wpMix_load ?vMb7 rfl (fun w' hS => ?yMb7) ?kMb7
        case yMb7 =>
          obtain ⟨⟨_, _⟩, g1, _⟩ := hS
          go_simp
          try rfl
        case kMb7 =>
        go_simp
        refine wpMix_load ?vMb8 rfl (fun w' hS => ?yMb8) ?kMb8
        case yMb8 =>
          obtain ⟨⟨_, _⟩, g1, _⟩ := hS
          go_simp
          try rfl
        case kMb8 =>
        go_simp
        refine wpMix_load (.int .i64 y.id) rfl (fun w' hS => ?yM9) ?kM9
        case yM9 =>
          have hrow := hS.1.2.own HXO10.out fun g' hg e => by have := (HXO10.out.lt g' hg).1; omega
          have gy : w'.cell? ⟨g, kk * 4, none⟩ = some (.int .i64 y.id) := (hrow.cellAt (kk * 4) (by omega)).trans (flt_at (j := 0) idC_len HY.out rfl)
          clear hrow
          go_simp
          try rfl
        case kM9 =>
        go_simp
        refine wpMix_keep rfl ?_
        go_wp2_with fail
        refine (next_any 3 w.heap.size xs u1 (by decide) (by decide) HS1.out.1.1).mono ?_
        rintro e u2 ⟨j3, hj3, rfl, hDu, hKu⟩
        have HS2 := Lib.hid (HKS.out _ _ hKu hDu HS1.out)
        refine ⟨HS2.out, ?_⟩
        have hw1 : IntKind.i64.wrap ((j3 : Int) - 1) = (j3 : Int) - 1 := by rw [IntKind.wrap_i64]; omega
        clear hDu hKu HKS HS0 HS1
        refine wpMix_load ?vMc12 rfl (fun w' hS => ?yMc12) ?kMc12
        case yMc12 =>
          obtain ⟨⟨_, _⟩, g1, _⟩ := hS
          go_simp
          try rfl
        case kMc12 =>
        go_simp
        refine wpMix_load ?vMc13 rfl (fun w' hS => ?yMc13) ?kMc13
        case yMc13 =>
          obtain ⟨⟨_, _⟩, g1, _⟩ := hS
          go_simp
          try rfl
        case kMc13 =>
        go_simp
        refine wpMix_nil ?_
        simp only [opsAt, List.filterMap_cons, List.filterMap_nil, List.getElem?_toArray, List.getElem?_cons_succ, List.getElem?_cons_zero]
        generalize IntKind.i64.wrap (y.id + ((j3 : Int) - 1)) = v9
        have hku2 := HS2.out.1.2
        have hrow := hku2.own HXO10.out fun g' hg e => by have := (HXO10.out.lt g' hg).1; omega
        have gy : u2.cell? ⟨g, kk * 4, none⟩ = some (.int .i64 y.id) := (hrow.cellAt (kk * 4) (by omega)).trans (flt_at (j := 0) idC_len HY.out rfl)
        have fz := hrow.frozenAt (kk * 4)
        have hst := (hrow.stored (kk * 4) (.int .i64 v9)).1
        rw [show (flt idC X).set (kk * 4) (.int .i64 v9) = flt idC (X.set kk ⟨v9, y.it⟩) from flt_setG (j := 0) idC_len (by decide) HY.out rfl] at hst
        obtain ⟨XS, hXS⟩ : ∃ XS, XS = X.set kk ⟨v9, y.it⟩ := ⟨_, rfl⟩
        rw [← hXS] at hst
        have HXS : Hid (p = XS.length) := Lib.hid (by rw [hXS, List.length_set]; exact HXL.out)
        obtain ⟨wq, hwq⟩ : ∃ wq, wq = u2.setCell ⟨g, kk * 4, none⟩ (.int .i64 v9) := ⟨_, rfl⟩
        have hkq : Kp (fun y => y = g) u2 wq := by rw [hwq]; exact Kp.setCell (M := fun y => y = g) (Kp.refl _ _) (fun _ => rfl) _
        have hs2 := hku2.size
        have hsq := hkq.size
        rw [← hwq] at hst
        have hxne : g ≠ b6 := own_ne HXO10.out HX10.out (by decide) g rfl
        have hlne : ∀ g', (Value.slice LA q lc).ownBlock = some g' → g' ≠ g := fun g' hg e => rows_ne HXO10.out HLO10.out (by decide) g rfl (by rw [hg, e])
        have HXOq := Lib.hid hst
        have HXq := Lib.hid (hkq.heap (hku2.heap HX10.out (by omega)) (Ne.symm hxne))
        have HLOq := Lib.hid (hkq.own (hku2.own HLO10.out fun g' hg e => by have := (HLO10.out.lt g' hg).1; omega) hlne)
        have HOq := Lib.hid (hkq.heap (hku2.heap HO10.out (by omega)) (by omega))
        have HORq := Lib.hid ((HOR10.out.keep (hku2.kept fun b hb => ⟨by omega, hb.2⟩)).keep (hkq.kept fun b hb => ⟨by omega, by omega⟩))
        have HD := Lib.hid (HS2.out.1.1.keep hkq fun y e => by omega)
        have HB := Lib.hid (kp_below (kp_below HB10.out hku2 fun y e => by omega) hkq fun y e => by omega)
        have HCL : Hid (AtCells [(⟨b6, 0, none⟩, .int .i64 nx), (⟨b6, 1, none⟩, .slice (some ⟨g, 0, none⟩) p xc), (⟨p4, 0, none⟩, .int .i64 n4), (⟨p4, 1, none⟩, .slice OA o oc)] wq) := Lib.hid ⟨(Lib.cell_of_heap HXq.out _).trans rfl, (Lib.cell_of_heap HXq.out _).trans rfl, (Lib.cell_of_heap HOq.out _).trans rfl, (Lib.cell_of_heap HOq.out _).trans rfl, trivial⟩
        have HLT : Hid (w.heap.size < wq.heap.size) := Lib.hid HD.out.lt
        have HXR : Hid (Row wq (fun y => y < wq.heap.size ∧ y ≠ w.heap.size) (some ⟨g, 0, none⟩) (flt idC XS)) := Lib.hid (Row.ofOwn HXOq.out fun g _ h3 h4 => ⟨h4, by omega⟩)
        have HOR : Hid (Row wq (fun y => y < wq.heap.size ∧ y ≠ w.heap.size) OA (flt idC O)) := Lib.hid (HORq.out.more fun b hb => ⟨by omega, hb.2⟩)
        have HLR : Hid (Row wq (fun y => y < wq.heap.size ∧ y ≠ w.heap.size) LA (flt itC L)) := Lib.hid (Row.ofOwn HLOq.out fun g _ h3 h4 => ⟨h4, by omega⟩)
        have HWQ := Lib.hid hwq
        clear hrow hst hXS hwq hkq hxne hlne hku2 HX10 HXO10 HLO10 HO10 HOR10 HD10 HB10 HXq HXOq HLOq HOq HORq HS2 HXL HY hs2 hsq
        go_wp2
        refine NoPanic.normal ?_
        go_wp2_with fail
        rw [← HWQ.out]
        clear HWQ gy fz hik hpb hpb2 hw1
        refine wp_region_mstab (fun u => (DiceAt u w.heap.size xs ∧ Kp (fun y => y = w.heap.size) wq u) ∧ AtCells [(⟨b6, 0, none⟩, .int .i64 nx), (⟨b6, 1, none⟩, .slice (some ⟨g, 0, none⟩) p xc), (⟨p4, 0, none⟩, .int .i64 n4), (⟨p4, 1, none⟩, .slice OA o oc)] u) (fun u v => Kp (fun y => y = w.heap.size) u v) (edPhi w.heap.size wq.heap.size) [(false, 0), (true, 1), (true, 2), (true, 3), (true, 4), (true, 5), (true, 8)] [(6, 78), (7, 79), (9, 81), (10, 82), (11, 83), (12, 84)] [13] (by kernel_rfl) (by kernel_rfl) (by kernel_rfl) (fun _ => Kp.refl _ _) (fun _ _ _ h h' => h.one h') edPhi_go ?sF ?hF
        case sF => exact ⟨⟨HD.out.below (Below.refl _ wq).drew, (Kp.refl _ _).drew⟩, HCL.out.below (Below.refl _ wq).drew⟩
        case hF =>
        simp only [mixAt, List.filterMap_cons, List.filterMap_nil, List.getElem?_toArray, List.getElem?_cons_succ, List.getElem?_cons_zero, Option.map_some]
        refine wpMix_keep rfl ?_
        go_wp2_with fail
        refine (awake_any wq.drew).mono ?_
        rintro e u0 ⟨rfl, hbu⟩
        have hbu0 : Below wq.heap.size wq u0 := (Below.refl _ wq).drew.trans hbu
        refine ⟨⟨⟨HD.out.below hbu0, Kp.ofBelow hbu0⟩, HCL.out.below hbu0⟩, ?_⟩
        have HBU0 := Lib.hid hbu0
        clear hbu hbu0
        refine wpMix_load ?vFa1 rfl (fun w' hS => ?yFa1) ?kFa1
        case yFa1 =>
          obtain ⟨⟨_, _⟩, g0, g1, g2, g3, _⟩ := hS
          go_simp
          try rfl
        case kFa1 =>
        go_simp
        refine wpMix_load ?vFa2 rfl (fun w' hS => ?yFa2) ?kFa2
        case yFa2 =>
          obtain ⟨⟨_, _⟩, g0, g1, g2, g3, _⟩ := hS
          go_simp
          try rfl
        case kFa2 =>
        go_simp
        refine wpMix_load ?vFa3 rfl (fun w' hS => ?yFa3) ?kFa3
        case yFa3 =>
          obtain ⟨⟨_, _⟩, g0, g1, g2, g3, _⟩ := hS
          go_simp
          try rfl
        case kFa3 =>
        go_simp
        refine wpMix_load ?vFa4 rfl (fun w' hS => ?yFa4) ?kFa4
        case yFa4 =>
          obtain ⟨⟨_, _⟩, g0, g1, g2, g3, _⟩ := hS
          go_simp
          try rfl
        case kFa4 =>
        go_simp
        refine wpMix_load ?vFa5 rfl (fun w' hS => ?yFa5) ?kFa5
        case yFa5 =>
          obtain ⟨⟨_, _⟩, g0, g1, g2, g3, _⟩ := hS
          go_simp
          try rfl
        case kFa5 =>
        go_simp
        refine wpMix_load ?vFa6 rfl (fun w' hS => ?yFa6) ?kFa6
        case yFa6 =>
          obtain ⟨⟨_, _⟩, g0, g1, g2, g3, _⟩ := hS
          go_simp
          try rfl
        case kFa6 =>
        go_simp
        refine wpMix_nil ?_
        refine ⟨?szF, ?stF, ?finF⟩
        case szF =>
          intro x hx
          simp only [List.mem_cons, List.not_mem_nil, or_false] at hx
          rcases hx with rfl | rfl | rfl | rfl | rfl | rfl <;> simp
        case stF =>
          have hkS : ∀ u u' : World, Kp (fun y => y = w.heap.size) u u' → DiceAt u' w.heap.size xs → ((DiceAt u w.heap.size xs ∧ Kp (fun y => y = w.heap.size) wq u) ∧ AtCells [(⟨b6, 0, none⟩, .int .i64 nx), (⟨b6, 1, none⟩, .slice (some ⟨g, 0, none⟩) p xc), (⟨p4, 0, none⟩, .int .i64 n4), (⟨p4, 1, none⟩, .slice OA o oc)] u) → ((DiceAt u' w.heap.size xs ∧ Kp (fun y => y = w.heap.size) wq u') ∧ AtCells [(⟨b6, 0, none⟩, .int .i64 nx), (⟨b6, 1, none⟩, .slice (some ⟨g, 0, none⟩) p xc), (⟨p4, 0, none⟩, .int .i64 n4), (⟨p4, 1, none⟩, .slice OA o oc)] u') := fun u u' hk hD hS => ⟨⟨hD, hS.1.2.one hk⟩, hS.2.kp hk (by
            intro x hx
            simp only [List.mem_cons, List.not_mem_nil, or_false] at hx
            rcases hx with rfl | rfl | rfl | rfl <;> (simp only; omega))⟩
          have HKS := Lib.hid hkS
          clear hkS
          intro x hx
          simp only [List.mem_cons, List.not_mem_nil, or_false] at hx
          rcases hx with rfl | rfl | rfl | rfl | rfl | rfl
          · intro a' w7 K hI hK
            have e73 := hI.old 73 _ rfl (by decide)
            have hS := hI.hold
            have hK : ∀ v w', Kp (fun y => y = w.heap.size) w7 w' → _ → (∃ b, v = .slice (some ⟨b, 0, none⟩) 3 3 ∧ w.heap.size < wq.heap.size ∧ wq.heap.size ≤ b ∧ w'.heap[b]? = some (.cells #[.string ⟨#[97]⟩, .string ⟨#[98]⟩, .string ⟨#[99]⟩] 9 (0, 0))) → K (a'.put (some 78) v) w' := hK
            have hsz := hS.1.2.size
            have hk7 : Kp (fun y => y = w.heap.size) w7 (w7.alloc (.cells #[.string ⟨#[97]⟩, .string ⟨#[98]⟩, .string ⟨#[99]⟩] 9)) := (Kp.refl _ _).alloc _
            have ha7 := alloc1 w7 (.cells #[.string ⟨#[97]⟩, .string ⟨#[98]⟩, .string ⟨#[99]⟩] 9)
            clear hI
            refine wpOp_go rfl (wanted_open rfl rfl e73) ?_
            clear e73
            go_simp
            exact hK _ _ hk7 (HKS.out _ _ hk7 (hS.1.1.below ((Below.refl _ _).alloc (Nat.le_refl _) _)) hS) ⟨_, rfl, HLT.out, hsz, ha7⟩
          · intro a' w7 K hI hK
            have e73 := hI.old 73 _ rfl (by decide)
            have e77 := hI.old 77 _ rfl (by decide)
            obtain ⟨v1, e78, hv⟩ := hI.new (6, 78) (by decide) (by kernel_rfl)
            have hS := hI.hold
            obtain ⟨b, rfl, hlt1, hlt2, hblk⟩ : ∃ b, v1 = .slice (some ⟨b, 0, none⟩) 3 3 ∧ w.heap.size < wq.heap.size ∧ wq.heap.size ≤ b ∧ w7.heap[b]? = some (.cells #[.string ⟨#[97]⟩, .string ⟨#[98]⟩, .string ⟨#[99]⟩] 9 (0, 0)) := hv
            have hK : ∀ v w', Kp (fun y => y = w.heap.size) w7 w' → _ → (∃ s, v = sv s) → K (a'.put (some 79) v) w' := hK
            have HOF := Lib.hid (of_any [[97], [98], [99]] (some ⟨b, 0, none⟩) 3 w.heap.size xs w7 (by decide) (by decide) hS.1.1 (row_heap hblk rfl ⟨lt_of_heap hblk, by omega⟩))
            clear hI hblk
            refine wpOp_go rfl (wanted_open rfl rfl e73) ?_
            clear e73
            go_simp
            refine HOF.out.mono ?_
            rintro e w8 ⟨s, _, rfl, hD8, hK8⟩
            exact hK _ _ hK8 (HKS.out _ _ hK8 hD8 hS) ⟨s, rfl⟩
          · intro a' w7 K hI hK
            have e73 := hI.old 73 _ rfl (by decide)
            have hS := hI.hold
            have hK : ∀ v w', Kp (fun y => y = w.heap.size) w7 w' → _ → (∃ b, v = .slice (some ⟨b, 0, none⟩) 3 3 ∧ w.heap.size < wq.heap.size ∧ wq.heap.size ≤ b ∧ w'.heap[b]? = some (.cells #[.string ⟨#[102]⟩, .string ⟨#[103]⟩, .string ⟨#[122]⟩] 9 (0, 0))) → K (a'.put (some 81) v) w' := hK
            have hsz := hS.1.2.size
            have hk7 : Kp (fun y => y = w.heap.size) w7 (w7.alloc (.cells #[.string ⟨#[102]⟩, .string ⟨#[103]⟩, .string ⟨#[122]⟩] 9)) := (Kp.refl _ _).alloc _
            have ha7 := alloc1 w7 (.cells #[.string ⟨#[102]⟩, .string ⟨#[103]⟩, .string ⟨#[122]⟩] 9)
            clear hI
            refine wpOp_go rfl (wanted_open rfl rfl e73) ?_
            clear e73
            go_simp
            exact hK _ _ hk7 (HKS.out _ _ hk7 (hS.1.1.below ((Below.refl _ _).alloc (Nat.le_refl _) _)) hS) ⟨_, rfl, HLT.out, hsz, ha7⟩
          · intro a' w7 K hI hK
            have e73 := hI.old 73 _ rfl (by decide)
            have e80 := hI.old 80 _ rfl (by decide)
            obtain ⟨v1, e81, hv⟩ := hI.new (9, 81) (by decide) (by kernel_rfl)
            have hS := hI.hold
            obtain ⟨b, rfl, hlt1, hlt2, hblk⟩ : ∃ b, v1 = .slice (some ⟨b, 0, none⟩) 3 3 ∧ w.heap.size < wq.heap.size ∧ wq.heap.size ≤ b ∧ w7.heap[b]? = some (.cells #[.string ⟨#[102]⟩, .string ⟨#[103]⟩, .string ⟨#[122]⟩] 9 (0, 0)) := hv
            have hK : ∀ v w', Kp (fun y => y = w.heap.size) w7 w' → _ → (∃ s, v = sv s) → K (a'.put (some 82) v) w' := hK
            have HOF := Lib.hid (of_any [[102], [103], [122]] (some ⟨b, 0, none⟩) 3 w.heap.size xs w7 (by decide) (by decide) hS.1.1 (row_heap hblk rfl ⟨lt_of_heap hblk, by omega⟩))
            clear hI hblk
            refine wpOp_go rfl (wanted_open rfl rfl e73) ?_
            clear e73
            go_simp
            refine HOF.out.mono ?_
            rintro e w8 ⟨s, _, rfl, hD8, hK8⟩
            exact hK _ _ hK8 (HKS.out _ _ hK8 hD8 hS) ⟨s, rfl⟩
          · intro a' w7 K hI hK
            have e73 := hI.old 73 _ rfl (by decide)
            have e74 := hI.old 74 _ rfl (by decide)
            have e75 := hI.old 75 _ rfl (by decide)
            have e76 := hI.old 76 _ rfl (by decide)
            obtain ⟨v1, e79, hv1⟩ := hI.new (7, 79) (by decide) (by kernel_rfl)
            obtain ⟨v2, e82, hv2⟩ := hI.new (10, 82) (by decide) (by kernel_rfl)
            have hS := hI.hold
            obtain ⟨sa, rfl⟩ : ∃ s, v1 = sv s := hv1
            obtain ⟨sb, rfl⟩ : ∃ s, v2 = sv s := hv2
            have hK : ∀ v w', Kp (fun y => y = w.heap.size) w7 w' → _ → (v = .bool true) → K (a'.put (some 83) v) w' := hK
            have hq7 := hS.1.2.kept (S := fun y => y < wq.heap.size ∧ y ≠ w.heap.size) fun b hb => hb
            have hup : ∀ b, (b < wq.heap.size ∧ b ≠ w.heap.size) → Lt w7.heap.size b := fun b hb => Nat.lt_of_lt_of_le hb.1 hS.1.2.size
            have hag := agree_any nx n4 XS O L (some ⟨g, 0, none⟩) OA LA xc oc lc sa sb w7 HXA.out (by rw [← HXS.out]; omega) (by rw [← HOL.out]; omega) (by rw [← HLL.out]; omega) ((HXR.out.keep hq7).more hup) ((HOR.out.keep hq7).more hup) ((HLR.out.keep hq7).more hup)
            rw [← HXS.out, ← HOL.out, ← HLL.out] at hag
            have HAG := Lib.hid hag
            clear hI hag hq7 hup
            refine wpOp_go rfl (wanted_open rfl rfl e73) ?_
            clear e73
            go_simp
            refine HAG.out.mono ?_
            rintro e w8 ⟨rfl, hb8⟩
            exact hK _ _ (Kp.ofBelow hb8) (HKS.out _ _ (Kp.ofBelow hb8) (hS.1.1.below hb8) hS) rfl
          · intro a' w7 K hI hK
            have e73 := hI.old 73 _ rfl (by decide)
            obtain ⟨v1, e83, hv1⟩ := hI.new (11, 83) (by decide) (by kernel_rfl)
            have hS := hI.hold
            obtain rfl : v1 = .bool true := hv1
            have hK : ∀ v w', Kp (fun y => y = w.heap.size) w7 w' → _ → (v = .bool true) → K (a'.put (some 84) v) w' := hK
            clear hI
            refine wpOp_go rfl rfl ?_
            go_simp
            exact hK _ _ (Kp.refl _ _) hS rfl
        case finF =>
          intro vs w6 _ hS6 hΦ
          have q12 : vs 12 = .bool true := hΦ (12, 84) (by decide)
          simp only [putD, q12]
          clear q12 hΦ
          generalize vs 6 = a6
          generalize vs 7 = a7
          generalize vs 9 = a9
          generalize vs 10 = a10
          generalize vs 11 = a11
          clear vs
          have hb6 : Below w.heap.size w w6 := kp_below HB.out hS6.1.2 fun y e => by omega
          have HB6 := Lib.hid hb6
          clear hb6 hS6
          simp only [opsAt, List.filterMap_cons, List.filterMap_nil, List.getElem?_toArray, List.getElem?_cons_succ, List.getElem?_cons_zero]
          go_wp2
          refine NoPanic.normal ?_
          go_wp2
          go_ret
          exact ⟨rfl, HB6.out⟩
    · clear hkn HLT
      obtain ⟨i0, hi0, hz0, hz1, hz2⟩ := info_parts infoIt
      go_wp2_with (at_builtin; refine wpList_append_lies _ rfl _ _ 34 rfl w8.heap.size 37 i0 _ 3 48 Try.underlying34 hi0 hz0 hz1 hz2 rfl (by omega) _ q (flt itC L) rfl (HLO10.out.alloc _) ⟨w10.heap.size, 0, none⟩ 1 1 (itC ⟨[97], [102], []⟩) rfl rfl ?d1 ?d2 (by omega) ?d3 ?d4 ?d5 _ rfl ?_)
      case d1 => exact World.news_of_block (cs := #[.string ⟨#[97]⟩, .string ⟨#[102]⟩, .string ⟨#[]⟩]) (alloc1 w10 _)
      case d2 => exact itC_one _
      case d3 => unfold maxLen; omega
      case d4 => omega
      case d5 => simp; omega
      intro mg mc wq hown hgr hat _
      have hlt10 := HLO10.out.lt
      have hk10 : Kp (fun y => w8.heap.size ≤ y) w10 (w10.alloc (.cells #[.string ⟨#[97]⟩, .string ⟨#[102]⟩, .string ⟨#[]⟩] 37)) := (Kp.refl _ _).alloc _
      have hkq : Kp (fun y => (Value.slice LA q lc).ownBlock = some y) w10 wq := ((Kp.refl _ _).alloc (.cells #[.string ⟨#[97]⟩, .string ⟨#[102]⟩, .string ⟨#[]⟩] 37)).grown hgr fun r hr _ => hr
      have hsq := hkq.size
      obtain ⟨LN, hLN⟩ : ∃ LN, LN = L ++ [⟨[97], [102], []⟩] := ⟨_, rfl⟩
      rw [show flt itC L ++ itC ⟨[97], [102], []⟩ = flt itC LN by rw [hLN, flt_append, flt_one]] at hown
      have HLN : Hid (q + 1 = LN.length) := Lib.hid (by rw [hLN, List.length_append, HLL.out]; rfl)
      have hlne := own_ne HLO10.out HX10.out (by decide)
      have HLOq := Lib.hid hown
      have HXq := Lib.hid (hkq.heap HX10.out fun e => hlne _ e rfl)
      have HXOq := Lib.hid (hkq.own HXO10.out fun g hg e => rows_ne HXO10.out HLO10.out (by decide) g hg e)
      have HOq := Lib.hid (hkq.heap HO10.out fun e => by have := (hlt10 _ e).1; omega)
      have HORq := Lib.hid (HOR10.out.keep (hkq.kept fun b hb => ⟨by omega, fun e => by have := (hlt10 _ e).1; omega⟩))
      have HD : Hid (DiceAt wq w.heap.size xs) := Lib.hid (HD10.out.keep hkq fun y e => by have := (hlt10 _ e).1; omega)
      have HB : Hid (Below w.heap.size w wq) := Lib.hid (kp_below HB10.out hkq fun y e => by have := (hlt10 _ e).1; omega)
      have HCL : Hid (AtCells [(⟨b6, 0, none⟩, .int .i64 nx), (⟨b6, 1, none⟩, .slice XA p xc), (⟨p4, 0, none⟩, .int .i64 n4), (⟨p4, 1, none⟩, .slice OA o oc)] wq) := Lib.hid ⟨(Lib.cell_of_heap HXq.out _).trans rfl, (Lib.cell_of_heap HXq.out _).trans rfl, (Lib.cell_of_heap HOq.out _).trans rfl, (Lib.cell_of_heap HOq.out _).trans rfl, trivial⟩
      have HLT : Hid (w.heap.size < wq.heap.size) := Lib.hid HD.out.lt
      have HXR : Hid (Row wq (fun y => y < wq.heap.size ∧ y ≠ w.heap.size) XA (flt idC X)) := Lib.hid (Row.ofOwn HXOq.out fun g _ h3 h4 => ⟨h4, by omega⟩)
      have HOR : Hid (Row wq (fun y => y < wq.heap.size ∧ y ≠ w.heap.size) OA (flt idC O)) := Lib.hid (HORq.out.more fun b hb => ⟨by omega, hb.2⟩)
      have HLR : Hid (Row wq (fun y => y < wq.heap.size ∧ y ≠ w.heap.size) (some ⟨mg, 0, none⟩) (flt itC LN)) := Lib.hid (Row.ofOwn HLOq.out fun g _ h3 h4 => ⟨h4, by omega⟩)
      clear hown hgr hat hlt10 hk10 hkq hLN hlne HX10 HXO10 HLO10 HO10 HOR10 HD10 HB10 HXq HXOq HLOq HOq HORq HLL hi0 hz0 hz1 hz2
      go_wp2_with fail
      refine wp_region_mstab (fun u => (DiceAt u w.heap.size xs ∧ Kp (fun y => y = w.heap.size) wq u) ∧ AtCells [(⟨b6, 0, none⟩, .int .i64 nx), (⟨b6, 1, none⟩, .slice XA p xc), (⟨p4, 0, none⟩, .int .i64 n4), (⟨p4, 1, none⟩, .slice OA o oc)] u) (fun u v => Kp (fun y => y = w.heap.size) u v) (edPhi w.heap.size wq.heap.size) [(false, 0), (true, 1), (true, 2), (true, 3), (true, 4), (true, 5), (true, 8)] [(6, 78), (7, 79), (9, 81), (10, 82), (11, 83), (12, 84)] [13] (by kernel_rfl) (by kernel_rfl) (by kernel_rfl) (fun _ => Kp.refl _ _) (fun _ _ _ h h' => h.one h') edPhi_go ?sG ?hG
      case sG => exact ⟨⟨HD.out.below (Below.refl _ wq).drew, (Kp.refl _ _).drew⟩, HCL.out.below (Below.refl _ wq).drew⟩
      case hG =>
      simp only [mixAt, List.filterMap_cons, List.filterMap_nil, List.getElem?_toArray, List.getElem?_cons_succ, List.getElem?_cons_zero, Option.map_some]
      refine wpMix_keep rfl ?_
      go_wp2_with fail
      refine (awake_any wq.drew).mono ?_
      rintro e u0 ⟨rfl, hbu⟩
      have hbu0 : Below wq.heap.size wq u0 := (Below.refl _ wq).drew.trans hbu
      refine ⟨⟨⟨HD.out.below hbu0, Kp.ofBelow hbu0⟩, HCL.out.below hbu0⟩, ?_⟩
      have HBU0 := Lib.hid hbu0
      clear hbu hbu0
      refine wpMix_load ?vGa1 rfl (fun w' hS => ?yGa1) ?kGa1
      case yGa1 =>
        obtain ⟨⟨_, _⟩, g0, g1, g2, g3, _⟩ := hS
        go_simp
        try rfl
      case kGa1 =>
      go_simp
      refine wpMix_load ?vGa2 rfl (fun w' hS => ?yGa2) ?kGa2
      case yGa2 =>
        obtain ⟨⟨_, _⟩, g0, g1, g2, g3, _⟩ := hS
        go_simp
        try rfl
      case kGa2 =>
      go_simp
      refine wpMix_load ?vGa3 rfl (fun w' hS => ?yGa3) ?kGa3
      case yGa3 =>
        obtain ⟨⟨_, _⟩, g0, g1, g2, g3, _⟩ := hS
        go_simp
        try rfl
      case kGa3 =>
      go_simp
      refine wpMix_load ?vGa4 rfl (fun w' hS => ?yGa4) ?kGa4
      case yGa4 =>
        obtain ⟨⟨_, _⟩, g0, g1, g2, g3, _⟩ := hS
        go_simp
        try rfl
      case kGa4 =>
      go_simp
      refine wpMix_load ?vGa5 rfl (fun w' hS => ?yGa5) ?kGa5
      case yGa5 =>
        obtain ⟨⟨_, _⟩, g0, g1, g2, g3, _⟩ := hS
        go_simp
        try rfl
      case kGa5 =>
      go_simp
      refine wpMix_load ?vGa6 rfl (fun w' hS => ?yGa6) ?kGa6
      case yGa6 =>
        obtain ⟨⟨_, _⟩, g0, g1, g2, g3, _⟩ := hS
        go_simp
        try rfl
      case kGa6 =>
      go_simp
      refine wpMix_nil ?_
      refine ⟨?szG, ?stG, ?finG⟩
      case szG =>
        intro x hx
        simp only [List.mem_cons, List.not_mem_nil, or_false] at hx
        rcases hx with rfl | rfl | rfl | rfl | rfl | rfl <;> simp
      case stG =>
        have hkS : ∀ u u' : World, Kp (fun y => y = w.heap.size) u u' → DiceAt u' w.heap.size xs → ((DiceAt u w.heap.size xs ∧ Kp (fun y => y = w.heap.size) wq u) ∧ AtCells [(⟨b6, 0, none⟩, .int .i64 nx), (⟨b6, 1, none⟩, .slice XA p xc), (⟨p4, 0, none⟩, .int .i64 n4), (⟨p4, 1, none⟩, .slice OA o oc)] u) → ((DiceAt u' w.heap.size xs ∧ Kp (fun y => y = w.heap.size) wq u') ∧ AtCells [(⟨b6, 0, none⟩, .int .i64 nx), (⟨b6, 1, none⟩, .slice XA p xc), (⟨p4, 0, none⟩, .int .i64 n4), (⟨p4, 1, none⟩, .slice OA o oc)] u') := fun u u' hk hD hS => ⟨⟨hD, hS.1.2.one hk⟩, hS.2.kp hk (by
          intro x hx
          simp only [List.mem_cons, List.not_mem_nil, or_false] at hx
          rcases hx with rfl | rfl | rfl | rfl <;> (simp only; omega))⟩
        have HKS := Lib.hid hkS
        clear hkS
        intro x hx
        simp only [List.mem_cons, List.not_mem_nil, or_false] at hx
        rcases hx with rfl | rfl | rfl | rfl | rfl | rfl
        · intro a' w7 K hI hK
          have e73 := hI.old 73 _ rfl (by decide)
          have hS := hI.hold
          have hK : ∀ v w', Kp (fun y => y = w.heap.size) w7 w' → _ → (∃ b, v = .slice (some ⟨b, 0, none⟩) 3 3 ∧ w.heap.size < wq.heap.size ∧ wq.heap.size ≤ b ∧ w'.heap[b]? = some (.cells #[.string ⟨#[97]⟩, .string ⟨#[98]⟩, .string ⟨#[99]⟩] 9 (0, 0))) → K (a'.put (some 78) v) w' := hK
          have hsz := hS.1.2.size
          have hk7 : Kp (fun y => y = w.heap.size) w7 (w7.alloc (.cells #[.string ⟨#[97]⟩, .string ⟨#[98]⟩, .string ⟨#[99]⟩] 9)) := (Kp.refl _ _).alloc _
          have ha7 := alloc1 w7 (.cells #[.string ⟨#[97]⟩, .string ⟨#[98]⟩, .string ⟨#[99]⟩] 9)
          clear hI
          refine wpOp_go rfl (wanted_open rfl rfl e73) ?_
          clear e73
          go_simp
          exact hK _ _ hk7 (HKS.out _ _ hk7 (hS.1.1.below ((Below.refl _ _).alloc (Nat.le_refl _) _)) hS) ⟨_, rfl, HLT.out, hsz, ha7⟩
        · intro a' w7 K hI hK
          have e73 := hI.old 73 _ rfl (by decide)
          have e77 := hI.old 77 _ rfl (by decide)
          obtain ⟨v1, e78, hv⟩ := hI.new (6, 78) (by decide) (by kernel_rfl)
          have hS := hI.hold
          obtain ⟨b, rfl, hlt1, hlt2, hblk⟩ : ∃ b, v1 = .slice (some ⟨b, 0, none⟩) 3 3 ∧ w.heap.size < wq.heap.size ∧ wq.heap.size ≤ b ∧ w7.heap[b]? = some (.cells #[.string ⟨#[97]⟩, .string ⟨#[98]⟩, .string ⟨#[99]⟩] 9 (0, 0)) := hv
          have hK : ∀ v w', Kp (fun y => y = w.heap.size) w7 w' → _ → (∃ s, v = sv s) → K (a'.put (some 79) v) w' := hK
          have HOF := Lib.hid (of_any [[97], [98], [99]] (some ⟨b, 0, none⟩) 3 w.heap.size xs w7 (by decide) (by decide) hS.1.1 (row_heap hblk rfl ⟨lt_of_heap hblk, by omega⟩))
          clear hI hblk
          refine wpOp_go rfl (wanted_open rfl rfl e73) ?_
          clear e73
          go_simp
          refine HOF.out.mono ?_
          rintro e w8 ⟨s, _, rfl, hD8, hK8⟩
          exact hK _ _ hK8 (HKS.out _ _ hK8 hD8 hS) ⟨s, rfl⟩
        · intro a' w7 K hI hK
          have e73 := hI.old 73 _ rfl (by decide)
          have hS := hI.hold
          have hK : ∀ v w', Kp (fun y => y = w.heap.size) w7 w' → _ → (∃ b, v = .slice (some ⟨b, 0, none⟩) 3 3 ∧ w.heap.size < wq.heap.size ∧ wq.heap.size ≤ b ∧ w'.heap[b]? = some (.cells #[.string ⟨#[102]⟩, .string ⟨#[103]⟩, .string ⟨#[122]⟩] 9 (0, 0))) → K (a'.put (some 81) v) w' := hK
          have hsz := hS.1.2.size
          have hk7 : Kp (fun y => y = w.heap.size) w7 (w7.alloc (.cells #[.string ⟨#[102]⟩, .string ⟨#[103]⟩, .string ⟨#[122]⟩] 9)) := (Kp.refl _ _).alloc _
          have ha7 := alloc1 w7 (.cells #[.string ⟨#[102]⟩, .string ⟨#[103]⟩, .string ⟨#[122]⟩] 9)
          clear hI
          refine wpOp_go rfl (wanted_open rfl rfl e73) ?_
          clear e73
          go_simp
          exact hK _ _ hk7 (HKS.out _ _ hk7 (hS.1.1.below ((Below.refl _ _).alloc (Nat.le_refl _) _)) hS) ⟨_, rfl, HLT.out, hsz, ha7⟩
        · intro a' w7 K hI hK
          have e73 := hI.old 73 _ rfl (by decide)
          have e80 := hI.old 80 _ rfl (by decide)
          obtain ⟨v1, e81, hv⟩ := hI.new (9, 81) (by decide) (by kernel_rfl)
          have hS := hI.hold
          obtain ⟨b, rfl, hlt1, hlt2, hblk⟩ : ∃ b, v1 = .slice (some ⟨b, 0, none⟩) 3 3 ∧ w.heap.size < wq.heap.size ∧ wq.heap.size ≤ b ∧ w7.heap[b]? = some (.cells #[.string ⟨#[102]⟩, .string ⟨#[103]⟩, .string ⟨#[122]⟩] 9 (0, 0)) := hv
          have hK : ∀ v w', Kp (fun y => y = w.heap.size) w7 w' → _ → (∃ s, v = sv s) → K (a'.put (some 82) v) w' := hK
          have HOF := Lib.hid (of_any [[102], [103], [122]] (some ⟨b, 0, none⟩) 3 w.heap.size xs w7 (by decide) (by decide) hS.1.1 (row_heap hblk rfl ⟨lt_of_heap hblk, by omega⟩))
          clear hI hblk
          refine wpOp_go rfl (wanted_open rfl rfl e73) ?_
          clear e73
          go_simp
          refine HOF.out.mono ?_
          rintro e w8 ⟨s, _, rfl, hD8, hK8⟩
          exact hK _ _ hK8 (HKS.out _ _ hK8 hD8 hS) ⟨s, rfl⟩
        · intro a' w7 K hI hK
          have e73 := hI.old 73 _ rfl (by decide)
          have e74 := hI.old 74 _ rfl (by decide)
          have e75 := hI.old 75 _ rfl (by decide)
          have e76 := hI.old 76 _ rfl (by decide)
          obtain ⟨v1, e79, hv1⟩ := hI.new (7, 79) (by decide) (by kernel_rfl)
          obtain ⟨v2, e82, hv2⟩ := hI.new (10, 82) (by decide) (by kernel_rfl)
          have hS := hI.hold
          obtain ⟨sa, rfl⟩ : ∃ s, v1 = sv s := hv1
          obtain ⟨sb, rfl⟩ : ∃ s, v2 = sv s := hv2
          have hK : ∀ v w', Kp (fun y => y = w.heap.size) w7 w' → _ → (v = .bool true) → K (a'.put (some 83) v) w' := hK
          have hq7 := hS.1.2.kept (S := fun y => y < wq.heap.size ∧ y ≠ w.heap.size) fun b hb => hb
          have hup : ∀ b, (b < wq.heap.size ∧ b ≠ w.heap.size) → Lt w7.heap.size b := fun b hb => Nat.lt_of_lt_of_le hb.1 hS.1.2.size
          have hag := agree_any nx n4 X O LN XA OA (some ⟨mg, 0, none⟩) xc oc mc sa sb w7 HXA.out (by rw [← HXL.out]; omega) (by rw [← HOL.out]; omega) (by rw [← HLN.out]; omega) ((HXR.out.keep hq7).more hup) ((HOR.out.keep hq7).more hup) ((HLR.out.keep hq7).more hup)
          rw [← HXL.out, ← HOL.out, ← HLN.out] at hag
          have HAG := Lib.hid hag
          clear hI hag hq7 hup
          refine wpOp_go rfl (wanted_open rfl rfl e73) ?_
          clear e73
          go_simp
          refine HAG.out.mono ?_
          rintro e w8 ⟨rfl, hb8⟩
          exact hK _ _ (Kp.ofBelow hb8) (HKS.out _ _ (Kp.ofBelow hb8) (hS.1.1.below hb8) hS) rfl
        · intro a' w7 K hI hK
          have e73 := hI.old 73 _ rfl (by decide)
          obtain ⟨v1, e83, hv1⟩ := hI.new (11, 83) (by decide) (by kernel_rfl)
          have hS := hI.hold
          obtain rfl : v1 = .bool true := hv1
          have hK : ∀ v w', Kp (fun y => y = w.heap.size) w7 w' → _ → (v = .bool true) → K (a'.put (some 84) v) w' := hK
          clear hI
          refine wpOp_go rfl rfl ?_
          go_simp
          exact hK _ _ (Kp.refl _ _) hS rfl
      case finG =>
        intro vs w6 _ hS6 hΦ
        have q12 : vs 12 = .bool true := hΦ (12, 84) (by decide)
        simp only [putD, q12]
        clear q12 hΦ
        generalize vs 6 = a6
        generalize vs 7 = a7
        generalize vs 9 = a9
        generalize vs 10 = a10
        generalize vs 11 = a11
        clear vs
        have hb6 : Below w.heap.size w w6 := kp_below HB.out hS6.1.2 fun y e => by omega
        have HB6 := Lib.hid hb6
        clear hb6 hS6
        simp only [opsAt, List.filterMap_cons, List.filterMap_nil, List.getElem?_toArray, List.getElem?_cons_succ, List.getElem?_cons_zero]
        go_wp2
        refine NoPanic.normal ?_
        go_wp2
        go_ret
        exact ⟨rfl, HB6.out⟩
    · have h30 : ((kn : Int) == 0) = false := by simp; omega
      have h31 : ((kn : Int) == 1) = false := by simp; omega
      have h32 : ((kn : Int) == 2) = false := by simp; omega
      have HCL : Hid (AtCells [(⟨b6, 0, none⟩, .int .i64 nx), (⟨b6, 1, none⟩, .slice XA p xc), (⟨p4, 0, none⟩, .int .i64 n4), (⟨p4, 1, none⟩, .slice OA o oc)] w10) := Lib.hid ⟨(Lib.cell_of_heap HX10.out _).trans rfl, (Lib.cell_of_heap HX10.out _).trans rfl, (Lib.cell_of_heap HO10.out _).trans rfl, (Lib.cell_of_heap HO10.out _).trans rfl, trivial⟩
      have HD := HD10
      have HB := HB10
      have HLT : Hid (w.heap.size < w10.heap.size) := Lib.hid (by have := HD10.out.lt; exact this)
      have HXR : Hid (Row w10 (fun y => y < w10.heap.size ∧ y ≠ w.heap.size) XA (flt idC X)) := Lib.hid (Row.ofOwn HXO10.out fun g _ h3 h4 => ⟨h4, by omega⟩)
      have HOR : Hid (Row w10 (fun y => y < w10.heap.size ∧ y ≠ w.heap.size) OA (flt idC O)) := Lib.hid (HOR10.out.more fun b hb => ⟨by omega, hb.2⟩)
      have HLR : Hid (Row w10 (fun y => y < w10.heap.size ∧ y ≠ w.heap.size) LA (flt itC L)) := Lib.hid (Row.ofOwn HLO10.out fun g _ h3 h4 => ⟨h4, by omega⟩)
      clear HD10 HB10 HX10 HXO10 HO10 HOR10 HLO10
      go_wp2_with fail
      refine wp_region_mstab (fun u => (DiceAt u w.heap.size xs ∧ Kp (fun y => y = w.heap.size) w10 u) ∧ AtCells [(⟨b6, 0, none⟩, .int .i64 nx), (⟨b6, 1, none⟩, .slice XA p xc), (⟨p4, 0, none⟩, .int .i64 n4), (⟨p4, 1, none⟩, .slice OA o oc)] u) (fun u v => Kp (fun y => y = w.heap.size) u v) (edPhi w.heap.size w10.heap.size) [(false, 0), (true, 1), (true, 2), (true, 3), (true, 4), (true, 5), (true, 8)] [(6, 78), (7, 79), (9, 81), (10, 82), (11, 83), (12, 84)] [13] (by kernel_rfl) (by kernel_rfl) (by kernel_rfl) (fun _ => Kp.refl _ _) (fun _ _ _ h h' => h.one h') edPhi_go ?sC ?hC
      case sC => exact ⟨⟨HD.out.below (Below.refl _ w10).drew, (Kp.refl _ _).drew⟩, HCL.out.below (Below.refl _ w10).drew⟩
      case hC =>
      simp only [mixAt, List.filterMap_cons, List.filterMap_nil, List.getElem?_toArray, List.getElem?_cons_succ, List.getElem?_cons_zero, Option.map_some]
      refine wpMix_keep rfl ?_
      go_wp2_with fail
      refine (awake_any w10.drew).mono ?_
      rintro e u0 ⟨rfl, hbu⟩
      have hbu0 : Below w10.heap.size w10 u0 := (Below.refl _ w10).drew.trans hbu
      refine ⟨⟨⟨HD.out.below hbu0, Kp.ofBelow hbu0⟩, HCL.out.below hbu0⟩, ?_⟩
      have HBU0 := Lib.hid hbu0
      clear hbu hbu0
      refine wpMix_load ?vCa1 rfl (fun w' hS => ?yCa1) ?kCa1
      case yCa1 =>
        obtain ⟨⟨_, _⟩, g0, g1, g2, g3, _⟩ := hS
        go_simp
        try rfl
      case kCa1 =>
      go_simp
      refine wpMix_load ?vCa2 rfl (fun w' hS => ?yCa2) ?kCa2
      case yCa2 =>
        obtain ⟨⟨_, _⟩, g0, g1, g2, g3, _⟩ := hS
        go_simp
        try rfl
      case kCa2 =>
      go_simp
      refine wpMix_load ?vCa3 rfl (fun w' hS => ?yCa3) ?kCa3
      case yCa3 =>
        obtain ⟨⟨_, _⟩, g0, g1, g2, g3, _⟩ := hS
        go_simp
        try rfl
      case kCa3 =>
      go_simp
      refine wpMix_load ?vCa4 rfl (fun w' hS => ?yCa4) ?kCa4
      case yCa4 =>
        obtain ⟨⟨_, _⟩, g0, g1, g2, g3, _⟩ := hS
        go_simp
        try rfl
      case kCa4 =>
      go_simp
      refine wpMix_load ?vCa5 rfl (fun w' hS => ?yCa5) ?kCa5
      case yCa5 =>
        obtain ⟨⟨_, _⟩, g0, g1, g2, g3, _⟩ := hS
        go_simp
        try rfl
      case kCa5 =>
      go_simp
      refine wpMix_load ?vCa6 rfl (fun w' hS => ?yCa6) ?kCa6
      case yCa6 =>
        obtain ⟨⟨_, _⟩, g0, g1, g2, g3, _⟩ := hS
        go_simp
        try rfl
      case kCa6 =>
      go_simp
      refine wpMix_nil ?_
      refine ⟨?szC, ?stC, ?finC⟩
      case szC =>
        intro x hx
        simp only [List.mem_cons, List.not_mem_nil, or_false] at hx
        rcases hx with rfl | rfl | rfl | rfl | rfl | rfl <;> simp
      case stC =>
        have hkS : ∀ u u' : World, Kp (fun y => y = w.heap.size) u u' → DiceAt u' w.heap.size xs → ((DiceAt u w.heap.size xs ∧ Kp (fun y => y = w.heap.size) w10 u) ∧ AtCells [(⟨b6, 0, none⟩, .int .i64 nx), (⟨b6, 1, none⟩, .slice XA p xc), (⟨p4, 0, none⟩, .int .i64 n4), (⟨p4, 1, none⟩, .slice OA o oc)] u) → ((DiceAt u' w.heap.size xs ∧ Kp (fun y => y = w.heap.size) w10 u') ∧ AtCells [(⟨b6, 0, none⟩, .int .i64 nx), (⟨b6, 1, none⟩, .slice XA p xc), (⟨p4, 0, none⟩, .int .i64 n4), (⟨p4, 1, none⟩, .slice OA o oc)] u') := fun u u' hk hD hS => ⟨⟨hD, hS.1.2.one hk⟩, hS.2.kp hk (by
          intro x hx
          simp only [List.mem_cons, List.not_mem_nil, or_false] at hx
          rcases hx with rfl | rfl | rfl | rfl <;> (simp only; omega))⟩
        have HKS := Lib.hid hkS
        clear hkS
        intro x hx
        simp only [List.mem_cons, List.not_mem_nil, or_false] at hx
        rcases hx with rfl | rfl | rfl | rfl | rfl | rfl
        · intro a' w7 K hI hK
          have e73 := hI.old 73 _ rfl (by decide)
          have hS := hI.hold
          have hK : ∀ v w', Kp (fun y => y = w.heap.size) w7 w' → _ → (∃ b, v = .slice (some ⟨b, 0, none⟩) 3 3 ∧ w.heap.size < w10.heap.size ∧ w10.heap.size ≤ b ∧ w'.heap[b]? = some (.cells #[.string ⟨#[97]⟩, .string ⟨#[98]⟩, .string ⟨#[99]⟩] 9 (0, 0))) → K (a'.put (some 78) v) w' := hK
          have hsz := hS.1.2.size
          have hk7 : Kp (fun y => y = w.heap.size) w7 (w7.alloc (.cells #[.string ⟨#[97]⟩, .string ⟨#[98]⟩, .string ⟨#[99]⟩] 9)) := (Kp.refl _ _).alloc _
          have ha7 := alloc1 w7 (.cells #[.string ⟨#[97]⟩, .string ⟨#[98]⟩, .string ⟨#[99]⟩] 9)
          clear hI
          refine wpOp_go rfl (wanted_open rfl rfl e73) ?_
          clear e73
          go_simp
          exact hK _ _ hk7 (HKS.out _ _ hk7 (hS.1.1.below ((Below.refl _ _).alloc (Nat.le_refl _) _)) hS) ⟨_, rfl, HLT.out, hsz, ha7⟩
        · intro a' w7 K hI hK
          have e73 := hI.old 73 _ rfl (by decide)
          have e77 := hI.old 77 _ rfl (by decide)
          obtain ⟨v1, e78, hv⟩ := hI.new (6, 78) (by decide) (by kernel_rfl)
          have hS := hI.hold
          obtain ⟨b, rfl, hlt1, hlt2, hblk⟩ : ∃ b, v1 = .slice (some ⟨b, 0, none⟩) 3 3 ∧ w.heap.size < w10.heap.size ∧ w10.heap.size ≤ b ∧ w7.heap[b]? = some (.cells #[.string ⟨#[97]⟩, .string ⟨#[98]⟩, .string ⟨#[99]⟩] 9 (0, 0)) := hv
          have hK : ∀ v w', Kp (fun y => y = w.heap.size) w7 w' → _ → (∃ s, v = sv s) → K (a'.put (some 79) v) w' := hK
          have HOF := Lib.hid (of_any [[97], [98], [99]] (some ⟨b, 0, none⟩) 3 w.heap.size xs w7 (by decide) (by decide) hS.1.1 (row_heap hblk rfl ⟨lt_of_heap hblk, by omega⟩))
          clear hI hblk
          refine wpOp_go rfl (wanted_open rfl rfl e73) ?_
          clear e73
          go_simp
          refine HOF.out.mono ?_
          rintro e w8 ⟨s, _, rfl, hD8, hK8⟩
          exact hK _ _ hK8 (HKS.out _ _ hK8 hD8 hS) ⟨s, rfl⟩
        · intro a' w7 K hI hK
          have e73 := hI.old 73 _ rfl (by decide)
          have hS := hI.hold
          have hK : ∀ v w', Kp (fun y => y = w.heap.size) w7 w' → _ → (∃ b, v = .slice (some ⟨b, 0, none⟩) 3 3 ∧ w.heap.size < w10.heap.size ∧ w10.heap.size ≤ b ∧ w'.heap[b]? = some (.cells #[.string ⟨#[102]⟩, .string ⟨#[103]⟩, .string ⟨#[122]⟩] 9 (0, 0))) → K (a'.put (some 81) v) w' := hK
          have hsz := hS.1.2.size
          have hk7 : Kp (fun y => y = w.heap.size) w7 (w7.alloc (.cells #[.string ⟨#[102]⟩, .string ⟨#[103]⟩, .string ⟨#[122]⟩] 9)) := (Kp.refl _ _).alloc _
          have ha7 := alloc1 w7 (.cells #[.string ⟨#[102]⟩, .string ⟨#[103]⟩, .string ⟨#[122]⟩] 9)
          clear hI
          refine wpOp_go rfl (wanted_open rfl rfl e73) ?_
          clear e73
          go_simp
          exact hK _ _ hk7 (HKS.out _ _ hk7 (hS.1.1.below ((Below.refl _ _).alloc (Nat.le_refl _) _)) hS) ⟨_, rfl, HLT.out, hsz, ha7⟩
        · intro a' w7 K hI hK
          have e73 := hI.old 73 _ rfl (by decide)
          have e80 := hI.old 80 _ rfl (by decide)
          obtain ⟨v1, e81, hv⟩ := hI.new (9, 81) (by decide) (by kernel_rfl)
          have hS := hI.hold
          obtain ⟨b, rfl, hlt1, hlt2, hblk⟩ : ∃ b, v1 = .slice (some ⟨b, 0, none⟩) 3 3 ∧ w.heap.size < w10.heap.size ∧ w10.heap.size ≤ b ∧ w7.heap[b]? = some (.cells #[.string ⟨#[102]⟩, .string ⟨#[103]⟩, .string ⟨#[122]⟩] 9 (0, 0)) := hv
          have hK : ∀ v w', Kp (fun y => y = w.heap.size) w7 w' → _ → (∃ s, v = sv s) → K (a'.put (some 82) v) w' := hK
          have HOF := Lib.hid (of_any [[102], [103], [122]] (some ⟨b, 0, none⟩) 3 w.heap.size xs w7 (by decide) (by decide) hS.1.1 (row_heap hblk rfl ⟨lt_of_heap hblk, by omega⟩))
          clear hI hblk
          refine wpOp_go rfl (wanted_open rfl rfl e73) ?_
          clear e73
          go_simp
          refine HOF.out.mono ?_
          rintro e w8 ⟨s, _, rfl, hD8, hK8⟩
          exact hK _ _ hK8 (HKS.out _ _ hK8 hD8 hS) ⟨s, rfl⟩
        · intro a' w7 K hI hK
          have e73 := hI.old 73 _ rfl (by decide)
          have e74 := hI.old 74 _ rfl (by decide)
          have e75 := hI.old 75 _ rfl (by decide)
          have e76 := hI.old 76 _ rfl (by decide)
          obtain ⟨v1, e79, hv1⟩ := hI.new (7, 79) (by decide) (by kernel_rfl)
          obtain ⟨v2, e82, hv2⟩ := hI.new (10, 82) (by decide) (by kernel_rfl)
          have hS := hI.hold
          obtain ⟨sa, rfl⟩ : ∃ s, v1 = sv s := hv1
          obtain ⟨sb, rfl⟩ : ∃ s, v2 = sv s := hv2
          have hK : ∀ v w', Kp (fun y => y = w.heap.size) w7 w' → _ → (v = .bool true) → K (a'.put (some 83) v) w' := hK
          have hq7 := hS.1.2.kept (S := fun y => y < w10.heap.size ∧ y ≠ w.heap.size) fun b hb => hb
          have hup : ∀ b, (b < w10.heap.size ∧ b ≠ w.heap.size) → Lt w7.heap.size b := fun b hb => Nat.lt_of_lt_of_le hb.1 hS.1.2.size
          have hag := agree_any nx n4 X O L XA OA LA xc oc lc sa sb w7 HXA.out (by rw [← HXL.out]; omega) (by rw [← HOL.out]; omega) (by rw [← HLL.out]; omega) ((HXR.out.keep hq7).more hup) ((HOR.out.keep hq7).more hup) ((HLR.out.keep hq7).more hup)
          rw [← HXL.out, ← HOL.out, ← HLL.out] at hag
          have HAG := Lib.hid hag
          clear hI hag hq7 hup
          refine wpOp_go rfl (wanted_open rfl rfl e73) ?_
          clear e73
          go_simp
          refine HAG.out.mono ?_
          rintro e w8 ⟨rfl, hb8⟩
          exact hK _ _ (Kp.ofBelow hb8) (HKS.out _ _ (Kp.ofBelow hb8) (hS.1.1.below hb8) hS) rfl
        · intro a' w7 K hI hK
          have e73 := hI.old 73 _ rfl (by decide)
          obtain ⟨v1, e83, hv1⟩ := hI.new (11, 83) (by decide) (by kernel_rfl)
          have hS := hI.hold
          obtain rfl : v1 = .bool true := hv1
          have hK : ∀ v w', Kp (fun y => y = w.heap.size) w7 w' → _ → (v = .bool true) → K (a'.put (some 84) v) w' := hK
          clear hI
          refine wpOp_go rfl rfl ?_
          go_simp
          exact hK _ _ (Kp.refl _ _) hS rfl
      case finC =>
        intro vs w6 _ hS6 hΦ
        have q12 : vs 12 = .bool true := hΦ (12, 84) (by decide)
        simp only [putD, q12]
        clear q12 hΦ
        generalize vs 6 = a6
        generalize vs 7 = a7
        generalize vs 9 = a9
        generalize vs 10 = a10
        generalize vs 11 = a11
        clear vs
        have hb6 : Below w.heap.size w w6 := kp_below HB.out hS6.1.2 fun y e => by omega
        have HB6 := Lib.hid hb6
        clear hb6 hS6
        simp only [opsAt, List.filterMap_cons, List.filterMap_nil, List.getElem?_toArray, List.getElem?_cons_succ, List.getElem?_cons_zero]
        go_wp2
        refine NoPanic.normal ?_
        go_wp2
        go_ret
        exact ⟨rfl, HB6.out⟩

/-- The law, at whatever numbers came in. -/
theorem law_all (xs : List Int) (TA : Option Addr) (tc : Nat) (w : World) (hA : Row w (Lt w.heap.size) TA (xs.map (Value.int .i64))) (hf : ∀ x ∈ xs, -9223372036854775808 ≤ x ∧ x ≤ 9223372036854775807) :
    Calls Try.prog 3 #[.slice TA xs.length tc] w fun e w' => e = .returned (.bool true) ∧ Below w.heap.size w w' := by
  by_cases h : xs.length ≤ 400
  · exact made_light xs TA tc w hA h hf
  · exact made_heavy xs.length TA tc w h
end Go.Proofs.Ytmnhgkhidepojaa
