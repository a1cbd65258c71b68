/-
  The walk of TraitsChecks.
  Conditions: the arguments read as ints, a tree and known signatures.
-/
import Derived.Test.YtiijlecidepneaaLawW
import Derived.Test.YtiijlecidepneaaBany
namespace Go.Proofs.Ytiijlecidepneaa
open Go.RowKit

/-- The dice lie in memory; what was there ahead of them is as it was. -/
structure LwSt (w0 : World) (dd : Nat) (xs : List Int) (wr : World) : Prop where
  dice : DiceAt wr dd xs
  kp : Kp (fun y => y = dd) w0 wr
  ge : w0.heap.size ≤ dd
theorem LwSt.step {w0 : World} {dd : Nat} {xs : List Int} {wr w' : World} (h : LwSt w0 dd xs wr) (hd : DiceAt w' dd xs) (hk : Kp (fun y => y = dd) wr w') : LwSt w0 dd xs w' := ⟨hd, h.kp.one hk, h.ge⟩
theorem LwSt.below {w0 : World} {dd : Nat} {xs : List Int} {wr w' : World} (h : LwSt w0 dd xs wr) (hb : Below wr.heap.size wr w') : LwSt w0 dd xs w' := ⟨h.dice.below hb, h.kp.below hb, h.ge⟩
/-- What changes lies behind the dice. -/
theorem LwSt.past {w0 : World} {dd : Nat} {xs : List Int} {wr w' : World} {M : Nat → Prop} (h : LwSt w0 dd xs wr) (hk : Kp M wr w') (hM : ∀ y, M y → dd < y) : LwSt w0 dd xs w' :=
  ⟨h.dice.keep hk hM, h.kp.trans (hk.more (M' := fun y => dd < y) fun y _ e => hM y e) fun y hy e => by have := h.ge; omega, h.ge⟩
/-- The tree that is made: its block xb, its kids; q more may come. -/
def XSt (dd zx xb : Nat) (at_ : Int) (q : Nat) (w : World) : Prop :=
  ∃ (A : Option Addr) (n c : Nat) (ps : List (Tr × Value)), n = ps.length ∧ w.heap[xb]? = some (.cells #[.int .i64 7, .string ⟨#[97, 58, 58, 83]⟩, .int .i64 at_, .slice A n c] 25 (0, 0)) ∧ TRow w zx (fun y => y ≠ dd ∧ y ≠ xb) (.slice A n c) ps ∧ ps.length + q ≤ 5 ∧ ∀ g, (Value.slice A n c).ownBlock = some g → g ≠ xb
theorem XSt.kp {dd zx xb : Nat} {at_ : Int} {q : Nat} {w w' : World} (h : XSt dd zx xb at_ q w) (hk : Kp (fun y => y = dd) w w') (hx : xb ≠ dd) (hz : dd < zx) : XSt dd zx xb at_ q w' := by
  obtain ⟨A, n, c, ps, hn, h1, h2, h3⟩ := h
  exact ⟨A, n, c, ps, hn, hk.heap h1 hx, h2.kp hk (fun y hy e => hy.1 e) (fun g hg e => by have := (h2.own.lt g hg).1; omega), h3⟩
theorem XSt.below {dd zx xb : Nat} {at_ : Int} {q : Nat} {w w' : World} (h : XSt dd zx xb at_ q w) (hb : Below w.heap.size w w') : XSt dd zx xb at_ q w' := by
  obtain ⟨A, n, c, ps, hn, h1, h2, h3⟩ := h
  have hk := Kp.ofBelow (M := fun _ => False) hb
  exact ⟨A, n, c, ps, hn, hk.heap h1 (fun e => e), h2.kp hk (fun _ _ e => e) (fun _ _ e => e), h3⟩
theorem XSt.less {dd zx xb : Nat} {at_ : Int} {q q' : Nat} {w : World} (h : XSt dd zx xb at_ q w) (hq : q' ≤ q) : XSt dd zx xb at_ q' w := by
  obtain ⟨A, n, c, ps, hn, h1, h2, h3, h4⟩ := h
  exact ⟨A, n, c, ps, hn, h1, h2, by omega, h4⟩
/-- What the operations yield that make an argument. -/
def argPhi (hi dd : Nat) (i : Nat) (v : Value) (z : World) : Prop :=
  if i = 6 then ∃ b, v = .slice (some ⟨b, 0, none⟩) 2 2 ∧ z.heap[b]? = some (.cells #[.string ⟨#[105, 110, 116]⟩, .string ⟨#[98, 111, 111, 108]⟩] 9 (0, 0)) ∧ hi ≤ b ∧ dd < hi
  else if i = 7 then ∃ x : List UInt8, v = sv x ∧ x.length ≤ 10
  else if i = 8 then ∃ x : List UInt8, v = .agg #[.int .i64 15, sv x, .int .i64 0, .slice none 0 0] ∧ x.length ≤ 10
  else if i = 9 then ∃ (b : Nat) (x : List UInt8), v = .slice (some ⟨b, 0, none⟩) 1 1 ∧ z.heap[b]? = some (.cells #[.int .i64 15, sv x, .int .i64 0, .slice none 0 0] 25 (0, 0)) ∧ x.length ≤ 10 ∧ hi ≤ b ∧ dd < hi
  else if i = 10 then ∃ (b : Nat) (x : List UInt8), v = .agg #[.int .i64 13, .string ⟨#[120]⟩, .int .i64 0, .slice (some ⟨b, 0, none⟩) 1 1] ∧ z.heap[b]? = some (.cells #[.int .i64 15, sv x, .int .i64 0, .slice none 0 0] 25 (0, 0)) ∧ x.length ≤ 10 ∧ hi ≤ b ∧ dd < hi
  else if i = 12 then ∃ b, v = .slice (some ⟨b, 0, none⟩) 1 1 ∧ z.heap[b]? = some (.cells #[.int .i64 0, .string ⟨#[]⟩, .int .i64 0, .slice none 0 0] 25 (0, 0)) ∧ hi ≤ b ∧ dd < hi
  else True
theorem argPhi_go {hi dd : Nat} (i : Nat) (v : Value) (z z' : World) (h : argPhi hi dd i v z) (hk : Kp (fun y => y = dd) z z') : argPhi hi dd i v z' := by
  unfold argPhi at h ⊢
  by_cases e6 : i = 6
  · rw [if_pos e6] at h ⊢
    obtain ⟨b, h1, h2, h3, h4⟩ := h
    exact ⟨b, h1, hk.heap h2 (by omega), h3, h4⟩
  · rw [if_neg e6] at h ⊢
    by_cases e7 : i = 7
    · rw [if_pos e7] at h ⊢
      exact h
    · rw [if_neg e7] at h ⊢
      by_cases e8 : i = 8
      · rw [if_pos e8] at h ⊢
        exact h
      · rw [if_neg e8] at h ⊢
        by_cases e9 : i = 9
        · rw [if_pos e9] at h ⊢
          obtain ⟨b, x, h1, h2, h3, h4, h5⟩ := h
          exact ⟨b, x, h1, hk.heap h2 (by omega), h3, h4, h5⟩
        · rw [if_neg e9] at h ⊢
          by_cases e10 : i = 10
          · rw [if_pos e10] at h ⊢
            obtain ⟨b, x, h1, h2, h3, h4, h5⟩ := h
            exact ⟨b, x, h1, hk.heap h2 (by omega), h3, h4, h5⟩
          · rw [if_neg e10] at h ⊢
            by_cases e12 : i = 12
            · rw [if_pos e12] at h ⊢
              obtain ⟨b, h1, h2, h3, h4⟩ := h
              exact ⟨b, h1, hk.heap h2 (by omega), h3, h4⟩
            · rw [if_neg e12]
              trivial
theorem addZero (g k : Nat) : (⟨g, 0, none⟩ : Addr).add k = ⟨g, k, none⟩ := by
  unfold Addr.add
  split
  · rename_i h
    rw [h]
  · simp
/-- The function that is made: its block fb, its three kids in g3, the arguments; q more may come. -/
def FSt (xs : List Int) (wo : World) (dd g3 fb : Nat) (x1 x2 : List UInt8) (at_ : Int) (q : Nat) (w : World) : Prop :=
  DiceAt w dd xs ∧ Kp (fun y => y = dd) wo w ∧ ∃ (kv : Value) (ps : List (Tr × Value)), fb < w.heap.size ∧ w.heap[fb]? = some (.cells #[.int .i64 4, sv x1, .int .i64 at_, .slice (some ⟨g3, 0, none⟩) 3 3] 25 (0, 0)) ∧
    w.heap[g3]? = some (.cells #[.int .i64 10, .string ⟨#[]⟩, .int .i64 0, .slice none 0 0, .int .i64 12, .string ⟨#[]⟩, .int .i64 0, kv, .int .i64 15, sv x2, .int .i64 0, .slice none 0 0] 25 (0, 0)) ∧
    TRow w (fb + 1) (fun y => fb < y) kv ps ∧ ps.length + q ≤ 2
theorem FSt.below {xs : List Int} {wo : World} {dd g3 fb : Nat} {x1 x2 : List UInt8} {at_ : Int} {q : Nat} {w w' : World} (h : FSt xs wo dd g3 fb x1 x2 at_ q w) (hb : Below w.heap.size w w') : FSt xs wo dd g3 fb x1 x2 at_ q w' := by
  obtain ⟨h1, h2, kv, ps, h3, h4, h5, h6, h7⟩ := h
  have hk := Kp.ofBelow (M := fun _ => False) hb
  exact ⟨h1.below hb, h2.below hb, kv, ps, Nat.lt_of_lt_of_le h3 hb.size, hk.heap h4 (fun e => e), hk.heap h5 (fun e => e), h6.kp hk (fun _ _ e => e) fun _ _ e => e, h7⟩
theorem FSt.less {xs : List Int} {wo : World} {dd g3 fb : Nat} {x1 x2 : List UInt8} {at_ : Int} {q q' : Nat} {w : World} (h : FSt xs wo dd g3 fb x1 x2 at_ q w) (hq : q' ≤ q) : FSt xs wo dd g3 fb x1 x2 at_ q' w := by
  obtain ⟨h1, h2, kv, ps, h3, h4, h5, h6, h7⟩ := h
  exact ⟨h1, h2, kv, ps, h3, h4, h5, h6, by omega⟩
theorem chk_len (tk ta : Int) (ps : List (Tr × Value)) (l : List Kn) (s : Ty) : (chk tk ta ps l s).length ≤ l.length + ps.length := by
  unfold chk
  split
  · have h1 := lacks_len (ps.map (·.1)) ta l l.length
    have h2 := wrong_len l s ps ps.length
    rw [List.take_length] at h1 h2
    rw [List.length_append]
    omega
  · simp
/-- Types without arguments. -/
def leafs (ns : List (List UInt8)) : List (Value × Value) := ns.map fun n => (sv n, .slice none 0 0)
theorem leafs_tys {w : World} {S : Nat → Prop} {A : Option Addr} {ns : List (List UInt8)} (h : Row w S A (flat2 (leafs ns))) (hn : ∀ n ∈ ns, n.length ≤ 10) : Tys w S A (ns.map fun n => .mk n []) (leafs ns) :=
  ⟨by simp [leafs], h, fun i t p ht hp => by
    rw [List.getElem?_map] at ht
    unfold leafs at hp
    rw [List.getElem?_map] at hp
    obtain ⟨n, h1, rfl⟩ := Option.map_eq_some_iff.1 ht
    obtain ⟨n', h2, rfl⟩ := Option.map_eq_some_iff.1 hp
    rw [h1] at h2
    obtain rfl := Option.some.inj h2
    have := hn n (List.mem_of_getElem? h1)
    exact leaf_is _ _ _ (by omega)⟩
/-- The signature that is made: its block sb, the arguments; q more may come. -/
def SSt (sb : Nat) (r : List UInt8) (q : Nat) (w : World) : Prop :=
  ∃ (A : Option Addr) (n c : Nat) (ns : List (List UInt8)), n = ns.length ∧ w.heap[sb]? = some (.cells #[.int .i64 5, .slice none 0 0, .slice none 0 0, .slice A n c, sv r, .slice none 0 0, .string ⟨#[]⟩] 39 (0, 0)) ∧ w.ownsRow (sb + 1) 35 2 (.slice A n c) n (flat2 (leafs ns)) ∧ (∀ x ∈ ns, x.length ≤ 10) ∧ n + q ≤ 2
theorem SSt.kp {dd sb : Nat} {r : List UInt8} {q : Nat} {w w' : World} (h : SSt sb r q w) (hk : Kp (fun y => y = dd) w w') (hd : dd < sb) : SSt sb r q w' := by
  obtain ⟨A, n, c, ns, hn, h1, h2, h3⟩ := h
  exact ⟨A, n, c, ns, hn, hk.heap h1 (by omega), hk.own h2 (fun g hg e => by have := (h2.lt g hg).1; omega), h3⟩
theorem SSt.less {sb : Nat} {r : List UInt8} {q q' : Nat} {w : World} (h : SSt sb r q w) (hq : q' ≤ q) : SSt sb r q' w := by
  obtain ⟨A, n, c, ns, hn, h1, h2, h3, h4⟩ := h
  exact ⟨A, n, c, ns, hn, h1, h2, h3, by omega⟩
/-- Known signatures that are made: a row of its own. -/
structure KRow (w : World) (B : Nat) (X : Nat → Prop) (mv : Value) (l : List Kn) (qs : List KnV) : Prop where
  own : w.ownsRow B 41 8 mv qs.length (flt knC qs)
  names : qs.map (·.1) = l.map (·.1)
  each : ∀ (i : Nat) (k : Kn) (q : KnV), l[i]? = some k → qs[i]? = some q → k.1 = q.1 ∧ SgIs w (fun x => X x ∧ x < w.heap.size ∧ some x ≠ mv.ownBlock) k.2 q.2
theorem KRow.none (w : World) (B : Nat) (X : Nat → Prop) : KRow w B X (.slice none 0 0) [] [] := ⟨World.ownsRow_nil _ _ _ _, rfl, fun i k q h => by simp at h⟩
theorem KRow.len {w : World} {B : Nat} {X : Nat → Prop} {mv : Value} {l : List Kn} {qs : List KnV} (h : KRow w B X mv l qs) : qs.length = l.length := by
  have := congrArg List.length h.names
  simpa using this
theorem KRow.kp {w w' : World} {B : Nat} {X M : Nat → Prop} {mv : Value} {l : List Kn} {qs : List KnV} (h : KRow w B X mv l qs) (hk : Kp M w w') (hM : ∀ y, X y → y < w.heap.size → ¬ M y) (hr : ∀ g, mv.ownBlock = some g → ¬ M g) : KRow w' B X mv l qs :=
  ⟨hk.own h.own hr, h.names, fun i k q h1 h2 => ⟨(h.each i k q h1 h2).1, ((h.each i k q h1 h2).2.keep (hk.kept fun x hx => ⟨hx.2.1, hM x hx.1 hx.2.1⟩)).more fun x hx => ⟨hx.1, Nat.lt_of_lt_of_le hx.2.1 hk.size, hx.2.2⟩⟩⟩
theorem KRow.push {w w' : World} {B : Nat} {X : Nat → Prop} {mv mv' : Value} {l : List Kn} {qs : List KnV} {k : Kn} {q : KnV} (h : KRow w B X mv l qs) (hkq : k.1 = q.1) (ht : SgIs w (fun x => X x ∧ x < w.heap.size ∧ some x ≠ mv.ownBlock) k.2 q.2)
    (hown : w'.ownsRow B 41 8 mv' (qs.length + 1) (flt knC qs ++ knC q)) (hg : w.grownBy w' mv.ownBlock) (hat : mv'.ownBlock = mv.ownBlock ∨ mv'.ownBlock = some w.heap.size) : KRow w' B X mv' (l ++ [k]) (qs ++ [q]) := by
  have hk : Kp (fun y => mv.ownBlock = some y) w w' := (Kp.refl _ _).grown hg fun r hr _ => hr
  have hne : ∀ y, some y ≠ mv.ownBlock → y < w.heap.size → some y ≠ mv'.ownBlock := fun y h1 h2 e => by
    rcases hat with h3 | h3
    · exact h1 (e.trans h3)
    · rw [h3] at e
      injection e
      omega
  have hgo : ∀ {g : Sg} {v : SV}, SgIs w (fun x => X x ∧ x < w.heap.size ∧ some x ≠ mv.ownBlock) g v → SgIs w' (fun x => X x ∧ x < w'.heap.size ∧ some x ≠ mv'.ownBlock) g v := fun h =>
    (h.keep (hk.kept fun y hy => ⟨hy.2.1, fun e => hy.2.2 e.symm⟩)).more fun y hy => ⟨hy.1, Nat.lt_of_lt_of_le hy.2.1 hk.size, hne y hy.2.2 hy.2.1⟩
  have hll := h.len
  refine ⟨by rw [List.length_append, flt_append, flt_one]; exact hown, by rw [List.map_append, List.map_append, h.names, List.map_singleton, List.map_singleton, hkq], fun i k' q' h1 h2 => ?_⟩
  rcases Nat.lt_trichotomy i l.length with hi | hi | hi
  · rw [List.getElem?_append_left hi] at h1
    rw [List.getElem?_append_left (by omega)] at h2
    exact ⟨(h.each i k' q' h1 h2).1, hgo (h.each i k' q' h1 h2).2⟩
  · rw [List.getElem?_append_right (by omega)] at h1
    rw [List.getElem?_append_right (by omega)] at h2
    have e1 : i - l.length = 0 := by omega
    have e2 : i - qs.length = 0 := by omega
    rw [e1] at h1
    rw [e2] at h2
    simp at h1 h2
    subst h1 h2
    exact ⟨hkq, hgo ht⟩
  · have := (List.getElem?_eq_some_iff.1 h1).1
    simp at this
    omega
theorem KRow.kns {w : World} {B : Nat} {X : Nat → Prop} {A : Option Addr} {n c : Nat} {l : List Kn} {qs : List KnV} (h : KRow w B X (.slice A n c) l qs) (hn : n = qs.length) : Kns w (Lt w.heap.size) A l qs := by
  subst hn
  exact ⟨Row.ofOwn h.own fun _ _ _ h2 => h2, h.names, fun i k q h1 h2 => ⟨(h.each i k q h1 h2).1, (h.each i k q h1 h2).2.more fun y hy => hy.2.1⟩⟩
set_option maxHeartbeats 4000000 in
set_option maxRecDepth 100000 in
theorem law_all (xs : List Int) (TA : Option Addr) (tc : Nat) (rk ra : Int) (rx : List UInt8) (rps : List (Tr × Value)) (RA L : Option Addr) (rc lc : Nat) (l : List Kn) (qs : List KnV) (w : World) (hA : Row w (Lt w.heap.size) TA (xs.map (Value.int .i64))) (hf : ∀ x ∈ xs, -9223372036854775808 ≤ x ∧ x ≤ 9223372036854775807)
    (hR : Trs w (Lt w.heap.size) RA rps) (hK : Kns w (Lt w.heap.size) L l qs) :
    Calls Try.prog 3 #[.slice TA xs.length tc, .agg #[.int .i64 rk, sv rx, .int .i64 ra, .slice RA rps.length rc], .slice L l.length lc] w fun e w' => e = .returned (.bool true) ∧ Below w.heap.size w w' := by
  obtain ⟨n, hn⟩ : ∃ n, n = xs.length := ⟨_, rfl⟩
  obtain ⟨rn, hrn⟩ : ∃ n, n = rps.length := ⟨_, rfl⟩
  obtain ⟨ln, hln⟩ : ∃ n, n = l.length := ⟨_, rfl⟩
  rw [← hn, ← hrn, ← hln]
  have HN := Lib.hid hn
  have HRN := Lib.hid hrn
  have HLN := Lib.hid hln
  have hb0 : Below w.heap.size w (w.alloc (.cells #[.int .i64 rk, sv rx, .int .i64 ra, .slice RA rn rc] 25)) := (Below.refl _ _).alloc (Nat.le_refl _) _
  have hx0 := alloc1 w (.cells #[.int .i64 rk, sv rx, .int .i64 ra, .slice RA rn rc] 25)
  obtain ⟨w0, hw0⟩ : ∃ w0, w0 = w.alloc (.cells #[.int .i64 rk, sv rx, .int .i64 ra, .slice RA rn rc] 25) := ⟨_, rfl⟩
  rw [← hw0] at hb0 hx0
  have HW0 := Lib.hid hw0
  have HB0 := Lib.hid hb0
  have HX0 := Lib.hid hx0
  have HLI := Lib.hid (light_any n TA tc w0)
  have x3 : w0.cell? ⟨w.heap.size, 3, none⟩ = some (.slice RA rn rc) := (Lib.cell_of_heap hx0 3).trans rfl
  rw [hw0] at x3
  clear hn hrn hln hb0 hx0 hw0
  by_cases hlight : n ≤ 400
  · have hd0 : decide (n ≤ 400) = true := by simpa using hlight
    by_cases hl20 : ln ≤ 20
    · by_cases hr20 : rn ≤ 20
      · have hi1 : ¬ (ln : Int) > 20 := by omega
        have hi2 : ¬ (rn : Int) > 20 := by omega
        have hi3 : ((ln : Int) > 20) = False := by simp; omega
        have hd1 : decide ((ln : Int) > 20) = false := by simp; omega
        have hd2 : decide ((rn : Int) > 20) = false := by simp; omega
        have HRO := Lib.hid (roll_any xs TA tc w0 ((hA.keep (kept_below HB0.out)).more fun y hy => Nat.lt_of_lt_of_le hy HB0.out.size) (by rw [← HN.out]; exact hlight) hf)
        rw [← HN.out] at HRO
        go_enter Try.func3, Try.ntmps3
        go_wp2_with fail
        rw [← HW0.out]
        refine HLI.out.mono ?_
        rintro e w1 ⟨rfl, rfl⟩
        rw [hd0]
        rw [HW0.out]
        go_wp2_with fail
        rw [← HW0.out]
        refine HRO.out.mono ?_
        rintro e w1 ⟨rfl, hD1, hb1⟩
        have HS0 := Lib.hid (show LwSt w0 w0.heap.size xs w1 from ⟨hD1, Kp.ofBelow hb1, Nat.le_refl _⟩)
        clear hD1 hb1 HRO HLI
        obtain ⟨dd, hdd⟩ : ∃ dd, dd = w0.heap.size := ⟨_, rfl⟩
        rw [← hdd] at HS0 ⊢
        clear hdd
        go_wp2_with fail
        have HN0 := Lib.hid (next_any 5 dd xs w1 (by decide) (by decide) HS0.out.dice)
        refine HN0.out.mono ?_
        rintro e w2 ⟨k5, hk5, rfl, hD2, hK2⟩
        have HS2 := Lib.hid (HS0.out.step hD2 hK2)
        clear hD2 hK2 HN0
        obtain ⟨w3, hw3⟩ : ∃ w3, w3 = (w2.alloc (.cells #[.int .i64 10, .string ⟨#[]⟩, .int .i64 0, .slice none 0 0, .int .i64 15, .string ⟨#[105, 110, 116]⟩, .int .i64 0, .slice none 0 0] 25)).alloc (.cells #[.int .i64 7, .string ⟨#[97, 58, 58, 83]⟩, .int .i64 (k5 : Int), .slice (some ⟨w2.heap.size, 0, none⟩) 2 2] 25) := ⟨_, rfl⟩
        have hb3 : Below w2.heap.size w2 w3 := by rw [hw3]; exact ((Below.refl _ _).alloc (Nat.le_refl _) _).alloc (by simp) _
        have hx3 := alloc2 w2 (.cells #[.int .i64 10, .string ⟨#[]⟩, .int .i64 0, .slice none 0 0, .int .i64 15, .string ⟨#[105, 110, 116]⟩, .int .i64 0, .slice none 0 0] 25) (.cells #[.int .i64 7, .string ⟨#[97, 58, 58, 83]⟩, .int .i64 (k5 : Int), .slice (some ⟨w2.heap.size, 0, none⟩) 2 2] 25)
        rw [← hw3] at hx3
        have hdl2 : dd < w2.heap.size := HS2.out.dice.lt
        have hown0 := (own_lit w2 #[.int .i64 10, .string ⟨#[]⟩, .int .i64 0, .slice none 0 0, .int .i64 15, .string ⟨#[105, 110, 116]⟩, .int .i64 0, .slice none 0 0] 25 4 2 rfl (by decide)).alloc (.cells #[.int .i64 7, .string ⟨#[97, 58, 58, 83]⟩, .int .i64 (k5 : Int), .slice (some ⟨w2.heap.size, 0, none⟩) 2 2] 25)
        rw [← hw3] at hown0
        have HXS : Hid (XSt dd w2.heap.size (w2.heap.size + 1) (k5 : Int) 3 w3) := Lib.hid ⟨_, 2, 2, [(.mk 10 [] 0 [], .slice none 0 0), (.mk 15 [105, 110, 116] 0 [], .slice none 0 0)], rfl, hx3.2, ⟨hown0, fun i p hp => by
          rcases i with _ | _ | i
          · simp at hp; subst hp; exact tr_leaf _ _ _ _ _ ⟨by decide, by decide⟩ ⟨by decide, by decide⟩ (by simp)
          · simp at hp; subst hp; exact tr_leaf _ _ _ _ _ ⟨by decide, by decide⟩ ⟨by decide, by decide⟩ (by simp)
          · simp at hp⟩, by simp, fun g e => by
            have : w2.heap.size = g := by injection e
            omega⟩
        have HS3 := Lib.hid (HS2.out.below hb3)
        have HW3 := Lib.hid hw3
        clear hw3 hb3 hx3 hown0 HS2 HS0
        go_wp2_with fail
        rw [← HW3.out]
        have HN1 := Lib.hid (next_any 4 dd xs w3 (by decide) (by decide) HS3.out.dice)
        refine HN1.out.mono ?_
        rintro e w4 ⟨k4, hk4, rfl, hD4, hK4⟩
        have HX4 := Lib.hid (HXS.out.kp hK4 (by omega) hdl2)
        have HS4 := Lib.hid (HS3.out.step hD4 hK4)
        clear hD4 hK4 HN1 HXS HS3 HW3
        go_wp2_with fail
        obtain ⟨zx, hzx⟩ : ∃ z, z = w2.heap.size := ⟨_, rfl⟩
        rw [← hzx] at HX4 ⊢
        have HZX : Hid (dd < zx) := Lib.hid (by rw [hzx]; exact hdl2)
        clear hzx hdl2
        go_loopw [9] (fun i wr => ∃ q : Nat, q < 4 ∧ i = .int .i64 q ∧ LwSt w0 dd xs wr ∧ XSt dd zx (zx + 1) (k5 : Int) q wr) (fun i _ => (intOf i).toNat)
        case atStart => exact ⟨k4, hk4, rfl, HS4.out, HX4.out.less (by omega)⟩
        case round =>
          obtain ⟨q, hq4, rfl, hS, hX⟩ := hrel
          have HS := Lib.hid hS
          have HX := Lib.hid hX
          clear hS hX
          by_cases hq0 : 0 < q
          ·
            obtain ⟨wo, hwo⟩ : ∃ wo, wo = wr := ⟨_, rfl⟩
            rw [← hwo] at HS HX ⊢
            clear hwo
            have hdo := HS.out.dice.lt
            have HO1 := Lib.hid (of_any [[112], [113], [114]] (some ⟨wo.heap.size, 0, none⟩) 3 dd xs _ (by decide) (by decide) (HS.out.dice.below ((Below.refl _ _).alloc (Nat.le_refl _) _)) (row_lit wo #[.string ⟨#[112]⟩, .string ⟨#[113]⟩, .string ⟨#[114]⟩] 9 [[112], [113], [114]] rfl dd hdo))
            go_wp2_with fail
            refine HO1.out.mono ?_
            rintro e wa ⟨x1, hx1, rfl, hDa, hKa⟩
            have hx1l : x1.length ≤ 10 := by
              simp at hx1
              rcases hx1 with rfl | rfl | rfl <;> decide
            have hKa0 := ((Kp.refl (fun y => y = dd) wo).alloc (.cells #[.string ⟨#[112]⟩, .string ⟨#[113]⟩, .string ⟨#[114]⟩] 9)).one hKa
            have HKa := Lib.hid hKa0
            have HDa := Lib.hid hDa
            clear hDa hKa hx1 hKa0 HO1
            go_wp2_with fail
            have HN2 := Lib.hid (next_any 20 dd xs wa (by decide) (by decide) HDa.out)
            refine HN2.out.mono ?_
            rintro e wb ⟨k20, hk20, rfl, hDb, hKb⟩
            have HKb := Lib.hid (HKa.out.one hKb)
            have HDb := Lib.hid hDb
            clear hDb hKb HN2 HKa HDa
            have hdb : dd < wb.heap.size := HDb.out.lt
            have HO2 := Lib.hid (of_any [[105, 110, 116], [98, 111, 111, 108]] (some ⟨wb.heap.size, 0, none⟩) 2 dd xs _ (by decide) (by decide) (HDb.out.below ((Below.refl _ _).alloc (Nat.le_refl _) _)) (row_lit wb #[.string ⟨#[105, 110, 116]⟩, .string ⟨#[98, 111, 111, 108]⟩] 9 [[105, 110, 116], [98, 111, 111, 108]] rfl dd hdb))
            go_wp2_with fail
            refine HO2.out.mono ?_
            rintro e wc ⟨x2, hx2, rfl, hDc, hKc⟩
            have hx2l : x2.length ≤ 10 := by
              simp at hx2
              rcases hx2 with rfl | rfl <;> decide
            have HKc := Lib.hid ((HKb.out.alloc (.cells #[.string ⟨#[105, 110, 116]⟩, .string ⟨#[98, 111, 111, 108]⟩] 9)).one hKc)
            have HDc := Lib.hid hDc
            clear hDc hKc hx2 HO2 HKb HDb hdb
            obtain ⟨wd, hwd⟩ : ∃ wd, wd = (wc.alloc (.cells #[.int .i64 10, .string ⟨#[]⟩, .int .i64 0, .slice none 0 0, .int .i64 12, .string ⟨#[]⟩, .int .i64 0, .slice none 0 0, .int .i64 15, sv x2, .int .i64 0, .slice none 0 0] 25)).alloc (.cells #[.int .i64 4, sv x1, .int .i64 (k20 : Int), .slice (some ⟨wc.heap.size, 0, none⟩) 3 3] 25) := ⟨_, rfl⟩
            have hbd : Below wc.heap.size wc wd := by rw [hwd]; exact ((Below.refl _ _).alloc (Nat.le_refl _) _).alloc (by simp) _
            have hxd := alloc2 wc (.cells #[.int .i64 10, .string ⟨#[]⟩, .int .i64 0, .slice none 0 0, .int .i64 12, .string ⟨#[]⟩, .int .i64 0, .slice none 0 0, .int .i64 15, sv x2, .int .i64 0, .slice none 0 0] 25) (.cells #[.int .i64 4, sv x1, .int .i64 (k20 : Int), .slice (some ⟨wc.heap.size, 0, none⟩) 3 3] 25)
            rw [← hwd] at hxd
            have hsd : wd.heap.size = wc.heap.size + 1 + 1 := by rw [hwd]; simp
            have HWD := Lib.hid hwd
            have HKd := Lib.hid (HKc.out.below hbd)
            have HDd := Lib.hid (HDc.out.below hbd)
            have HXD := Lib.hid hxd
            have HSD := Lib.hid hsd
            have hoc : wo.heap.size ≤ wc.heap.size := HKc.out.size
            clear hwd hbd hxd hsd HKc HDc
            go_wp2_with fail
            rw [← HWD.out]
            have HN3 := Lib.hid (next_any 3 dd xs wd (by decide) (by decide) HDd.out)
            refine HN3.out.mono ?_
            rintro e we ⟨k3, hk3, rfl, hDe, hKe⟩
            have HIN : Hid (FSt xs wo dd wc.heap.size (wc.heap.size + 1) x1 x2 k20 2 we) := Lib.hid (by
              have hne : ¬ (wc.heap.size = dd) := by omega
              have hne1 : ¬ (wc.heap.size + 1 = dd) := by omega
              exact ⟨hDe, HKd.out.one hKe, .slice none 0 0, [], by have := hKe.size; have := HSD.out; omega, hKe.heap HXD.out.2 hne1, hKe.heap HXD.out.1 hne, TRow.none _ _ _, by simp⟩)
            clear hDe hKe HN3 HDd HKd HXD HSD HWD
            obtain ⟨g3, hg3⟩ : ∃ g, g = wc.heap.size := ⟨_, rfl⟩
            rw [← hg3] at HIN hoc ⊢
            clear hg3
            go_wp2_with fail
            go_loopw [11] (fun i wr => ∃ q : Nat, q < 3 ∧ i = .int .i64 q ∧ FSt xs wo dd g3 (g3 + 1) x1 x2 k20 q wr) (fun i _ => (intOf i).toNat)
            case atStart => exact ⟨k3, hk3, rfl, HIN.out.less (by omega)⟩
            case round =>
              obtain ⟨r, hr3, rfl, hF⟩ := hrel
              have HF := Lib.hid hF
              clear hF HIN
              by_cases hr0 : 0 < r
              · go_wp2_with fail
                have hbz : Below wr.heap.size wr wr.drew := (Below.refl _ wr).drew
                obtain ⟨wz, hwz⟩ : ∃ wz, wz = wr.drew := ⟨_, rfl⟩
                refine wp_region_noPanic ?_
                refine wp_region_any (by kernel_rfl) ?_
                rw [show ({ wr with drawn := wr.drawn + 1 } : World) = wz by rw [hwz]; rfl]
                rw [← hwz] at hbz
                clear hwz
                refine wpAny_one (n := 3) (k := 0) (by kernel_rfl) ?_
                refine wpOp_go rfl rfl ?_
                go_simp
                refine wpAny_two (n := 2) (k1 := 1) (k2 := 2) (by kernel_rfl) ?_ ?_
                ·
                  refine wpOp_go rfl rfl ?_
                  go_simp
                  refine wpAny_one (n := 1) (k := 2) (by kernel_rfl) ?_
                  refine wpOp_go rfl rfl ?_
                  go_simp
                  refine wpAny_one (n := 0) (k := 3) (by kernel_rfl) ?_
                  refine wpOp_go rfl rfl ?_
                  go_simp
                  refine wpAny_end (by kernel_rfl) ?_
                  refine NoPanic.normal ?_
                  have HFY := Lib.hid (HF.out.below (hbz.trans (((Below.refl wz.heap.size wz).alloc (Nat.le_refl _) (.cells #[.bool false] 4)).mono hbz.size)))
                  obtain ⟨wy, hwy⟩ : ∃ wy, wy = wz.alloc (.cells #[.bool false] 4) := ⟨_, rfl⟩
                  rw [← hwy] at HFY ⊢
                  clear hwy hbz
                  go_wp2_with fail
                  obtain ⟨hDy, hKy, kv, ps, hfb, hxf, hxg, hTR, hpl⟩ := HFY.out
                  obtain ⟨KA, kc, rfl, _⟩ := own_slice hTR.own
                  obtain ⟨kn, hkn⟩ : ∃ n, n = ps.length := ⟨_, rfl⟩
                  have hTR0 := hTR
                  rw [← hkn] at hxg hTR hpl
                  have hdy := hDy.lt
                  have hgd : ¬ g3 = dd := by omega
                  have hgd1 : ¬ g3 + 1 = dd := by omega
                  have HC : Hid (∀ u, Kp (fun y => y = dd) wy u → AtCells [(⟨g3 + 1, 3, none⟩, .slice (some ⟨g3, 0, none⟩) 3 3), (⟨g3, 7, none⟩, .slice KA kn kc)] u) := Lib.hid fun u hu => ⟨(Lib.cell_of_heap (hu.heap hxf hgd1) 3).trans rfl, (Lib.cell_of_heap (hu.heap hxg hgd) 7).trans rfl, trivial⟩
                  have HDY := Lib.hid hDy
                  have HKY := Lib.hid hKy
                  have HXF := Lib.hid hxf
                  have HXG := Lib.hid hxg
                  have HTR := Lib.hid hTR
                  have HKN := Lib.hid hkn
                  have hgy : g3 + 1 < wy.heap.size := hfb
                  clear hDy hKy hxf hxg hTR hkn hTR0
                  refine wp_region_mix (fun u => DiceAt u dd xs ∧ AtCells [(⟨g3 + 1, 3, none⟩, .slice (some ⟨g3, 0, none⟩) 3 3), (⟨g3, 7, none⟩, .slice KA kn kc)] u) [(true, 0), (true, 1), (true, 2), (true, 3), (true, 4), (true, 5), (true, 6), (true, 7), (false, 8), (false, 9), (true, 10), (false, 11), (true, 12), (false, 13), (false, 14)] [15, 16, 17] (by kernel_rfl) (by kernel_rfl) ?sm ?hm
                  case sm => exact ⟨HDY.out.below (Below.refl _ wy).drew, HC.out _ (Kp.refl _ _).drew⟩
                  case hm =>
                  simp only [mixAt, List.filterMap_cons, List.filterMap_nil, List.getElem?_toArray, List.getElem?_cons_succ, List.getElem?_cons_zero, Option.map_some]
                  refine wpMix_load ?vma0 rfl (fun w' hS => ?yma0) ?kma0
                  case yma0 =>
                    obtain ⟨_, g0, g1, _⟩ := hS
                    go_simp
                    try rfl
                  case kma0 =>
                  go_simp
                  refine wpMix_load ?vma1 rfl (fun w' hS => ?yma1) ?kma1
                  case yma1 =>
                    obtain ⟨_, g0, g1, _⟩ := hS
                    go_simp
                    try rfl
                  case kma1 =>
                  go_simp
                  refine wpMix_load ?vma2 rfl (fun w' hS => ?yma2) ?kma2
                  case yma2 =>
                    obtain ⟨_, g0, g1, _⟩ := hS
                    go_simp
                    try rfl
                  case kma2 =>
                  go_simp
                  refine wpMix_load ?vma3 rfl (fun w' hS => ?yma3) ?kma3
                  case yma3 =>
                    obtain ⟨_, g0, g1, _⟩ := hS
                    go_simp
                    try rfl
                  case kma3 =>
                  go_simp
                  refine wpMix_load ?vma4 rfl (fun w' hS => ?yma4) ?kma4
                  case yma4 =>
                    obtain ⟨_, g0, g1, _⟩ := hS
                    go_simp
                    try rfl
                  case kma4 =>
                  go_simp
                  refine wpMix_load ?vma5 rfl (fun w' hS => ?yma5) ?kma5
                  case yma5 =>
                    obtain ⟨_, g0, g1, _⟩ := hS
                    go_simp
                    try rfl
                  case kma5 =>
                  go_simp
                  refine wpMix_load ?vma6 rfl (fun w' hS => ?yma6) ?kma6
                  case yma6 =>
                    obtain ⟨_, g0, g1, _⟩ := hS
                    go_simp
                    try rfl
                  case kma6 =>
                  go_simp
                  refine wpMix_load ?vma7 rfl (fun w' hS => ?yma7) ?kma7
                  case yma7 =>
                    obtain ⟨_, g0, g1, _⟩ := hS
                    go_simp
                    try rfl
                  case kma7 =>
                  go_simp
                  refine wpMix_keep rfl ?_
                  go_simp
                  obtain ⟨u1, hu1⟩ : ∃ u1, u1 = (wy.alloc (.cells #[.string ⟨#[105, 110, 116]⟩, .string ⟨#[98, 111, 111, 108]⟩] 9)).drew := ⟨_, rfl⟩
                  have hb1 : Below wy.heap.size wy u1 := by rw [hu1]; exact ((Below.refl _ _).alloc (Nat.le_refl _) _).drew
                  have hr1 : Row u1 (fun y => y < u1.heap.size ∧ y ≠ dd) (some ⟨wy.heap.size, 0, none⟩) ([[105, 110, 116], [98, 111, 111, 108]].map sv) := by
                    rw [hu1]
                    exact row_lit wy #[.string ⟨#[105, 110, 116]⟩, .string ⟨#[98, 111, 111, 108]⟩] 9 [[105, 110, 116], [98, 111, 111, 108]] rfl dd hdy
                  try rw [← hu1]
                  have hk1 := Kp.ofBelow (M := fun y => y = dd) hb1
                  refine ⟨⟨HDY.out.below hb1, HC.out _ hk1⟩, ?_⟩
                  have HOF := Lib.hid (of_any [[105, 110, 116], [98, 111, 111, 108]] (some ⟨wy.heap.size, 0, none⟩) 2 dd xs u1 (by decide) (by decide) (HDY.out.below hb1) hr1)
                  have HK1 := Lib.hid hk1
                  clear hu1 hb1 hr1 hk1
                  refine wpMix_keep rfl ?_
                  go_wp2_with fail
                  refine HOF.out.mono ?_
                  rintro e u2 ⟨x3, hx3, rfl, hD2, hK2⟩
                  have hx3l : x3.length ≤ 10 := by
                    simp at hx3
                    rcases hx3 with rfl | rfl <;> decide
                  have hk2 := HK1.out.one hK2
                  refine ⟨⟨hD2, HC.out _ hk2⟩, ?_⟩
                  have HD2 := Lib.hid hD2
                  have HK2 := Lib.hid hk2
                  clear hD2 hK2 hk2 hx3 HOF HK1
                  refine wpMix_load ?vmb10 rfl (fun w' hS => ?ymb10) ?kmb10
                  case ymb10 =>
                    obtain ⟨_, g0, g1, _⟩ := hS
                    go_simp
                    try rfl
                  case kmb10 =>
                  go_simp
                  refine wpMix_keep rfl ?_
                  go_simp
                  obtain ⟨u3, hu3⟩ : ∃ u3, u3 = u2.alloc (.cells #[.int .i64 15, sv x3, .int .i64 0, .slice none 0 0] 25) := ⟨_, rfl⟩
                  have hb3 : Below u2.heap.size u2 u3 := by rw [hu3]; exact (Below.refl _ _).alloc (Nat.le_refl _) _
                  have ha3 : u3.heap[u2.heap.size]? = some (.cells #[.int .i64 15, sv x3, .int .i64 0, .slice none 0 0] 25 (0, 0)) := by rw [hu3]; exact alloc1 _ _
                  try rw [← hu3]
                  have hk3 := HK2.out.below hb3
                  refine ⟨⟨HD2.out.below hb3, HC.out _ hk3⟩, ?_⟩
                  have HD3 := Lib.hid (HD2.out.below hb3)
                  have HK3 := Lib.hid hk3
                  have HA3 := Lib.hid ha3
                  have hs23 := hb3.size
                  clear hu3 hb3 ha3 hk3
                  refine wpMix_load ?vmc12 rfl (fun w' hS => ?ymc12) ?kmc12
                  case ymc12 =>
                    obtain ⟨_, g0, g1, _⟩ := hS
                    go_simp
                    try rfl
                  case kmc12 =>
                  go_simp
                  refine wpMix_keep rfl ?_
                  go_simp
                  obtain ⟨u4, hu4⟩ : ∃ u4, u4 = u3.alloc (.cells #[.int .i64 13, .string ⟨#[120]⟩, .int .i64 0, .slice (some ⟨u2.heap.size, 0, none⟩) 1 1] 25) := ⟨_, rfl⟩
                  have hb4 : Below u3.heap.size u3 u4 := by rw [hu4]; exact (Below.refl _ _).alloc (Nat.le_refl _) _
                  have ha4 : u4.heap[u3.heap.size]? = some (.cells #[.int .i64 13, .string ⟨#[120]⟩, .int .i64 0, .slice (some ⟨u2.heap.size, 0, none⟩) 1 1] 25 (0, 0)) := by rw [hu4]; exact alloc1 _ _
                  try rw [← hu4]
                  have hk4 := HK3.out.below hb4
                  refine ⟨⟨HD3.out.below hb4, HC.out _ hk4⟩, ?_⟩
                  have HD4 := Lib.hid (HD3.out.below hb4)
                  have HK4 := Lib.hid hk4
                  have ha34 := (hb4.block _ (lt_of_heap HA3.out)).trans HA3.out
                  have hs34 := hb4.size
                  have hy2 := HK2.out.size
                  have hTR4 := HTR.out.kp hk4 (fun y hy e => by omega) (fun gg hg e => by have := (HTR.out.own.lt gg hg).1; omega)
                  have hrl := HTR.out.own.lt
                  have hp4 : TrIs u4 (fun y => g3 + 1 < y ∧ y < u4.heap.size ∧ some y ≠ (Value.slice KA kn kc).ownBlock) (.mk 13 [120] 0 [.mk 15 x3 0 []]) (.slice (some ⟨u2.heap.size, 0, none⟩) 1 1) := one_kid (.mk 15 x3 0 [], .slice none 0 0) ha34 (tr_leaf _ _ _ _ _ ⟨by decide, by decide⟩ ⟨by decide, by decide⟩ (by omega)) ⟨by omega, lt_of_heap ha34, fun e => by have := (hrl _ e.symm).2; omega⟩ 13 0 [120] ⟨by decide, by decide⟩ ⟨by decide, by decide⟩ (by simp)
                  have HP4 := Lib.hid hp4
                  have HTR4 := Lib.hid hTR4
                  have hown4 := hTR4.own
                  rw [← HKN.out] at hown4
                  have HXF4 := Lib.hid (hk4.heap HXF.out hgd1)
                  have HXG4 := Lib.hid (hk4.heap HXG.out hgd)
                  clear hu4 hb4 hk4 ha34 hTR4 hp4 HA3 HK3 HD3 HD2 HK2
                  obtain ⟨i0, hi, hz0, hz1, hz2⟩ := info_parts infoTr
                  refine wpMix_keep rfl ?_
                  refine wp_append_row _ _ 23 rfl (g3 + 1 + 1) 25 i0 _ 4 56 Try.underlying23 hi hz0 hz1 hz2 rfl (by omega) (.slice KA kn kc) kn (flt trC ps) rfl hown4 (fun y => y = u3.heap.size) (some ⟨u3.heap.size, 0, none⟩) 1 1 [.int .i64 13, .string ⟨#[120]⟩, .int .i64 0, .slice (some ⟨u2.heap.size, 0, none⟩) 1 1] rfl rfl (row_heap ha4 rfl rfl) (fun u hu => by simp only [List.mem_cons, List.not_mem_nil, or_false] at hu; rcases hu with rfl | rfl | rfl | rfl <;> rfl) (by unfold maxLen; omega) (by omega) (by omega) ?_
                  intro v5 u5 hown5 hg5 hat5
                  obtain ⟨A5, c5, rfl, _⟩ := own_slice hown5
                  have hTR5 := HTR4.out.push (p := (.mk 13 [120] 0 [.mk 15 x3 0 []], .slice (some ⟨u2.heap.size, 0, none⟩) 1 1)) HP4.out (by rw [← HKN.out]; exact hown5) hg5 hat5
                  have hk5 : Kp (fun y => (Value.slice KA kn kc).ownBlock = some y) u4 u5 := (Kp.refl _ _).grown hg5 fun r hr _ => hr
                  have hxf5 := hk5.heap HXF4.out fun e => by have := (hrl _ e).1; omega
                  have hxg5 := hk5.heap HXG4.out fun e => by have := (hrl _ e).1; omega
                  have hD5 := HD4.out.keep hk5 fun y e => by have := (hrl _ e).1; omega
                  have hK5 : Kp (fun y => y = dd) wo u5 := (HKY.out.one HK4.out).trans (hk5.more (M' := fun y => wo.heap.size ≤ y) fun y _ e => by have := (hrl _ e).1; omega) fun y hy e => by omega
                  have hsz5 := hk5.size
                  have hcf5 : u5.cell? ⟨g3 + 1, 3, none⟩ = some (.slice (some ⟨g3, 0, none⟩) 3 3) := (Lib.cell_of_heap hxf5 3).trans rfl
                  have hcg5 : u5.cell? ⟨g3, 7, none⟩ = some (.slice KA kn kc) := (Lib.cell_of_heap hxg5 7).trans rfl
                  have hfg5 : u5.frozen? ⟨g3, 7, none⟩ = false := Lib.frozen_of_heap hxg5 7
                  have hrl5 := hTR5.own.lt
                  have hks : Kp (fun y => y = g3) u5 (u5.setCell ⟨g3, 7, none⟩ (.slice A5 (kn + 1) c5)) := Kp.setCell (M := fun y => y = g3) (o := 7) (Kp.refl _ u5) (fun _ => rfl) _
                  have HF6 : Hid (FSt xs wo dd g3 (g3 + 1) x1 x2 k20 (r - 1) (u5.setCell ⟨g3, 7, none⟩ (.slice A5 (kn + 1) c5))) := Lib.hid ⟨hD5.keep hks fun y e => by omega, hK5.trans (hks.more (M' := fun y => wo.heap.size ≤ y) fun y _ e => by omega) fun y hy e => by omega, .slice A5 (kn + 1) c5, ps ++ [(.mk 13 [120] 0 [.mk 15 x3 0 []], .slice (some ⟨u2.heap.size, 0, none⟩) 1 1)], by have := hks.size; omega, hks.heap hxf5 (by omega), set_one (o := 7) hxg5 rfl, hTR5.kp hks (fun y hy e => by omega) (fun gg hg e => by have := (hrl5 gg hg).1; omega), by rw [List.length_append, ← HKN.out]; simp; omega⟩
                  refine ⟨⟨hD5, hcf5, hcg5, trivial⟩, ?_⟩
                  refine wpMix_nil ?_
                  clear hown5 hg5 hat5 hTR5 hk5 hxf5 hxg5 hD5 hK5 hrl5 hks hown4 HXF4 HXG4 HTR4 HP4 HD4 HK4 ha4 HC HDY HKY HXF HXG HTR HFY HF hrl
                  go_simp
                  simp only [opsAt, List.filterMap_cons, List.filterMap_nil, List.getElem?_toArray, List.getElem?_cons_succ, List.getElem?_cons_zero]
                  go_wp2_with fail
                  refine NoPanic.normal ?_
                  go_wp2_with fail
                  first | go_roundw | refine ⟨?rel, ?measure⟩
                  case rel => exact ⟨r - 1, by omega, by go_num, HF6.out⟩
                  case measure => simp [intOf]; omega
                ·
                  refine wpOp_go rfl rfl ?_
                  go_simp
                  refine wpAny_one (n := 1) (k := 1) (by kernel_rfl) ?_
                  refine wpOp_go rfl rfl ?_
                  go_simp
                  refine wpAny_one (n := 0) (k := 3) (by kernel_rfl) ?_
                  refine wpOp_go rfl rfl ?_
                  go_simp
                  refine wpAny_end (by kernel_rfl) ?_
                  refine NoPanic.normal ?_
                  have HFY := Lib.hid (HF.out.below (hbz.trans (((Below.refl wz.heap.size wz).alloc (Nat.le_refl _) (.cells #[.bool true] 4)).mono hbz.size)))
                  obtain ⟨wy, hwy⟩ : ∃ wy, wy = wz.alloc (.cells #[.bool true] 4) := ⟨_, rfl⟩
                  rw [← hwy] at HFY ⊢
                  clear hwy hbz
                  go_wp2_with fail
                  obtain ⟨hDy, hKy, kv, ps, hfb, hxf, hxg, hTR, hpl⟩ := HFY.out
                  obtain ⟨KA, kc, rfl, _⟩ := own_slice hTR.own
                  obtain ⟨kn, hkn⟩ : ∃ n, n = ps.length := ⟨_, rfl⟩
                  rw [← hkn] at hxg hTR hpl
                  have hdy := hDy.lt
                  have hgd : ¬ g3 = dd := by omega
                  have hgd1 : ¬ g3 + 1 = dd := by omega
                  have HC : Hid (∀ u, Kp (fun y => y = dd) wy u → AtCells [(⟨g3 + 1, 3, none⟩, .slice (some ⟨g3, 0, none⟩) 3 3), (⟨g3, 7, none⟩, .slice KA kn kc)] u) := Lib.hid fun u hu => ⟨(Lib.cell_of_heap (hu.heap hxf hgd1) 3).trans rfl, (Lib.cell_of_heap (hu.heap hxg hgd) 7).trans rfl, trivial⟩
                  have HDY := Lib.hid hDy
                  have HKY := Lib.hid hKy
                  have HXF := Lib.hid hxf
                  have HXG := Lib.hid hxg
                  have HTR := Lib.hid hTR
                  have HKN := Lib.hid hkn
                  have hgy : g3 + 1 < wy.heap.size := hfb
                  clear hDy hKy hxf hxg hTR hkn
                  refine wp_region_mstab (fun u => (DiceAt u dd xs ∧ Kp (fun y => y = dd) wy u) ∧ AtCells [(⟨g3 + 1, 3, none⟩, .slice (some ⟨g3, 0, none⟩) 3 3), (⟨g3, 7, none⟩, .slice KA kn kc)] u) (fun u v => Kp (fun y => y = dd) u v) (argPhi wy.heap.size dd) [(true, 0), (true, 1), (true, 2), (true, 3), (true, 4), (true, 5), (true, 11)] [(6, 73), (7, 74), (8, 75), (9, 76), (10, 77), (12, 79)] [13, 14, 15, 16] (by kernel_rfl) (by kernel_rfl) (by kernel_rfl) (fun _ => Kp.refl _ _) (fun _ _ _ h h' => h.one h') argPhi_go ?sn ?hn
                  case sn => exact ⟨⟨HDY.out.below (Below.refl _ wy).drew, (Kp.refl _ _).drew⟩, HC.out _ (Kp.refl _ _).drew⟩
                  case hn =>
                  simp only [mixAt, List.filterMap_cons, List.filterMap_nil, List.getElem?_toArray, List.getElem?_cons_succ, List.getElem?_cons_zero, Option.map_some]
                  refine wpMix_load ?vna0 rfl (fun w' hS => ?yna0) ?kna0
                  case yna0 =>
                    obtain ⟨⟨_, _⟩, g0, g1, _⟩ := hS
                    go_simp
                    try rfl
                  case kna0 =>
                  go_simp
                  refine wpMix_load ?vna1 rfl (fun w' hS => ?yna1) ?kna1
                  case yna1 =>
                    obtain ⟨⟨_, _⟩, g0, g1, _⟩ := hS
                    go_simp
                    try rfl
                  case kna1 =>
                  go_simp
                  refine wpMix_load ?vna2 rfl (fun w' hS => ?yna2) ?kna2
                  case yna2 =>
                    obtain ⟨⟨_, _⟩, g0, g1, _⟩ := hS
                    go_simp
                    try rfl
                  case kna2 =>
                  go_simp
                  refine wpMix_load ?vna3 rfl (fun w' hS => ?yna3) ?kna3
                  case yna3 =>
                    obtain ⟨⟨_, _⟩, g0, g1, _⟩ := hS
                    go_simp
                    try rfl
                  case kna3 =>
                  go_simp
                  refine wpMix_load ?vna4 rfl (fun w' hS => ?yna4) ?kna4
                  case yna4 =>
                    obtain ⟨⟨_, _⟩, g0, g1, _⟩ := hS
                    go_simp
                    try rfl
                  case kna4 =>
                  go_simp
                  refine wpMix_load ?vna5 rfl (fun w' hS => ?yna5) ?kna5
                  case yna5 =>
                    obtain ⟨⟨_, _⟩, g0, g1, _⟩ := hS
                    go_simp
                    try rfl
                  case kna5 =>
                  go_simp
                  refine wpMix_load ?vna6 rfl (fun w' hS => ?yna6) ?kna6
                  case yna6 =>
                    obtain ⟨⟨_, _⟩, g0, g1, _⟩ := hS
                    go_simp
                    try rfl
                  case kna6 =>
                  go_simp
                  refine wpMix_nil ?_
                  refine ⟨?sz, ?st, ?fin⟩
                  case sz =>
                    intro x hx
                    simp only [List.mem_cons, List.not_mem_nil, or_false] at hx
                    rcases hx with rfl | rfl | rfl | rfl | rfl | rfl <;> simp
                  case st =>
                    have hkS : ∀ u u' : World, Kp (fun y => y = dd) u u' → DiceAt u' dd xs → ((DiceAt u dd xs ∧ Kp (fun y => y = dd) wy u) ∧ AtCells [(⟨g3 + 1, 3, none⟩, .slice (some ⟨g3, 0, none⟩) 3 3), (⟨g3, 7, none⟩, .slice KA kn kc)] u) → ((DiceAt u' dd xs ∧ Kp (fun y => y = dd) wy u') ∧ AtCells [(⟨g3 + 1, 3, none⟩, .slice (some ⟨g3, 0, none⟩) 3 3), (⟨g3, 7, none⟩, .slice KA kn kc)] u') := fun u u' h hd h0 => ⟨⟨hd, h0.1.2.one h⟩, HC.out _ (h0.1.2.one h)⟩
                    have HKS := Lib.hid hkS
                    clear hkS
                    intro x0 hx
                    simp only [List.mem_cons, List.not_mem_nil, or_false] at hx
                    rcases hx with rfl | rfl | rfl | rfl | rfl | rfl
                    · intro a' w7 K hI hK'
                      have hS := hI.hold
                      have hK : ∀ v w', Kp (fun y => y = dd) w7 w' → _ → (∃ b, v = .slice (some ⟨b, 0, none⟩) 2 2 ∧ w'.heap[b]? = some (.cells #[.string ⟨#[105, 110, 116]⟩, .string ⟨#[98, 111, 111, 108]⟩] 9 (0, 0)) ∧ wy.heap.size ≤ b ∧ dd < wy.heap.size) → K (a'.put (some 73) v) w' := hK'
                      have hsz := hS.1.2.size
                      have hk7 : Kp (fun y => y = dd) w7 (w7.alloc (.cells #[.string ⟨#[105, 110, 116]⟩, .string ⟨#[98, 111, 111, 108]⟩] 9)) := (Kp.refl _ _).alloc _
                      have ha7 := alloc1 w7 (.cells #[.string ⟨#[105, 110, 116]⟩, .string ⟨#[98, 111, 111, 108]⟩] 9)
                      clear hI hK'
                      refine wpOp_go rfl rfl ?_
                      go_simp
                      exact hK _ _ hk7 (HKS.out _ _ hk7 (hS.1.1.below ((Below.refl _ _).alloc (Nat.le_refl _) _)) hS) ⟨_, rfl, ha7, hsz, hdy⟩
                    · intro a' w7 K hI hK'
                      have hS := hI.hold
                      have e72 := hI.old 72 _ rfl (by decide)
                      obtain ⟨v6, e73, hv6⟩ := hI.new (6, 73) (by decide) (by kernel_rfl)
                      obtain ⟨b6, rfl, hb6, hl6, _⟩ : ∃ b, v6 = .slice (some ⟨b, 0, none⟩) 2 2 ∧ w7.heap[b]? = some (.cells #[.string ⟨#[105, 110, 116]⟩, .string ⟨#[98, 111, 111, 108]⟩] 9 (0, 0)) ∧ wy.heap.size ≤ b ∧ dd < wy.heap.size := hv6
                      have hK : ∀ v w', Kp (fun y => y = dd) w7 w' → _ → (∃ x : List UInt8, v = sv x ∧ x.length ≤ 10) → K (a'.put (some 74) v) w' := hK'
                      have HOF := Lib.hid (of_any [[105, 110, 116], [98, 111, 111, 108]] (some ⟨b6, 0, none⟩) 2 dd xs w7 (by decide) (by decide) hS.1.1 (row_heap hb6 rfl ⟨lt_of_heap hb6, by omega⟩))
                      clear hI hK' hb6
                      refine wpOp_go rfl rfl ?_
                      go_simp
                      refine HOF.out.mono ?_
                      rintro e w8 ⟨x, hx, rfl, hD8, hK8⟩
                      exact hK _ _ hK8 (HKS.out _ _ hK8 hD8 hS) ⟨x, rfl, by
                        simp at hx
                        rcases hx with rfl | rfl <;> decide⟩
                    · intro a' w7 K hI hK'
                      have hS := hI.hold
                      obtain ⟨v7, e74, hv7⟩ := hI.new (7, 74) (by decide) (by kernel_rfl)
                      obtain ⟨x, rfl, hxl⟩ : ∃ x : List UInt8, v7 = sv x ∧ x.length ≤ 10 := hv7
                      have hK : ∀ v w', Kp (fun y => y = dd) w7 w' → _ → (∃ x : List UInt8, v = .agg #[.int .i64 15, sv x, .int .i64 0, .slice none 0 0] ∧ x.length ≤ 10) → K (a'.put (some 75) v) w' := hK'
                      clear hI hK'
                      refine wpOp_go rfl rfl ?_
                      go_simp
                      exact hK _ _ (Kp.refl _ _) hS ⟨x, rfl, hxl⟩
                    · intro a' w7 K hI hK'
                      have hS := hI.hold
                      obtain ⟨v8, e75, hv8⟩ := hI.new (8, 75) (by decide) (by kernel_rfl)
                      obtain ⟨x, rfl, hxl⟩ : ∃ x : List UInt8, v8 = .agg #[.int .i64 15, sv x, .int .i64 0, .slice none 0 0] ∧ x.length ≤ 10 := hv8
                      have hK : ∀ v w', Kp (fun y => y = dd) w7 w' → _ → (∃ (b : Nat) (x : List UInt8), v = .slice (some ⟨b, 0, none⟩) 1 1 ∧ w'.heap[b]? = some (.cells #[.int .i64 15, sv x, .int .i64 0, .slice none 0 0] 25 (0, 0)) ∧ x.length ≤ 10 ∧ wy.heap.size ≤ b ∧ dd < wy.heap.size) → K (a'.put (some 76) v) w' := hK'
                      have hsz := hS.1.2.size
                      have hk7 : Kp (fun y => y = dd) w7 (w7.alloc (.cells #[.int .i64 15, sv x, .int .i64 0, .slice none 0 0] 25)) := (Kp.refl _ _).alloc _
                      have ha7 := alloc1 w7 (.cells #[.int .i64 15, sv x, .int .i64 0, .slice none 0 0] 25)
                      clear hI hK'
                      refine wpOp_go rfl rfl ?_
                      go_simp
                      exact hK _ _ hk7 (HKS.out _ _ hk7 (hS.1.1.below ((Below.refl _ _).alloc (Nat.le_refl _) _)) hS) ⟨_, x, rfl, ha7, hxl, hsz, hdy⟩
                    · intro a' w7 K hI hK'
                      have hS := hI.hold
                      obtain ⟨v9, e76, hv9⟩ := hI.new (9, 76) (by decide) (by kernel_rfl)
                      obtain ⟨b9, x, rfl, hb9, hxl, hl9, _⟩ : ∃ (b : Nat) (x : List UInt8), v9 = .slice (some ⟨b, 0, none⟩) 1 1 ∧ w7.heap[b]? = some (.cells #[.int .i64 15, sv x, .int .i64 0, .slice none 0 0] 25 (0, 0)) ∧ x.length ≤ 10 ∧ wy.heap.size ≤ b ∧ dd < wy.heap.size := hv9
                      have hK : ∀ v w', Kp (fun y => y = dd) w7 w' → _ → (∃ (b : Nat) (x : List UInt8), v = .agg #[.int .i64 13, .string ⟨#[120]⟩, .int .i64 0, .slice (some ⟨b, 0, none⟩) 1 1] ∧ w'.heap[b]? = some (.cells #[.int .i64 15, sv x, .int .i64 0, .slice none 0 0] 25 (0, 0)) ∧ x.length ≤ 10 ∧ wy.heap.size ≤ b ∧ dd < wy.heap.size) → K (a'.put (some 77) v) w' := hK'
                      clear hI hK'
                      refine wpOp_go rfl rfl ?_
                      go_simp
                      exact hK _ _ (Kp.refl _ _) hS ⟨b9, x, rfl, hb9, hxl, hl9, hdy⟩
                    · intro a' w7 K hI hK'
                      have hS := hI.hold
                      have hK : ∀ v w', Kp (fun y => y = dd) w7 w' → _ → (∃ b, v = .slice (some ⟨b, 0, none⟩) 1 1 ∧ w'.heap[b]? = some (.cells #[.int .i64 0, .string ⟨#[]⟩, .int .i64 0, .slice none 0 0] 25 (0, 0)) ∧ wy.heap.size ≤ b ∧ dd < wy.heap.size) → K (a'.put (some 79) v) w' := hK'
                      have hsz := hS.1.2.size
                      have hk7 : Kp (fun y => y = dd) w7 (w7.alloc (.cells #[.int .i64 0, .string ⟨#[]⟩, .int .i64 0, .slice none 0 0] 25)) := (Kp.refl _ _).alloc _
                      have ha7 := alloc1 w7 (.cells #[.int .i64 0, .string ⟨#[]⟩, .int .i64 0, .slice none 0 0] 25)
                      clear hI hK'
                      refine wpOp_go rfl rfl ?_
                      go_simp
                      exact hK _ _ hk7 (HKS.out _ _ hk7 (hS.1.1.below ((Below.refl _ _).alloc (Nat.le_refl _) _)) hS) ⟨_, rfl, ha7, hsz, hdy⟩
                  case fin =>
                    intro vs w6 _ hS6 hΦ
                    obtain ⟨b10, x3, e10, hb10, hx3l, hl10, _⟩ : ∃ (b : Nat) (x : List UInt8), vs 10 = .agg #[.int .i64 13, .string ⟨#[120]⟩, .int .i64 0, .slice (some ⟨b, 0, none⟩) 1 1] ∧ w6.heap[b]? = some (.cells #[.int .i64 15, sv x, .int .i64 0, .slice none 0 0] 25 (0, 0)) ∧ x.length ≤ 10 ∧ wy.heap.size ≤ b ∧ dd < wy.heap.size := hΦ (10, 77) (by decide)
                    obtain ⟨b12, e12, hb12, hl12, _⟩ : ∃ b, vs 12 = .slice (some ⟨b, 0, none⟩) 1 1 ∧ w6.heap[b]? = some (.cells #[.int .i64 0, .string ⟨#[]⟩, .int .i64 0, .slice none 0 0] 25 (0, 0)) ∧ wy.heap.size ≤ b ∧ dd < wy.heap.size := hΦ (12, 79) (by decide)
                    simp only [putD, e10, e12]
                    clear e10 e12 hΦ
                    generalize vs 6 = a6
                    generalize vs 7 = a7
                    generalize vs 8 = a8
                    generalize vs 9 = a9
                    clear vs
                    have hk6 := hS6.1.2
                    have hTR6 := HTR.out.kp hk6 (fun y hy e => by omega) (fun gg hg e => by have := (HTR.out.own.lt gg hg).1; omega)
                    have hown6 := hTR6.own
                    rw [← HKN.out] at hown6
                    have hrl := HTR.out.own.lt
                    have hy6 := hk6.size
                    have hxf6 := hk6.heap HXF.out hgd1
                    have hxg6 := hk6.heap HXG.out hgd
                    have HD6 := Lib.hid hS6.1.1
                    have HK6 := Lib.hid (HKY.out.one hk6)
                    have HB10 := Lib.hid hb10
                    obtain ⟨i0, hi, hz0, hz1, hz2⟩ := info_parts infoTr
                    clear hS6 hk6 hb10
                    go_simp
                    simp only [opsAt, List.filterMap_cons, List.filterMap_nil, List.getElem?_toArray, List.getElem?_cons_succ, List.getElem?_cons_zero]
                    refine (wpList_append_row rfl _ _ 23 rfl (g3 + 1 + 1) 25 i0 _ 4 56 Try.underlying23 hi hz0 hz1 hz2 rfl (by omega) (.slice KA kn kc) kn (flt trC ps) rfl hown6 (fun y => y = b12) (some ⟨b12, 0, none⟩) 1 1 [.int .i64 0, .string ⟨#[]⟩, .int .i64 0, .slice none 0 0] rfl rfl (row_heap hb12 rfl rfl) (fun u hu => by simp only [List.mem_cons, List.not_mem_nil, or_false] at hu; rcases hu with rfl | rfl | rfl | rfl <;> rfl) (by unfold maxLen; omega) (by omega) (by omega) ?_)
                    intro v5 u5 hown5 hg5 hat5
                    obtain ⟨g5, c5, rfl⟩ : ∃ g c, v5 = .slice (some ⟨g, 0, none⟩) (kn + 1) c := by
                      rcases hown5.2 with ⟨_, h0⟩ | ⟨g, cap, cur, hv, _⟩
                      · omega
                      · exact ⟨g, cap, hv⟩
                    have hTR5 := hTR6.push (p := trZ) (trZ_is _ _) (by rw [← HKN.out]; exact hown5) hg5 hat5
                    have hk5 : Kp (fun y => (Value.slice KA kn kc).ownBlock = some y) w6 u5 := (Kp.refl _ _).grown hg5 fun r hr _ => hr
                    have hxf5 := hk5.heap hxf6 fun e => by have := (hrl _ e).1; omega
                    have hxg5 := hk5.heap hxg6 fun e => by have := (hrl _ e).1; omega
                    have hb10' := hk5.heap HB10.out fun e => by have := (hrl _ e).2; omega
                    have hD5 := HD6.out.keep hk5 fun y e => by have := (hrl _ e).1; omega
                    have hK5 : Kp (fun y => y = dd) wo u5 := HK6.out.trans (hk5.more (M' := fun y => wo.heap.size ≤ y) fun y _ e => by have := (hrl _ e).1; omega) fun y hy e => by omega
                    have hsz5 := hk5.size
                    have hrl5 := hTR5.own.lt g5 rfl
                    have hne10 : ¬ b10 = g5 := fun e => by
                      subst e
                      rcases hat5 with h | h
                      · have : b10 < wy.heap.size := (hrl _ h.symm).2
                        omega
                      · have h2 : b10 = w6.heap.size := by injection h
                        have := lt_of_heap HB10.out
                        omega
                    have hcg5 : u5.cell? ⟨g3, 7, none⟩ = some (.slice KA kn kc) := (Lib.cell_of_heap hxg5 7).trans rfl
                    have hfg5 : u5.frozen? ⟨g3, 7, none⟩ = false := Lib.frozen_of_heap hxg5 7
                    have hks : Kp (fun y => y = g3) u5 (u5.setCell ⟨g3, 7, none⟩ (.slice (some ⟨g5, 0, none⟩) (kn + 1) c5)) := Kp.setCell (M := fun y => y = g3) (o := 7) (Kp.refl _ u5) (fun _ => rfl) _
                    have hxgS := set_one (o := 7) (v := .slice (some ⟨g5, 0, none⟩) (kn + 1) c5) (cs' := #[.int .i64 10, .string ⟨#[]⟩, .int .i64 0, .slice none 0 0, .int .i64 12, .string ⟨#[]⟩, .int .i64 0, .slice (some ⟨g5, 0, none⟩) (kn + 1) c5, .int .i64 15, sv x2, .int .i64 0, .slice none 0 0]) hxg5 rfl
                    obtain ⟨u7, hu7⟩ : ∃ u7, u7 = u5.setCell ⟨g3, 7, none⟩ (.slice (some ⟨g5, 0, none⟩) (kn + 1) c5) := ⟨_, rfl⟩
                    rw [← hu7] at hks hxgS
                    have hTR7 := hTR5.kp hks (fun y hy e => by omega) (fun gg hg e => by have := (hTR5.own.lt gg hg).1; omega)
                    have hown7 := hTR7.own
                    rw [show (ps ++ [trZ]).length = kn + 1 by rw [List.length_append, ← HKN.out]; rfl, flt_append, flt_one] at hown7
                    have hfl : kn * 4 = (flt trC ps).length := by rw [flt_length trC_len, ← HKN.out]
                    have hrow7 : Row u7 (fun _ => True) (some ⟨g5, 0, none⟩) (flt trC (ps ++ [trZ])) := by
                      have h := hTR7.own
                      rw [show (ps ++ [trZ]).length = kn + 1 by rw [List.length_append, ← HKN.out]; rfl] at h
                      exact Row.ofOwn h fun _ _ _ _ => trivial
                    obtain ⟨ad7, had7, _, z0, z1, z2, z3⟩ := tr_at (ps := ps ++ [trZ]) (p := trZ) (i := kn) hrow7 (by rw [HKN.out]; simp)
                    obtain rfl := Option.some.inj had7
                    have hadd := addZero g5 (kn * 4)
                    rw [hadd] at z0 z1 z2 z3
                    have z0 : u7.cell? ⟨g5, kn * 4, none⟩ = some (.int .i64 0) := z0
                    have z1 : u7.cell? ⟨g5, kn * 4 + 1, none⟩ = some (.string ⟨#[]⟩) := z1
                    have z2 : u7.cell? ⟨g5, kn * 4 + 2, none⟩ = some (.int .i64 0) := z2
                    have z3 : u7.cell? ⟨g5, kn * 4 + 3, none⟩ = some (.slice none 0 0) := z3
                    have hfz : ∀ i, u7.frozen? ⟨g5, i, none⟩ = false := by
                      rcases hown7.2 with ⟨hv, _⟩ | ⟨g, cap, cur, hv, _, hg, _⟩
                      · cases hv
                      · obtain ⟨e1, _, rfl⟩ := Value.slice.inj hv
                        obtain rfl : g5 = g := by injection e1 with e1; injection e1
                        exact fun i => Lib.frozen_of_heap hg i
                    have f0 := hfz (kn * 4)
                    have f1 := hfz (kn * 4 + 1)
                    have f2 := hfz (kn * 4 + 2)
                    have f3 := hfz (kn * 4 + 3)
                    have hown7 : u7.ownsRow (g3 + 1 + 1) 25 4 (.slice (some ⟨g5, 0, none⟩) (kn + 1) c5) (kn + 1) (flt trC ps ++ [.int .i64 0, .string ⟨#[]⟩, .int .i64 0, .slice none 0 0]) := hown7
                    have hown8 := own_set (i := kn * 4 + 3) (.slice (some ⟨b10, 0, none⟩) 1 1) (own_set (i := kn * 4 + 2) (.int .i64 0) (own_set (i := kn * 4 + 1) (.string ⟨#[120]⟩) (own_set (i := kn * 4) (.int .i64 13) hown7)))
                    rw [set_end hfl] at hown8
                    have hk8 : Kp (fun y => (Value.slice (some ⟨g5, 0, none⟩) (kn + 1) c5).ownBlock = some y) u7 ((((u7.setCell ⟨g5, kn * 4, none⟩ (.int .i64 13)).setCell ⟨g5, kn * 4 + 1, none⟩ (.string ⟨#[120]⟩)).setCell ⟨g5, kn * 4 + 2, none⟩ (.int .i64 0)).setCell ⟨g5, kn * 4 + 3, none⟩ (.slice (some ⟨b10, 0, none⟩) 1 1)) :=
                      (((Kp.setCell (M := fun y => (Value.slice (some ⟨g5, 0, none⟩) (kn + 1) c5).ownBlock = some y) (b := g5) (o := kn * 4) (Kp.refl _ u7) (fun _ => rfl) _).setCell (b := g5) (o := kn * 4 + 1) (fun _ => rfl) _).setCell (b := g5) (o := kn * 4 + 2) (fun _ => rfl) _).setCell (b := g5) (o := kn * 4 + 3) (fun _ => rfl) _
                    obtain ⟨u8, hu8⟩ : ∃ u8, u8 = ((((u7.setCell ⟨g5, kn * 4, none⟩ (.int .i64 13)).setCell ⟨g5, kn * 4 + 1, none⟩ (.string ⟨#[120]⟩)).setCell ⟨g5, kn * 4 + 2, none⟩ (.int .i64 0)).setCell ⟨g5, kn * 4 + 3, none⟩ (.slice (some ⟨b10, 0, none⟩) 1 1)) := ⟨_, rfl⟩
                    rw [← hu8] at hown8 hk8
                    have hb107 := hks.heap hb10' (by omega)
                    have hp7 : TrIs u7 (fun y => g3 + 1 < y ∧ y < u7.heap.size ∧ some y ≠ (Value.slice (some ⟨g5, 0, none⟩) (kn + 1) c5).ownBlock) (.mk 13 [120] 0 [.mk 15 x3 0 []]) (.slice (some ⟨b10, 0, none⟩) 1 1) := one_kid (.mk 15 x3 0 [], .slice none 0 0) hb107 (tr_leaf _ _ _ _ _ ⟨by decide, by decide⟩ ⟨by decide, by decide⟩ (by omega)) ⟨by omega, lt_of_heap hb107, fun e => hne10 (by injection e)⟩ 13 0 [120] ⟨by decide, by decide⟩ ⟨by decide, by decide⟩ (by simp)
                    have hTR8 := TRow.last (p := (.mk 13 [120] 0 [.mk 15 x3 0 []], .slice (some ⟨b10, 0, none⟩) 1 1)) hTR7 hk8 hp7 (by rw [← HKN.out]; exact hown8)
                    have hg5b := hrl5.1
                    have hgn : ∀ y, (Value.slice (some ⟨g5, 0, none⟩) (kn + 1) c5).ownBlock = some y → g5 = y := fun y e => by injection e
                    have hD8 : DiceAt u8 dd xs := (hD5.keep hks fun y e => by omega).keep hk8 fun y e => by
                      have := hgn y e
                      omega
                    have hK8 : Kp (fun y => y = dd) wo u8 := (hK5.trans (hks.more (M' := fun y => wo.heap.size ≤ y) fun y _ e => by omega) fun y hy e => by omega).trans (hk8.more (M' := fun y => wo.heap.size ≤ y) fun y _ e => by
                      have := hgn y e
                      omega) fun y hy e => by omega
                    have hx8 := hk8.heap (hks.heap hxf5 (by omega)) fun e => by
                      have := hgn _ e
                      omega
                    have hy8 := hk8.heap hxgS fun e => by
                      have := hgn _ e
                      omega
                    have HF8 : Hid (FSt xs wo dd g3 (g3 + 1) x1 x2 k20 (r - 1) u8) := Lib.hid ⟨hD8, hK8, .slice (some ⟨g5, 0, none⟩) (kn + 1) c5, ps ++ [(.mk 13 [120] 0 [.mk 15 x3 0 []], .slice (some ⟨b10, 0, none⟩) 1 1)], by have := hks.size; have := hk8.size; omega, hx8, hy8, hTR8, by rw [List.length_append, ← HKN.out]; simp; omega⟩
                    have HU7 := Lib.hid hu7
                    have HU8 := Lib.hid hu8
                    have hknd : (0 : Int) ≤ (kn : Int) ∧ (kn : Int) < ((kn + 1 : Nat) : Int) := ⟨by omega, by omega⟩
                    rw [hu7] at z0 z1 z2 z3 f0 f1 f2 f3
                    clear hu7 hu8 hown8 hk8 hb107 hp7 hTR8 hg5b hgn hD8 hK8 hx8 hy8 hown7 hfz hrow7 hTR7 hks hxgS hTR5 hk5 hxf5 hxg5 hb10' hD5 hK5 hrl5 hne10 hown5 hg5 hat5 hTR6 hown6 hrl hxf6 hxg6 HD6 HK6 HB10 HC HDY HKY HXF HXG HTR HFY HF hfl
                    go_wp2_with fail
                    refine NoPanic.normal ?_
                    go_wp2_with fail
                    rw [← HU7.out, ← HU8.out]
                    exact ⟨⟨r - 1, by omega, by go_num, HF8.out⟩, by simp [intOf]; omega⟩
              · have hr00 : r = 0 := by omega
                subst hr00
                obtain ⟨hDy, hKy, kv, ps, hfb, hxf, hxg, hTR, hpl⟩ := HF.out
                obtain ⟨KA, kc, rfl, _⟩ := own_slice hTR.own
                obtain ⟨kn, hkn⟩ : ∃ n, n = ps.length := ⟨_, rfl⟩
                rw [← hkn] at hxg hTR hpl
                obtain ⟨XA, xn, xc, xps, hxn, hxb, hXR, hxl, hxne⟩ := HX.out
                have HXNE := Lib.hid hxne
                have hzd := HZX.out
                have hxbo := lt_of_heap hxb
                have hxlo := hXR.own.lt
                have hxbr := hKy.heap hxb (by omega)
                have hXRr := hXR.kp hKy (fun y hy e => hy.1 e) fun gg hg e => by have := (hxlo gg hg).1; omega
                have hf2 : TrIs wr (fun y => g3 ≤ y ∧ y < wr.heap.size) (.mk 12 [] 0 (ps.map (·.1))) (.slice KA kn kc) := hTR.tree hkn 12 0 [] ⟨by decide, by decide⟩ ⟨by decide, by decide⟩ (by simp) (by omega) _ (fun y h1 h2 => ⟨by omega, h2⟩) fun y h1 h2 => ⟨by omega, h2⟩
                have hfi : TrIs wr (fun y => g3 ≤ y ∧ y < wr.heap.size) (.mk 4 x1 k20 [.mk 10 [] 0 [], .mk 12 [] 0 (ps.map (·.1)), .mk 15 x2 0 []]) (.slice (some ⟨g3, 0, none⟩) 3 3) :=
                  three_kids (.mk 10 [] 0 [], .slice none 0 0) (.mk 12 [] 0 (ps.map (·.1)), .slice KA kn kc) (.mk 15 x2 0 [], .slice none 0 0) hxg (tr_leaf _ _ _ _ _ ⟨by decide, by decide⟩ ⟨by decide, by decide⟩ (by simp)) hf2 (tr_leaf _ _ _ _ _ ⟨by decide, by decide⟩ ⟨by decide, by decide⟩ (by omega)) ⟨Nat.le_refl _, by omega⟩ 4 k20 x1 ⟨by decide, by decide⟩ ⟨by omega, by omega⟩ (by omega)
                have y0 : wr.cell? ⟨g3 + 1, 0, none⟩ = some (.int .i64 4) := (Lib.cell_of_heap hxf 0).trans rfl
                have y1 : wr.cell? ⟨g3 + 1, 1, none⟩ = some (sv x1) := (Lib.cell_of_heap hxf 1).trans rfl
                have y2 : wr.cell? ⟨g3 + 1, 2, none⟩ = some (.int .i64 (k20 : Int)) := (Lib.cell_of_heap hxf 2).trans rfl
                have y3 : wr.cell? ⟨g3 + 1, 3, none⟩ = some (.slice (some ⟨g3, 0, none⟩) 3 3) := (Lib.cell_of_heap hxf 3).trans rfl
                have k3c : wr.cell? ⟨zx + 1, 3, none⟩ = some (.slice XA xn xc) := (Lib.cell_of_heap hxbr 3).trans rfl
                have hxw : zx + 1 < wr.heap.size := lt_of_heap hxbr
                have hbd : Below wr.heap.size wr (wr.alloc (.cells #[.int .i64 4, sv x1, .int .i64 (k20 : Int), .slice (some ⟨g3, 0, none⟩) 3 3] 25)) := (Below.refl _ _).alloc (Nat.le_refl _) _
                have HSr := Lib.hid ((HS.out.step hDy hKy).below hbd)
                have hkd := Kp.ofBelow (M := fun _ => False) hbd
                have hXRd := hXRr.kp hkd (fun _ _ e => e) fun _ _ e => e
                have HXBd := Lib.hid (hkd.heap hxbr fun e => e)
                have hownd := hXRd.own
                rw [← hxn] at hownd
                have HOWN := Lib.hid hownd
                have HNEW := Lib.hid (World.news_of_block (cs := #[.int .i64 4, sv x1, .int .i64 (k20 : Int), .slice (some ⟨g3, 0, none⟩) 3 3]) (alloc1 wr (.cells #[.int .i64 4, sv x1, .int .i64 (k20 : Int), .slice (some ⟨g3, 0, none⟩) 3 3] 25)))
                have hown3 := hfi.keep (kept_below hbd |>.sub fun y hy => hy.2)
                have HP := Lib.hid (hown3.more (S' := fun y => (y ≠ dd ∧ y ≠ zx + 1) ∧ y < (wr.alloc (.cells #[.int .i64 4, sv x1, .int .i64 (k20 : Int), .slice (some ⟨g3, 0, none⟩) 3 3] 25)).heap.size ∧ some y ≠ (Value.slice XA xn xc).ownBlock) fun y hy => ⟨⟨by omega, by omega⟩, Nat.lt_of_lt_of_le hy.2 hbd.size, fun e => by have := (hxlo y e.symm).2; omega⟩)
                have HXR := Lib.hid hXRd
                have HXN := Lib.hid hxn
                obtain ⟨i0, hi, hz0, hz1, hz2⟩ := info_parts infoTr
                have hxlr := hXRr.own.lt
                have HQ := Lib.hid (And.intro hxl hpl)
                have hxn5 : xn ≤ 5 := by omega
                clear hDy hKy hxf hxg hTR hpl hkn hxb hXR hxbr hXRr hf2 hfi hbd hkd hXRd hownd hown3 hxn hxl hxlo HF hxne
                go_wp2_with (at_builtin; go_loud (refine wpList_append_lies _ rfl _ _ 23 rfl zx 25 i0 _ 4 56 Try.underlying23 hi hz0 hz1 hz2 rfl (by omega) (.slice XA xn xc) xn (flt trC xps) rfl HOWN.out ⟨wr.heap.size, 0, none⟩ 1 1 [.int .i64 4, sv x1, .int .i64 (k20 : Int), .slice (some ⟨g3, 0, none⟩) 3 3] rfl rfl HNEW.out ?d2 (by omega) ?d3 ?d4 ?d5 _ rfl ?_))
                case d2 => first | exact ⟨rfl, rfl, rfl, rfl⟩ | exact rfl
                case d3 => unfold maxLen; omega
                case d4 => omega
                case d5 => first | omega | (simp; omega)
                rintro gg cap w7 hown7 hg7 hgd hglt
                have hXR7 := HXR.out.push (kv' := .slice (some ⟨gg, 0, none⟩) (xn + 1) cap) (p := (.mk 4 x1 k20 [.mk 10 [] 0 [], .mk 12 [] 0 (ps.map (·.1)), .mk 15 x2 0 []], .slice (some ⟨g3, 0, none⟩) 3 3)) HP.out (by rw [← HXN.out]; exact hown7) hg7 (hgd.elim (fun e => .inl e.symm) fun e => .inr (by rw [e]; simp [Value.ownBlock]))
                have hk7 : Kp (fun y => (Value.slice XA xn xc).ownBlock = some y) (wr.alloc (.cells #[.int .i64 4, sv x1, .int .i64 (k20 : Int), .slice (some ⟨g3, 0, none⟩) 3 3] 25)) w7 := (Kp.refl _ _).grown hg7 fun r hr _ => hr
                have hxb7 := hk7.heap HXBd.out fun e => HXNE.out _ e rfl
                have hS7 := HSr.out.past hk7 fun y e => by have := (HXR.out.own.lt y e).1; omega
                have hne7 : ∀ g, (Value.slice (some ⟨gg, 0, none⟩) (xn + 1) cap).ownBlock = some g → g ≠ zx + 1 := fun g e e2 => by
                  have e3 : gg = g := by injection e
                  rcases hgd with h | h
                  · exact HXNE.out gg h (by omega)
                  · first | omega | (simp at h; omega)
                have k3c : w7.cell? ⟨zx + 1, 3, none⟩ = some (.slice XA xn xc) := (Lib.cell_of_heap hxb7 3).trans rfl
                have f3c : w7.frozen? ⟨zx + 1, 3, none⟩ = false := Lib.frozen_of_heap hxb7 3
                have hks : Kp (fun y => y = zx + 1) w7 (w7.setCell ⟨zx + 1, 3, none⟩ (.slice (some ⟨gg, 0, none⟩) (xn + 1) cap)) := Kp.setCell (M := fun y => y = zx + 1) (o := 3) (Kp.refl _ w7) (fun _ => rfl) _
                have hxb8 := set_one (o := 3) (v := .slice (some ⟨gg, 0, none⟩) (xn + 1) cap) (cs' := #[.int .i64 7, .string ⟨#[97, 58, 58, 83]⟩, .int .i64 (k5 : Int), .slice (some ⟨gg, 0, none⟩) (xn + 1) cap]) hxb7 rfl
                have HX8 : Hid (XSt dd zx (zx + 1) (k5 : Int) (q - 1) (w7.setCell ⟨zx + 1, 3, none⟩ (.slice (some ⟨gg, 0, none⟩) (xn + 1) cap))) := Lib.hid ⟨_, xn + 1, cap, _, by rw [List.length_append, ← HXN.out]; rfl, hxb8, hXR7.kp hks (fun y hy e => hy.2 e) (fun g hg e => hne7 g hg e), by rw [List.length_append, ← HXN.out]; have := HQ.out.1; rw [← HXN.out] at this; simp; omega, hne7⟩
                have HS8 : Hid (LwSt w0 dd xs (w7.setCell ⟨zx + 1, 3, none⟩ (.slice (some ⟨gg, 0, none⟩) (xn + 1) cap))) := Lib.hid (hS7.past hks fun y e => by omega)
                clear hown7 hg7 hgd hXR7 hk7 hxb7 hS7 hne7 hks hxb8
                go_wp2_with fail
                first | go_roundw | refine ⟨?rel, ?measure⟩
                case rel => exact ⟨q - 1, by omega, by go_num, HS8.out, HX8.out⟩
                case measure => simp [intOf]; omega
          · clear hf hA
            have hq00 : q = 0 := by omega
            subst hq00
            obtain ⟨w5, hw5⟩ : ∃ w5, w5 = wr := ⟨_, rfl⟩
            rw [← hw5] at HS HX ⊢
            clear hw5
            have hd5 := HS.out.dice.lt
            go_wp2_with fail
            have HN4 := Lib.hid (next_any 4 dd xs w5 (by decide) (by decide) HS.out.dice)
            refine HN4.out.mono ?_
            rintro e w6 ⟨k6, hk6, rfl, hD6, hK6⟩
            have HD6 := Lib.hid hD6
            have HK6 := Lib.hid hK6
            clear hD6 hK6 HN4
            go_wp2_with fail
            go_loopw [13, 12] (fun i mv wr => ∃ (q : Nat) (l' : List Kn) (qs' : List KnV), q < 4 ∧ i = .int .i64 q ∧ DiceAt wr dd xs ∧ Kp (fun y => y = dd) w5 wr ∧ KRow wr w5.heap.size (fun y => y ≠ dd) mv l' qs' ∧ l'.length + q ≤ 3) (fun i _ _ => (intOf i).toNat)
            case atStart => exact ⟨k6, [], [], hk6, rfl, HD6.out, HK6.out, KRow.none _ _ _, by simp; omega⟩
            case round =>
              obtain ⟨p, l', qs', hp4, rfl, hD, hKw, hKR, hlq⟩ := hrel
              obtain ⟨MA, mc, rfl, _⟩ := own_slice hKR.own
              have HD := Lib.hid hD
              have HKW := Lib.hid hKw
              have HKR := Lib.hid hKR
              obtain ⟨mn, hmn⟩ : ∃ n, n = qs'.length := ⟨_, rfl⟩
              have hml := hKR.len
              rw [← hmn] at hml HKR ⊢
              have HMN := Lib.hid hmn
              have HML := Lib.hid hml
              clear hD hKw hKR hmn HD6 HK6 hml
              by_cases hp0 : 0 < p
              ·
                obtain ⟨wo, hwo⟩ : ∃ wo, wo = wr := ⟨_, rfl⟩
                rw [← hwo] at HD HKW HKR ⊢
                clear hwo
                have hdo := HD.out.lt
                have HO1 := Lib.hid (of_any [[105, 110, 116], [36, 83, 101, 108, 102], [98, 111, 111, 108]] (some ⟨wo.heap.size, 0, none⟩) 3 dd xs _ (by decide) (by decide) (HD.out.below ((Below.refl _ _).alloc (Nat.le_refl _) _)) (row_lit wo #[.string ⟨#[105, 110, 116]⟩, .string ⟨#[36, 83, 101, 108, 102]⟩, .string ⟨#[98, 111, 111, 108]⟩] 9 [[105, 110, 116], [36, 83, 101, 108, 102], [98, 111, 111, 108]] rfl dd hdo))
                go_wp2_with fail
                refine HO1.out.mono ?_
                rintro e wa ⟨x1, hx1, rfl, hDa, hKa⟩
                have hx1l : x1.length ≤ 10 := by
                  simp at hx1
                  rcases hx1 with rfl | rfl | rfl <;> decide
                have hKa0 := ((Kp.refl (fun y => y = dd) wo).alloc (.cells #[.string ⟨#[105, 110, 116]⟩, .string ⟨#[36, 83, 101, 108, 102]⟩, .string ⟨#[98, 111, 111, 108]⟩] 9)).one hKa
                obtain ⟨wb, hwb⟩ : ∃ wb, wb = wa.alloc (.cells #[.int .i64 5, .slice none 0 0, .slice none 0 0, .slice none 0 0, sv x1, .slice none 0 0, .string ⟨#[]⟩] 39) := ⟨_, rfl⟩
                have hbb : Below wa.heap.size wa wb := by rw [hwb]; exact (Below.refl _ _).alloc (Nat.le_refl _) _
                have hxb : wb.heap[wa.heap.size]? = some (.cells #[.int .i64 5, .slice none 0 0, .slice none 0 0, .slice none 0 0, sv x1, .slice none 0 0, .string ⟨#[]⟩] 39 (0, 0)) := by rw [hwb]; exact alloc1 _ _
                have hoa : wo.heap.size ≤ wa.heap.size := hKa0.size
                have HKB := Lib.hid (hKa0.below hbb)
                have HDB := Lib.hid (hDa.below hbb)
                have HSB : Hid (SSt wa.heap.size x1 2 wb) := Lib.hid ⟨none, 0, 0, [], rfl, hxb, World.ownsRow_nil _ _ _ _, (fun x hx => by cases hx), by omega⟩
                have HWB := Lib.hid hwb
                clear hwb hbb hxb hDa hKa hKa0 hx1 HO1
                go_wp2_with fail
                rw [← HWB.out]
                have HN5 := Lib.hid (next_any 3 dd xs wb (by decide) (by decide) HDB.out)
                refine HN5.out.mono ?_
                rintro e wc ⟨k7, hk7, rfl, hDc, hKc⟩
                have HDC := Lib.hid hDc
                have HKC := Lib.hid (HKB.out.one hKc)
                have HSC := Lib.hid (HSB.out.kp hKc (by omega))
                clear hDc hKc HN5 HDB HKB HSB HWB
                obtain ⟨sb, hsb⟩ : ∃ s, s = wa.heap.size := ⟨_, rfl⟩
                rw [← hsb] at HSC hoa ⊢
                clear hsb
                go_wp2_with fail
                go_loopw [15] (fun i wr => ∃ q : Nat, q < 3 ∧ i = .int .i64 q ∧ DiceAt wr dd xs ∧ Kp (fun y => y = dd) wo wr ∧ SSt sb x1 q wr) (fun i _ => (intOf i).toNat)
                case atStart => exact ⟨k7, hk7, rfl, HDC.out, HKC.out, HSC.out.less (by omega)⟩
                case round =>
                  obtain ⟨r, hr3, rfl, hDr, hKr, hSr⟩ := hrel
                  have HDR := Lib.hid hDr
                  have HKR2 := Lib.hid hKr
                  have HSR := Lib.hid hSr
                  clear hDr hKr hSr HDC HKC HSC
                  by_cases hr0 : 0 < r
                  · go_wp2_with fail
                    obtain ⟨KA, kn, kc, ns, hkn, hxs, hons, hnl, hpl⟩ := HSR.out
                    have hdr := HDR.out.lt
                    have hdo2 : dd < wo.heap.size := hdo
                    have hsd : ¬ sb = dd := by omega
                    have HC : Hid (∀ u, Kp (fun y => y = dd) wr u → AtCells [(⟨sb, 3, none⟩, .slice KA kn kc)] u) := Lib.hid fun u hu => ⟨(Lib.cell_of_heap (hu.heap hxs hsd) 3).trans rfl, trivial⟩
                    have HXS := Lib.hid hxs
                    have HON := Lib.hid hons
                    have HKN := Lib.hid hkn
                    have HNL := Lib.hid hnl
                    have hsr : sb < wr.heap.size := lt_of_heap hxs
                    clear hxs hons hkn hnl
                    refine wp_region_mix (fun u => DiceAt u dd xs ∧ AtCells [(⟨sb, 3, none⟩, .slice KA kn kc)] u) [(true, 0), (true, 1), (true, 2), (false, 3), (false, 4), (true, 5), (false, 6)] [7, 8, 9] (by kernel_rfl) (by kernel_rfl) ?sm ?hm
                    case sm => exact ⟨HDR.out.below (Below.refl _ wr).drew, HC.out _ (Kp.refl _ _).drew⟩
                    case hm =>
                    simp only [mixAt, List.filterMap_cons, List.filterMap_nil, List.getElem?_toArray, List.getElem?_cons_succ, List.getElem?_cons_zero, Option.map_some]
                    refine wpMix_load ?vta0 rfl (fun w' hS => ?yta0) ?kta0
                    case yta0 =>
                      obtain ⟨_, g0, _⟩ := hS
                      go_simp
                      try rfl
                    case kta0 =>
                    go_simp
                    refine wpMix_load ?vta1 rfl (fun w' hS => ?yta1) ?kta1
                    case yta1 =>
                      obtain ⟨_, g0, _⟩ := hS
                      go_simp
                      try rfl
                    case kta1 =>
                    go_simp
                    refine wpMix_load ?vta2 rfl (fun w' hS => ?yta2) ?kta2
                    case yta2 =>
                      obtain ⟨_, g0, _⟩ := hS
                      go_simp
                      try rfl
                    case kta2 =>
                    go_simp
                    refine wpMix_keep rfl ?_
                    go_simp
                    obtain ⟨u1, hu1⟩ : ∃ u1, u1 = (wr.alloc (.cells #[.string ⟨#[105, 110, 116]⟩, .string ⟨#[36, 83, 101, 108, 102]⟩, .string ⟨#[98, 111, 111, 108]⟩] 9)).drew := ⟨_, rfl⟩
                    have hb1 : Below wr.heap.size wr u1 := by rw [hu1]; exact ((Below.refl _ _).alloc (Nat.le_refl _) _).drew
                    have hr1 : Row u1 (fun y => y < u1.heap.size ∧ y ≠ dd) (some ⟨wr.heap.size, 0, none⟩) ([[105, 110, 116], [36, 83, 101, 108, 102], [98, 111, 111, 108]].map sv) := by
                      rw [hu1]
                      exact row_lit wr #[.string ⟨#[105, 110, 116]⟩, .string ⟨#[36, 83, 101, 108, 102]⟩, .string ⟨#[98, 111, 111, 108]⟩] 9 [[105, 110, 116], [36, 83, 101, 108, 102], [98, 111, 111, 108]] rfl dd hdr
                    try rw [← hu1]
                    have hk1 := Kp.ofBelow (M := fun y => y = dd) hb1
                    refine ⟨⟨HDR.out.below hb1, HC.out _ hk1⟩, ?_⟩
                    have HOF := Lib.hid (of_any [[105, 110, 116], [36, 83, 101, 108, 102], [98, 111, 111, 108]] (some ⟨wr.heap.size, 0, none⟩) 3 dd xs u1 (by decide) (by decide) (HDR.out.below hb1) hr1)
                    have HK1 := Lib.hid hk1
                    clear hu1 hb1 hr1 hk1
                    refine wpMix_keep rfl ?_
                    go_wp2_with fail
                    refine HOF.out.mono ?_
                    rintro e u2 ⟨x3, hx3, rfl, hD2, hK2⟩
                    have hx3l : x3.length ≤ 10 := by
                      simp at hx3
                      rcases hx3 with rfl | rfl | rfl <;> decide
                    have hk2 := HK1.out.one hK2
                    refine ⟨⟨hD2, HC.out _ hk2⟩, ?_⟩
                    have HD2 := Lib.hid hD2
                    have HK2 := Lib.hid hk2
                    clear hD2 hK2 hk2 hx3 HOF HK1
                    refine wpMix_load ?vtb5 rfl (fun w' hS => ?ytb5) ?ktb5
                    case ytb5 =>
                      obtain ⟨_, g0, _⟩ := hS
                      go_simp
                      try rfl
                    case ktb5 =>
                    go_simp
                    refine wpMix_keep rfl ?_
                    go_simp
                    obtain ⟨u3, hu3⟩ : ∃ u3, u3 = u2.alloc (.cells #[sv x3, .slice none 0 0] 35) := ⟨_, rfl⟩
                    have hb3 : Below u2.heap.size u2 u3 := by rw [hu3]; exact (Below.refl _ _).alloc (Nat.le_refl _) _
                    have ha3 : u3.heap[u2.heap.size]? = some (.cells #[sv x3, .slice none 0 0] 35 (0, 0)) := by rw [hu3]; exact alloc1 _ _
                    try rw [← hu3]
                    have hk3 := HK2.out.below hb3
                    refine ⟨⟨HD2.out.below hb3, HC.out _ hk3⟩, ?_⟩
                    refine wpMix_nil ?_
                    have hy2 := HK2.out.size
                    have hs23 := hb3.size
                    have hrl := HON.out.lt
                    have hown3 := hk3.own HON.out fun gg hg e => by have := (hrl gg hg).1; omega
                    have HD3 := Lib.hid (HD2.out.below hb3)
                    have HK3 := Lib.hid hk3
                    have HXS3 := Lib.hid (hk3.heap HXS.out hsd)
                    obtain ⟨i0, hi, hz0, hz1, hz2⟩ := info_parts infoT
                    clear hu3 hb3 hk3 HD2 HK2
                    go_simp
                    simp only [opsAt, List.filterMap_cons, List.filterMap_nil, List.getElem?_toArray, List.getElem?_cons_succ, List.getElem?_cons_zero]
                    refine (wpList_append_row rfl _ _ 33 rfl (sb + 1) 35 i0 _ 2 40 Try.underlying33 hi hz0 hz1 hz2 rfl (by omega) (.slice KA kn kc) kn (flat2 (leafs ns)) rfl hown3 (fun y => y = u2.heap.size) (some ⟨u2.heap.size, 0, none⟩) 1 1 [sv x3, .slice none 0 0] rfl rfl (row_heap ha3 rfl rfl) (fun u hu => by simp only [List.mem_cons, List.not_mem_nil, or_false] at hu; rcases hu with rfl | rfl <;> rfl) (by unfold maxLen; omega) (by omega) (by omega) ?_)
                    intro v5 u5 hown5 hg5 hat5
                    obtain ⟨A5, c5, rfl, _⟩ := own_slice hown5
                    have hk5 : Kp (fun y => (Value.slice KA kn kc).ownBlock = some y) u3 u5 := (Kp.refl _ _).grown hg5 fun r hr _ => hr
                    have hxs5 := hk5.heap HXS3.out fun e => by have := (hrl _ e).1; omega
                    have hD5 := HD3.out.keep hk5 fun y e => by have := (hrl _ e).1; omega
                    have hK5 : Kp (fun y => y = dd) wo u5 := (HKR2.out.one HK3.out).trans (hk5.more (M' := fun y => wo.heap.size ≤ y) fun y _ e => by have := (hrl _ e).1; omega) fun y hy e => by omega
                    have hks : Kp (fun y => y = sb) u5 (u5.setCell ⟨sb, 3, none⟩ (.slice A5 (kn + 1) c5)) := Kp.setCell (M := fun y => y = sb) (o := 3) (Kp.refl _ u5) (fun _ => rfl) _
                    have hcs : u5.cell? ⟨sb, 3, none⟩ = some (.slice KA kn kc) := (Lib.cell_of_heap hxs5 3).trans rfl
                    have hfs : u5.frozen? ⟨sb, 3, none⟩ = false := Lib.frozen_of_heap hxs5 3
                    have HS6 : Hid (SSt sb x1 (r - 1) (u5.setCell ⟨sb, 3, none⟩ (.slice A5 (kn + 1) c5))) := Lib.hid ⟨A5, kn + 1, c5, ns ++ [x3], by rw [List.length_append, ← HKN.out]; rfl, set_one (o := 3) hxs5 rfl, hks.own (by rw [leafs, List.map_append, flat2_append]; exact hown5) (fun gg hg e => by have := (hown5.lt gg hg).1; omega), fun x hx => by
                      rcases List.mem_append.1 hx with h | h
                      · exact HNL.out x h
                      · rw [List.mem_singleton.1 h]
                        exact hx3l, by omega⟩
                    have HD6 : Hid (DiceAt (u5.setCell ⟨sb, 3, none⟩ (.slice A5 (kn + 1) c5)) dd xs) := Lib.hid (hD5.keep hks fun y e => by omega)
                    have HK6 : Hid (Kp (fun y => y = dd) wo (u5.setCell ⟨sb, 3, none⟩ (.slice A5 (kn + 1) c5))) := Lib.hid (hK5.trans (hks.more (M' := fun y => wo.heap.size ≤ y) fun y _ e => by omega) fun y hy e => by omega)
                    clear hown5 hg5 hat5 hk5 hxs5 hD5 hK5 hks hown3 ha3 hrl HC HXS HON HXS3 HD3 HK3
                    go_wp2_with fail
                    refine NoPanic.normal ?_
                    go_wp2_with fail
                    first | go_roundw | refine ⟨?rel, ?measure⟩
                    case rel => exact ⟨r - 1, by omega, by go_num, HD6.out, HK6.out, HS6.out⟩
                    case measure => simp [intOf]; omega
                  · have hr00 : r = 0 := by omega
                    subst hr00
                    obtain ⟨KA, kn, kc, ns, hkn, hxs, hons, hnl, hpl⟩ := HSR.out
                    have hdr := HDR.out.lt
                    have hsd : ¬ sb = dd := by omega
                    have HC : Hid (∀ u, Kp (fun y => y = dd) wr u → AtCells [(⟨sb, 0, none⟩, .int .i64 5), (⟨sb, 1, none⟩, .slice none 0 0), (⟨sb, 2, none⟩, .slice none 0 0), (⟨sb, 3, none⟩, .slice KA kn kc), (⟨sb, 4, none⟩, sv x1), (⟨sb, 5, none⟩, .slice none 0 0), (⟨sb, 6, none⟩, .string ⟨#[]⟩)] u) := Lib.hid fun u hu => ⟨(Lib.cell_of_heap (hu.heap hxs hsd) 0).trans rfl, (Lib.cell_of_heap (hu.heap hxs hsd) 1).trans rfl, (Lib.cell_of_heap (hu.heap hxs hsd) 2).trans rfl, (Lib.cell_of_heap (hu.heap hxs hsd) 3).trans rfl, (Lib.cell_of_heap (hu.heap hxs hsd) 4).trans rfl, (Lib.cell_of_heap (hu.heap hxs hsd) 5).trans rfl, (Lib.cell_of_heap (hu.heap hxs hsd) 6).trans rfl, trivial⟩
                    have HXS := Lib.hid hxs
                    have HON := Lib.hid hons
                    have HKN := Lib.hid hkn
                    have HNL := Lib.hid hnl
                    have hsr : sb < wr.heap.size := lt_of_heap hxs
                    clear hxs hons hkn hnl
                    go_wp2_with fail
                    refine wp_region_mix (fun u => DiceAt u dd xs ∧ AtCells [(⟨sb, 0, none⟩, .int .i64 5), (⟨sb, 1, none⟩, .slice none 0 0), (⟨sb, 2, none⟩, .slice none 0 0), (⟨sb, 3, none⟩, .slice KA kn kc), (⟨sb, 4, none⟩, sv x1), (⟨sb, 5, none⟩, .slice none 0 0), (⟨sb, 6, none⟩, .string ⟨#[]⟩)] u) [(true, 0), (true, 1), (true, 4), (false, 2), (false, 3), (true, 5), (false, 6)] [7, 8] (by kernel_rfl) (by kernel_rfl) ?sn ?hn
                    case sn => exact ⟨HDR.out.below (Below.refl _ wr).drew, HC.out _ (Kp.refl _ _).drew⟩
                    case hn =>
                    simp only [mixAt, List.filterMap_cons, List.filterMap_nil, List.getElem?_toArray, List.getElem?_cons_succ, List.getElem?_cons_zero, Option.map_some]
                    refine wpMix_load ?vua0 rfl (fun w' hS => ?yua0) ?kua0
                    case yua0 =>
                      obtain ⟨_, g0, g1, g2, g3', g4, g5', g6, _⟩ := hS
                      go_simp
                      try rfl
                    case kua0 =>
                    go_simp
                    refine wpMix_load ?vua1 rfl (fun w' hS => ?yua1) ?kua1
                    case yua1 =>
                      obtain ⟨_, g0, g1, g2, g3', g4, g5', g6, _⟩ := hS
                      go_simp
                      try rfl
                    case kua1 =>
                    go_simp
                    refine wpMix_load ?vua2 rfl (fun w' hS => ?yua2) ?kua2
                    case yua2 =>
                      obtain ⟨_, g0, g1, g2, g3', g4, g5', g6, _⟩ := hS
                      go_simp
                      try rfl
                    case kua2 =>
                    go_simp
                    refine wpMix_keep rfl ?_
                    go_simp
                    obtain ⟨u1, hu1⟩ : ∃ u1, u1 = (wr.alloc (.cells #[.string ⟨#[112]⟩, .string ⟨#[113]⟩, .string ⟨#[114]⟩] 9)).drew := ⟨_, rfl⟩
                    have hb1 : Below wr.heap.size wr u1 := by rw [hu1]; exact ((Below.refl _ _).alloc (Nat.le_refl _) _).drew
                    have hr1 : Row u1 (fun y => y < u1.heap.size ∧ y ≠ dd) (some ⟨wr.heap.size, 0, none⟩) ([[112], [113], [114]].map sv) := by
                      rw [hu1]
                      exact row_lit wr #[.string ⟨#[112]⟩, .string ⟨#[113]⟩, .string ⟨#[114]⟩] 9 [[112], [113], [114]] rfl dd hdr
                    try rw [← hu1]
                    have hk1 := Kp.ofBelow (M := fun y => y = dd) hb1
                    refine ⟨⟨HDR.out.below hb1, HC.out _ hk1⟩, ?_⟩
                    have HOF := Lib.hid (of_any [[112], [113], [114]] (some ⟨wr.heap.size, 0, none⟩) 3 dd xs u1 (by decide) (by decide) (HDR.out.below hb1) hr1)
                    have HK1 := Lib.hid hk1
                    clear hu1 hb1 hr1 hk1
                    refine wpMix_keep rfl ?_
                    go_wp2_with fail
                    refine HOF.out.mono ?_
                    rintro e u2 ⟨x4, hx4, rfl, hD2, hK2⟩
                    have hk2 := HK1.out.one hK2
                    refine ⟨⟨hD2, HC.out _ hk2⟩, ?_⟩
                    have HD2 := Lib.hid hD2
                    have HK2 := Lib.hid hk2
                    clear hD2 hK2 hk2 hx4 HOF HK1
                    refine wpMix_load ?vub5 rfl (fun w' hS => ?yub5) ?kub5
                    case yub5 =>
                      obtain ⟨_, g0, g1, g2, g3', g4, g5', g6, _⟩ := hS
                      go_simp
                      try rfl
                    case kub5 =>
                    go_simp
                    refine wpMix_keep rfl ?_
                    go_simp
                    obtain ⟨u3, hu3⟩ : ∃ u3, u3 = u2.alloc (.cells #[sv x4, .int .i64 5, .slice none 0 0, .slice none 0 0, .slice KA kn kc, sv x1, .slice none 0 0, .string ⟨#[]⟩] 41) := ⟨_, rfl⟩
                    have hb3 : Below u2.heap.size u2 u3 := by rw [hu3]; exact (Below.refl _ _).alloc (Nat.le_refl _) _
                    have ha3 : u3.heap[u2.heap.size]? = some (.cells #[sv x4, .int .i64 5, .slice none 0 0, .slice none 0 0, .slice KA kn kc, sv x1, .slice none 0 0, .string ⟨#[]⟩] 41 (0, 0)) := by rw [hu3]; exact alloc1 _ _
                    try rw [← hu3]
                    have hk3 := HK2.out.below hb3
                    refine ⟨⟨HD2.out.below hb3, HC.out _ hk3⟩, ?_⟩
                    refine wpMix_nil ?_
                    have hy2 := HK2.out.size
                    have hs23 := hb3.size
                    have hor := HKR2.out.size
                    have hml := HKR.out.own.lt
                    have hkl := HON.out.lt
                    have HKO3 := Lib.hid (HKR2.out.one hk3)
                    have hKR3 := HKR.out.kp HKO3.out (fun y hy _ e => hy e) fun gg hg e => by have := (hml gg hg).1; omega
                    have hown3 := hKR3.own
                    rw [← HMN.out] at hown3
                    have hons3 := hk3.own HON.out fun gg hg e => by have := (hkl gg hg).1; omega
                    have HSG : Hid (SgIs u3 (fun y => y ≠ dd ∧ y < u3.heap.size ∧ some y ≠ (Value.slice MA mn mc).ownBlock) (ns.map fun n => .mk n [], .mk x1 []) ⟨5, (none, 0, 0), (none, 0, 0), (KA, kn, kc), x1, (none, 0, 0), []⟩) := Lib.hid ⟨by rw [List.length_map, ← HKN.out], by rw [List.length_map, ← HKN.out]; exact own_le hons3, by rw [List.length_map, ← HKN.out]; omega, ⟨leafs ns, leafs_tys (Row.ofOwn hons3 fun gg _ h1 h2 => ⟨by omega, h2, fun e => by have := (hml gg e.symm).2; omega⟩) HNL.out⟩, leaf_is _ _ _ (by omega)⟩
                    have HD3 := Lib.hid (HD2.out.below hb3)
                    have HKR3 := Lib.hid hKR3
                    obtain ⟨i0, hi, hz0, hz1, hz2⟩ := info_parts infoKn
                    have hmle : mn ≤ 3 := by have := HML.out; omega
                    clear hu3 hb3 hk3 HD2 HK2 hKR3 hons3
                    go_simp
                    simp only [opsAt, List.filterMap_cons, List.filterMap_nil, List.getElem?_toArray, List.getElem?_cons_succ, List.getElem?_cons_zero]
                    refine (wpList_append_row rfl _ _ 26 rfl w5.heap.size 41 i0 _ 8 152 Try.underlying26 hi hz0 hz1 hz2 rfl (by omega) (.slice MA mn mc) mn (flt knC qs') rfl hown3 (fun y => y = u2.heap.size) (some ⟨u2.heap.size, 0, none⟩) 1 1 [sv x4, .int .i64 5, .slice none 0 0, .slice none 0 0, .slice KA kn kc, sv x1, .slice none 0 0, .string ⟨#[]⟩] rfl rfl (row_heap ha3 rfl rfl) (fun u hu => by simp only [List.mem_cons, List.not_mem_nil, or_false] at hu; rcases hu with rfl | rfl | rfl | rfl | rfl | rfl | rfl | rfl <;> rfl) (by unfold maxLen; omega) (by omega) (by have := HKW.out.size; omega) ?_)
                    intro v5 u5 hown5 hg5 hat5
                    obtain ⟨A5, c5, rfl, _⟩ := own_slice hown5
                    have hk5 : Kp (fun y => (Value.slice MA mn mc).ownBlock = some y) u3 u5 := (Kp.refl _ _).grown hg5 fun r hr _ => hr
                    have hKR5 := HKR3.out.push (k := (x4, (ns.map fun n => .mk n [], .mk x1 []))) (q := (x4, ⟨5, (none, 0, 0), (none, 0, 0), (KA, kn, kc), x1, (none, 0, 0), []⟩)) rfl HSG.out (by rw [← HMN.out]; exact hown5) hg5 hat5
                    have HKR5 := Lib.hid hKR5
                    have HD5 := Lib.hid (HD3.out.keep hk5 fun y e => by have := (hml _ e).1; omega)
                    have HK5 : Hid (Kp (fun y => y = dd) w5 u5) := Lib.hid ((HKW.out.one HKO3.out).trans (hk5.more (M' := fun y => w5.heap.size ≤ y) fun y _ e => (hml _ e).1) fun y hy e => by omega)
                    clear hown5 hg5 hat5 hk5 hKR5 hown3 ha3 hml hkl HC HXS HON HD3 HKR3 HKO3 HSG
                    go_wp2_with fail
                    refine NoPanic.normal ?_
                    go_wp2_with fail
                    first | go_roundw | refine ⟨?rel, ?measure⟩
                    case rel => exact ⟨p - 1, _, _, by omega, by go_num, HD5.out, HK5.out, HKR5.out, by rw [List.length_append]; simp; omega⟩
                    case measure => simp [intOf]; omega
              · have hp00 : p = 0 := by omega
                subst hp00
                have hdr := HD.out.lt
                have HO9 := Lib.hid (of_any [[105, 110, 116], [98, 111, 111, 108]] (some ⟨wr.heap.size, 0, none⟩) 2 dd xs _ (by decide) (by decide) (HD.out.below ((Below.refl _ _).alloc (Nat.le_refl _) _)) (row_lit wr #[.string ⟨#[105, 110, 116]⟩, .string ⟨#[98, 111, 111, 108]⟩] 9 [[105, 110, 116], [98, 111, 111, 108]] rfl dd hdr))
                go_wp2_with fail
                refine HO9.out.mono ?_
                rintro e wa ⟨x9, hx9, rfl, hDa, hKa⟩
                have hx9l : x9.length ≤ 10 := by
                  simp at hx9
                  rcases hx9 with rfl | rfl <;> decide
                have hKa0 := ((Kp.refl (fun y => y = dd) wr).alloc (.cells #[.string ⟨#[105, 110, 116]⟩, .string ⟨#[98, 111, 111, 108]⟩] 9)).one hKa
                obtain ⟨wb, hwb⟩ : ∃ wb, wb = wa.alloc (.cells #[sv x9, .slice none 0 0] 35) := ⟨_, rfl⟩
                have hbb : Below wa.heap.size wa wb := by rw [hwb]; exact (Below.refl _ _).alloc (Nat.le_refl _) _
                have hxs : wb.heap[wa.heap.size]? = some (.cells #[sv x9, .slice none 0 0] 35 (0, 0)) := by rw [hwb]; exact alloc1 _ _
                have hKb : Kp (fun y => y = dd) wr wb := hKa0.below hbb
                have hK5b := HKW.out.one hKb
                have hK0b := HS.out.kp.one hK5b
                obtain ⟨XA, xn, xc, xps, hxn, hxb, hXR, hxl, _⟩ := HX.out
                have hzd := HZX.out
                have hxw := HX0.out
                have hd0 : w0.heap.size ≤ dd := HS.out.ge
                have hw00 : w.heap.size < w0.heap.size := lt_of_heap hxw
                have hxbb := hK5b.heap hxb (by omega)
                have hxwb := hK0b.heap hxw (by omega)
                have hXRb := hXR.kp hK5b (fun y hy e => hy.1 e) fun gg hg e => by have := (hXR.own.lt gg hg).1; omega
                have hKRb := HKR.out.kp hKb (fun y hy _ e => hy e) fun gg hg e => by have := (HKR.out.own.lt gg hg).1; omega
                obtain ⟨st, hst⟩ : ∃ st, st = wa.heap.size := ⟨_, rfl⟩
                rw [← hst] at hxs
                have HST := Lib.hid hst
                have hkw : Kept (Lt w.heap.size) w wb := (kept_below HB0.out).trans (hK0b.kept fun y hy => ⟨by unfold Lt at hy; omega, by unfold Lt at hy; omega⟩)
                have hwb0 : w.heap.size ≤ wb.heap.size := Nat.le_trans HB0.out.size hK0b.size
                have hRb : Trs wb (Lt wb.heap.size) RA rps := (hR.keep hkw).more fun y hy => Nat.lt_of_lt_of_le hy hwb0
                have hLb : Kns wb (Lt wb.heap.size) L l qs := ⟨(hK.row.keep hkw).more fun y hy => Nat.lt_of_lt_of_le hy hwb0, hK.names, fun i k q h1 h2 => ⟨(hK.each i k q h1 h2).1, ((hK.each i k q h1 h2).2.keep hkw).more fun y hy => Nat.lt_of_lt_of_le hy hwb0⟩⟩
                have hXb : Trs wb (Lt wb.heap.size) XA xps := ⟨by rw [hxn] at hXRb; exact Row.ofOwn hXRb.own fun _ _ _ h2 => h2, fun i p hp => (hXRb.each i p hp).more fun y hy => hy.2.1⟩
                have hMb := hKRb.kns HMN.out
                have hTb : ∀ u, Below wb.heap.size wb u → TyIs u (Lt u.heap.size) (.mk x9 []) (sv x9) (.slice none 0 0) := fun u _ => leaf_is _ _ _ (by omega)
                have HBw : Hid (Below w.heap.size w wb) := Lib.hid (HB0.out.trans ⟨hK0b.os, hK0b.tape, hK0b.output, hK0b.size, fun b hb => hK0b.block b (Nat.lt_of_lt_of_le hb HB0.out.size) (by omega)⟩)
                have HC : Hid (∀ u, Below wb.heap.size wb u → AtCells [(⟨zx + 1, 0, none⟩, .int .i64 7), (⟨zx + 1, 1, none⟩, sv [97, 58, 58, 83]), (⟨zx + 1, 2, none⟩, .int .i64 (k5 : Int)), (⟨zx + 1, 3, none⟩, .slice XA xn xc), (⟨st, 0, none⟩, sv x9), (⟨st, 1, none⟩, .slice none 0 0), (⟨w.heap.size, 0, none⟩, .int .i64 rk), (⟨w.heap.size, 1, none⟩, sv rx), (⟨w.heap.size, 2, none⟩, .int .i64 ra), (⟨w.heap.size, 3, none⟩, .slice RA rn rc)] u) := Lib.hid fun u hu => AtCells.below hu ⟨(Lib.cell_of_heap hxbb 0).trans rfl, (Lib.cell_of_heap hxbb 1).trans rfl, (Lib.cell_of_heap hxbb 2).trans rfl, (Lib.cell_of_heap hxbb 3).trans rfl, (Lib.cell_of_heap hxs 0).trans rfl, (Lib.cell_of_heap hxs 1).trans rfl, (Lib.cell_of_heap hxwb 0).trans rfl, (Lib.cell_of_heap hxwb 1).trans rfl, (Lib.cell_of_heap hxwb 2).trans rfl, (Lib.cell_of_heap hxwb 3).trans rfl, trivial⟩
                have hml' := HML.out
                have HC1 : Hid (∀ u, Below wb.heap.size wb u → Calls Try.prog 10 #[.agg #[.int .i64 7, sv [97, 58, 58, 83], .int .i64 (k5 : Int), .slice XA xn xc], .agg #[sv x9, .slice none 0 0], .slice MA mn mc] u (DgRes (chk 7 k5 xps l' (.mk x9 [])) u)) := Lib.hid fun u hu => by
                  rw [hxn, hml']
                  exact check_any 7 k5 [97, 58, 58, 83] xps XA MA xc mc l' qs' (.mk x9 []) x9 (none, 0, 0) u (by omega) (by omega) (hXb.below hu) (hMb.now hu) (hTb u hu)
                have HC2 : Hid (∀ u, Below wb.heap.size wb u → Calls Try.prog 11 #[.agg #[.int .i64 7, sv [97, 58, 58, 83], .int .i64 (k5 : Int), .slice XA xn xc], .agg #[sv x9, .slice none 0 0], .slice MA mn mc] u (DgRes (chk 7 k5 xps l' (.mk x9 [])) u)) := Lib.hid fun u hu => by
                  rw [hxn, hml']
                  exact rcheck_any 7 k5 [97, 58, 58, 83] xps XA MA xc mc l' qs' (.mk x9 []) x9 (none, 0, 0) u (by omega) (by omega) (hXb.below hu) (hMb.now hu) (hTb u hu)
                have HC3 : Hid (∀ u, Below wb.heap.size wb u → Calls Try.prog 10 #[.agg #[.int .i64 rk, sv rx, .int .i64 ra, .slice RA rn rc], .agg #[sv x9, .slice none 0 0], .slice L ln lc] u (DgRes (chk rk ra rps l (.mk x9 [])) u)) := Lib.hid fun u hu => by
                  have h1 := HRN.out
                  have h2 := HLN.out
                  rw [h1, h2]
                  exact check_any rk ra rx rps RA L rc lc l qs (.mk x9 []) x9 (none, 0, 0) u (by omega) (by omega) (hRb.below hu) (hLb.now hu) (hTb u hu)
                have HC4 : Hid (∀ u, Below wb.heap.size wb u → Calls Try.prog 11 #[.agg #[.int .i64 rk, sv rx, .int .i64 ra, .slice RA rn rc], .agg #[sv x9, .slice none 0 0], .slice L ln lc] u (DgRes (chk rk ra rps l (.mk x9 [])) u)) := Lib.hid fun u hu => by
                  have h1 := HRN.out
                  have h2 := HLN.out
                  rw [h1, h2]
                  exact rcheck_any rk ra rx rps RA L rc lc l qs (.mk x9 []) x9 (none, 0, 0) u (by omega) (by omega) (hRb.below hu) (hLb.now hu) (hTb u hu)
                have HL1 : Hid ((chk 7 k5 xps l' (.mk x9 [])).length ≤ 8000000) := Lib.hid (by have := chk_len 7 k5 xps l' (.mk x9 []); omega)
                have HL2 : Hid ((chk rk ra rps l (.mk x9 [])).length ≤ 8000000) := Lib.hid (by have := chk_len rk ra rps l (.mk x9 []); have h1 := HRN.out; have h2 := HLN.out; omega)
                have HWB := Lib.hid hwb
                clear hst hxs hKb hK5b hK0b hxn hxb hXR hxl hxw hxbb hxwb hXRb hKRb hkw hRb hLb hXb hMb hTb hml' hwb hbb hDa hKa hKa0 hx9 HO9 HD HKW HKR HS HX HB0
                go_wp2_with fail
                rw [← HST.out]
                rw [← HWB.out]
                clear HST HWB
                refine wp_region_mix (fun u => Below wb.heap.size wb u ∧ AtCells [(⟨zx + 1, 0, none⟩, .int .i64 7), (⟨zx + 1, 1, none⟩, sv [97, 58, 58, 83]), (⟨zx + 1, 2, none⟩, .int .i64 (k5 : Int)), (⟨zx + 1, 3, none⟩, .slice XA xn xc), (⟨st, 0, none⟩, sv x9), (⟨st, 1, none⟩, .slice none 0 0), (⟨w.heap.size, 0, none⟩, .int .i64 rk), (⟨w.heap.size, 1, none⟩, sv rx), (⟨w.heap.size, 2, none⟩, .int .i64 ra), (⟨w.heap.size, 3, none⟩, .slice RA rn rc)] u) [(false, 0), (true, 1), (true, 2), (true, 3), (true, 4), (true, 6), (true, 7), (true, 8), (false, 5), (false, 9), (false, 10), (true, 11), (true, 12), (true, 13), (true, 14), (true, 15), (true, 17), (true, 18), (true, 19), (false, 16), (false, 20), (false, 21), (true, 22)] [23] (by kernel_rfl) (by kernel_rfl) ?sz ?hz
                case sz => exact ⟨(Below.refl _ wb).drew, HC.out _ (Below.refl _ wb).drew⟩
                case hz =>
                simp only [mixAt, List.filterMap_cons, List.filterMap_nil, List.getElem?_toArray, List.getElem?_cons_succ, List.getElem?_cons_zero, Option.map_some]
                have hb0' : Below wb.heap.size wb wb.drew := (Below.refl _ wb).drew
                obtain ⟨u0, hu0⟩ : ∃ u0, u0 = wb.drew := ⟨_, rfl⟩
                rw [← hu0] at hb0' ⊢
                clear hu0
                refine wpMix_keep rfl ?_
                go_wp2_with fail
                refine (awake_any u0).mono ?_
                rintro e u1 ⟨rfl, hb1⟩
                have HB1 := Lib.hid (hb0'.trans (hb1.mono hb0'.size))
                refine ⟨⟨HB1.out, HC.out _ HB1.out⟩, ?_⟩
                clear hb1 hb0'
                refine wpMix_load ?vva1 rfl (fun w' hS => ?yva1) ?kva1
                case yva1 =>
                  obtain ⟨_, g0, g1, g2, g3', g4, g5', g6, g7, g8, g9, _⟩ := hS
                  go_simp
                  try rfl
                case kva1 =>
                go_simp
                refine wpMix_load ?vva2 rfl (fun w' hS => ?yva2) ?kva2
                case yva2 =>
                  obtain ⟨_, g0, g1, g2, g3', g4, g5', g6, g7, g8, g9, _⟩ := hS
                  go_simp
                  try rfl
                case kva2 =>
                go_simp
                refine wpMix_load ?vva3 rfl (fun w' hS => ?yva3) ?kva3
                case yva3 =>
                  obtain ⟨_, g0, g1, g2, g3', g4, g5', g6, g7, g8, g9, _⟩ := hS
                  go_simp
                  try rfl
                case kva3 =>
                go_simp
                refine wpMix_load ?vva4 rfl (fun w' hS => ?yva4) ?kva4
                case yva4 =>
                  obtain ⟨_, g0, g1, g2, g3', g4, g5', g6, g7, g8, g9, _⟩ := hS
                  go_simp
                  try rfl
                case kva4 =>
                go_simp
                refine wpMix_load ?vva5 rfl (fun w' hS => ?yva5) ?kva5
                case yva5 =>
                  obtain ⟨_, g0, g1, g2, g3', g4, g5', g6, g7, g8, g9, _⟩ := hS
                  go_simp
                  try rfl
                case kva5 =>
                go_simp
                refine wpMix_load ?vva6 rfl (fun w' hS => ?yva6) ?kva6
                case yva6 =>
                  obtain ⟨_, g0, g1, g2, g3', g4, g5', g6, g7, g8, g9, _⟩ := hS
                  go_simp
                  try rfl
                case kva6 =>
                go_simp
                refine wpMix_load ?vva7 rfl (fun w' hS => ?yva7) ?kva7
                case yva7 =>
                  obtain ⟨_, g0, g1, g2, g3', g4, g5', g6, g7, g8, g9, _⟩ := hS
                  go_simp
                  try rfl
                case kva7 =>
                go_simp
                refine wpMix_keep rfl ?_
                go_wp2_with fail
                refine (HC1.out u1 HB1.out).mono ?_
                rintro e u2 ⟨r2, rfl, ho2, hb⟩
                obtain ⟨A2, c2, rfl, _⟩ := own_slice ho2
                have HB2 := Lib.hid (HB1.out.trans (hb.mono HB1.out.size))
                have HSTPa := Lib.hid hb
                have HO2 := Lib.hid (Row.ofOwn (S := Lt u2.heap.size) ho2 fun _ _ _ h2 => h2)
                refine ⟨⟨HB2.out, HC.out _ HB2.out⟩, ?_⟩
                clear ho2 hb
                refine wpMix_keep rfl ?_
                go_wp2_with fail
                refine (HC2.out u2 HB2.out).mono ?_
                rintro e u3 ⟨r3, rfl, ho3, hb⟩
                obtain ⟨A3, c3, rfl, _⟩ := own_slice ho3
                have HB3 := Lib.hid (HB2.out.trans (hb.mono HB2.out.size))
                have HSTPb := Lib.hid hb
                have HO3 := Lib.hid (Row.ofOwn (S := Lt u3.heap.size) ho3 fun _ _ _ h2 => h2)
                refine ⟨⟨HB3.out, HC.out _ HB3.out⟩, ?_⟩
                clear ho3 hb
                refine wpMix_keep rfl ?_
                go_wp2_with fail
                refine (sameDiags_any _ _ A2 A3 c2 c3 u3 HL1.out ((HO2.out.keep (kept_below HSTPb.out)).more fun y hy => Nat.lt_of_lt_of_le hy HSTPb.out.size) HO3.out).mono ?_
                rintro e u4 ⟨r, rfl, hr, hb⟩
                obtain rfl : r = true := hr.2 rfl
                have HB4 := Lib.hid (HB3.out.trans (hb.mono HB3.out.size))
                refine ⟨⟨HB4.out, HC.out _ HB4.out⟩, ?_⟩
                clear hr hb
                refine wpMix_load ?vvb11 rfl (fun w' hS => ?yvb11) ?kvb11
                case yvb11 =>
                  obtain ⟨_, g0, g1, g2, g3', g4, g5', g6, g7, g8, g9, _⟩ := hS
                  go_simp
                  try rfl
                case kvb11 =>
                go_simp
                refine wpMix_load ?vvb12 rfl (fun w' hS => ?yvb12) ?kvb12
                case yvb12 =>
                  obtain ⟨_, g0, g1, g2, g3', g4, g5', g6, g7, g8, g9, _⟩ := hS
                  go_simp
                  try rfl
                case kvb12 =>
                go_simp
                refine wpMix_load ?vvb13 rfl (fun w' hS => ?yvb13) ?kvb13
                case yvb13 =>
                  obtain ⟨_, g0, g1, g2, g3', g4, g5', g6, g7, g8, g9, _⟩ := hS
                  go_simp
                  try rfl
                case kvb13 =>
                go_simp
                refine wpMix_load ?vvb14 rfl (fun w' hS => ?yvb14) ?kvb14
                case yvb14 =>
                  obtain ⟨_, g0, g1, g2, g3', g4, g5', g6, g7, g8, g9, _⟩ := hS
                  go_simp
                  try rfl
                case kvb14 =>
                go_simp
                refine wpMix_load ?vvb15 rfl (fun w' hS => ?yvb15) ?kvb15
                case yvb15 =>
                  obtain ⟨_, g0, g1, g2, g3', g4, g5', g6, g7, g8, g9, _⟩ := hS
                  go_simp
                  try rfl
                case kvb15 =>
                go_simp
                refine wpMix_load ?vvb16 rfl (fun w' hS => ?yvb16) ?kvb16
                case yvb16 =>
                  obtain ⟨_, g0, g1, g2, g3', g4, g5', g6, g7, g8, g9, _⟩ := hS
                  go_simp
                  try rfl
                case kvb16 =>
                go_simp
                refine wpMix_load ?vvb17 rfl (fun w' hS => ?yvb17) ?kvb17
                case yvb17 =>
                  obtain ⟨_, g0, g1, g2, g3', g4, g5', g6, g7, g8, g9, _⟩ := hS
                  go_simp
                  try rfl
                case kvb17 =>
                go_simp
                refine wpMix_load ?vvb18 rfl (fun w' hS => ?yvb18) ?kvb18
                case yvb18 =>
                  obtain ⟨_, g0, g1, g2, g3', g4, g5', g6, g7, g8, g9, _⟩ := hS
                  go_simp
                  try rfl
                case kvb18 =>
                go_simp
                refine wpMix_keep rfl ?_
                go_wp2_with fail
                refine (HC3.out u4 HB4.out).mono ?_
                rintro e u5 ⟨r5, rfl, ho5, hb⟩
                obtain ⟨A5, c5, rfl, _⟩ := own_slice ho5
                have HB5 := Lib.hid (HB4.out.trans (hb.mono HB4.out.size))
                have HSTPd := Lib.hid hb
                have HO5 := Lib.hid (Row.ofOwn (S := Lt u5.heap.size) ho5 fun _ _ _ h2 => h2)
                refine ⟨⟨HB5.out, HC.out _ HB5.out⟩, ?_⟩
                clear ho5 hb
                refine wpMix_keep rfl ?_
                go_wp2_with fail
                refine (HC4.out u5 HB5.out).mono ?_
                rintro e u6 ⟨r6, rfl, ho6, hb⟩
                obtain ⟨A6, c6, rfl, _⟩ := own_slice ho6
                have HB6 := Lib.hid (HB5.out.trans (hb.mono HB5.out.size))
                have HSTPe := Lib.hid hb
                have HO6 := Lib.hid (Row.ofOwn (S := Lt u6.heap.size) ho6 fun _ _ _ h2 => h2)
                refine ⟨⟨HB6.out, HC.out _ HB6.out⟩, ?_⟩
                clear ho6 hb
                refine wpMix_keep rfl ?_
                go_wp2_with fail
                refine (sameDiags_any _ _ A5 A6 c5 c6 u6 HL2.out ((HO5.out.keep (kept_below HSTPe.out)).more fun y hy => Nat.lt_of_lt_of_le hy HSTPe.out.size) HO6.out).mono ?_
                rintro e u7 ⟨r, rfl, hr, hb⟩
                obtain rfl : r = true := hr.2 rfl
                have HB7 := Lib.hid (HB6.out.trans (hb.mono HB6.out.size))
                refine ⟨⟨HB7.out, HC.out _ HB7.out⟩, ?_⟩
                clear hr hb
                refine wpMix_load ?vvc22 rfl (fun w' hS => ?yvc22) ?kvc22
                case yvc22 =>
                  obtain ⟨_, g0, g1, g2, g3', g4, g5', g6, g7, g8, g9, _⟩ := hS
                  go_simp
                  try rfl
                case kvc22 =>
                go_simp
                refine wpMix_nil ?_
                have HBF := Lib.hid (HBw.out.trans (HB7.out.mono HBw.out.size))
                simp only [opsAt, List.filterMap_cons, List.filterMap_nil, List.getElem?_toArray, List.getElem?_cons_succ, List.getElem?_cons_zero]
                go_wp2_with fail
                refine NoPanic.normal ?_
                go_wp2
                go_ret
                exact ⟨rfl, HBF.out⟩
      · have hi1 : ¬ (ln : Int) > 20 := by omega
        have hd1 : decide ((ln : Int) > 20) = false := by simp; omega
        have hd2 : decide ((rn : Int) > 20) = true := by simp; omega
        go_enter Try.func3, Try.ntmps3
        go_wp2_with fail
        rw [← HW0.out]
        refine HLI.out.mono ?_
        rintro e w1 ⟨rfl, rfl⟩
        rw [hd0]
        try rw [HW0.out]
        go_wp2_with fail
        try rw [← HW0.out]
        refine (awake_any w0).mono ?_
        rintro e w1 ⟨rfl, hb1⟩
        have HBF := Lib.hid (HB0.out.trans (hb1.mono HB0.out.size))
        clear hb1
        go_wp2
        go_ret
        exact ⟨rfl, HBF.out⟩
    · have hd1 : decide ((ln : Int) > 20) = true := by simp; omega
      go_enter Try.func3, Try.ntmps3
      go_wp2_with fail
      rw [← HW0.out]
      refine HLI.out.mono ?_
      rintro e w1 ⟨rfl, rfl⟩
      rw [hd0]
      try rw [HW0.out]
      go_wp2_with fail
      try rw [← HW0.out]
      refine (awake_any w0).mono ?_
      rintro e w1 ⟨rfl, hb1⟩
      have HBF := Lib.hid (HB0.out.trans (hb1.mono HB0.out.size))
      clear hb1
      go_wp2
      go_ret
      exact ⟨rfl, HBF.out⟩
  · have hd0 : decide (n ≤ 400) = false := by simpa using hlight
    go_enter Try.func3, Try.ntmps3
    go_wp2_with fail
    rw [← HW0.out]
    refine HLI.out.mono ?_
    rintro e w1 ⟨rfl, rfl⟩
    rw [hd0]
    try rw [HW0.out]
    go_wp2_with fail
    try rw [← HW0.out]
    refine (awake_any w0).mono ?_
    rintro e w1 ⟨rfl, hb1⟩
    have HBF := Lib.hid (HB0.out.trans (hb1.mono HB0.out.size))
    clear hb1
    go_wp2
    go_ret
    exact ⟨rfl, HBF.out⟩
end Go.Proofs.Ytiijlecidepneaa
