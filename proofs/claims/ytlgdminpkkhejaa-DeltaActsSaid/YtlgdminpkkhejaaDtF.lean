/-
  The walk of delta.Of.
  Conditions: the messages lie in memory; there are at most 10^5 in each list.
-/
import Derived.Test.YtlgdminpkkhejaaDtQ
import Derived.Test.YtlgdminpkkhejaaDtZ
namespace Go.Proofs.Ytlgdminpkkhejaa
open Go.RowKit

/-- A difference in memory. -/
def DlV (w : World) (S : Nat → Prop) (v : Value) (d : Dl) : Prop :=
  ∃ (A1 A2 A3 : Option Addr) (c1 c2 c3 : Nat), v = .agg #[.slice A1 d.gone.length c1, .slice A2 d.come.length c2, .slice A3 d.moved.length c3] ∧ (A1 = none → c1 = 0) ∧ (A2 = none → c2 = 0) ∧ d.gone.length ≤ c1 ∧ d.come.length ≤ c2 ∧ d.moved.length ≤ c3 ∧ Row w S A1 (flt msC d.gone) ∧ Row w S A2 (flt msC d.come) ∧ Row w S A3 (flt mvC d.moved)
theorem gone_is (old now : List Msg) : (wgo (srtM old) fun m => now.count m) = goneM old now := wgo_is (srtM_srt old)
theorem gone_len (old now : List Msg) : (goneM old now).length ≤ old.length := by
  have := (dif_sub now (srtM old)).length_le
  rw [srtM_len] at this
  exact this
theorem QAt.push {B b : Nat} {w6 w7 w8 : World} {Q : Int × List UInt8 → List Msg} {G : Int × List UInt8 → Option Sl} {k : Int × List UInt8} {m : Msg} {q : Sl} (hbB : b < B)
    (h2 : ∀ k, w6.ownsRow B 40 3 (slV (sl0 (G k))) (Q k).length (flt msC (Q k))) (h3 : ∀ k k', k ≠ k' → ∀ g, (slV (sl0 (G k))).ownBlock = some g → (slV (sl0 (G k'))).ownBlock ≠ some g)
    (hown : w7.ownsRow B 40 3 (slV q) ((Q k).length + 1) (flt msC (Q k) ++ msC m)) (hg : w6.grownBy w7 (slV (sl0 (G k))).ownBlock) (hat : (slV q).ownBlock = (slV (sl0 (G k))).ownBlock ∨ (slV q).ownBlock = some w6.heap.size)
    (h8 : MapG kdV slV w8 b fun k' => if k' = k then some q else G k') (hk8 : Kp (fun y => y = b) w7 w8) : QAt B w8 b fun k' => if k' = k then Q k ++ [m] else Q k' := by
  have hk7 : Kp (fun y => (slV (sl0 (G k))).ownBlock = some y) w6 w7 := (Kp.refl _ _).grown hg fun r hr _ => hr
  have hq : sl0 (some q) = q := rfl
  refine ⟨_, h8, fun k' => ?_, fun k1 k2 hne g e1 e2 => ?_⟩
  · by_cases e : k' = k
    · subst e
      simp only [if_true, hq]
      rw [List.length_append, flt_append, flt_one]
      exact hk8.own hown fun g hg e => by have := (hown.lt g hg).1; omega
    · simp only [if_neg e]
      exact hk8.own (hk7.own (h2 k') fun g hg e' => h3 k' k e g hg e') fun g hg e' => by have := ((h2 k').lt g hg).1; omega
  · by_cases f1 : k1 = k
    · have f2 : ¬ k2 = k := fun e => hne (f1.trans e.symm)
      simp only [if_pos f1, if_neg f2, hq] at e1 e2
      rcases hat with h | h
      · rw [h] at e1
        exact h3 k k2 (fun e => f2 e.symm) g e1 e2
      · rw [h] at e1
        have := ((h2 k2).lt g e2).2
        have := Option.some.inj e1
        omega
    · by_cases f2 : k2 = k
      · simp only [if_neg f1, if_pos f2, hq] at e1 e2
        rcases hat with h | h
        · rw [h] at e2
          exact h3 k1 k f1 g e1 e2
        · rw [h] at e2
          have := ((h2 k1).lt g e1).2
          have := Option.some.inj e2
          omega
      · simp only [if_neg f1, if_neg f2] at e1 e2
        exact h3 k1 k2 hne g e1 e2
def dfPhi (B : Nat) (m : Msg) (q : Value) (i : Nat) (v : Value) (u : World) : Prop :=
  match i with
  | 1 => v = msV m
  | 2 => v = kdV m.2
  | 4 => v = msV m
  | 5 => v = kdV m.2
  | 6 => v = q
  | 7 => v = msV m
  | 8 => ∃ g, v = .slice (some ⟨g, 0, none⟩) 1 1 ∧ B ≤ g ∧ u.heap[g]? = some (.cells #[.int .i64 m.1, .int .i64 m.2.1, sv m.2.2] 40 (0, 0))
  | _ => True
theorem dfPhi_go {B : Nat} {m : Msg} {q : Value} (i : Nat) (v : Value) (u u' : World) (h : dfPhi B m q i v u) (hb : Below u.heap.size u u') : dfPhi B m q i v u' := by
  have hk : Kp (fun _ => False) u u' := Kp.ofBelow hb
  unfold dfPhi at h ⊢
  split at h
  · exact h
  · exact h
  · exact h
  · exact h
  · exact h
  · exact h
  · obtain ⟨g, h1, h2, h3⟩ := h
    exact ⟨g, h1, h2, hk.heap h3 fun e => e⟩
  · trivial
theorem fk_snoc (k : Int × List UInt8) (l : List Msg) (m : Msg) : fk k (l ++ [m]) = if k = m.2 then fk k l ++ [m] else fk k l := by
  unfold fk
  rw [List.filter_append]
  by_cases e : k = m.2
  · rw [if_pos e, e]; simp
  · have : ¬ m.2 = k := fun h => e h.symm
    rw [if_neg e]; simp [this]

theorem mate_few : ∀ (C L : List Msg), (mate C L).1.length ≤ C.length ∧ (mate C L).2.1.length ≤ C.length ∧ (mate C L).2.2.length ≤ L.length
  | [], L => by simp [mate]
  | m :: r, L => by
    cases h : L.find? (alk m) with
    | none =>
      obtain ⟨h1, h2, h3⟩ := mate_few r L
      rw [mate_none h]
      simp
      omega
    | some x =>
      obtain ⟨h1, h2, h3⟩ := mate_few r (L.erase x)
      have := (List.erase_sublist (a := x) (l := L)).length_le
      rw [mate_some h]
      simp
      omega
theorem QRd.pop {S : Nat → Prop} {b : Nat} {w8 w9 : World} {Q : Int × List UInt8 → List Msg} {G : Int × List UInt8 → Option Sl} {k : Int × List UInt8} {x : Msg} {r : List Msg} {QA : Option Addr} {nq qc : Nat}
    (h2 : ∀ k, ∃ A c, sl0 (G k) = (A, (Q k).length, c) ∧ (Q k).length ≤ c ∧ Row w8 S A (flt msC (Q k))) (hq : sl0 (G k) = (QA, nq, qc)) (hx : Q k = x :: r)
    (h8 : MapG kdV slV w9 b fun k' => if k' = k then some ((backOf QA 3 qc 1, nq - 1, qc - 1) : Sl) else G k') (hk8 : Kp (fun y => y = b) w8 w9) (hS : ∀ y, S y → y < w8.heap.size ∧ y ≠ b) : QRd S w9 b fun k' => if k' = k then r else Q k' := by
  refine ⟨_, h8, fun k' => ?_⟩
  by_cases e : k' = k
  · subst e
    simp only [if_true]
    obtain ⟨A, c, e1, hc, hr⟩ := h2 k'
    rw [hq] at e1
    obtain ⟨rfl, e2, rfl⟩ : QA = A ∧ nq = (Q k').length ∧ qc = c := by simpa using e1
    rw [hx, List.length_cons] at e2
    have hb := back_row msC_len hr rfl (by rw [hx, List.length_cons] at hc ⊢; omega) 1
    rw [hx] at hb hc
    rw [List.length_cons] at hc
    exact ⟨backOf QA 3 qc 1, qc - 1, by rw [e2]; rfl, by omega, hb.keep (hk8.kept hS)⟩
  · simp only [if_neg e]
    obtain ⟨A, c, e1, hc, hr⟩ := h2 k'
    exact ⟨A, c, e1, hc, hr.keep (hk8.kept hS)⟩
theorem cmpI_lt (a b : Int) : cmpI a b < 0 ↔ a < b := by
  unfold cmpI
  by_cases h : a < b
  · simp [h]
  · by_cases h2 : b < a <;> simp [h, h2]
theorem srtV_of {l : List (Msg × Msg)} (h : l.Pairwise leV) : SrtV (l.map mvOf) := by
  intro i j x y hij hx hy
  rw [List.getElem?_map] at hx hy
  obtain ⟨p, hp, rfl⟩ := Option.map_eq_some_iff.1 hx
  obtain ⟨q, hq, rfl⟩ := Option.map_eq_some_iff.1 hy
  have hle : leV p q := by
    rcases Nat.lt_or_ge i j with h1 | h1
    · obtain ⟨hi, e1⟩ := List.getElem?_eq_some_iff.1 hp
      obtain ⟨hj, e2⟩ := List.getElem?_eq_some_iff.1 hq
      rw [← e1, ← e2]
      exact List.pairwise_iff_getElem.1 h i j hi hj h1
    · obtain rfl : i = j := by omega
      rw [hp] at hq
      obtain rfl := Option.some.inj hq
      exact ⟨ltM_irr _, fun _ => Int.le_refl _⟩
  show ¬ (if cmpM q.2 p.2 = 0 then (if cmpI q.1.1 p.1.1 = 0 then 0 else cmpI q.1.1 p.1.1) else cmpM q.2 p.2) < 0
  by_cases h0 : cmpM q.2 p.2 = 0
  · rw [if_pos h0]
    have e := (cmpM_zero _ _).1 h0
    have h2 := hle.2 e.symm
    have h3 : ¬ cmpI q.1.1 p.1.1 < 0 := fun h => by have := (cmpI_lt _ _).1 h; omega
    split <;> omega
  · rw [if_neg h0]
    intro h
    have := (cmpM_iff _ _).1 h
    rw [hle.1] at this
    cases this
/-- What stands in the second loop. -/
structure OfInv (b O hi : Nat) (S : Nat → Prop) (wd u : World) (Q : Int × List UInt8 → List Msg) (a ts : List Msg) (vs : List Mv) (tv cv mv : Value) : Prop where
  low : b < O ∧ O < hi ∧ wd.heap.size ≤ hi
  sl : ∀ y, S y → y < O ∧ y ≠ b
  kp : Kp (fun y => y = b ∨ y = O) wd u
  q : QRd S u b Q
  blk : u.heap[O]? = some (.cells #[.slice none 0 0, cv, mv] 25 (0, 0))
  rc : u.ownsRow hi 40 3 cv a.length (flt msC a)
  rm : u.ownsRow hi 42 5 mv vs.length (flt mvC vs)
  rt : u.ownsRow hi 40 3 tv ts.length (flt msC ts)
  ne : ∀ g, cv.ownBlock = some g → tv.ownBlock ≠ some g
section
variable {b O hi : Nat} {S : Nat → Prop} {wd u u' : World} {Q : Int × List UInt8 → List Msg} {a ts : List Msg} {vs : List Mv} {tv cv mv : Value}
theorem OfInv.olt (h : OfInv b O hi S wd u Q a ts vs tv cv mv) : O < u.heap.size := lt_of_heap h.blk
theorem OfInv.below (h : OfInv b O hi S wd u Q a ts vs tv cv mv) (hb : Below u.heap.size u u') : OfInv b O hi S wd u' Q a ts vs tv cv mv := by
  have hk : Kp (fun _ => False) u u' := Kp.ofBelow hb
  have ho := h.olt
  exact ⟨h.low, h.sl, h.kp.trans (M1 := fun _ => False) hk fun _ _ e => e.elim, h.q.kp hk (fun e => e) fun y hy => ⟨by have := (h.sl y hy).1; omega, fun e => e⟩, hk.heap h.blk fun e => e, hk.own h.rc fun _ _ e => e, hk.own h.rm fun _ _ e => e, hk.own h.rt fun _ _ e => e, h.ne⟩
/-- One message more that has come. -/
theorem OfInv.come (h : OfInv b O hi S wd u Q a ts vs tv cv mv) {m : Msg} {vg vcap : Nat} (hown : u'.ownsRow hi 40 3 (.slice (some ⟨vg, 0, none⟩) (a.length + 1) vcap) (a.length + 1) (flt msC a ++ msC m)) (hk : Kp (fun y => cv.ownBlock = some y) u u') (hat : cv.ownBlock = some vg ∨ u.heap.size ≤ vg) :
    OfInv b O hi S wd (u'.setCell ⟨O, 1, none⟩ (.slice (some ⟨vg, 0, none⟩) (a.length + 1) vcap)) Q (a ++ [m]) ts vs tv (.slice (some ⟨vg, 0, none⟩) (a.length + 1) vcap) mv := by
  have hl := h.low
  have ho := h.olt
  have hcl := h.rc.lt
  have hco := own_ne h.rc h.blk (by decide)
  have hblk1 := hk.heap h.blk fun e => hco _ e rfl
  have hks : Kp (fun y => y = O) u' (u'.setCell ⟨O, 1, none⟩ (.slice (some ⟨vg, 0, none⟩) (a.length + 1) vcap)) := Kp.setCell (M := fun y => y = O) (Kp.refl _ _) (fun _ => rfl) _
  have hnew := own_ne hown hblk1 (by decide)
  have hmo := own_ne h.rm h.blk (by decide)
  have hto := own_ne h.rt h.blk (by decide)
  refine ⟨h.low, h.sl, ?_, ?_, setCell_heap (w := u') hblk1, ?_, ?_, ?_, ?_⟩
  · refine (h.kp.trans (M1 := fun y => cv.ownBlock = some y) hk fun y hy e => ?_).trans (M1 := fun y => y = O) hks fun y _ e => .inr e
    have := (hcl y e).1
    omega
  · refine (h.q.kp hk (fun e => ?_) fun y hy => ⟨by have := (h.sl y hy).1; omega, fun e => ?_⟩).kp hks (fun e => ?_) fun y hy => ⟨?_, fun e => ?_⟩
    · have := (hcl _ e).1; omega
    · have := (hcl y e).1; have := (h.sl y hy).1; omega
    · omega
    · have := (h.sl y hy).1; have := hk.size; omega
    · have := (h.sl y hy).1; omega
  · rw [List.length_append, flt_append, flt_one]
    exact hks.own hown hnew
  · exact hks.own (hk.own h.rm fun g hg e => rows_ne h.rm h.rc (by decide) g hg e) hmo
  · exact hks.own (hk.own h.rt fun g hg e => h.ne g e hg) hto
  · intro g e1 e2
    have e1 : some vg = some g := e1
    rcases hat with h1 | h1
    · exact h.ne g (h1.trans e1) e2
    · have := (h.rt.lt g e2).2
      have := Option.some.inj e1
      omega
/-- One message more that is moved. -/
theorem OfInv.temp (h : OfInv b O hi S wd u Q a ts vs tv cv mv) {m : Msg} {vg vcap : Nat} (hown : u'.ownsRow hi 40 3 (.slice (some ⟨vg, 0, none⟩) (ts.length + 1) vcap) (ts.length + 1) (flt msC ts ++ msC m)) (hk : Kp (fun y => tv.ownBlock = some y) u u') (hat : tv.ownBlock = some vg ∨ u.heap.size ≤ vg) :
    OfInv b O hi S wd u' Q a (ts ++ [m]) vs (.slice (some ⟨vg, 0, none⟩) (ts.length + 1) vcap) cv mv := by
  have hl := h.low
  have ho := h.olt
  have htl := h.rt.lt
  have hto := own_ne h.rt h.blk (by decide)
  refine ⟨h.low, h.sl, ?_, ?_, hk.heap h.blk fun e => hto _ e rfl, ?_, ?_, ?_, ?_⟩
  · refine h.kp.trans (M1 := fun y => tv.ownBlock = some y) hk fun y hy e => ?_
    have := (htl y e).1
    omega
  · refine h.q.kp hk (fun e => ?_) fun y hy => ⟨by have := (h.sl y hy).1; omega, fun e => ?_⟩
    · have := (htl _ e).1; omega
    · have := (htl y e).1; have := (h.sl y hy).1; omega
  · exact hk.own h.rc fun g hg e => h.ne g hg e
  · exact hk.own h.rm fun g hg e => rows_ne h.rm h.rt (by decide) g hg e
  · rw [List.length_append, flt_append, flt_one]
    exact hown
  · intro g e1 e2
    have e2 : some vg = some g := e2
    rcases hat with h1 | h1
    · exact h.ne g e1 (h1.trans e2)
    · have := (h.rc.lt g e1).2
      have := Option.some.inj e2
      omega
/-- One move more. -/
theorem OfInv.move (h : OfInv b O hi S wd u Q a ts vs tv cv mv) {v : Mv} {vg vcap : Nat} (hown : u'.ownsRow hi 42 5 (.slice (some ⟨vg, 0, none⟩) (vs.length + 1) vcap) (vs.length + 1) (flt mvC vs ++ mvC v)) (hk : Kp (fun y => mv.ownBlock = some y) u u') :
    OfInv b O hi S wd (u'.setCell ⟨O, 2, none⟩ (.slice (some ⟨vg, 0, none⟩) (vs.length + 1) vcap)) Q a ts (vs ++ [v]) tv cv (.slice (some ⟨vg, 0, none⟩) (vs.length + 1) vcap) := by
  have hl := h.low
  have ho := h.olt
  have hml := h.rm.lt
  have hmo := own_ne h.rm h.blk (by decide)
  have hblk1 := hk.heap h.blk fun e => hmo _ e rfl
  have hks : Kp (fun y => y = O) u' (u'.setCell ⟨O, 2, none⟩ (.slice (some ⟨vg, 0, none⟩) (vs.length + 1) vcap)) := Kp.setCell (M := fun y => y = O) (Kp.refl _ _) (fun _ => rfl) _
  have hnew := own_ne hown hblk1 (by decide)
  have hco := own_ne h.rc h.blk (by decide)
  have hto := own_ne h.rt h.blk (by decide)
  refine ⟨h.low, h.sl, ?_, ?_, setCell_heap (w := u') hblk1, ?_, ?_, ?_, h.ne⟩
  · refine (h.kp.trans (M1 := fun y => mv.ownBlock = some y) hk fun y hy e => ?_).trans (M1 := fun y => y = O) hks fun y _ e => .inr e
    have := (hml y e).1
    omega
  · refine (h.q.kp hk (fun e => ?_) fun y hy => ⟨by have := (h.sl y hy).1; omega, fun e => ?_⟩).kp hks (fun e => ?_) fun y hy => ⟨?_, fun e => ?_⟩
    · have := (hml _ e).1; omega
    · have := (hml y e).1; have := (h.sl y hy).1; omega
    · omega
    · have := (h.sl y hy).1; have := hk.size; omega
    · have := (h.sl y hy).1; omega
  · exact hks.own (hk.own h.rc fun g hg e => rows_ne h.rc h.rm (by decide) g hg e) hco
  · rw [List.length_append, flt_append, flt_one]
    exact hks.own hown hnew
  · exact hks.own (hk.own h.rt fun g hg e => rows_ne h.rt h.rm (by decide) g hg e) hto
/-- One queue shorter. -/
theorem OfInv.pop (h : OfInv b O hi S wd u Q a ts vs tv cv mv) {Q' : Int × List UInt8 → List Msg} (hq : QRd S u' b Q') (hk : Kp (fun y => y = b) u u') : OfInv b O hi S wd u' Q' a ts vs tv cv mv := by
  have hl := h.low
  exact ⟨h.low, h.sl, h.kp.trans (M1 := fun y => y = b) hk fun y _ e => .inl e, hq, hk.heap h.blk fun e => by omega, hk.own h.rc fun g hg e => by have := (h.rc.lt g hg).1; omega, hk.own h.rm fun g hg e => by have := (h.rm.lt g hg).1; omega, hk.own h.rt fun g hg e => by have := (h.rt.lt g hg).1; omega, h.ne⟩
end
set_option maxHeartbeats 6400000 in
set_option maxRecDepth 100000 in
theorem dof_any (old now : List Msg) (A B : Option Addr) (c d : Nat) (w : World) (hl : old.length ≤ 100000) (hl2 : now.length ≤ 100000) (hc : A = none → c = 0) (hc2 : B = none → d = 0) (h : Row w (Lt w.heap.size) A (flt msC old)) (h' : Row w (Lt w.heap.size) B (flt msC now)) :
    Calls Try.prog 15 #[.slice A old.length c, .slice B now.length d] w fun e w' => ∃ v, e = .returned v ∧ DlV w' (Fr w.heap.size w'.heap.size) v (ofM old now) ∧ Below w.heap.size w w' := by
  obtain ⟨n, hn⟩ : ∃ n, n = old.length := ⟨_, rfl⟩
  obtain ⟨p, hp⟩ : ∃ p, p = now.length := ⟨_, rfl⟩
  obtain ⟨w0, hw0⟩ : ∃ w0, w0 = w.alloc (.cells #[.slice none 0 0, .slice none 0 0, .slice none 0 0] 25) := ⟨_, rfl⟩
  have hb0 : Below w.heap.size w w0 := by rw [hw0]; exact (Below.refl _ _).alloc (Nat.le_refl _) _
  have hR0 : w0.heap[w.heap.size]? = some (.cells #[.slice none 0 0, .slice none 0 0, .slice none 0 0] 25 (0, 0)) := by rw [hw0]; exact alloc1 _ _
  have hs0 : w0.heap.size = w.heap.size + 1 := by rw [hw0]; simp
  have HS1 := Lib.hid (sorted_any (Lt w0.heap.size) old A c w0 (by omega) hc (h.below hb0))
  have HROW := Lib.hid (And.intro (h.below hb0) (h'.below hb0))
  have HCC := Lib.hid (And.intro hc hc2)
  rw [← hn] at HS1 hl ⊢
  rw [← hp] at hl2 ⊢
  have HN := Lib.hid hn
  have HP := Lib.hid hp
  have HW0 := Lib.hid hw0
  have HR0 := Lib.hid hR0
  have HB0 := Lib.hid hb0
  clear hn hp h h' hc hc2 hb0 hR0 hw0
  obtain ⟨i0, hi, hz0, hz1, hz2⟩ := info_parts infoMs
  obtain ⟨i5, fi, fz0, fz1, fz2⟩ := info_parts infoMv
  go_enter Try.func15, Try.ntmps15
  go_wp2_with fail
  rw [← HW0.out]
  refine HS1.out.mono ?_
  rintro e w1 ⟨v1, rfl, hown1, hb1⟩
  obtain ⟨A1, c1, rfl, _⟩ := own_slice hown1
  have HX1 := Lib.hid (without_any (Lt w1.heap.size) (Lt w1.heap.size) (srtM old) now A1 B c1 d w1 (fun _ h => h) (fun _ h => h) (by rw [srtM_len, ← HN.out]; omega) (by rw [← HP.out]; omega) (Row.ofOwn hown1 fun _ _ _ h => h) (HROW.out.2.below hb1))
  have HB1 := Lib.hid hb1
  rw [srtM_len, ← HN.out, ← HP.out] at HX1
  rw [srtM_len, ← HN.out]
  clear hown1 hb1 HS1
  go_wp2_with fail
  refine HX1.out.mono ?_
  rintro e w2 ⟨v2, rfl, hown2, hb2⟩
  rw [gone_is] at hown2
  obtain ⟨GA, gc, rfl, _⟩ := own_slice hown2
  obtain ⟨z2, hz2'⟩ : ∃ z2 : Int, z2 = (now.length : Int) + ((wgo (srtM old) fun m => now.count m).length : Int) - ((srtM old).length : Int) := ⟨_, rfl⟩
  rw [← hz2']
  have hb02 := HB1.out.trans (hb2.mono HB1.out.size)
  have HS3 := Lib.hid (sorted_any (Lt w2.heap.size) now B d w2 (by rw [← HP.out]; omega) HCC.out.2 (HROW.out.2.below hb02))
  rw [← HP.out] at HS3
  have HG := Lib.hid (Row.ofOwn (S := Fr w0.heap.size w2.heap.size) hown2 fun g _ h1 h2 => ⟨Nat.le_trans HB1.out.size h1, h2⟩)
  have HGC := Lib.hid (own_le hown2)
  have HB2 := Lib.hid hb02
  obtain ⟨ng, hng⟩ : ∃ ng, ng = (goneM old now).length := ⟨_, rfl⟩
  have hng5 : ng ≤ 100000 := by rw [hng]; have := gone_len old now; have := HN.out; omega
  have HNG := Lib.hid hng
  rw [← hng]
  clear hz2' hown2 hb2 hb02 hng HX1 HB1
  go_wp2_with fail
  refine HS3.out.mono ?_
  rintro e w3 ⟨v3, rfl, hown3, hb3⟩
  obtain ⟨A3, c3, rfl, _⟩ := own_slice hown3
  have hb03 := HB2.out.trans (hb3.mono HB2.out.size)
  have HX4 := Lib.hid (without_any (Lt w3.heap.size) (Lt w3.heap.size) (srtM now) old A3 A c3 c w3 (fun _ h => h) (fun _ h => h) (by rw [srtM_len, ← HP.out]; omega) (by rw [← HN.out]; omega) (Row.ofOwn hown3 fun _ _ _ h => h) (HROW.out.1.below hb03))
  have HB3 := Lib.hid (And.intro hb03 hb3)
  rw [srtM_len, ← HN.out, ← HP.out] at HX4
  rw [srtM_len, ← HP.out]
  clear hown3 hb3 hb03 HS3
  go_wp2_with fail
  refine HX4.out.mono ?_
  rintro e w4 ⟨v4, rfl, hown4, hb4⟩
  rw [gone_is] at hown4
  obtain ⟨CA, cc, rfl, _⟩ := own_slice hown4
  obtain ⟨z4, hz4'⟩ : ∃ z4 : Int, z4 = (old.length : Int) + ((wgo (srtM now) fun m => old.count m).length : Int) - ((srtM now).length : Int) := ⟨_, rfl⟩
  rw [← hz4']
  have hb04 := HB3.out.1.trans (hb4.mono HB3.out.1.size)
  have hb24 := HB3.out.2.trans (hb4.mono HB3.out.2.size)
  have hs24 := hb24.size
  have HC := Lib.hid (Row.ofOwn (S := Fr w0.heap.size w4.heap.size) hown4 fun g _ h1 h2 => ⟨Nat.le_trans HB3.out.1.size h1, h2⟩)
  have HG4 := Lib.hid ((HG.out.keep ((kept_below hb24).sub fun b hb => hb.2)).more (S' := Fr w0.heap.size w4.heap.size) fun b hb => ⟨hb.1, Nat.lt_of_lt_of_le hb.2 hs24⟩)
  have HB4 := Lib.hid hb04
  obtain ⟨nc, hnc⟩ : ∃ nc, nc = (goneM now old).length := ⟨_, rfl⟩
  have hnc5 : nc ≤ 100000 := by rw [hnc]; have := gone_len now old; have := HP.out; omega
  have HNC := Lib.hid hnc
  rw [← hnc]
  clear hz4' hown4 hb4 hb04 hb24 hnc HX4 HB3 HB2 HG
  have hmm := @run_makeMap Try.prog
  obtain ⟨w5, hw5⟩ : ∃ w5, w5 = w4.alloc (.map #[] 0) := ⟨_, rfl⟩
  have hb5 : Below w4.heap.size w4 w5 := by rw [hw5]; exact (Below.refl _ _).alloc (Nat.le_refl _) _
  have hs5 : w5.heap.size = w4.heap.size + 1 := by rw [hw5]; simp
  have hq5 : QAt w5.heap.size w5 w4.heap.size fun _ => [] := by
    rw [hw5]
    exact ⟨_, MapG.new w4, fun k => World.ownsRow_nil _ _ _ _, fun k k' _ g h => by cases h⟩
  have HG5 := Lib.hid (HG4.out.keep ((kept_below hb5).sub fun b hb => hb.2))
  have HC5 := Lib.hid (HC.out.keep ((kept_below hb5).sub fun b hb => hb.2))
  have HB5 := Lib.hid (HB4.out.trans (hb5.mono HB4.out.size))
  have HQ5 := Lib.hid hq5
  have HW5 := Lib.hid hw5
  have HS5 := Lib.hid hs5
  have hs04 := HB4.out.size
  have HS0 := Lib.hid hs0
  clear hb5 hq5 hw5 HG4 HC HB4 hs24 hs5 hs0
  go_wp2_with fail
  clear hmm
  rw [← HW5.out]
  clear HW5
  go_loopw [35] (fun i wr => ∃ k : Nat, k ≤ ng ∧ i = .int .i64 k ∧ Kp (fun y => y = w4.heap.size) w5 wr ∧ QAt w5.heap.size wr w4.heap.size (fun κ => fk κ ((goneM old now).take k))) (fun i _ => ng - (intOf i).toNat)
  case atStart => exact ⟨0, by omega, rfl, Kp.refl _ _, HQ5.out⟩
  case round =>
    obtain ⟨k, hkn, rfl, hK, hQ⟩ := hrel
    have hsz := hK.size
    have hs5 := HS5.out
    by_cases hlt : k < ng
    · skip
      obtain ⟨m, hm⟩ : ∃ m, (goneM old now)[k]? = some m := ⟨_, List.getElem?_eq_getElem (by rw [← HNG.out]; exact hlt)⟩
      have hrow := HG5.out.keep (hK.kept fun b hb => ⟨by have := hb.2; omega, fun e => by have := hb.2; omega⟩)
      obtain ⟨ad, hA, _, a0, a1, a2⟩ := ms_at hrow hm
      have hik : (0 : Int) ≤ (k : Int) ∧ (k : Int) < (ng : Int) := ⟨by omega, by omega⟩
      have HTK : Hid ((goneM old now).take (k + 1) = (goneM old now).take k ++ [m]) := Lib.hid (take_snoc hm)
      obtain ⟨w1, hw1⟩ : ∃ w1, w1 = wr.alloc (.cells #[.int .i64 m.1, .int .i64 m.2.1, sv m.2.2] 40) := ⟨_, rfl⟩
      have hb1 : Below wr.heap.size wr w1 := by rw [hw1]; exact (Below.refl _ _).alloc (Nat.le_refl _) _
      have ha1 : w1.heap[wr.heap.size]? = some (.cells #[.int .i64 m.1, .int .i64 m.2.1, sv m.2.2] 40 (0, 0)) := by rw [hw1]; exact alloc1 _ _
      obtain ⟨c0, c1, c2⟩ := ms_blk ha1 rfl
      have HC1 : Hid (AtCells [(⟨wr.heap.size, 0, none⟩, .int .i64 m.1), (⟨wr.heap.size, 0 + 1, none⟩, .int .i64 m.2.1), (⟨wr.heap.size, 0 + 2, none⟩, sv m.2.2)] w1) := Lib.hid ⟨c0, c1, c2, trivial⟩
      have hQ1 := hQ.kp (M := fun _ => False) (Kp.ofBelow hb1) (fun e => e) (fun _ e => e.elim)
      obtain ⟨G, hG, hro, hdi⟩ := hQ1
      have HK1 := Lib.hid (hK.trans (M1 := fun _ => False) (Kp.ofBelow hb1) fun _ _ e => e.elim)
      have HG1 := Lib.hid hG
      have HRO := Lib.hid hro
      have HDI := Lib.hid hdi
      have HW1 := Lib.hid hw1
      have HAD := Lib.hid hA
      rw [hA]
      clear hK hQ hrow hm hA hb1 ha1 c0 c1 c2 hG hro hdi hw1 hs5
      go_wp2_with fail
      rw [← HW1.out]
      clear HW1 a0 a1 a2
      obtain ⟨nq, hnq⟩ : ∃ nq, nq = (fk m.2 ((goneM old now).take k)).length := ⟨_, rfl⟩
      obtain ⟨QA, qc, hq, _⟩ := own_slice (HRO.out m.2)
      have hnq5 : nq ≤ 100000 := by
        rw [hnq]
        have h1 := (List.filter_sublist (p := fun x : Msg => decide (x.2 = m.2)) (l := (goneM old now).take k)).length_le
        have h2 : ((goneM old now).take k).length ≤ k := List.length_take_le _ _
        show ((goneM old now).take k |>.filter fun x => decide (x.2 = m.2)).length ≤ _
        omega
      rw [← hnq] at hq
      have HQQ := Lib.hid hq
      have HNQ := Lib.hid hnq
      clear hq hnq
      refine wp_region_fexp (fun u => Below w1.heap.size w1 u ∧ AtCells [(⟨wr.heap.size, 0, none⟩, .int .i64 m.1), (⟨wr.heap.size, 0 + 1, none⟩, .int .i64 m.2.1), (⟨wr.heap.size, 0 + 2, none⟩, sv m.2.2)] u) (fun u v => Below u.heap.size u v) (dfPhi w5.heap.size m (.slice QA nq qc)) [0, 3] [] [(1, 40), (2, 41), (4, 43), (5, 44), (6, 45), (7, 46), (8, 47)] [9, 10] (by kernel_rfl) (by kernel_rfl) (by kernel_rfl) (fun _ => Below.refl _ _) (fun a b c h h' => h.trans (h'.mono h.size)) dfPhi_go ?sA ?hA
      case sA => exact ⟨(Below.refl _ w1).drew, HC1.out.below (Below.refl _ w1).drew⟩
      case hA =>
      simp only [opsAt, List.filterMap_cons, List.filterMap_nil, List.getElem?_toArray, List.getElem?_cons_succ, List.getElem?_cons_zero]
      refine wpFloat_step ?va0 rfl (fun w' => ?ya0) ?ka0
      case ya0 =>
        go_simp
        try rfl
      case ka0 =>
      go_simp
      refine wpFloat_step ?va1 rfl (fun w' => ?ya1) ?ka1
      case ya1 =>
        go_simp
        try rfl
      case ka1 =>
      go_simp
      refine wpFloat_nil ?_
      refine ⟨?szA, ?stA, (fun i hi => by cases hi), ?finA⟩
      case szA =>
        intro x hx
        simp only [List.mem_cons, List.not_mem_nil, or_false] at hx
        rcases hx with rfl | rfl | rfl | rfl | rfl | rfl | rfl <;> simp
      case stA =>
        intro x hx _
        simp only [List.mem_cons, List.not_mem_nil, or_false] at hx
        rcases hx with rfl | rfl | rfl | rfl | rfl | rfl | rfl
        · skip
          intro a' w7 K hI hK
          have eP := hI.old 11 _ rfl (by decide)
          have hS := hI.hold
          have hK : ∀ v w', Below w7.heap.size w7 w' → _ → (v = msV m) → K (a'.put (some 40) v) w' := hK
          obtain ⟨g0, g1, g2, _⟩ := hS.2
          clear hI
          refine wpOp_go rfl rfl ?_
          go_simp
          exact hK _ _ (Below.refl _ _) hS rfl
        · skip
          intro a' w7 K hI hK
          obtain ⟨v1, eJ, hv⟩ := hI.new (1, 40) (by decide) (by kernel_rfl)
          obtain rfl : v1 = msV m := hv
          have hS := hI.hold
          have hK : ∀ v w', Below w7.heap.size w7 w' → _ → (v = kdV m.2) → K (a'.put (some 41) v) w' := hK
          clear hI
          refine wpOp_go rfl rfl ?_
          go_simp
          refine (of_any m w7).mono ?_
          rintro e w8 ⟨rfl, hb8⟩
          have hbx := hS.1.trans (hb8.mono hS.1.size)
          exact hK _ _ hb8 ⟨hbx, HC1.out.below hbx⟩ rfl
        · skip
          intro a' w7 K hI hK
          have eP := hI.old 11 _ rfl (by decide)
          have hS := hI.hold
          have hK : ∀ v w', Below w7.heap.size w7 w' → _ → (v = msV m) → K (a'.put (some 43) v) w' := hK
          obtain ⟨g0, g1, g2, _⟩ := hS.2
          clear hI
          refine wpOp_go rfl rfl ?_
          go_simp
          exact hK _ _ (Below.refl _ _) hS rfl
        · skip
          intro a' w7 K hI hK
          obtain ⟨v1, eJ, hv⟩ := hI.new (4, 43) (by decide) (by kernel_rfl)
          obtain rfl : v1 = msV m := hv
          have hS := hI.hold
          have hK : ∀ v w', Below w7.heap.size w7 w' → _ → (v = kdV m.2) → K (a'.put (some 44) v) w' := hK
          clear hI
          refine wpOp_go rfl rfl ?_
          go_simp
          refine (of_any m w7).mono ?_
          rintro e w8 ⟨rfl, hb8⟩
          have hbx := hS.1.trans (hb8.mono hS.1.size)
          exact hK _ _ hb8 ⟨hbx, HC1.out.below hbx⟩ rfl
        · intro a' w7 K hI hK
          obtain ⟨v1, e44, hv⟩ := hI.new (5, 44) (by decide) (by kernel_rfl)
          obtain rfl : v1 = kdV m.2 := hv
          have hS := hI.hold
          have hK : ∀ v w', Below w7.heap.size w7 w' → _ → (v = .slice QA nq qc) → K (a'.put (some 45) v) w' := hK
          have hlk := look_q (HG1.out.same (hS.1.block _ HG1.out.lt)) m.2
          rw [HQQ.out] at hlk
          have e42 := hI.old 42 _ rfl (by decide)
          clear hI
          refine wpOp_go rfl rfl ?_
          go_simp
          exact hK _ _ (Below.refl _ _) hS rfl
        · skip
          intro a' w7 K hI hK
          have eP := hI.old 11 _ rfl (by decide)
          have hS := hI.hold
          have hK : ∀ v w', Below w7.heap.size w7 w' → _ → (v = msV m) → K (a'.put (some 46) v) w' := hK
          obtain ⟨g0, g1, g2, _⟩ := hS.2
          clear hI
          refine wpOp_go rfl rfl ?_
          go_simp
          exact hK _ _ (Below.refl _ _) hS rfl
        · intro a' w7 K hI hK
          obtain ⟨v1, e46, hv⟩ := hI.new (7, 46) (by decide) (by kernel_rfl)
          obtain rfl : v1 = msV m := hv
          have hS := hI.hold
          have hK : ∀ v w', Below w7.heap.size w7 w' → _ → (∃ g, v = .slice (some ⟨g, 0, none⟩) 1 1 ∧ w5.heap.size ≤ g ∧ w'.heap[g]? = some (.cells #[.int .i64 m.1, .int .i64 m.2.1, sv m.2.2] 40 (0, 0))) → K (a'.put (some 47) v) w' := hK
          have hb7 : Below w7.heap.size w7 (w7.alloc (.cells #[.int .i64 m.1, .int .i64 m.2.1, sv m.2.2] 40)) := (Below.refl _ _).alloc (Nat.le_refl _) _
          have ha7 := alloc1 w7 (.cells #[.int .i64 m.1, .int .i64 m.2.1, sv m.2.2] 40)
          have hsz7 := hS.1.size
          have hbx := hS.1.trans (hb7.mono hsz7)
          have hk1s := HK1.out.size
          clear hI
          refine wpOp_go rfl rfl ?_
          go_simp
          exact hK _ _ hb7 ⟨hbx, HC1.out.below hbx⟩ ⟨_, rfl, by omega, ha7⟩
      case finA =>
        intro vs w6 _ hS6 hΦ
        have q2 : vs 2 = kdV m.2 := hΦ (2, 41) (by decide)
        have q6 : vs 6 = .slice QA nq qc := hΦ (6, 45) (by decide)
        have q8 : ∃ g, vs 8 = .slice (some ⟨g, 0, none⟩) 1 1 ∧ w5.heap.size ≤ g ∧ w6.heap[g]? = some (.cells #[.int .i64 m.1, .int .i64 m.2.1, sv m.2.2] 40 (0, 0)) := hΦ (8, 47) (by decide)
        obtain ⟨g5, e8, hg5, hblk⟩ := q8
        simp only [putD, q2, q6, e8]
        clear q2 q6 e8 hΦ
        generalize vs 1 = a1
        generalize vs 4 = a4
        generalize vs 5 = a5
        generalize vs 7 = a7
        clear vs
        have hb6 := hS6.1
        have hk6 : Kp (fun _ => False) w1 w6 := Kp.ofBelow hb6
        have hro6 := fun κ => hk6.own (HRO.out κ) fun _ _ e => e
        have hG6 := HG1.out.same (hb6.block _ HG1.out.lt)
        have hrow5 : Row w6 (fun y => y = g5) (some ⟨g5, 0, none⟩) (msC m) := row_heap hblk rfl rfl
        have hqo := hro6 m.2
        rw [HQQ.out, ← HNQ.out] at hqo
        have hk1s := HK1.out.size
        have hs6 := hb6.size
        have hs5 := HS5.out
        clear hs5
        go_simp
        have hs5 := HS5.out
        simp only [opsAt, List.filterMap_cons, List.filterMap_nil, List.getElem?_toArray, List.getElem?_cons_succ, List.getElem?_cons_zero]
        refine (wpList_append_row rfl _ _ 22 rfl w5.heap.size 40 i0 _ 3 32 Try.underlying22 hi hz0 hz1 hz2 rfl (by omega) (.slice QA nq qc) nq (flt msC (fk m.2 ((goneM old now).take k))) rfl hqo (fun y => y = g5) (some ⟨g5, 0, none⟩) 1 1 (msC m) rfl rfl hrow5 (msC_one m) (by unfold maxLen; omega) (by omega) (by omega) ?_)
        intro v7 w7 hown7 hg7 hat7
        obtain ⟨A7, c7, rfl, _⟩ := own_slice hown7
        have hk7 : Kp (fun y => w5.heap.size ≤ y) w6 w7 := (Kp.refl _ _).grown hg7 (fun r hr _ => (hqo.lt r hr).1)
        have hG7 := hG6.kp hk7 (fun e => by omega)
        obtain ⟨w8, hput, hG8, hk8⟩ := hG7.put (P := Try.prog) (K := KKd) (fun _ _ => kdV_inj) Try.underlying62 keyKd (hKKd w7) m.2 ((A7, nq + 1, c7) : Sl)
        have hput' : (Instr.mapUpdate 62 (.map (some w4.heap.size)) (.agg #[.int .i64 m.2.1, sv m.2.2]) (.slice A7 (nq + 1) c7)).run Try.prog w7 = .ok () w8 := hput
        have hpush := QAt.push (B := w5.heap.size) (b := w4.heap.size) (Q := fun κ => fk κ ((goneM old now).take k)) (k := m.2) (m := m) (q := (A7, nq + 1, c7)) (by omega) hro6 HDI.out (by rw [← HNQ.out]; exact hown7) (by rw [HQQ.out]; exact hg7) (by rw [HQQ.out]; exact hat7) hG8 hk8
        have hk58 : Kp (fun y => y = w4.heap.size) w5 w8 := HK1.out.trans (M1 := fun y => y = w4.heap.size ∨ w5.heap.size ≤ y) ((hk6.more (M' := fun y => y = w4.heap.size ∨ w5.heap.size ≤ y) fun _ _ e => e.elim).trans ((hk7.more (M' := fun y => y = w4.heap.size ∨ w5.heap.size ≤ y) fun _ _ e => .inr e).trans (hk8.more (M' := fun y => y = w4.heap.size ∨ w5.heap.size ≤ y) fun _ _ e => .inl e) fun _ _ e => e) fun _ _ e => e) fun y hy e => by
          rcases e with e | e
          · exact e
          · omega
        have HPU : Hid (QAt w5.heap.size w8 w4.heap.size fun κ => fk κ ((goneM old now).take (k + 1))) := Lib.hid (by
          have e : (fun κ => fk κ ((goneM old now).take (k + 1))) = fun k' => if k' = m.2 then fk m.2 ((goneM old now).take k) ++ [m] else fk k' ((goneM old now).take k) := by
            funext κ
            rw [HTK.out, fk_snoc]
            by_cases e : κ = m.2
            · rw [if_pos e, if_pos e, e]
            · rw [if_neg e, if_neg e]
          rw [e]
          exact hpush)
        have HK8 := Lib.hid hk58
        clear hs5 hput hpush hk58 hG8 hk8 hG7 hk7 hat7 hg7 hown7 hqo hrow5 hG6 hro6 hk6 hb6 hS6 hblk HQQ HG1 HRO HDI HC1 HK1
        go_wp2
        refine NoPanic.normal ?_
        go_wp2_with fail
        clear hput'
        try rw [← HAD.out]
        first | go_roundw | refine ⟨?rel, ?measure⟩
        case rel => exact ⟨k + 1, by omega, by go_num, HK8.out, HPU.out⟩
        case measure => simp [intOf]; omega
    · have hke : k = ng := by omega
      have htk : (goneM old now).take k = goneM old now := List.take_of_length_le (by rw [← HNG.out]; omega)
      rw [htk] at hQ
      obtain ⟨wa, hwa⟩ : ∃ wa, wa = wr := ⟨_, rfl⟩
      rw [← hwa] at hK hQ hsz ⊢
      clear hwa htk hke
      obtain ⟨wd, hwd⟩ : ∃ wd, wd = wa.alloc (.cells #[.slice none 0 0, .slice none 0 0, .slice none 0 0] 25) := ⟨_, rfl⟩
      have hbd : Below wa.heap.size wa wd := by rw [hwd]; exact (Below.refl _ _).alloc (Nat.le_refl _) _
      have hsd : wd.heap.size = wa.heap.size + 1 := by rw [hwd]; simp
      have hod : wd.heap[wa.heap.size]? = some (.cells #[.slice none 0 0, .slice none 0 0, .slice none 0 0] 25 (0, 0)) := by rw [hwd]; exact alloc1 _ _
      have HINV0 : Hid (OfInv w4.heap.size wa.heap.size wd.heap.size (Fr w5.heap.size wa.heap.size) wd wd (fun κ => fk κ (goneM old now)) [] [] [] (.slice none 0 0) (.slice none 0 0) (.slice none 0 0)) := Lib.hid ⟨⟨by omega, by omega, Nat.le_refl _⟩, fun y hy => ⟨hy.2, fun e => by have := hy.1; omega⟩, Kp.refl _ _, hQ.rd.kp (M := fun _ => False) (Kp.ofBelow hbd) (fun e => e) (fun y hy => ⟨hy.2, fun e => e⟩), hod, World.ownsRow_nil _ _ _ _, World.ownsRow_nil _ _ _ _, World.ownsRow_nil _ _ _ _, fun g h => by cases h⟩
      have HBA := Lib.hid (kp_below HB5.out hK fun y e => by omega)
      have HK5 := Lib.hid hK
      have HBD := Lib.hid hbd
      have HSD := Lib.hid hsd
      have HWD := Lib.hid hwd
      have HZ : Hid (w4.heap.size < w5.heap.size ∧ w5.heap.size ≤ wa.heap.size ∧ wa.heap.size < wd.heap.size ∧ w0.heap.size ≤ w4.heap.size) := Lib.hid ⟨by omega, hsz, by omega, by omega⟩
      have HCd := Lib.hid ((HC5.out.keep (hK.kept fun b hb => ⟨by have := hb.2; omega, fun e => by have := hb.2; omega⟩)).keep ((kept_below hbd).sub fun b hb => by have := hb.2; unfold Lt; omega))
      have HGd := Lib.hid ((HG5.out.keep (hK.kept fun b hb => ⟨by have := hb.2; omega, fun e => by have := hb.2; omega⟩)).keep ((kept_below hbd).sub fun b hb => by have := hb.2; unfold Lt; omega))
      clear hQ hK hsz hbd hsd hod hwd hs5 HQ5 HG5 HC5 HB5
      go_wp2_with fail
      rw [← HWD.out]
      go_loopw [13, 52] (fun tv i wr => ∃ (k : Nat) (cv mv : Value), k ≤ nc ∧ i = .int .i64 k ∧ OfInv w4.heap.size wa.heap.size wd.heap.size (Fr w5.heap.size wa.heap.size) wd wr (fun κ => fk κ (mate ((goneM now old).take k) (goneM old now)).2.2) (mate ((goneM now old).take k) (goneM old now)).1 ((mate ((goneM now old).take k) (goneM old now)).2.1.map (·.1)) ((mate ((goneM now old).take k) (goneM old now)).2.1.map mvOf) tv cv mv) (fun _ i _ => nc - (intOf i).toNat)
      case atStart => exact ⟨0, _, _, by omega, rfl, HINV0.out⟩
      case round =>
        obtain ⟨k, cv, mv, hkn, rfl, hI⟩ := hrel
        obtain ⟨st, hst⟩ : ∃ st, st = mate ((goneM now old).take k) (goneM old now) := ⟨_, rfl⟩
        rw [← hst] at hI
        have hfew := mate_few ((goneM now old).take k) (goneM old now)
        rw [← hst, List.length_take, ← HNG.out] at hfew
        by_cases hlt : k < nc
        · obtain ⟨m, hm⟩ : ∃ m, (goneM now old)[k]? = some m := ⟨_, List.getElem?_eq_getElem (by rw [← HNC.out]; exact hlt)⟩
          have hz := HZ.out
          have hrow := HCd.out.keep (hI.kp.kept fun b hb => ⟨by have := hb.2; omega, fun e => by have := hb.2; omega⟩)
          obtain ⟨ad, hA, _, a0, a1, a2⟩ := ms_at hrow hm
          have hik : (0 : Int) ≤ (k : Int) ∧ (k : Int) < (nc : Int) := ⟨by omega, by omega⟩
          have HMS : Hid (mate ((goneM now old).take (k + 1)) (goneM old now) = mstep st m) := Lib.hid (by rw [take_snoc hm, mate_snoc, hst])
          obtain ⟨w1, hw1⟩ : ∃ w1, w1 = wr.alloc (.cells #[.int .i64 m.1, .int .i64 m.2.1, sv m.2.2] 40) := ⟨_, rfl⟩
          have hb1 : Below wr.heap.size wr w1 := by rw [hw1]; exact (Below.refl _ _).alloc (Nat.le_refl _) _
          have ha1 : w1.heap[wr.heap.size]? = some (.cells #[.int .i64 m.1, .int .i64 m.2.1, sv m.2.2] 40 (0, 0)) := by rw [hw1]; exact alloc1 _ _
          have HOF := Lib.hid (of_any m w1)
          have HIV := Lib.hid hI
          have HA1 := Lib.hid ha1
          have HB1 := Lib.hid hb1
          have HW1 := Lib.hid hw1
          have HFEW := Lib.hid hfew
          clear hst hI hrow hm hb1 ha1 hw1 hfew hz
          rw [hA]
          have HAD := Lib.hid hA
          clear hA
          go_wp2_with fail
          rw [← HW1.out]
          refine HOF.out.mono ?_
          rintro e w3 ⟨rfl, hb3⟩
          clear a0 a1 a2
          obtain ⟨w6, hw6⟩ : ∃ w6, w6 = w3.alloc (.cells #[.int .i64 m.2.1, sv m.2.2] 64) := ⟨_, rfl⟩
          have hb6 : Below w3.heap.size w3 w6 := by rw [hw6]; exact (Below.refl _ _).alloc (Nat.le_refl _) _
          have hs6 : w6.heap.size = w3.heap.size + 1 := by rw [hw6]; simp
          have hb16 : Below w1.heap.size w1 w6 := hb3.trans (hb6.mono hb3.size)
          have hbr6 : Below wr.heap.size wr w6 := HB1.out.trans (hb16.mono HB1.out.size)
          have hI6 := HIV.out.below hbr6
          have hx6 : w6.heap[wr.heap.size]? = some (.cells #[.int .i64 m.1, .int .i64 m.2.1, sv m.2.2] 40 (0, 0)) := (hb16.block _ (lt_of_heap HA1.out)).trans HA1.out
          have hk6 : w6.heap[w3.heap.size]? = some (.cells #[.int .i64 m.2.1, sv m.2.2] 64 (0, 0)) := by rw [hw6]; exact alloc1 _ _
          obtain ⟨VA, vc, rfl, _⟩ := own_slice hI6.rc
          obtain ⟨MA, mc, rfl, _⟩ := own_slice hI6.rm
          obtain ⟨TA, tc, rfl, _⟩ := own_slice hI6.rt
          obtain ⟨yc, hyc⟩ : ∃ yc, yc = st.1.length := ⟨_, rfl⟩
          obtain ⟨yt, hyt⟩ : ∃ yt, yt = (st.2.1.map (·.1)).length := ⟨_, rfl⟩
          obtain ⟨ym, hym⟩ : ∃ ym, ym = (st.2.1.map mvOf).length := ⟨_, rfl⟩
          have hbnd : yc ≤ 100000 ∧ yt ≤ 100000 ∧ ym ≤ 100000 := by
            have := HFEW.out
            rw [List.length_map] at hyt hym
            omega
          rw [← hyc, ← hyt, ← hym] at hI6
          obtain ⟨G, hG, hQr⟩ := hI6.q
          obtain ⟨QA, qc, hq, hqc, hqr⟩ := hQr m.2
          obtain ⟨nq, hnq⟩ : ∃ nq, nq = (fk m.2 st.2.2).length := ⟨_, rfl⟩
          rw [← hnq] at hq hqc
          have hlk : (Instr.lookup 62 (.map (some w4.heap.size)) (.agg #[.int .i64 m.2.1, sv m.2.2]) false).run Try.prog w6 = .ok (.slice QA nq qc) w6 := by
            have h1 := look_q hG m.2
            rw [hq] at h1
            exact h1
          obtain ⟨c0, c1, c2⟩ := ms_blk hx6 rfl
          have k0 : w6.cell? ⟨w3.heap.size, 0, none⟩ = some (.int .i64 m.2.1) := (Lib.cell_of_heap hk6 _).trans rfl
          have k1 : w6.cell? ⟨w3.heap.size, 1, none⟩ = some (sv m.2.2) := (Lib.cell_of_heap hk6 _).trans rfl
          have o1 : w6.cell? ⟨wa.heap.size, 1, none⟩ = some (.slice VA yc vc) := (Lib.cell_of_heap hI6.blk _).trans rfl
          have hol := hI6.olt
          have hwo := HIV.out.olt
          have htl : ∀ g, (Value.slice TA (st.2.1.map (·.1)).length tc).ownBlock = some g → g < wr.heap.size := fun g hg => (HIV.out.rt.lt g hg).2
          rw [← hyt] at htl
          have HTL := Lib.hid htl
          clear htl
          have HI6 := Lib.hid hI6
          have HX6 := Lib.hid hx6
          have HK6 := Lib.hid hk6
          have HYC := Lib.hid hyc
          have HYT := Lib.hid hyt
          have HYM := Lib.hid hym
          have HNQ := Lib.hid hnq
          have HG6 := Lib.hid hG
          have HQR := Lib.hid hQr
          have HQ := Lib.hid hq
          have HW6 := Lib.hid hw6
          have HS6 := Lib.hid hs6
          have hwr6 := hbr6.size
          rw [← hyt]
          clear hb6 hb16 hbr6 hI6 hx6 hk6 hyc hyt hym hG hQr hq hqr hnq hs6 HOF HIV HB1 HW1 HA1 hb3
          by_cases hn0 : nq = 0
          · have hqz : ((nq : Int) == 0) = true := by simp; omega
            have hfind : st.2.2.find? (alk m) = none := fk_empty.1 (List.eq_nil_of_length_eq_zero (by rw [← HNQ.out]; exact hn0))
            have HST : Hid (mate ((goneM now old).take (k + 1)) (goneM old now) = (st.1 ++ [m], st.2.1, st.2.2)) := Lib.hid (by rw [HMS.out, mstep_none hfind])
            have hown := HI6.out.rc.alloc (.cells #[.int .i64 m.1, .int .i64 m.2.1, sv m.2.2] 40)
            rw [← HYC.out] at hown
            have hnew := World.news_of_block (cs := #[.int .i64 m.1, .int .i64 m.2.1, sv m.2.2]) (alloc1 w6 (.cells #[.int .i64 m.1, .int .i64 m.2.1, sv m.2.2] 40))
            rw [HS6.out] at hnew
            rw [hw6] at hlk c0 c1 c2 k0 k1 o1 hown hnew
            have HO1 := Lib.hid hown
            have HNEW := Lib.hid hnew
            have hhi := HZ.out
            have hs6 := HS6.out
            clear hown hnew hfind hw6 hn0
            go_wp2_with (at_builtin; refine wpList_append_lies _ rfl _ _ 22 rfl wd.heap.size 40 i0 _ 3 32 Try.underlying22 hi hz0 hz1 hz2 rfl (by omega) (.slice VA yc vc) yc (flt msC st.1) rfl HO1.out ⟨w3.heap.size + 1, 0, none⟩ 1 1 [.int .i64 m.1, .int .i64 m.2.1, sv m.2.2] rfl rfl HNEW.out ?d2 (by omega) ?d3 ?d4 ?d5 _ rfl ?_)
            case d2 => exact fun u hu => msC_one m u hu
            case d3 => unfold maxLen; omega
            case d4 => omega
            case d5 => have := HI6.out.kp.size; simp; omega
            intro vg vcap w7 hown7 hgr hat _
            have hk67 : Kp (fun y => (Value.slice VA yc vc).ownBlock = some y) w6 w7 := by
              rw [HW6.out]
              exact ((Kp.refl _ _).alloc (.cells #[.int .i64 m.1, .int .i64 m.2.1, sv m.2.2] 40)).grown hgr fun r hr _ => hr
            have hblk7 := hk67.heap HI6.out.blk fun e => own_ne HI6.out.rc HI6.out.blk (by decide) _ e rfl
            have o7 : w7.cell? ⟨wa.heap.size, 1, none⟩ = some (.slice VA yc vc) := (Lib.cell_of_heap hblk7 _).trans rfl
            have f7 : w7.frozen? ⟨wa.heap.size, 1, none⟩ = false := Lib.frozen_of_heap hblk7 1
            have HINV : Hid (OfInv w4.heap.size wa.heap.size wd.heap.size (Fr w5.heap.size wa.heap.size) wd (w7.setCell ⟨wa.heap.size, 1, none⟩ (.slice (some ⟨vg, 0, none⟩) (yc + 1) vcap)) (fun κ => fk κ (mate ((goneM now old).take (k + 1)) (goneM old now)).2.2) (mate ((goneM now old).take (k + 1)) (goneM old now)).1 ((mate ((goneM now old).take (k + 1)) (goneM old now)).2.1.map (·.1)) ((mate ((goneM now old).take (k + 1)) (goneM old now)).2.1.map mvOf) (.slice TA yt tc) (.slice (some ⟨vg, 0, none⟩) (yc + 1) vcap) (.slice MA ym mc)) := Lib.hid (by
              rw [HST.out]
              have := HI6.out.come (u' := w7) (m := m) (vg := vg) (vcap := vcap) (by rw [← HYC.out]; exact hown7) hk67 (hat.imp id fun h => by omega)
              rw [← HYC.out] at this
              exact this)
            clear hown7 hgr hat hk67 hblk7 HO1 HNEW HI6 HG6 HQR HMS HX6 HK6 HQ c0 c1 c2 k0 k1 o1 hlk hs6
            go_wp2_with fail
            try rw [← HAD.out]
            first | go_roundw | refine ⟨?rel, ?measure⟩
            case rel => exact ⟨k + 1, _, _, by omega, by go_num, HINV.out⟩
            case measure => simp [intOf]; omega
          · have hqz : ((nq : Int) == 0) = false := by simp; omega
            obtain ⟨x, r, hxr⟩ : ∃ x r, fk m.2 st.2.2 = x :: r := by
              cases h : fk m.2 st.2.2 with
              | nil => exact absurd (by rw [HNQ.out, h]; rfl) hn0
              | cons x r => exact ⟨x, r, rfl⟩
            have hfind : st.2.2.find? (alk m) = some x := by
              cases h : st.2.2.find? (alk m) with
              | none =>
                have := fk_nofind h
                rw [hxr] at this
                cases this
              | some y =>
                obtain ⟨_, _, h3, _⟩ := fk_find h
                rw [hxr] at h3
                injection h3 with h3 _
                rw [h3]
            obtain ⟨-, -, hf3, hf4⟩ := fk_find hfind
            have HST : Hid (mate ((goneM now old).take (k + 1)) (goneM old now) = (st.1, st.2.1 ++ [(x, m)], st.2.2.erase x)) := Lib.hid (by rw [HMS.out, mstep_some hfind])
            have HQE : Hid ((fun k' => if k' = m.2 then r else fk k' st.2.2) = fun κ => fk κ (st.2.2.erase x)) := Lib.hid (by
              funext κ
              by_cases e : κ = m.2
              · rw [if_pos e, e]
                rw [hxr] at hf3
                injection hf3
              · rw [if_neg e, hf4 κ e])
            have HXR := Lib.hid hxr
            obtain ⟨QA', c', e1, _, hr⟩ := HQR.out m.2
            obtain ⟨rfl, -, rfl⟩ : QA = QA' ∧ nq = (fk m.2 st.2.2).length ∧ qc = c' := by
              have := HQ.out.symm.trans e1
              simpa using this
            have hr : Row w6 (Fr w5.heap.size wa.heap.size) QA (flt msC (fk m.2 st.2.2)) := hr
            rw [hxr] at hr
            obtain ⟨qa, hqa, _, hxa⟩ := ms_at hr (i := 0) rfl
            subst hqa
            have hxa' : MsAt w6 qa x := by
              have e : qa.add (0 * 3) = qa := rfl
              rwa [e] at hxa
            obtain ⟨b0, b1, b2⟩ := hxa'
            have hnq0 : (0 : Int) < (nq : Int) := by omega
            have hbm : Below w6.heap.size w6 (w6.alloc (.cells #[.int .i64 x.1, .int .i64 x.2.1, sv x.2.2] 40)) := (Below.refl _ _).alloc (Nat.le_refl _) _
            obtain ⟨wm, hwm⟩ : ∃ wm, wm = w6.alloc (.cells #[.int .i64 x.1, .int .i64 x.2.1, sv x.2.2] 40) := ⟨_, rfl⟩
            rw [← hwm] at hbm
            have hxm : wm.heap[w6.heap.size]? = some (.cells #[.int .i64 x.1, .int .i64 x.2.1, sv x.2.2] 40 (0, 0)) := by rw [hwm]; exact alloc1 _ _
            have hsm : wm.heap.size = w6.heap.size + 1 := by rw [hwm]; simp
            have HM1 := Lib.hid hwm
            have HBM := Lib.hid hbm
            have HXM := Lib.hid hxm
            have HSM := Lib.hid hsm
            rw [hw6] at hlk c0 c1 c2 k0 k1 b0 b1 b2
            obtain ⟨SB, hSB⟩ : ∃ SB, SB = backOf (some qa) 3 qc 1 := ⟨_, rfl⟩
            have HSB := Lib.hid hSB
            have hq1 : (1 : Int) ≤ (nq : Int) ∧ (nq : Int) ≤ (qc : Int) := ⟨by omega, by omega⟩
            clear hxr hfind hf3 hf4 hr hxa hwm hbm hxm hsm e1 hSB o1
            go_wp2_with fail
            rw [← HW6.out, ← HM1.out]
            clear hlk c0 c1 c2 k0 k1 b0 b1 b2
            have HKC : Hid (AtCells [(⟨w3.heap.size, 0, none⟩, .int .i64 m.2.1), (⟨w3.heap.size, 1, none⟩, sv m.2.2)] wm) := Lib.hid (by
              have h := (HBM.out.block _ (lt_of_heap HK6.out)).trans HK6.out
              exact ⟨(Lib.cell_of_heap h _).trans rfl, (Lib.cell_of_heap h _).trans rfl, trivial⟩)
            have HGM := Lib.hid (HG6.out.same (HBM.out.block _ HG6.out.lt))
            refine wp_region_mix (fun u => MapG kdV slV u w4.heap.size G ∧ AtCells [(⟨w3.heap.size, 0, none⟩, .int .i64 m.2.1), (⟨w3.heap.size, 1, none⟩, sv m.2.2)] u) [(true, 0), (true, 1), (true, 2), (true, 3), (true, 4), (true, 5)] [6] (by kernel_rfl) (by kernel_rfl) ?sP ?hP
            case sP => exact ⟨HGM.out.same rfl, HKC.out.below (Below.refl _ wm).drew⟩
            case hP =>
            simp only [mixAt, List.filterMap_cons, List.filterMap_nil, List.getElem?_toArray, List.getElem?_cons_succ, List.getElem?_cons_zero, Option.map_some]
            refine wpMix_load ?vP0 rfl (fun w' hS => ?yP0) ?kP0
            case yP0 =>
              obtain ⟨hM, g0, g1, _⟩ := hS
              go_simp
              try rfl
            case kP0 =>
            go_simp
            refine wpMix_load ?vP1 rfl (fun w' hS => ?yP1) ?kP1
            case yP1 =>
              obtain ⟨hM, g0, g1, _⟩ := hS
              go_simp
              try rfl
            case kP1 =>
            go_simp
            refine wpMix_load ?vP2 rfl (fun w' hS => ?yP2) ?kP2
            case yP2 =>
              obtain ⟨hM, g0, g1, _⟩ := hS
              go_simp
              try rfl
            case kP2 =>
            go_simp
            refine wpMix_load ?vP3 rfl (fun w' hS => ?yP3) ?kP3
            case yP3 =>
              obtain ⟨hM, g0, g1, _⟩ := hS
              go_simp
              try rfl
            case kP3 =>
            go_simp
            refine wpMix_load (.slice (some qa) nq qc) rfl (fun w' hS => ?yP4) ?kP4
            case yP4 =>
              have hlk := look_q hS.1 m.2
              rw [HQ.out] at hlk
              have hlk : (Instr.lookup 62 (.map (some w4.heap.size)) (.agg #[.int .i64 m.2.1, sv m.2.2]) false).run Try.prog w' = .ok (.slice (some qa) nq qc) w' := hlk
              go_simp
              try rfl
            case kP4 =>
            go_simp
            refine wpMix_load (.slice SB (nq - 1) (qc - 1)) rfl (fun w' hS => ?yP5) ?kP5
            case yP5 =>
              go_simp
              rw [HSB.out]
              rfl
            case kP5 =>
            go_simp
            refine wpMix_nil ?_
            have hk0 : Kp (fun _ => False) w6 wm := Kp.ofBelow HBM.out
            have hQm : ∀ k', ∃ A c, sl0 (G k') = (A, (fk k' st.2.2).length, c) ∧ (fk k' st.2.2).length ≤ c ∧ Row wm.drew (Fr w5.heap.size wa.heap.size) A (flt msC (fk k' st.2.2)) := fun k' => by
              obtain ⟨A', c', e1, e2, hr⟩ := HQR.out k'
              exact ⟨A', c', e1, e2, (hr.keep (hk0.kept fun y hy => ⟨by have := (HI6.out.sl y hy).1; have := HI6.out.olt; omega, fun e => e⟩)).keep fun _ _ => rfl⟩
            obtain ⟨w9, hput, hG9, hk9⟩ := (HGM.out.same (w' := wm.drew) rfl).put (P := Try.prog) (K := KKd) (fun _ _ => kdV_inj) Try.underlying62 keyKd (hKKd wm.drew) m.2 ((SB, nq - 1, qc - 1) : Sl)
            have hput' : (Instr.mapUpdate 62 (.map (some w4.heap.size)) (.agg #[.int .i64 m.2.1, sv m.2.2]) (.slice SB (nq - 1) (qc - 1))).run Try.prog wm.drew = .ok () w9 := hput
            rw [HSB.out] at hG9
            have hsm := HSM.out
            have hpop := QRd.pop (w8 := wm.drew) (Q := fun κ => fk κ st.2.2) hQm HQ.out HXR.out hG9 hk9 (fun y hy => by
              have h1 := HI6.out.sl y hy
              have h2 := HI6.out.olt
              exact ⟨by show y < wm.heap.size; omega, h1.2⟩)
            have hI9 := ((HI6.out.below HBM.out).below ((Below.refl _ wm).drew)).pop hpop hk9
            have hkm9 : Kp (fun y => y = w4.heap.size) wm w9 := (Kp.refl _ wm).drew.trans hk9 fun _ _ e => e
            have hhi := HZ.out
            have hs6 := HS6.out
            have hol := HI6.out.olt
            have hx9 := hkm9.heap HXM.out (by omega)
            have hbx9 := hkm9.heap ((HBM.out.block _ (lt_of_heap HX6.out)).trans HX6.out) (by have := HX6.out; have := HI6.out.low; omega)
            obtain ⟨b0, b1, b2⟩ := ms_blk hx9 rfl
            have hown := hI9.rt.alloc (.cells #[.int .i64 x.1, .int .i64 x.2.1, sv x.2.2] 40)
            rw [← HYT.out] at hown
            have HO9 := Lib.hid hown
            have HNEW := Lib.hid (World.news_of_block (cs := #[.int .i64 x.1, .int .i64 x.2.1, sv x.2.2]) (alloc1 w9 (.cells #[.int .i64 x.1, .int .i64 x.2.1, sv x.2.2] 40)))
            have HI9 := Lib.hid hI9
            have HX9 := Lib.hid hx9
            have hs6' := hs6
            have HBX9 := Lib.hid hbx9
            have hs9 := hkm9.size
            rw [hs6] at b0 b1 b2
            clear hpop hG9 hk9 hkm9 hx9 hbx9 hown hI9 hput hQm hk0 HKC HGM HQR HG6 HQ HXR HSB HI6 hw6
            clear hs6 hsm
            simp only [opsAt, List.filterMap_cons, List.filterMap_nil, List.getElem?_toArray, List.getElem?_cons_succ, List.getElem?_cons_zero]
            go_wp2
            refine NoPanic.normal ?_
            go_wp2_with (at_builtin; go_loud (refine wpList_append_lies _ rfl _ _ 22 rfl wd.heap.size 40 i0 _ 3 32 Try.underlying22 hi hz0 hz1 hz2 rfl (by omega) (.slice TA yt tc) yt (flt msC (st.2.1.map (·.1))) rfl HO9.out ⟨w9.heap.size, 0, none⟩ 1 1 [.int .i64 x.1, .int .i64 x.2.1, sv x.2.2] rfl rfl HNEW.out ?d2 (by omega) ?d3 ?d4 ?d5 _ rfl ?_))
            case d2 => exact fun u hu => msC_one x u hu
            case d3 => unfold maxLen; omega
            case d4 => omega
            case d5 => have := HI9.out.kp.size; simp; omega
            intro vg vcap w10 hown10 hgr hat _
            have hk10 : Kp (fun y => (Value.slice TA yt tc).ownBlock = some y) w9 w10 := ((Kp.refl _ _).alloc (.cells #[.int .i64 x.1, .int .i64 x.2.1, sv x.2.2] 40)).grown hgr fun r hr _ => hr
            have hI10 := HI9.out.temp (u' := w10) (m := x) (vg := vg) (vcap := vcap) (by rw [← HYT.out]; exact hown10) hk10 (hat.imp id fun h => by omega)
            rw [← HYT.out] at hI10
            have hx10 := hk10.heap HX9.out fun e => by have := HTL.out _ e; omega
            have hbx10 := hk10.heap HBX9.out fun e => by have := HTL.out _ e; omega
            obtain ⟨b0, b1, b2⟩ := ms_blk hx10 rfl
            obtain ⟨c0, c1, c2⟩ := ms_blk hbx10 rfl
            rw [hs6'] at b0 b1 b2
            have o2 : w10.cell? ⟨wa.heap.size, 2, none⟩ = some (.slice MA ym mc) := (Lib.cell_of_heap hI10.blk _).trans rfl
            have hown := hI10.rm.alloc (.cells #[.int .i64 x.1, .int .i64 m.1, .int .i64 m.1, .int .i64 m.2.1, sv m.2.2] 42)
            rw [← HYM.out] at hown
            have HO10 := Lib.hid hown
            have HNEW2 := Lib.hid (World.news_of_block (cs := #[.int .i64 x.1, .int .i64 m.1, .int .i64 m.1, .int .i64 m.2.1, sv m.2.2]) (alloc1 w10 (.cells #[.int .i64 x.1, .int .i64 m.1, .int .i64 m.1, .int .i64 m.2.1, sv m.2.2] 42)))
            have HI10 := Lib.hid hI10
            have hs10 := hk10.size
            clear hown10 hgr hat hk10 hI10 hx10 hbx10 hown HO9 HNEW HI9
            go_wp2_with (at_builtin; go_loud (refine wpList_append_lies _ rfl _ _ 23 rfl wd.heap.size 42 i5 _ 5 48 Try.underlying23 fi fz0 fz1 fz2 rfl (by omega) (.slice MA ym mc) ym (flt mvC (st.2.1.map mvOf)) rfl HO10.out ⟨w10.heap.size, 0, none⟩ 1 1 [.int .i64 x.1, .int .i64 m.1, .int .i64 m.1, .int .i64 m.2.1, sv m.2.2] rfl rfl HNEW2.out ?e2 (by omega) ?e3 ?e4 ?e5 _ rfl ?_))
            case e2 => exact ⟨rfl, rfl, rfl, rfl⟩
            case e3 => unfold maxLen; omega
            case e4 => omega
            case e5 => have := HI10.out.kp.size; simp; omega
            intro vh vdap w11 hown11 hgr hat _
            have hk11 : Kp (fun y => (Value.slice MA ym mc).ownBlock = some y) w10 w11 := ((Kp.refl _ _).alloc (.cells #[.int .i64 x.1, .int .i64 m.1, .int .i64 m.1, .int .i64 m.2.1, sv m.2.2] 42)).grown hgr fun r hr _ => hr
            have hblk11 := hk11.heap HI10.out.blk fun e => own_ne HI10.out.rm HI10.out.blk (by decide) _ e rfl
            have o11 : w11.cell? ⟨wa.heap.size, 2, none⟩ = some (.slice MA ym mc) := (Lib.cell_of_heap hblk11 _).trans rfl
            have f11 : w11.frozen? ⟨wa.heap.size, 2, none⟩ = false := Lib.frozen_of_heap hblk11 2
            have HINV : Hid (OfInv w4.heap.size wa.heap.size wd.heap.size (Fr w5.heap.size wa.heap.size) wd (w11.setCell ⟨wa.heap.size, 2, none⟩ (.slice (some ⟨vh, 0, none⟩) (ym + 1) vdap)) (fun κ => fk κ (mate ((goneM now old).take (k + 1)) (goneM old now)).2.2) (mate ((goneM now old).take (k + 1)) (goneM old now)).1 ((mate ((goneM now old).take (k + 1)) (goneM old now)).2.1.map (·.1)) ((mate ((goneM now old).take (k + 1)) (goneM old now)).2.1.map mvOf) (.slice (some ⟨vg, 0, none⟩) (yt + 1) vcap) (.slice VA yc vc) (.slice (some ⟨vh, 0, none⟩) (ym + 1) vdap)) := Lib.hid (by
              rw [HST.out]
              have := HI10.out.move (u' := w11) (v := (x.1, m.1, m)) (vg := vh) (vcap := vdap) (by rw [← HYM.out]; exact hown11) hk11
              rw [← HYM.out, HQE.out] at this
              rw [List.map_append, List.map_append]
              exact this)
            clear hown11 hgr hat hk11 hblk11 HO10 HNEW2 HI10 HMS HX6 HK6 HX9 HBX9 b0 b1 b2 c0 c1 c2 o2
            go_wp2_with fail
            try rw [← HAD.out]
            first | go_roundw | refine ⟨?rel, ?measure⟩
            case rel => exact ⟨k + 1, _, _, by omega, by go_num, HINV.out⟩
            case measure => simp [intOf]; omega
        · have hke : k = nc := by omega
          have htk : (goneM now old).take k = goneM now old := List.take_of_length_le (by rw [← HNC.out]; omega)
          rw [htk] at hst
          have hst' : st = mateM old now := hst
          have hz := HZ.out
          obtain ⟨VA, vc, rfl, hvn⟩ := own_slice hI.rc
          obtain ⟨MA, mc, rfl, hmn⟩ := own_slice hI.rm
          obtain ⟨TA, tc, rfl, _⟩ := own_slice hI.rt
          have hrg := HGd.out.keep (hI.kp.kept fun b hb => ⟨by have := hb.2; omega, fun e => by have := hb.2; omega⟩)
          have hrg := hrg.more (S' := Lt wr.heap.size) fun b hb => by have := hb.2; have := hI.olt; unfold Lt; omega
          have hrt := Row.ofOwn (S := Lt wr.heap.size) hI.rt fun _ _ _ h => h
          have hwo := without_any (Lt wr.heap.size) (Lt wr.heap.size) (goneM old now) (st.2.1.map (·.1)) GA TA gc tc wr (fun _ h => h) (fun _ h => h) (by rw [← HNG.out]; omega) (by rw [List.length_map]; omega) hrg hrt
          have hdif : (wgo (goneM old now) fun m => (st.2.1.map (·.1)).count m) = st.2.2 := by
            rw [wgo_is (l := goneM old now) (dif_srt now (srtM_srt old)), hst]
            exact (mate_left _ _).symm
          unfold WoRes at hwo
          rw [hdif, ← HNG.out] at hwo
          have hsv : SrtV (st.2.1.map mvOf) := by
            rw [hst]
            exact srtV_of (mate_order _ _ (dif_srt old (srtM_srt now)) (dif_srt now (srtM_srt old)))
          have HWO := Lib.hid hwo
          have HSV := Lib.hid hsv
          have HST := Lib.hid hst'
          have HIV := Lib.hid hI
          have HVN := Lib.hid hvn
          have HMN := Lib.hid hmn
          have o2 : wr.cell? ⟨wa.heap.size, 2, none⟩ = some (.slice MA (st.2.1.map mvOf).length mc) := (Lib.cell_of_heap hI.blk _).trans rfl
          obtain ⟨yt, hyt⟩ : ∃ yt, yt = (st.2.1.map (·.1)).length := ⟨_, rfl⟩
          rw [← hyt] at HWO ⊢
          clear hst hst' hI hrg hrt hwo hdif hsv hvn hmn htk hke hyt o2 hz
          go_wp2_with fail
          refine HWO.out.mono ?_
          rintro e w20 ⟨v20, rfl, hown20, hb20⟩
          obtain ⟨XA, xc, rfl, hxn⟩ := own_slice hown20
          have hI20 := HIV.out.below hb20
          obtain ⟨z20, hz20⟩ : ∃ z20 : Int, z20 = (yt : Int) + (st.2.2.length : Int) - (ng : Int) := ⟨_, rfl⟩
          rw [← hz20]
          have o0 : w20.cell? ⟨wa.heap.size, 0, none⟩ = some (.slice none 0 0) := (Lib.cell_of_heap hI20.blk _).trans rfl
          have f0 : w20.frozen? ⟨wa.heap.size, 0, none⟩ = false := Lib.frozen_of_heap hI20.blk 0
          obtain ⟨w21, hw21⟩ : ∃ w21, w21 = w20.setCell ⟨wa.heap.size, 0, none⟩ (.slice XA st.2.2.length xc) := ⟨_, rfl⟩
          have hk21 : Kp (fun y => y = wa.heap.size) w20 w21 := by rw [hw21]; exact Kp.setCell (M := fun y => y = wa.heap.size) (Kp.refl _ _) (fun _ => rfl) _
          have hblk21 : w21.heap[wa.heap.size]? = some (.cells #[.slice XA st.2.2.length xc, .slice VA st.1.length vc, .slice MA (st.2.1.map mvOf).length mc] 25 (0, 0)) := by rw [hw21]; exact setCell_heap (w := w20) hI20.blk
          have o2 : w21.cell? ⟨wa.heap.size, 2, none⟩ = some (.slice MA (st.2.1.map mvOf).length mc) := (Lib.cell_of_heap hblk21 _).trans rfl
          have hl := hI20.low
          have hrm21 := hk21.own hI20.rm fun g hg e => by have := (hI20.rm.lt g hg).1; omega
          have hrc21 := hk21.own hI20.rc fun g hg e => by have := (hI20.rc.lt g hg).1; omega
          have hrx21 := hk21.own hown20 fun g hg e => by have := (hown20.lt g hg).1; have := HIV.out.olt; omega
          have HSB := Lib.hid (stab_any (st.2.1.map mvOf) MA mc w21 (by rw [List.length_map]; omega) HSV.out (Row.ofOwn hrm21 fun _ _ _ h => h))
          have HRM := Lib.hid hrm21
          have HRC := Lib.hid hrc21
          have HRX := Lib.hid hrx21
          have HK21 := Lib.hid hk21
          have HB20 := Lib.hid hb20
          have HBL := Lib.hid hblk21
          have HW21 := Lib.hid hw21
          have HXN := Lib.hid hxn
          rw [hw21] at o2
          obtain ⟨ym, hym⟩ : ∃ ym, ym = (st.2.1.map mvOf).length := ⟨_, rfl⟩
          have HYM := Lib.hid hym
          rw [← hym] at o2 HSB
          clear hown20 hI20 hb20 hz20 hw21 hk21 hblk21 hl hrm21 hrc21 hrx21 HWO hxn hym
          go_wp2_with fail
          rw [← HW21.out]
          clear o0 f0 o2
          refine HSB.out.mono ?_
          rintro e w22 ⟨rfl, hb22⟩
          have hz := HZ.out
          have hs0 := HS0.out
          have hs20 := HB20.out.size
          have hs22 := hb22.size
          have hs21 := HK21.out.size
          have hol := HIV.out.olt
          have hRa : wa.heap[w.heap.size]? = some (.cells #[.slice none 0 0, .slice none 0 0, .slice none 0 0] 25 (0, 0)) := (HBA.out.block _ (by omega)).trans HR0.out
          have hRd := (HBD.out.block _ (lt_of_heap hRa)).trans hRa
          have hRr := HIV.out.kp.heap hRd fun e => by rcases e with e | e <;> omega
          have hR20 := (HB20.out.block _ (lt_of_heap hRr)).trans hRr
          have hR21 := HK21.out.heap hR20 (by omega)
          have hR22 := (hb22.block _ (lt_of_heap hR21)).trans hR21
          have hO22 := (hb22.block _ (lt_of_heap HBL.out)).trans HBL.out
          rw [← HYM.out] at hO22
          have p0 : w22.cell? ⟨wa.heap.size, 0, none⟩ = some (.slice XA st.2.2.length xc) := (Lib.cell_of_heap hO22 _).trans rfl
          have p1 : w22.cell? ⟨wa.heap.size, 1, none⟩ = some (.slice VA st.1.length vc) := (Lib.cell_of_heap hO22 _).trans rfl
          have p2 : w22.cell? ⟨wa.heap.size, 2, none⟩ = some (.slice MA ym mc) := (Lib.cell_of_heap hO22 _).trans rfl
          have r0 : w22.cell? ⟨w.heap.size, 0, none⟩ = some (.slice none 0 0) := (Lib.cell_of_heap hR22 _).trans rfl
          have r1 : w22.cell? ⟨w.heap.size, 1, none⟩ = some (.slice none 0 0) := (Lib.cell_of_heap hR22 _).trans rfl
          have r2 : w22.cell? ⟨w.heap.size, 2, none⟩ = some (.slice none 0 0) := (Lib.cell_of_heap hR22 _).trans rfl
          have g0 : w22.frozen? ⟨w.heap.size, 0, none⟩ = false := Lib.frozen_of_heap hR22 0
          have g1 : w22.frozen? ⟨w.heap.size, 1, none⟩ = false := Lib.frozen_of_heap hR22 1
          have g2 : w22.frozen? ⟨w.heap.size, 2, none⟩ = false := Lib.frozen_of_heap hR22 2
          obtain ⟨w23, hw23⟩ : ∃ w23, w23 = ((w22.setCell ⟨w.heap.size, 0, none⟩ (.slice XA st.2.2.length xc)).setCell ⟨w.heap.size, 1, none⟩ (.slice VA st.1.length vc)).setCell ⟨w.heap.size, 2, none⟩ (.slice MA ym mc) := ⟨_, rfl⟩
          have hk23 : Kp (fun y => y = w.heap.size) w22 w23 := by
            rw [hw23]
            exact Kp.setCell (M := fun y => y = w.heap.size) (Kp.setCell (M := fun y => y = w.heap.size) (Kp.setCell (M := fun y => y = w.heap.size) (Kp.refl _ _) (fun _ => rfl) _) (fun _ => rfl) _) (fun _ => rfl) _
          have hR23 : w23.heap[w.heap.size]? = some (.cells #[.slice XA st.2.2.length xc, .slice VA st.1.length vc, .slice MA ym mc] 25 (0, 0)) := by
            rw [hw23]
            exact setCell_heap (setCell_heap (setCell_heap hR22))
          have hk2 : Kp (fun _ => False) w21 w22 := Kp.ofBelow hb22
          have hlow := HIV.out.low
          have hrx := hk23.own (hk2.own HRX.out fun _ _ e => e) fun g hg e => by have := (HRX.out.lt g hg).1; omega
          have hrc := hk23.own (hk2.own HRC.out fun _ _ e => e) fun g hg e => by have := (HRC.out.lt g hg).1; omega
          have hrm := hk23.own (hk2.own HRM.out fun _ _ e => e) fun g hg e => by have := (HRM.out.lt g hg).1; omega
          have hs23 := hk23.size
          have hbw : Below w.heap.size w w23 := by
            have h1 := HB0.out.trans (HBA.out.mono (by omega))
            have h2 := h1.trans (HBD.out.mono h1.size)
            have h3 := kp_below h2 HIV.out.kp fun y e => by rcases e with e | e <;> omega
            have h4 := h3.trans (HB20.out.mono h3.size)
            have h5 := kp_below h4 HK21.out fun y e => by omega
            have h6 := h5.trans (hb22.mono h5.size)
            exact kp_below h6 hk23 fun y e => by omega
          have HRES : Hid (DlV w23 (Fr w.heap.size w23.heap.size) (.agg #[.slice XA st.2.2.length xc, .slice VA st.1.length vc, .slice MA ym mc]) (ofM old now) ∧ Below w.heap.size w w23) := Lib.hid ⟨by
            have e1 : (ofM old now).gone = st.2.2 := by rw [HST.out]; rfl
            have e2 : (ofM old now).come = st.1 := by rw [HST.out]; rfl
            have e3 : (ofM old now).moved = st.2.1.map mvOf := by rw [HST.out]; rfl
            unfold DlV
            rw [e1, e2, e3]
            exact ⟨XA, VA, MA, xc, vc, mc, by rw [HYM.out], HXN.out, HVN.out, (own_le hrx).1, (own_le hrc).1, (own_le hrm).1, Row.ofOwn hrx fun g _ h1 h2 => ⟨by omega, h2⟩, Row.ofOwn hrc fun g _ h1 h2 => ⟨by omega, h2⟩, Row.ofOwn hrm fun g _ h1 h2 => ⟨by omega, h2⟩⟩, hbw⟩
          have q0 : w23.cell? ⟨w.heap.size, 0, none⟩ = some (.slice XA st.2.2.length xc) := (Lib.cell_of_heap hR23 _).trans rfl
          have q1 : w23.cell? ⟨w.heap.size, 1, none⟩ = some (.slice VA st.1.length vc) := (Lib.cell_of_heap hR23 _).trans rfl
          have q2 : w23.cell? ⟨w.heap.size, 2, none⟩ = some (.slice MA ym mc) := (Lib.cell_of_heap hR23 _).trans rfl
          have HW23 := Lib.hid hw23
          have HQ3 := Lib.hid (And.intro q0 (And.intro q1 q2))
          clear hz hs0 hs20 hs22 hs21 hol hRa hRd hRr hR20 hR21 hR22 hO22 hw23 hk23 hR23 hk2 hlow hrx hrc hrm hs23 hbw q0 q1 q2 hb22
          go_wp2
          rw [← HW23.out]
          obtain ⟨q0, q1, q2⟩ := HQ3.out
          refine bodyPost_ret (v := .agg #[.slice XA st.2.2.length xc, .slice VA st.1.length vc, .slice MA ym mc]) ?_ rfl ⟨_, rfl, HRES.out⟩
          clear HRES HW23
          simp [results, Try.results15, go_sem, q0, q1, q2]
end Go.Proofs.Ytlgdminpkkhejaa
