/-
  The walk of made's Dice.OddCode: a code with one thing changed.
  Conditions: the dice lie in memory; the code reads as one that the dice made.
-/
import Derived.Test.YtkggmckfdkpldaaDoorFdL
import Derived.Test.YtkggmckfdkpldaaDoorBrow
namespace Go.Proofs.YtkggmckfdkpldaaDoor
open Go.RowKit

theorem flt_setG {α : Type} {f : α → List Value} {s : Nat} (hf : ∀ x, (f x).length = s) {j : Nat} (hj : j < s) {u : Value} : ∀ {l : List α} {k : Nat} {x y : α}, l[k]? = some x → (f x).set j u = f y → (flt f l).set (k * s + j) u = flt f (l.set k y)
  | [], _, _, _, h, _ => by simp at h
  | z :: r, 0, x, y, h, e => by
    simp at h
    subst h
    rw [Nat.zero_mul, Nat.zero_add, List.set_cons_zero, flt_cons, flt_cons, List.set_append_left _ _ (by rw [hf]; exact hj), e]
  | z :: r, k + 1, x, y, h, e => by
    have ih := flt_setG (l := r) (k := k) hf hj (u := u) (by simpa using h) e
    rw [List.set_cons_succ, flt_cons, flt_cons, ← ih, List.set_append_right _ _ (by rw [hf, Nat.add_mul]; omega), hf]
    congr 2
    rw [Nat.add_mul]
    omega
structure OpBig (o : OpF) : Prop where
  fits : o.fits
  few : o.list.length ≤ 4
  sym : o.sym.length ≤ 1
theorem OpOk.big {o : OpF} (h : OpOk o) : OpBig o := ⟨h.fits, by have := h.few; omega, h.sym⟩
structure CdBig (c : CdF) : Prop where
  params : I64f c.params
  regs : I64f c.regs
  few : c.ops.length ≤ 15
  ops : ∀ o ∈ c.ops, OpBig o
theorem row_take {w : World} {S : Nat → Prop} {A : Option Addr} {xs : List Value} {k : Nat} (h : Row w S A xs) : Row w S A (xs.take k) := by
  rcases h with rfl | ⟨ad, e, hb, hc⟩
  · left; simp
  · by_cases hk : xs.take k = []
    · exact .inl hk
    · refine .inr ⟨ad, e, hb, fun j u hu => hc j u ?_⟩
      rw [List.getElem?_take] at hu
      split at hu
      · exact hu
      · cases hu
theorem ops_one : ∀ (us : List OV), (∀ u ∈ us, u.lv.oneCell' = true) → ∀ v ∈ flt ovC us, v.oneCell' = true
  | [], _, v, hv => by cases hv
  | u :: r, h, v, hv => by
    rw [flt_cons, List.mem_append] at hv
    rcases hv with hv | hv
    · simp [ovC] at hv
      rcases hv with rfl | rfl | rfl | rfl | rfl | rfl
      · rfl
      · rfl
      · rfl
      · rfl
      · exact h u (by simp)
      · rfl
    · exact ops_one r (fun y hy => h y (by simp [hy])) v hv
def OddRes (dd : Nat) (xs : List Int) (w : World) (e : Ending) (w' : World) : Prop :=
  ∃ c ov, e = .returned (cdV c ov) ∧ OpsV w' (fun b => b < w'.heap.size ∧ b ≠ dd) ov c.ops ∧ CdBig c ∧ Thrown dd xs w w'
/-- The blocks of the lists of operations: old ones, or new ones beside the row. -/
def LsB (w0 wb w : World) (dd : Nat) (v : Value) (b : Nat) : Prop := (b < w0.heap.size ∧ b ≠ dd) ∨ (wb.heap.size ≤ b ∧ b < w.heap.size ∧ some b ≠ v.ownBlock)
/-- The code that is being changed: its box, its row of operations. -/
structure Odd (dd cb : Nat) (xs : List Int) (w0 wb w : World) (p r : Int) (v : Value) (vs : List OV) : Prop where
  dice : DiceAt w dd xs
  kp : Kp (fun y => y = dd ∨ y = cb) wb w
  box : w.heap[cb]? = some (.cells #[iv p, iv r, v] 37 (0, 0))
  own : w.ownsRow wb.heap.size 60 6 v vs.length (flt ovC vs)
  each : ∀ u ∈ vs, IntsV w (LsB w0 wb w dd v) u.lv u.o.list
theorem LsB.lt {w0 wb w : World} {dd b : Nat} {v : Value} (h : LsB w0 wb w dd v b) (h0 : w0.heap.size ≤ wb.heap.size) (h1 : wb.heap.size ≤ w.heap.size) : b < w.heap.size := by
  rcases h with h | h
  · omega
  · exact h.2.1
theorem Odd.thrown {dd cb : Nat} {xs : List Int} {w0 wb w w' : World} {p r : Int} {v : Value} {vs : List OV} (h : Odd dd cb xs w0 wb w p r v vs) (hd : DiceAt w' dd xs) (hk : Kp (fun y => y = dd) w w') (h0 : w0.heap.size = cb) (hb : wb.heap.size = cb + 2) (hdc : dd < cb) : Odd dd cb xs w0 wb w' p r v vs := by
  have hs := h.kp.size
  refine ⟨hd, h.kp.trans hk fun _ _ e => .inl e, hk.heap h.box (by omega), hk.own h.own fun g hg e => ?_, fun u hu => ((h.each u hu).keep (hk.kept fun b hb' => ⟨hb'.lt (by omega) hs, ?_⟩)).more fun b hb' => ?_⟩
  · have := (h.own.lt g hg).1
    omega
  · rintro rfl
    rcases hb' with hb' | hb'
    · exact hb'.2 rfl
    · omega
  · rcases hb' with hb' | hb'
    · exact .inl hb'
    · exact .inr ⟨hb'.1, Nat.lt_of_lt_of_le hb'.2.1 hk.size, hb'.2.2⟩
theorem Odd.below {dd cb : Nat} {xs : List Int} {w0 wb w w' : World} {p r : Int} {v : Value} {vs : List OV} (h : Odd dd cb xs w0 wb w p r v vs) (hb : Below w.heap.size w w') (h0 : w0.heap.size = cb) (hb2 : wb.heap.size = cb + 2) (hdc : dd < cb) : Odd dd cb xs w0 wb w' p r v vs :=
  h.thrown (h.dice.below hb) (Kp.ofBelow hb) h0 hb2 hdc
/-- A field of an operation is set. -/
theorem Odd.setOp {dd cb i f g n cap : Nat} {xs : List Int} {w0 wb w : World} {p r : Int} {x : Value} {vs : List OV} {u u' : OV} (h : Odd dd cb xs w0 wb w p r (.slice (some ⟨g, 0, none⟩) n cap) vs) (hn : n = vs.length) (hi : vs[i]? = some u) (hc : ovC u' = (ovC u).set f x) (hf : f < 6) (hl : IntsV w (LsB w0 wb w dd (.slice (some ⟨g, 0, none⟩) n cap)) u'.lv u'.o.list) (h0 : w0.heap.size = cb) (hb : wb.heap.size = cb + 2) (hdc : dd < cb) :
    Odd dd cb xs w0 wb (w.setCell ⟨g, i * 6 + f, none⟩ x) p r (.slice (some ⟨g, 0, none⟩) n cap) (vs.set i u') := by
  subst hn
  have hgl := h.own.lt g rfl
  have hs := h.kp.size
  have hst := (h.own.stored (i * 6 + f) x).1
  have hset : (flt ovC vs).set (i * 6 + f) x = flt ovC (vs.set i u') := flt_setG ovC_len hf hi hc.symm
  rw [hset] at hst
  have hk := setKp g (i * 6 + f) w x
  have key : ∀ y : OV, IntsV w (LsB w0 wb w dd (.slice (some ⟨g, 0, none⟩) vs.length cap)) y.lv y.o.list → IntsV (w.setCell ⟨g, i * 6 + f, none⟩ x) (LsB w0 wb (w.setCell ⟨g, i * 6 + f, none⟩ x) dd (.slice (some ⟨g, 0, none⟩) vs.length cap)) y.lv y.o.list := fun y hy =>
    (hy.keep (hk.kept fun b hb' => ⟨hb'.lt (by omega) hs, fun e => by
      rcases hb' with hb' | hb'
      · omega
      · exact hb'.2.2 (by rw [e]; rfl)⟩)).more fun b hb' => by
      rcases hb' with hb' | hb'
      · exact .inl hb'
      · exact .inr ⟨hb'.1, by rw [sizeSet]; exact hb'.2.1, hb'.2.2⟩
  refine ⟨h.dice.keep hk (fun y e => by omega), h.kp.trans hk fun y hy e => by omega, hk.heap h.box (by omega), by rw [List.length_set]; exact hst, fun y hy => ?_⟩
  rcases List.mem_or_eq_of_mem_set hy with hy | rfl
  · exact key y (h.each y hy)
  · exact key y hl
/-- A field of the box is set. -/
theorem Odd.setBox {dd cb o : Nat} {xs : List Int} {w0 wb w : World} {p r p' r' : Int} {v x : Value} {vs : List OV} (h : Odd dd cb xs w0 wb w p r v vs) (hc : #[iv p, iv r, v].setIfInBounds o x = #[iv p', iv r', v]) (h0 : w0.heap.size = cb) (hb : wb.heap.size = cb + 2) (hdc : dd < cb) :
    Odd dd cb xs w0 wb (w.setCell ⟨cb, o, none⟩ x) p' r' v vs := by
  have hk := setKp cb o w x
  have hs := h.kp.size
  refine ⟨h.dice.keep hk (fun y e => by omega), h.kp.trans hk fun y hy e => .inr e, (setCell_heap h.box).trans (by rw [← hc]), hk.own h.own fun g hg e => ?_, fun u hu => ((h.each u hu).keep (hk.kept fun b hb' => ⟨hb'.lt (by omega) hs, fun e => ?_⟩)).more fun b hb' => ?_⟩
  · have := (h.own.lt g hg).1
    omega
  · rcases hb' with hb' | hb' <;> omega
  · rcases hb' with hb' | hb'
    · exact .inl hb'
    · exact .inr ⟨hb'.1, by rw [sizeSet]; exact hb'.2.1, hb'.2.2⟩
/-- The five numbers of a constant. -/
abbrev fiveC : Array Value := #[.int .i64 (-1), .int .i64 0, .int .i64 1, .int .i64 99, .int .i64 1099511627776]
theorem fiveC_at (k : Nat) (hk : k < 5) : ∃ z, I64f z ∧ fiveC[k]? = some (iv z) := by
  obtain rfl | rfl | rfl | rfl | rfl : k = 0 ∨ k = 1 ∨ k = 2 ∨ k = 3 ∨ k = 4 := by omega
  · exact ⟨-1, by unfold I64f; omega, rfl⟩
  · exact ⟨0, by unfold I64f; omega, rfl⟩
  · exact ⟨1, by unfold I64f; omega, rfl⟩
  · exact ⟨99, by unfold I64f; omega, rfl⟩
  · exact ⟨1099511627776, by unfold I64f; omega, rfl⟩
theorem kp3b (w : World) (b : Nat) (v0 v1 v2 : Value) : Kp (fun y => y = b ∨ y = b + 1) w (((w.setCell ⟨b + 1, 0, none⟩ v0).setCell ⟨b + 1, 1, none⟩ v1).setCell ⟨b + 1, 2, none⟩ v2) :=
  (keep3 w (b + 1) v0 v1 v2).more fun _ _ e => .inr e
theorem kp4 (w : World) (b o : Nat) (v v0 v1 v2 : Value) : Kp (fun y => y = b ∨ y = b + 1) w ((((w.setCell ⟨b, o, none⟩ v).setCell ⟨b + 1, 0, none⟩ v0).setCell ⟨b + 1, 1, none⟩ v1).setCell ⟨b + 1, 2, none⟩ v2) :=
  ((setKp b o w v).more fun _ _ e => .inl e).trans (kp3b _ b v0 v1 v2) fun _ _ e => e
theorem Odd.fin {dd : Nat} {xs : List Int} {w0 wb w w' : World} {p0 r0 p r : Int} {A : Option Addr} {n c m c' : Nat} {vs : List OV} (h : Odd dd w0.heap.size xs w0 wb w p0 r0 (.slice A n c) vs) (hk : Kp (fun y => y = w0.heap.size ∨ y = w0.heap.size + 1) w w') (hb : Below w0.heap.size w0 wb) (hsz : wb.heap.size = w0.heap.size + 2) (hdl : dd < w0.heap.size) (hp : I64f p) (hr : I64f r) (hfew : vs.length ≤ 15) (hbig : ∀ u ∈ vs, OpBig u.o) (hm : m ≤ vs.length) : OddRes dd xs w0 (.returned (.agg #[iv p, iv r, .slice A m c'])) w' := by
  have hs := h.kp.size
  have hrow : Row w (fun b => wb.heap.size ≤ b ∧ b < w.heap.size) A (flt ovC vs) := by
    rcases h.own.2 with ⟨e, e2⟩ | ⟨g, cap, cur, e, _⟩
    · have : vs = [] := List.length_eq_zero_iff.1 e2
      subst this
      exact Row.nil _ _ _
    · have hv : (Value.slice A n c) = .slice A vs.length c := by
        injection e with e1 e2 e3
        rw [e2]
      have ho := h.own
      rw [hv] at ho
      exact Row.ofOwn ho fun g _ h3 h4 => ⟨h3, h4⟩
  refine ⟨⟨p, r, (vs.take m).map OV.o⟩, .slice A m c', rfl, ⟨A, c', vs.take m, by rw [List.length_take, Nat.min_eq_left hm], rfl, ?_, fun u hu => ?_⟩, ⟨hp, hr, by simp; omega, fun o ho => ?_⟩, h.dice.keep hk (fun y e => by omega), ?_⟩
  · have h1 := ((hrow.keep (hk.kept fun b hb' => ⟨hb'.2, by omega⟩)).more (S' := fun b => b < w'.heap.size ∧ b ≠ dd) fun b hb' => ⟨Nat.lt_of_lt_of_le hb'.2 hk.size, by omega⟩)
    rw [← flt_take ovC_len]
    exact row_take h1
  · refine ((h.each u (List.mem_of_mem_take hu)).keep (hk.kept fun b hb' => ⟨hb'.lt (by omega) hs, fun e => ?_⟩)).more fun b hb' => ⟨Nat.lt_of_lt_of_le (hb'.lt (by omega) hs) hk.size, fun e => ?_⟩
    · rcases hb' with hb' | hb' <;> omega
    · rcases hb' with hb' | hb' <;> omega
  · obtain ⟨u, hu, rfl⟩ := List.mem_map.1 ho
    exact hbig u (List.mem_of_mem_take hu)
  · exact ((Kp.ofBelow hb).trans h.kp fun x hx e => e.elim id fun e => by omega).trans hk fun x hx e => by omega
set_option maxHeartbeats 6400000 in
set_option maxRecDepth 100000 in
theorem oddCode_any (x : CdF) (ov : Value) (dd : Nat) (xs : List Int) (w : World) (hd : DiceAt w dd xs) (hx : CdOk x) (hov : OpsV w (fun b => b < w.heap.size ∧ b ≠ dd) ov x.ops) :
    Calls Tryd.prog 15 #[.pointer (some ⟨dd, 0, none⟩), cdV x ov] w (OddRes dd xs w) := by
  obtain ⟨i0, hi, hz0, hz1, hz2⟩ := info_parts infoOp
  obtain ⟨i1, hi1, hy0, hy1, hy2⟩ := info_parts infoI
  obtain ⟨A, c, us, rfl, hus, hru⟩ := hov
  obtain ⟨xp, xr, xo⟩ := x
  simp only at hus
  subst hus
  have hxp : I64f xp := i64small (by have := hx.params; simp only at this; omega) (by have := hx.params; simp only at this; omega)
  have hxr : I64f xr := i64small (by have := hx.regs; simp only at this; omega) (by have := hx.regs; simp only at this; omega)
  have hfew : us.length ≤ 15 := by have := hx.few; simpa using this
  have hbig : ∀ u ∈ us, OpBig u.o := fun u hu => (hx.ops u.o (List.mem_map.2 ⟨u, hu, rfl⟩)).big
  have HL3 : Hid (∀ u ∈ us, u.o.list.length ≤ 3) := Lib.hid fun u hu => (hx.ops u.o (List.mem_map.2 ⟨u, hu, rfl⟩)).few
  obtain ⟨n, hn⟩ : ∃ n, n = us.length := ⟨_, rfl⟩
  rw [← hn] at hfew ⊢
  have hdl := hd.lt
  obtain ⟨wb, hwb⟩ : ∃ wb, wb = (w.alloc (.cells #[.int .i64 xp, .int .i64 xr, .slice A n c] 37)).alloc (.cells #[.int .i64 0, .int .i64 0, .slice none 0 0] 37) := ⟨_, rfl⟩
  have hbb : Below w.heap.size w wb := by rw [hwb]; exact ((Below.refl _ _).alloc (Nat.le_refl _) _).alloc (by simp) _
  have hh := alloc2 w (.cells #[.int .i64 xp, .int .i64 xr, .slice A n c] 37) (.cells #[.int .i64 0, .int .i64 0, .slice none 0 0] 37)
  rw [← hwb] at hh
  have hszb : wb.heap.size = w.heap.size + 2 := by rw [hwb]; simp
  have c2 : wb.cell? ⟨w.heap.size, 2, none⟩ = some (.slice A n c) := (Lib.cell_of_heap hh.1 _).trans rfl
  have HBB := Lib.hid hbb
  have HB1 := Lib.hid hh.1
  have HR1 := Lib.hid hh.2
  have HN := Lib.hid hn
  have HSZ := Lib.hid hszb
  have HDB := Lib.hid (hd.below hbb)
  have HRU := Lib.hid hru
  have hrow : Row wb (fun b => b < w.heap.size ∧ b ≠ dd) A (flt ovC us) := hru.row.keep ((kept_below hbb).sub fun b hb => hb.1)
  have HROW := Lib.hid hrow
  have hfl : (flt ovC us).length = n * 6 := by rw [flt_length ovC_len, ← hn]
  have h1c : ∀ u ∈ flt ovC us, u.oneCell' = true := ops_one us fun u hu => by obtain ⟨A', c', e, _⟩ := hru.each u hu; rw [e]; rfl
  have HFL := Lib.hid hfl
  have H1C := Lib.hid h1c
  clear hbb hh hn hd hru hrow hfl h1c hx
  rw [hwb] at c2
  go_enter Tryd.func15, Tryd.ntmps15
  go_wp2_with (at_builtin; go_loud (refine wpList_append_row rfl _ _ 35 rfl (w.heap.size + 2) 60 i0 _ 6 72 Tryd.underlying35 hi hz0 hz1 hz2 rfl (by omega) (.slice none 0 0) 0 [] rfl (World.ownsRow_nil _ _ _ _) (fun b => b < w.heap.size ∧ b ≠ dd) A n c (flt ovC us) rfl HFL.out (by rw [hwb] at HROW; exact HROW.out) H1C.out (by unfold maxLen; omega) (by omega) (by rw [← hszb, hwb]; exact Nat.le_refl _) ?_))
  intro v1 w1 hown1 hg1 _
  obtain ⟨OA, oc, rfl, _⟩ := own_slice hown1
  rw [← hwb] at hg1
  have hb1 : Below wb.heap.size wb w1 := ⟨hg1.os, hg1.tape, hg1.output, hg1.size, fun y hy => hg1.block y hy (by simp [Value.ownBlock])⟩
  have hh1 := (hb1.block _ (lt_of_heap HB1.out)).trans HB1.out
  have d2 : w1.cell? ⟨w.heap.size, 2, none⟩ = some (.slice A n c) := (Lib.cell_of_heap hh1 _).trans rfl
  have f2 : w1.frozen? ⟨w.heap.size, 2, none⟩ = false := Lib.frozen_of_heap hh1 2
  obtain ⟨w2, hw2⟩ : ∃ w2, w2 = w1.setCell ⟨w.heap.size, 2, none⟩ (.slice OA n oc) := ⟨_, rfl⟩
  have hk2 : Kp (fun y => y = w.heap.size) w1 w2 := by rw [hw2]; exact setKp _ _ _ _
  have hodd : Odd dd w.heap.size xs w wb w2 xp xr (.slice OA n oc) us := by
    refine ⟨(HDB.out.below hb1).keep hk2 (fun y e => by rw [e]; exact hdl), (Kp.ofBelow hb1).trans hk2 fun y _ e => .inr e, by rw [hw2]; exact (setCell_heap hh1).trans (by simp), ?_, fun u hu => ?_⟩
    · have h : w1.ownsRow wb.heap.size 60 6 (.slice OA n oc) us.length (flt ovC us) := by rw [← HN.out, hszb]; exact hown1
      exact hk2.own h fun g hg e => by have := (h.lt g hg).1; omega
    · have h1 := (HRU.out.each u hu).keep ((kept_below HBB.out).sub fun b hb => hb.1)
      exact ((h1.keep ((kept_below hb1).sub fun b hb => by have := hb.1; unfold Lt; omega)).keep (hk2.kept fun b hb => ⟨by have := hb.1; have := hb1.size; omega, by have := hb.1; omega⟩)).more fun b hb => .inl hb
  have HO2 := Lib.hid hodd
  have HW2 := Lib.hid hw2
  have hs2 : w2.heap.size = w1.heap.size := by rw [hw2, sizeSet]
  clear hown1 hg1 hb1 hh1 hk2 hodd hw2 hwb c2 HDB HROW HRU HFL H1C HB1
  go_wp2_with fail
  rw [← HW2.out]
  have hb3 : Below w2.heap.size w2 (w2.alloc (.cells fiveC 3)) := (Below.refl _ _).alloc (Nat.le_refl _) _
  have HO3 := Lib.hid (HO2.out.below hb3 rfl HSZ.out hdl)
  refine (next_any 5 dd xs _ (by decide) (by decide) HO3.out.dice).mono ?_
  rintro e w4 ⟨k5, hk5, rfl, hD, hK⟩
  have HO4 := Lib.hid (HO3.out.thrown hD hK rfl HSZ.out hdl)
  have hd2 := HO2.out.dice.lt
  have h4 := hK.heap (alloc1 w2 (.cells fiveC 3)) (by omega)
  obtain ⟨z5, hz5, hz5c⟩ := fiveC_at k5 hk5
  rw [hs2] at h4
  have e5 : w4.cell? ⟨w1.heap.size, k5, none⟩ = some (iv z5) := (Lib.cell_of_heap h4 _).trans hz5c
  have hik : (0 : Int) ≤ (k5 : Int) ∧ (k5 : Int) < 5 := ⟨by omega, by omega⟩
  have d0 : w4.cell? ⟨w.heap.size, 0, none⟩ = some (iv xp) := (Lib.cell_of_heap HO4.out.box _).trans rfl
  have d1 : w4.cell? ⟨w.heap.size, 1, none⟩ = some (iv xr) := (Lib.cell_of_heap HO4.out.box _).trans rfl
  have d2 : w4.cell? ⟨w.heap.size, 2, none⟩ = some (.slice OA n oc) := (Lib.cell_of_heap HO4.out.box _).trans rfl
  clear hD hK h4 hz5c HO2 HO3 hb3 hd2 hs2
  by_cases hn0 : n = 0
  · subst hn0
    have f1 : w4.frozen? ⟨w.heap.size, 1, none⟩ = false := Lib.frozen_of_heap HO4.out.box 1
    have hrb0 := HO4.out.kp.heap HR1.out (by omega)
    have t0 : w4.cell? ⟨w.heap.size + 1, 0, none⟩ = some (.int .i64 0) := (Lib.cell_of_heap hrb0 _).trans rfl
    have t1 : w4.cell? ⟨w.heap.size + 1, 1, none⟩ = some (.int .i64 0) := (Lib.cell_of_heap hrb0 _).trans rfl
    have t2 : w4.cell? ⟨w.heap.size + 1, 2, none⟩ = some (.slice none 0 0) := (Lib.cell_of_heap hrb0 _).trans rfl
    have u0 : w4.frozen? ⟨w.heap.size + 1, 0, none⟩ = false := Lib.frozen_of_heap hrb0 0
    have u1 : w4.frozen? ⟨w.heap.size + 1, 1, none⟩ = false := Lib.frozen_of_heap hrb0 1
    have u2 : w4.frozen? ⟨w.heap.size + 1, 2, none⟩ = false := Lib.frozen_of_heap hrb0 2
    have d0 : w4.cell? ⟨w.heap.size, 0, none⟩ = some (iv xp) := (Lib.cell_of_heap HO4.out.box _).trans rfl
    have d1 : w4.cell? ⟨w.heap.size, 1, none⟩ = some (iv xr) := (Lib.cell_of_heap HO4.out.box _).trans rfl
    have d2 : w4.cell? ⟨w.heap.size, 2, none⟩ = some (.slice OA 0 oc) := (Lib.cell_of_heap HO4.out.box _).trans rfl
    clear hrb0
    go_wp2
    refine bodyPost_ret (v := .agg #[iv xp, iv z5, .slice OA 0 oc]) (by simp [results, Tryd.results15, go_sem, t0, t1, t2]; try rfl) rfl ?_
    exact HO4.out.fin (kp4 _ _ _ _ _ _ _) HBB.out HSZ.out hdl hxp hz5 (by rw [← HN.out]; omega) hbig (Nat.zero_le _)
  · obtain ⟨g, rfl⟩ : ∃ g, OA = some ⟨g, 0, none⟩ := by
      have h := HO4.out.own
      rw [← HN.out] at h
      obtain ⟨g, cap, hv, _⟩ := h.form (by omega)
      exact ⟨g, by injection hv⟩
    have hgn : ((n : Int) == 0) = false := by simp; omega
    have hnoc : n ≤ oc := by
      have h := HO4.out.own
      rw [← HN.out] at h
      exact (own_le h).1
    go_wp2_with fail
    refine wp_region_mix (fun u => u.cell? ⟨w.heap.size, 2, none⟩ = some (.slice (some ⟨g, 0, none⟩) n oc)) [(true, 0), (true, 1), (true, 2), (true, 3), (true, 4), (true, 5), (false, 6)] [7, 8] (by kernel_rfl) (by kernel_rfl) d2 ?ha
    case ha =>
    simp only [mixAt, List.filterMap_cons, List.filterMap_nil, List.getElem?_toArray, List.getElem?_cons_succ, List.getElem?_cons_zero, Option.map_some]
    refine wpMix_load ?vaa0 rfl (fun w' hS => ?yaa0) ?kaa0
    case yaa0 =>
      obtain g0 := hS
      go_simp
      try rfl
    case kaa0 =>
    go_simp
    refine wpMix_load ?vaa1 rfl (fun w' hS => ?yaa1) ?kaa1
    case yaa1 =>
      obtain g0 := hS
      go_simp
      try rfl
    case kaa1 =>
    go_simp
    refine wpMix_load ?vaa2 rfl (fun w' hS => ?yaa2) ?kaa2
    case yaa2 =>
      obtain g0 := hS
      go_simp
      try rfl
    case kaa2 =>
    go_simp
    refine wpMix_load ?vaa3 rfl (fun w' hS => ?yaa3) ?kaa3
    case yaa3 =>
      obtain g0 := hS
      go_simp
      try rfl
    case kaa3 =>
    go_simp
    refine wpMix_load ?vaa4 rfl (fun w' hS => ?yaa4) ?kaa4
    case yaa4 =>
      obtain g0 := hS
      go_simp
      try rfl
    case kaa4 =>
    go_simp
    refine wpMix_load ?vaa5 rfl (fun w' hS => ?yaa5) ?kaa5
    case yaa5 =>
      obtain g0 := hS
      go_simp
      try rfl
    case kaa5 =>
    go_simp
    refine wpMix_keep rfl ?_
    go_wp2_with fail
    have HO5 := Lib.hid (HO4.out.below (Below.refl _ _).drew rfl HSZ.out hdl)
    clear d0 d1 d2 HO4
    refine (next_any n dd xs _ (by omega) (by omega) HO5.out.dice).mono ?_
    rintro e w6 ⟨i, hin, rfl, hD, hK⟩
    have HO6 := Lib.hid (HO5.out.thrown hD hK rfl HSZ.out hdl)
    refine ⟨(Lib.cell_of_heap HO6.out.box _).trans rfl, ?_⟩
    clear hD hK HO5
    obtain ⟨u, hu⟩ : ∃ u, us[i]? = some u := ⟨_, List.getElem?_eq_getElem (by rw [← HN.out]; exact hin)⟩
    have HU := Lib.hid hu
    have hii : (0 : Int) ≤ (i : Int) ∧ (i : Int) < (n : Int) := ⟨by omega, by omega⟩
    clear hu
    refine wpMix_nil ?_
    simp only [opsAt, List.filterMap_cons, List.filterMap_nil, List.getElem?_toArray, List.getElem?_cons_succ, List.getElem?_cons_zero]
    go_wp2
    refine NoPanic.normal ?_
    go_wp2_with fail
    refine (next_any 8 dd xs _ (by decide) (by decide) HO6.out.dice).mono ?_
    rintro e w7 ⟨q, hq, rfl, hD, hK⟩
    have HO7 := Lib.hid (HO6.out.thrown hD hK rfl HSZ.out hdl)
    clear hD hK HO6
    have hgl := HO7.out.own.lt g rfl
    obtain rfl | rfl | rfl | rfl | rfl | rfl | rfl | rfl : q = 0 ∨ q = 1 ∨ q = 2 ∨ q = 3 ∨ q = 4 ∨ q = 5 ∨ q = 6 ∨ q = 7 := by omega
    ·
      go_wp2_with fail
      refine (next_any 22 dd xs _ (by decide) (by decide) HO7.out.dice).mono ?_
      rintro e w8 ⟨kz, hkz, rfl, hD, hK⟩
      have HO8 := Lib.hid (HO7.out.thrown hD hK rfl HSZ.out hdl)
      clear hD hK HO7
      have hown : w8.ownsRow wb.heap.size 60 6 (.slice (some ⟨g, 0, none⟩) n oc) n (flt ovC us) := by
        have h := HO8.out.own
        rw [← HN.out] at h
        exact h
      have hxv : I64f ((kz : Int) - 1) := (by unfold I64f; omega)
      have hb0 := hbig u (List.mem_of_getElem? HU.out)
      have HNB : Hid (OpBig (OV.o ⟨⟨(kz : Int) - 1, u.o.a, u.o.b, u.o.c, u.o.list, u.o.sym⟩, u.lv⟩)) := Lib.hid ⟨⟨hxv, hb0.fits.2.1, hb0.fits.2.2.1, hb0.fits.2.2.2.1, hb0.fits.2.2.2.2⟩, hb0.few, hb0.sym⟩
      have z0 : w8.cell? ⟨g, (i * 6), none⟩ = some ((ovC u).getD 0 undef) := (hown.cellAt (i * 6 + 0) (by omega)).trans (flt_at ovC_len HU.out rfl)
      have z1 : w8.frozen? ⟨g, (i * 6), none⟩ = false := hown.frozenAt (i * 6 + 0)
      have HO9 := Lib.hid (HO8.out.setOp (f := 0) (x := iv ((kz : Int) - 1)) (u' := ⟨⟨(kz : Int) - 1, u.o.a, u.o.b, u.o.c, u.o.list, u.o.sym⟩, u.lv⟩) HN.out HU.out rfl (by decide) (HO8.out.each u (List.mem_of_getElem? HU.out)) rfl HSZ.out hdl)
      clear hown hb0
      have hrb0 := HO8.out.kp.heap HR1.out (by omega)
      have t0 : w8.cell? ⟨w.heap.size + 1, 0, none⟩ = some (.int .i64 0) := (Lib.cell_of_heap hrb0 _).trans rfl
      have t1 : w8.cell? ⟨w.heap.size + 1, 1, none⟩ = some (.int .i64 0) := (Lib.cell_of_heap hrb0 _).trans rfl
      have t2 : w8.cell? ⟨w.heap.size + 1, 2, none⟩ = some (.slice none 0 0) := (Lib.cell_of_heap hrb0 _).trans rfl
      have u0 : w8.frozen? ⟨w.heap.size + 1, 0, none⟩ = false := Lib.frozen_of_heap hrb0 0
      have u1 : w8.frozen? ⟨w.heap.size + 1, 1, none⟩ = false := Lib.frozen_of_heap hrb0 1
      have u2 : w8.frozen? ⟨w.heap.size + 1, 2, none⟩ = false := Lib.frozen_of_heap hrb0 2
      have d0 : w8.cell? ⟨w.heap.size, 0, none⟩ = some (iv xp) := (Lib.cell_of_heap HO8.out.box _).trans rfl
      have d1 : w8.cell? ⟨w.heap.size, 1, none⟩ = some (iv xr) := (Lib.cell_of_heap HO8.out.box _).trans rfl
      have d2 : w8.cell? ⟨w.heap.size, 2, none⟩ = some (.slice (some ⟨g, 0, none⟩) n oc) := (Lib.cell_of_heap HO8.out.box _).trans rfl
      clear hrb0
      go_wp2
      refine bodyPost_ret (v := .agg #[iv xp, iv xr, .slice (some ⟨g, 0, none⟩) n oc]) (by simp [results, Tryd.results15, go_sem, t0, t1, t2]; try rfl) rfl ?_
      refine HO9.out.fin (kp3b _ _ _ _ _) HBB.out HSZ.out hdl hxp hxr (by rw [List.length_set, ← HN.out]; omega) (fun y hy => ?_) (by rw [List.length_set]; exact Nat.le_of_eq HN.out)
      rcases List.mem_or_eq_of_mem_set hy with hy | rfl
      · exact hbig y hy
      · exact HNB.out
    ·
      have hown : w7.ownsRow wb.heap.size 60 6 (.slice (some ⟨g, 0, none⟩) n oc) n (flt ovC us) := by
        have h := HO7.out.own
        rw [← HN.out] at h
        exact h
      have hxv : I64f z5 := hz5
      have hb0 := hbig u (List.mem_of_getElem? HU.out)
      have HNB : Hid (OpBig (OV.o ⟨⟨u.o.kind, z5, u.o.b, u.o.c, u.o.list, u.o.sym⟩, u.lv⟩)) := Lib.hid ⟨⟨hb0.fits.1, hxv, hb0.fits.2.2.1, hb0.fits.2.2.2.1, hb0.fits.2.2.2.2⟩, hb0.few, hb0.sym⟩
      have z0 : w7.cell? ⟨g, (i * 6 + 1), none⟩ = some ((ovC u).getD 1 undef) := (hown.cellAt (i * 6 + 1) (by omega)).trans (flt_at ovC_len HU.out rfl)
      have z1 : w7.frozen? ⟨g, (i * 6 + 1), none⟩ = false := hown.frozenAt (i * 6 + 1)
      have HO9 := Lib.hid (HO7.out.setOp (f := 1) (x := iv z5) (u' := ⟨⟨u.o.kind, z5, u.o.b, u.o.c, u.o.list, u.o.sym⟩, u.lv⟩) HN.out HU.out rfl (by decide) (HO7.out.each u (List.mem_of_getElem? HU.out)) rfl HSZ.out hdl)
      clear hown hb0
      have hrb1 := HO7.out.kp.heap HR1.out (by omega)
      have t0 : w7.cell? ⟨w.heap.size + 1, 0, none⟩ = some (.int .i64 0) := (Lib.cell_of_heap hrb1 _).trans rfl
      have t1 : w7.cell? ⟨w.heap.size + 1, 1, none⟩ = some (.int .i64 0) := (Lib.cell_of_heap hrb1 _).trans rfl
      have t2 : w7.cell? ⟨w.heap.size + 1, 2, none⟩ = some (.slice none 0 0) := (Lib.cell_of_heap hrb1 _).trans rfl
      have u0 : w7.frozen? ⟨w.heap.size + 1, 0, none⟩ = false := Lib.frozen_of_heap hrb1 0
      have u1 : w7.frozen? ⟨w.heap.size + 1, 1, none⟩ = false := Lib.frozen_of_heap hrb1 1
      have u2 : w7.frozen? ⟨w.heap.size + 1, 2, none⟩ = false := Lib.frozen_of_heap hrb1 2
      have d0 : w7.cell? ⟨w.heap.size, 0, none⟩ = some (iv xp) := (Lib.cell_of_heap HO7.out.box _).trans rfl
      have d1 : w7.cell? ⟨w.heap.size, 1, none⟩ = some (iv xr) := (Lib.cell_of_heap HO7.out.box _).trans rfl
      have d2 : w7.cell? ⟨w.heap.size, 2, none⟩ = some (.slice (some ⟨g, 0, none⟩) n oc) := (Lib.cell_of_heap HO7.out.box _).trans rfl
      clear hrb1
      go_wp2
      refine bodyPost_ret (v := .agg #[iv xp, iv xr, .slice (some ⟨g, 0, none⟩) n oc]) (by simp [results, Tryd.results15, go_sem, t0, t1, t2]; try rfl) rfl ?_
      refine HO9.out.fin (kp3b _ _ _ _ _) HBB.out HSZ.out hdl hxp hxr (by rw [List.length_set, ← HN.out]; omega) (fun y hy => ?_) (by rw [List.length_set]; exact Nat.le_of_eq HN.out)
      rcases List.mem_or_eq_of_mem_set hy with hy | rfl
      · exact hbig y hy
      · exact HNB.out
    ·
      have hown : w7.ownsRow wb.heap.size 60 6 (.slice (some ⟨g, 0, none⟩) n oc) n (flt ovC us) := by
        have h := HO7.out.own
        rw [← HN.out] at h
        exact h
      have hxv : I64f z5 := hz5
      have hb0 := hbig u (List.mem_of_getElem? HU.out)
      have HNB : Hid (OpBig (OV.o ⟨⟨u.o.kind, u.o.a, z5, u.o.c, u.o.list, u.o.sym⟩, u.lv⟩)) := Lib.hid ⟨⟨hb0.fits.1, hb0.fits.2.1, hxv, hb0.fits.2.2.2.1, hb0.fits.2.2.2.2⟩, hb0.few, hb0.sym⟩
      have z0 : w7.cell? ⟨g, (i * 6 + 2), none⟩ = some ((ovC u).getD 2 undef) := (hown.cellAt (i * 6 + 2) (by omega)).trans (flt_at ovC_len HU.out rfl)
      have z1 : w7.frozen? ⟨g, (i * 6 + 2), none⟩ = false := hown.frozenAt (i * 6 + 2)
      have HO9 := Lib.hid (HO7.out.setOp (f := 2) (x := iv z5) (u' := ⟨⟨u.o.kind, u.o.a, z5, u.o.c, u.o.list, u.o.sym⟩, u.lv⟩) HN.out HU.out rfl (by decide) (HO7.out.each u (List.mem_of_getElem? HU.out)) rfl HSZ.out hdl)
      clear hown hb0
      have hrb2 := HO7.out.kp.heap HR1.out (by omega)
      have t0 : w7.cell? ⟨w.heap.size + 1, 0, none⟩ = some (.int .i64 0) := (Lib.cell_of_heap hrb2 _).trans rfl
      have t1 : w7.cell? ⟨w.heap.size + 1, 1, none⟩ = some (.int .i64 0) := (Lib.cell_of_heap hrb2 _).trans rfl
      have t2 : w7.cell? ⟨w.heap.size + 1, 2, none⟩ = some (.slice none 0 0) := (Lib.cell_of_heap hrb2 _).trans rfl
      have u0 : w7.frozen? ⟨w.heap.size + 1, 0, none⟩ = false := Lib.frozen_of_heap hrb2 0
      have u1 : w7.frozen? ⟨w.heap.size + 1, 1, none⟩ = false := Lib.frozen_of_heap hrb2 1
      have u2 : w7.frozen? ⟨w.heap.size + 1, 2, none⟩ = false := Lib.frozen_of_heap hrb2 2
      have d0 : w7.cell? ⟨w.heap.size, 0, none⟩ = some (iv xp) := (Lib.cell_of_heap HO7.out.box _).trans rfl
      have d1 : w7.cell? ⟨w.heap.size, 1, none⟩ = some (iv xr) := (Lib.cell_of_heap HO7.out.box _).trans rfl
      have d2 : w7.cell? ⟨w.heap.size, 2, none⟩ = some (.slice (some ⟨g, 0, none⟩) n oc) := (Lib.cell_of_heap HO7.out.box _).trans rfl
      clear hrb2
      go_wp2
      refine bodyPost_ret (v := .agg #[iv xp, iv xr, .slice (some ⟨g, 0, none⟩) n oc]) (by simp [results, Tryd.results15, go_sem, t0, t1, t2]; try rfl) rfl ?_
      refine HO9.out.fin (kp3b _ _ _ _ _) HBB.out HSZ.out hdl hxp hxr (by rw [List.length_set, ← HN.out]; omega) (fun y hy => ?_) (by rw [List.length_set]; exact Nat.le_of_eq HN.out)
      rcases List.mem_or_eq_of_mem_set hy with hy | rfl
      · exact hbig y hy
      · exact HNB.out
    ·
      have hown : w7.ownsRow wb.heap.size 60 6 (.slice (some ⟨g, 0, none⟩) n oc) n (flt ovC us) := by
        have h := HO7.out.own
        rw [← HN.out] at h
        exact h
      have hxv : I64f z5 := hz5
      have hb0 := hbig u (List.mem_of_getElem? HU.out)
      have HNB : Hid (OpBig (OV.o ⟨⟨u.o.kind, u.o.a, u.o.b, z5, u.o.list, u.o.sym⟩, u.lv⟩)) := Lib.hid ⟨⟨hb0.fits.1, hb0.fits.2.1, hb0.fits.2.2.1, hxv, hb0.fits.2.2.2.2⟩, hb0.few, hb0.sym⟩
      have z0 : w7.cell? ⟨g, (i * 6 + 3), none⟩ = some ((ovC u).getD 3 undef) := (hown.cellAt (i * 6 + 3) (by omega)).trans (flt_at ovC_len HU.out rfl)
      have z1 : w7.frozen? ⟨g, (i * 6 + 3), none⟩ = false := hown.frozenAt (i * 6 + 3)
      have HO9 := Lib.hid (HO7.out.setOp (f := 3) (x := iv z5) (u' := ⟨⟨u.o.kind, u.o.a, u.o.b, z5, u.o.list, u.o.sym⟩, u.lv⟩) HN.out HU.out rfl (by decide) (HO7.out.each u (List.mem_of_getElem? HU.out)) rfl HSZ.out hdl)
      clear hown hb0
      have hrb3 := HO7.out.kp.heap HR1.out (by omega)
      have t0 : w7.cell? ⟨w.heap.size + 1, 0, none⟩ = some (.int .i64 0) := (Lib.cell_of_heap hrb3 _).trans rfl
      have t1 : w7.cell? ⟨w.heap.size + 1, 1, none⟩ = some (.int .i64 0) := (Lib.cell_of_heap hrb3 _).trans rfl
      have t2 : w7.cell? ⟨w.heap.size + 1, 2, none⟩ = some (.slice none 0 0) := (Lib.cell_of_heap hrb3 _).trans rfl
      have u0 : w7.frozen? ⟨w.heap.size + 1, 0, none⟩ = false := Lib.frozen_of_heap hrb3 0
      have u1 : w7.frozen? ⟨w.heap.size + 1, 1, none⟩ = false := Lib.frozen_of_heap hrb3 1
      have u2 : w7.frozen? ⟨w.heap.size + 1, 2, none⟩ = false := Lib.frozen_of_heap hrb3 2
      have d0 : w7.cell? ⟨w.heap.size, 0, none⟩ = some (iv xp) := (Lib.cell_of_heap HO7.out.box _).trans rfl
      have d1 : w7.cell? ⟨w.heap.size, 1, none⟩ = some (iv xr) := (Lib.cell_of_heap HO7.out.box _).trans rfl
      have d2 : w7.cell? ⟨w.heap.size, 2, none⟩ = some (.slice (some ⟨g, 0, none⟩) n oc) := (Lib.cell_of_heap HO7.out.box _).trans rfl
      clear hrb3
      go_wp2
      refine bodyPost_ret (v := .agg #[iv xp, iv xr, .slice (some ⟨g, 0, none⟩) n oc]) (by simp [results, Tryd.results15, go_sem, t0, t1, t2]; try rfl) rfl ?_
      refine HO9.out.fin (kp3b _ _ _ _ _) HBB.out HSZ.out hdl hxp hxr (by rw [List.length_set, ← HN.out]; omega) (fun y hy => ?_) (by rw [List.length_set]; exact Nat.le_of_eq HN.out)
      rcases List.mem_or_eq_of_mem_set hy with hy | rfl
      · exact hbig y hy
      · exact HNB.out
    ·
      have hmem := List.mem_of_getElem? HU.out
      have hown : w7.ownsRow wb.heap.size 60 6 (.slice (some ⟨g, 0, none⟩) n oc) n (flt ovC us) := by
        have h := HO7.out.own
        rw [← HN.out] at h
        exact h
      obtain ⟨LA, lc, hlv, hlr⟩ := HO7.out.each u hmem
      have hl3 := HL3.out u hmem
      obtain ⟨m, hm⟩ : ∃ m, m = u.o.list.length := ⟨_, rfl⟩
      rw [← hm] at hlv hl3
      have z0 : w7.cell? ⟨g, i * 6 + 4, none⟩ = some (.slice LA m lc) := (hown.cellAt (i * 6 + 4) (by omega)).trans ((flt_at (j := 4) (u := u.lv) ovC_len HU.out rfl).trans (by rw [hlv]))
      have HM := Lib.hid hm
      have HLR := Lib.hid hlr
      have hlen : (u.o.list.map iv).length = m * 1 := by rw [List.length_map, hm, Nat.mul_one]
      have HLEN := Lib.hid hlen
      have H1 : Hid (∀ y ∈ u.o.list.map iv, y.oneCell' = true) := Lib.hid fun y hy => by obtain ⟨z, _, rfl⟩ := List.mem_map.1 hy; rfl
      have hwb7 := HO7.out.kp.size
      clear hown hlr hm hlen hmem hlv
      go_wp2_with (at_builtin; go_loud (refine wpList_append_row rfl _ _ 22 rfl w7.heap.size 3 i1 _ 1 8 Tryd.underlying22 hi1 hy0 hy1 hy2 rfl (by omega) (.slice none 0 0) 0 [] rfl (World.ownsRow_nil _ _ _ _) (LsB w wb w7 dd (.slice (some ⟨g, 0, none⟩) n oc)) LA m lc (u.o.list.map iv) rfl HLEN.out HLR.out H1.out (by unfold maxLen; omega) (by omega) (Nat.le_refl _) ?_))
      intro v8 w8 hown8 hg8 _
      obtain ⟨XA, xc, rfl, _⟩ := own_slice hown8
      have hb8 : Below w7.heap.size w7 w8 := ⟨hg8.os, hg8.tape, hg8.output, hg8.size, fun y hy => hg8.block y hy (by simp [Value.ownBlock])⟩
      have hb8a : Below w7.heap.size w7 (w8.alloc (.cells #[iv z5] 3)) := hb8.alloc hb8.size _
      have hown8a := hown8.alloc (.cells #[iv z5] 3)
      have hnew8 := World.news_of_block (cs := #[iv z5]) (alloc1 w8 (.cells #[iv z5] 3))
      clear hg8 hown8 z0
      go_wp2_with (at_builtin; go_loud (refine wpList_append_own _ rfl (.tmp 75) (.tmp 77) 22 rfl w7.heap.size 3 i1 (.int .i64 0) 1 8 Tryd.underlying22 hi1 hy0 hy1 hy2 rfl (by decide) _ m _ rfl hown8a ⟨w8.heap.size, 0, none⟩ 1 1 [iv z5] rfl rfl ?c1 ?c2 ?c3 ?c4 ?c5 ?_))
      case c2 => rfl
      case c3 => unfold maxLen; omega
      case c4 => omega
      case c5 => have := hb8.size; omega
      intro v9 w9 hown9 hg9 _
      obtain ⟨YA, yc, rfl, _⟩ := own_slice hown9
      have hb9 : Below w7.heap.size w7 w9 := hb8a.grown hg9 hb8a.size (fun b hb => (hown8a.lt b hb).1)
      have HO9 := Lib.hid (HO7.out.below hb9 rfl HSZ.out hdl)
      have hown : w9.ownsRow wb.heap.size 60 6 (.slice (some ⟨g, 0, none⟩) n oc) n (flt ovC us) := by
        have h := HO9.out.own
        rw [← HN.out] at h
        exact h
      have z0 : w9.cell? ⟨g, i * 6 + 4, none⟩ = some u.lv := (hown.cellAt (i * 6 + 4) (by omega)).trans (flt_at (j := 4) (u := u.lv) ovC_len HU.out rfl)
      have z1 : w9.frozen? ⟨g, i * 6 + 4, none⟩ = false := hown.frozenAt (i * 6 + 4)
      have hiv : IntsV w9 (LsB w wb w9 dd (.slice (some ⟨g, 0, none⟩) n oc)) (.slice YA (m + 1) yc) (u.o.list ++ [z5]) := by
        refine ⟨YA, yc, by rw [List.length_append, HM.out]; rfl, ?_⟩
        rw [List.map_append]
        refine Row.ofOwn hown9 fun b _ h3 h4 => .inr ⟨by have := HO7.out.kp.size; omega, h4, fun e => ?_⟩
        have e2 : b = g := Option.some.inj e
        have := (HO7.out.own.lt g rfl).2
        omega
      have hb0 := hbig u (List.mem_of_getElem? HU.out)
      have HNB : Hid (OpBig (⟨u.o.kind, u.o.a, u.o.b, u.o.c, u.o.list ++ [z5], u.o.sym⟩ : OpF)) := Lib.hid ⟨⟨hb0.fits.1, hb0.fits.2.1, hb0.fits.2.2.1, hb0.fits.2.2.2.1, fun y hy => by
        rcases List.mem_append.1 hy with hy | hy
        · exact hb0.fits.2.2.2.2 y hy
        · rw [List.mem_singleton.1 hy]
          exact hz5⟩, by rw [List.length_append, ← HM.out]; simp; omega, hb0.sym⟩
      have HOA := Lib.hid (HO9.out.setOp (f := 4) (x := .slice YA (m + 1) yc) (u' := ⟨⟨u.o.kind, u.o.a, u.o.b, u.o.c, u.o.list ++ [z5], u.o.sym⟩, .slice YA (m + 1) yc⟩) HN.out HU.out rfl (by decide) hiv rfl HSZ.out hdl)
      clear hown hb0 hiv hown9 hg9 hb9 hb8 hb8a hown8a hnew8
      have hrb4 := HO9.out.kp.heap HR1.out (by omega)
      have t0 : w9.cell? ⟨w.heap.size + 1, 0, none⟩ = some (.int .i64 0) := (Lib.cell_of_heap hrb4 _).trans rfl
      have t1 : w9.cell? ⟨w.heap.size + 1, 1, none⟩ = some (.int .i64 0) := (Lib.cell_of_heap hrb4 _).trans rfl
      have t2 : w9.cell? ⟨w.heap.size + 1, 2, none⟩ = some (.slice none 0 0) := (Lib.cell_of_heap hrb4 _).trans rfl
      have u0 : w9.frozen? ⟨w.heap.size + 1, 0, none⟩ = false := Lib.frozen_of_heap hrb4 0
      have u1 : w9.frozen? ⟨w.heap.size + 1, 1, none⟩ = false := Lib.frozen_of_heap hrb4 1
      have u2 : w9.frozen? ⟨w.heap.size + 1, 2, none⟩ = false := Lib.frozen_of_heap hrb4 2
      have d0 : w9.cell? ⟨w.heap.size, 0, none⟩ = some (iv xp) := (Lib.cell_of_heap HO9.out.box _).trans rfl
      have d1 : w9.cell? ⟨w.heap.size, 1, none⟩ = some (iv xr) := (Lib.cell_of_heap HO9.out.box _).trans rfl
      have d2 : w9.cell? ⟨w.heap.size, 2, none⟩ = some (.slice (some ⟨g, 0, none⟩) n oc) := (Lib.cell_of_heap HO9.out.box _).trans rfl
      clear hrb4
      go_wp2
      refine bodyPost_ret (v := .agg #[iv xp, iv xr, .slice (some ⟨g, 0, none⟩) n oc]) (by simp [results, Tryd.results15, go_sem, t0, t1, t2]; try rfl) rfl ?_
      refine HOA.out.fin (kp3b _ _ _ _ _) HBB.out HSZ.out hdl hxp hxr (by rw [List.length_set, ← HN.out]; omega) (fun y hy => ?_) (by rw [List.length_set]; exact Nat.le_of_eq HN.out)
      rcases List.mem_or_eq_of_mem_set hy with hy | rfl
      · exact hbig y hy
      · exact HNB.out
    ·
      have f0 : w7.frozen? ⟨w.heap.size, 0, none⟩ = false := Lib.frozen_of_heap HO7.out.box 0
      have hrb5 := HO7.out.kp.heap HR1.out (by omega)
      have t0 : w7.cell? ⟨w.heap.size + 1, 0, none⟩ = some (.int .i64 0) := (Lib.cell_of_heap hrb5 _).trans rfl
      have t1 : w7.cell? ⟨w.heap.size + 1, 1, none⟩ = some (.int .i64 0) := (Lib.cell_of_heap hrb5 _).trans rfl
      have t2 : w7.cell? ⟨w.heap.size + 1, 2, none⟩ = some (.slice none 0 0) := (Lib.cell_of_heap hrb5 _).trans rfl
      have u0 : w7.frozen? ⟨w.heap.size + 1, 0, none⟩ = false := Lib.frozen_of_heap hrb5 0
      have u1 : w7.frozen? ⟨w.heap.size + 1, 1, none⟩ = false := Lib.frozen_of_heap hrb5 1
      have u2 : w7.frozen? ⟨w.heap.size + 1, 2, none⟩ = false := Lib.frozen_of_heap hrb5 2
      have d0 : w7.cell? ⟨w.heap.size, 0, none⟩ = some (iv xp) := (Lib.cell_of_heap HO7.out.box _).trans rfl
      have d1 : w7.cell? ⟨w.heap.size, 1, none⟩ = some (iv xr) := (Lib.cell_of_heap HO7.out.box _).trans rfl
      have d2 : w7.cell? ⟨w.heap.size, 2, none⟩ = some (.slice (some ⟨g, 0, none⟩) n oc) := (Lib.cell_of_heap HO7.out.box _).trans rfl
      clear hrb5
      go_wp2
      refine bodyPost_ret (v := .agg #[iv z5, iv xr, .slice (some ⟨g, 0, none⟩) n oc]) (by simp [results, Tryd.results15, go_sem, t0, t1, t2]; try rfl) rfl ?_
      exact HO7.out.fin (kp4 _ _ _ _ _ _ _) HBB.out HSZ.out hdl hz5 hxr (by rw [← HN.out]; omega) hbig (Nat.le_of_eq HN.out)
    ·
      go_wp2_with fail
      refine (next_any 5 dd xs _ (by decide) (by decide) HO7.out.dice).mono ?_
      rintro e w8 ⟨kz, hkz, rfl, hD, hK⟩
      have HO8 := Lib.hid (HO7.out.thrown hD hK rfl HSZ.out hdl)
      clear hD hK HO7
      have f1 : w8.frozen? ⟨w.heap.size, 1, none⟩ = false := Lib.frozen_of_heap HO8.out.box 1
      have hrb6 := HO8.out.kp.heap HR1.out (by omega)
      have t0 : w8.cell? ⟨w.heap.size + 1, 0, none⟩ = some (.int .i64 0) := (Lib.cell_of_heap hrb6 _).trans rfl
      have t1 : w8.cell? ⟨w.heap.size + 1, 1, none⟩ = some (.int .i64 0) := (Lib.cell_of_heap hrb6 _).trans rfl
      have t2 : w8.cell? ⟨w.heap.size + 1, 2, none⟩ = some (.slice none 0 0) := (Lib.cell_of_heap hrb6 _).trans rfl
      have u0 : w8.frozen? ⟨w.heap.size + 1, 0, none⟩ = false := Lib.frozen_of_heap hrb6 0
      have u1 : w8.frozen? ⟨w.heap.size + 1, 1, none⟩ = false := Lib.frozen_of_heap hrb6 1
      have u2 : w8.frozen? ⟨w.heap.size + 1, 2, none⟩ = false := Lib.frozen_of_heap hrb6 2
      have d0 : w8.cell? ⟨w.heap.size, 0, none⟩ = some (iv xp) := (Lib.cell_of_heap HO8.out.box _).trans rfl
      have d1 : w8.cell? ⟨w.heap.size, 1, none⟩ = some (iv xr) := (Lib.cell_of_heap HO8.out.box _).trans rfl
      have d2 : w8.cell? ⟨w.heap.size, 2, none⟩ = some (.slice (some ⟨g, 0, none⟩) n oc) := (Lib.cell_of_heap HO8.out.box _).trans rfl
      clear hrb6
      go_wp2
      refine bodyPost_ret (v := .agg #[iv xp, iv ((kz : Int) - 1), .slice (some ⟨g, 0, none⟩) n oc]) (by simp [results, Tryd.results15, go_sem, t0, t1, t2]; try rfl) rfl ?_
      exact HO8.out.fin (kp4 _ _ _ _ _ _ _) HBB.out HSZ.out hdl hxp (by unfold I64f; omega) (by rw [← HN.out]; omega) hbig (Nat.le_of_eq HN.out)
    ·
      have d2 : w7.cell? ⟨w.heap.size, 2, none⟩ = some (.slice (some ⟨g, 0, none⟩) n oc) := (Lib.cell_of_heap HO7.out.box _).trans rfl
      go_wp2_with fail
      refine wp_region_mix (fun u => u.cell? ⟨w.heap.size, 2, none⟩ = some (.slice (some ⟨g, 0, none⟩) n oc)) [(true, 0), (true, 1), (true, 2), (true, 3), (true, 4), (true, 5), (false, 6)] [7, 8, 9] (by kernel_rfl) (by kernel_rfl) d2 ?hb
      case hb =>
      simp only [mixAt, List.filterMap_cons, List.filterMap_nil, List.getElem?_toArray, List.getElem?_cons_succ, List.getElem?_cons_zero, Option.map_some]
      refine wpMix_load ?vba0 rfl (fun w' hS => ?yba0) ?kba0
      case yba0 =>
        obtain g0 := hS
        go_simp
        try rfl
      case kba0 =>
      go_simp
      refine wpMix_load ?vba1 rfl (fun w' hS => ?yba1) ?kba1
      case yba1 =>
        obtain g0 := hS
        go_simp
        try rfl
      case kba1 =>
      go_simp
      refine wpMix_load ?vba2 rfl (fun w' hS => ?yba2) ?kba2
      case yba2 =>
        obtain g0 := hS
        go_simp
        try rfl
      case kba2 =>
      go_simp
      refine wpMix_load ?vba3 rfl (fun w' hS => ?yba3) ?kba3
      case yba3 =>
        obtain g0 := hS
        go_simp
        try rfl
      case kba3 =>
      go_simp
      refine wpMix_load ?vba4 rfl (fun w' hS => ?yba4) ?kba4
      case yba4 =>
        obtain g0 := hS
        go_simp
        try rfl
      case kba4 =>
      go_simp
      refine wpMix_load ?vba5 rfl (fun w' hS => ?yba5) ?kba5
      case yba5 =>
        obtain g0 := hS
        go_simp
        try rfl
      case kba5 =>
      go_simp
      clear d2
      refine wpMix_keep rfl ?_
      go_wp2_with fail
      refine (next_any n dd xs _ (by omega) (by omega) (HO7.out.below (Below.refl _ _).drew rfl HSZ.out hdl).dice).mono ?_
      rintro e w8 ⟨kz, hkz, rfl, hD, hK⟩
      have HO8 := Lib.hid ((HO7.out.below (Below.refl _ _).drew rfl HSZ.out hdl).thrown hD hK rfl HSZ.out hdl)
      refine ⟨(Lib.cell_of_heap HO8.out.box _).trans rfl, ?_⟩
      clear hD hK HO7
      refine wpMix_nil ?_
      simp only [opsAt, List.filterMap_cons, List.filterMap_nil, List.getElem?_toArray, List.getElem?_cons_succ, List.getElem?_cons_zero]
      have f2 : w8.frozen? ⟨w.heap.size, 2, none⟩ = false := Lib.frozen_of_heap HO8.out.box 2
      have hrb7 := HO8.out.kp.heap HR1.out (by omega)
      have t0 : w8.cell? ⟨w.heap.size + 1, 0, none⟩ = some (.int .i64 0) := (Lib.cell_of_heap hrb7 _).trans rfl
      have t1 : w8.cell? ⟨w.heap.size + 1, 1, none⟩ = some (.int .i64 0) := (Lib.cell_of_heap hrb7 _).trans rfl
      have t2 : w8.cell? ⟨w.heap.size + 1, 2, none⟩ = some (.slice none 0 0) := (Lib.cell_of_heap hrb7 _).trans rfl
      have u0 : w8.frozen? ⟨w.heap.size + 1, 0, none⟩ = false := Lib.frozen_of_heap hrb7 0
      have u1 : w8.frozen? ⟨w.heap.size + 1, 1, none⟩ = false := Lib.frozen_of_heap hrb7 1
      have u2 : w8.frozen? ⟨w.heap.size + 1, 2, none⟩ = false := Lib.frozen_of_heap hrb7 2
      have d0 : w8.cell? ⟨w.heap.size, 0, none⟩ = some (iv xp) := (Lib.cell_of_heap HO8.out.box _).trans rfl
      have d1 : w8.cell? ⟨w.heap.size, 1, none⟩ = some (iv xr) := (Lib.cell_of_heap HO8.out.box _).trans rfl
      have d2 : w8.cell? ⟨w.heap.size, 2, none⟩ = some (.slice (some ⟨g, 0, none⟩) n oc) := (Lib.cell_of_heap HO8.out.box _).trans rfl
      clear hrb7
      have hkz2 : (0 : Int) ≤ (kz : Int) ∧ (kz : Int) ≤ (oc : Int) := ⟨by omega, by omega⟩
      go_wp2
      refine NoPanic.normal ?_
      go_wp2
      refine bodyPost_ret (v := .agg #[iv xp, iv xr, .slice (some ⟨g, 0, none⟩) kz oc]) (by simp [results, Tryd.results15, go_sem, t0, t1, t2]; try rfl) rfl ?_
      exact HO8.out.fin (kp4 _ _ _ _ _ _ _) HBB.out HSZ.out hdl hxp hxr (by rw [← HN.out]; omega) hbig (by rw [← HN.out]; omega)
end Go.Proofs.YtkggmckfdkpldaaDoor
