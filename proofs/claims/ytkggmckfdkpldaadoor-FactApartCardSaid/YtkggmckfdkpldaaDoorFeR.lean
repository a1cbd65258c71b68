/-
  The walks of strings.Builder, with what they leave as it was. Conditions: those of each theorem.
  The walks of types.write and types.Print.
  Conditions: the argument reads as a type; its text is at most 4000000 bytes long.
-/
import Derived.Test.YtkggmckfdkpldaaDoorFcB
import Derived.Lib.Strings
import Derived.Lib.Slices
import Derived.Lib.Walk
import Derived.Lib.Builder
import Derived.Lib.AppendStr
import Derived.Lib.UnsafeStr
import Derived.Laws.Externs
import Derived.Test.YtkggmckfdkpldaaDoorFeP
import Derived.Test.YtkggmckfdkpldaaDoorShelf
namespace Go.Proofs.YtkggmckfdkpldaaDoor
section
open Go.RowKit
def U8At (w : World) (y : Nat) : Prop := ∃ cs fr, w.heap[y]? = some (.cells cs TU fr)
/-- Only block b and rows of bytes from B on may have turned. -/
def Wd (B b : Nat) (w w' : World) : Prop := Kp (fun y => y = b ∨ (B ≤ y ∧ U8At w y)) w w'
theorem Wd.refl (B b : Nat) (w : World) : Wd B b w w := Kp.refl _ _
theorem Wd.trans {B b : Nat} {w w1 w2 : World} (h : Wd B b w w1) (h1 : Wd B b w1 w2) : Wd B b w w2 := by
  refine Kp.trans h h1 fun x hx hM => ?_
  rcases hM with rfl | ⟨hB, cs, fr, hc⟩
  · exact .inl rfl
  · rcases Classical.em (x = b ∨ (B ≤ x ∧ U8At w x)) with h2 | h2
    · exact h2
    · exact .inr ⟨hB, cs, fr, (h.block x hx h2).symm.trans hc⟩
theorem Wd.below {B b : Nat} {w w' : World} (h : Wd B b w w') (hB : B ≤ b) (hw : B ≤ w.heap.size) : Below B w w' := ⟨h.os, h.tape, h.output, h.size, fun x hx => h.block x (by omega) (fun e => by
  rcases e with e | e
  · omega
  · omega)⟩
theorem Wd.set {B b o : Nat} {w : World} (v : Value) : Wd B b w (w.setCell ⟨b, o, none⟩ v) := Kp.setCell (Kp.refl _ _) (fun _ => .inl rfl) _
theorem Wd.alloc {B b : Nat} {w w1 : World} (h : Wd B b w w1) (o : Obj) : Wd B b w (w1.alloc o) := Kp.alloc h o
theorem Wd.ofBelow {B b : Nat} {w w1 : World} (h : Below w.heap.size w w1) : Wd B b w w1 := Kp.ofBelow h
theorem Wd.grow {B b : Nat} {w w1 w2 : World} {v : Value} {n : Nat} {xs : List Value} (h : Wd B b w w1) (ho : w1.ownsRow B TU 1 v n xs) (hg : w1.grownBy w2 v.ownBlock) : Wd B b w w2 := by
  refine h.trans (⟨hg.os, hg.tape, hg.output, hg.size, fun x hx hM => hg.block x hx fun e => hM (.inr ?_)⟩ : Wd B b w1 w2)
  rcases ho.2 with ⟨rfl, _⟩ | ⟨g, cap, cur, rfl, hb, hgg, _⟩
  · cases e
  · cases e
    exact ⟨hb, _, _, hgg⟩

theorem copyCheckW_any (B b : Nat) (xs : List Value) (w : World) (h : Lib.IsBuilder 94 5 B b xs w) :
    Calls Tryd.prog 67 #[.pointer (some ⟨b, 0, none⟩)] w fun e w' => e = .returned (.tuple #[]) ∧ (Lib.BuilderAt 94 5 B b (.pointer (some ⟨b, 0, none⟩)) xs w' ∧ Wd B b w w') := by
  rcases h with h | h
  · refine (copyCheck_fresh b w h.cell0 h.shape h.frozen0).mono ?_
    rintro e w' ⟨rfl, rfl⟩
    exact ⟨rfl, h.used _, Wd.set _⟩
  · refine (copyCheck_used b w h.cell0).mono ?_
    rintro e w' ⟨rfl, rfl⟩
    exact ⟨rfl, h, Wd.refl _ _ _⟩

set_option maxHeartbeats 2000000 in
set_option maxRecDepth 100000 in
theorem writeStringW_any (B b : Nat) (xs : List Value) (s : ByteArray) (w : World) (h : Lib.IsBuilder 94 5 B b xs w) (hlen : xs.length + s.size ≤ 140737488355328) (hBw : B ≤ w.heap.size) :
    Calls Tryd.prog 52 #[.pointer (some ⟨b, 0, none⟩), .string s] w fun e w' => e = .returned (.tuple #[.int .i64 s.size, .nilIface]) ∧ (Lib.BuilderAt 94 5 B b (.pointer (some ⟨b, 0, none⟩)) (xs ++ Lib.strCells s) w' ∧ Wd B b w w') := by
  obtain ⟨i0, hi, hz0, hz1, hz2⟩ := info_parts infoU
  go_enter Tryd.func52, Tryd.ntmps52
  go_wp2_with (go_at_call 67; refine (copyCheckW_any B b xs _ h).mono ?_)
  rintro e w1 ⟨rfl, h1, hb1⟩
  obtain ⟨hB, v, hbk, hown, hne⟩ := h1
  have c0 : w1.cell? ⟨b, 0, none⟩ = some (.pointer (some ⟨b, 0, none⟩)) := by rw [Lib.cell_of_heap hbk]; rfl
  have c1 : w1.cell? ⟨b, 1, none⟩ = some v := by rw [Lib.cell_of_heap hbk]; rfl
  go_wp2_with (at_builtin; refine Lib.wpList_append_own_string _ rfl _ _ 83 9 rfl B 5 i0 Tryd.underlying83 Tryd.underlying9 hi hz0 hz1 hz2 _ _ _ rfl hown s rfl ?c3 ?c4 ?c5 ?_)
  case c3 => unfold maxLen; omega
  case c4 => omega
  case c5 => have := hb1.size; omega
  intro v' w2 hown' hgrow _
  have hlt : b < w1.heap.size := by
    rcases Nat.lt_or_ge b w1.heap.size with h' | h'
    · exact h'
    · simp [Array.getElem?_eq_none h'] at hbk
  have hb2 : w2.heap[b]? = some (.cells #[.pointer (some ⟨b, 0, none⟩), v] 94 (0, 0)) := by
    rw [hgrow.block b hlt (fun e => hne e.symm)]
    exact hbk
  have d0 : w2.cell? ⟨b, 0, none⟩ = some (.pointer (some ⟨b, 0, none⟩)) := by rw [Lib.cell_of_heap hb2]; rfl
  have d1 : w2.cell? ⟨b, 1, none⟩ = some v := by rw [Lib.cell_of_heap hb2]; rfl
  have f1 : w2.frozen? ⟨b, 1, none⟩ = false := Lib.frozen_of_heap hb2 1
  obtain ⟨ao, n', cap, rfl⟩ : ∃ ao n' cap, v' = .slice ao n' cap := by
    rcases hown'.2 with ⟨hv, _⟩ | ⟨g, cap, cur, hv, _⟩
    · exact ⟨_, _, _, hv⟩
    · exact ⟨_, _, _, hv⟩
  go_wp2
  go_ret2
  refine ⟨rfl, ?_, ?_⟩
  · exact Lib.BuilderAt.put (T := 94) (e := 5) hB hb2 (bs' := xs ++ Lib.strCells s) (by simpa [Lib.strCells_length] using hown') (by decide)
  · exact (hb1.grow hown hgrow).trans (Wd.set _)

set_option maxHeartbeats 2000000 in
set_option maxRecDepth 100000 in
theorem writeByte_any (B b : Nat) (xs : List Value) (x : UInt8) (c : Int) (w : World) (hc : c = (x.toNat : Int)) (h : Lib.IsBuilder 94 5 B b xs w) (hlen : xs.length + 1 ≤ 140737488355328) (hBw : B ≤ w.heap.size) :
    Calls Tryd.prog 69 #[.pointer (some ⟨b, 0, none⟩), .int .u8 c] w fun e w' => e = .returned .nilIface ∧ (Lib.BuilderAt 94 5 B b (.pointer (some ⟨b, 0, none⟩)) (xs ++ [.int .u8 (x.toNat : Int)]) w' ∧ Wd B b w w') := by
  obtain ⟨i0, hi, hz0, hz1, hz2⟩ := info_parts infoU
  subst hc
  go_enter Tryd.func69, Tryd.ntmps69
  go_wp2_with (go_at_call 67; refine (copyCheckW_any B b xs _ h).mono ?_)
  rintro e w1 ⟨rfl, h1, hb1⟩
  obtain ⟨hB, v, hbk, hown, hne⟩ := h1
  have c0 : w1.cell? ⟨b, 0, none⟩ = some (.pointer (some ⟨b, 0, none⟩)) := by rw [Lib.cell_of_heap hbk]; rfl
  have c1 : w1.cell? ⟨b, 1, none⟩ = some v := by rw [Lib.cell_of_heap hbk]; rfl
  have hlt : b < w1.heap.size := by
    rcases Nat.lt_or_ge b w1.heap.size with h' | h'
    · exact h'
    · simp [Array.getElem?_eq_none h'] at hbk
  have hsz := hb1.size
  go_wp2_with (at_builtin; refine wpList_append_own _ rfl _ _ 83 rfl B 5 i0 _ 1 1 Tryd.underlying83 hi hz0 hz1 hz2 rfl (by omega) _ xs.length xs rfl (hown.alloc _) ⟨w1.heap.size, 0, none⟩ 1 1 [.int .u8 (x.toNat : Int)] rfl rfl ?c1 ?c2 ?c3 ?c4 ?c5 ?_)
  case c1 => exact World.news_of_block (cs := #[.int .u8 (x.toNat : Int)]) (heap_alloc_new w1 _)
  case c2 => simp [Value.oneCell']
  case c3 => unfold maxLen; omega
  case c4 => omega
  case c5 => simp; omega
  intro v' w2 hown' hgrow _
  have hb2 : w2.heap[b]? = some (.cells #[.pointer (some ⟨b, 0, none⟩), v] 94 (0, 0)) := by
    rw [hgrow.block b (by simp; omega) (fun e => hne e.symm), heap_alloc_old _ _ hlt]
    exact hbk
  have d0 : w2.cell? ⟨b, 0, none⟩ = some (.pointer (some ⟨b, 0, none⟩)) := by rw [Lib.cell_of_heap hb2]; rfl
  have d1 : w2.cell? ⟨b, 1, none⟩ = some v := by rw [Lib.cell_of_heap hb2]; rfl
  have f1 : w2.frozen? ⟨b, 1, none⟩ = false := Lib.frozen_of_heap hb2 1
  obtain ⟨ao, n', cap, rfl⟩ : ∃ ao n' cap, v' = .slice ao n' cap := by
    rcases hown'.2 with ⟨hv, _⟩ | ⟨g, cap, cur, hv, _⟩
    · exact ⟨_, _, _, hv⟩
    · exact ⟨_, _, _, hv⟩
  have hbB : Wd B b w w2 := (hb1.alloc _).grow (hown.alloc _) hgrow
  go_wp2
  go_ret
  refine ⟨rfl, ?_, ?_⟩
  · exact Lib.BuilderAt.put (T := 94) (e := 5) hB hb2 (bs' := xs ++ [.int .u8 (x.toNat : Int)]) (by simpa using hown') (by decide)
  · exact hbB.trans (Wd.set _)
end

section
open Go.RowKit
abbrev Bld (b : Nat) (l : List UInt8) (w : World) : Prop := Lib.IsBuilder 94 5 b b (Lib.byteCells l) w

theorem bld_below {b : Nat} {l : List UInt8} {w w' : World} (h : Bld b l w) (hb : Below w.heap.size w w') : Bld b l w' := by
  rcases h with h | h
  · exact .inl (by
      obtain ⟨hB, v, hbk, hown, hne⟩ := h
      exact ⟨hB, v, (hb.block b (lt_of_heap hbk)).trans hbk, hown.kept (grownOfBelow hb) (ownNone _), hne⟩)
  · exact .inr (by
      obtain ⟨hB, v, hbk, hown, hne⟩ := h
      exact ⟨hB, v, (hb.block b (lt_of_heap hbk)).trans hbk, hown.kept (grownOfBelow hb) (ownNone _), hne⟩)
theorem bld_lt {b : Nat} {l : List UInt8} {w : World} (h : Bld b l w) : b < w.heap.size := by
  rcases h with h | h
  · exact h.lt
  · exact h.lt

theorem Wd.heap {B b y : Nat} {w w' : World} {cs : Array Value} {T : TypeId} {fr : Nat × Nat} (h : Wd B b w w') (hb : w.heap[y]? = some (.cells cs T fr)) (hT : T ≠ TU) (hy : y ≠ b) : w'.heap[y]? = some (.cells cs T fr) := by
  refine (h.block y (lt_of_heap hb) fun e => ?_).trans hb
  rcases e with e | ⟨_, cs', fr', e⟩
  · exact hy e
  · rw [hb] at e
    cases e
    exact hT rfl

/-- What a write leaves: the builder holds more. -/
def Wrote (b : Nat) (l : List UInt8) (w : World) (e : Ending) (w' : World) : Prop := e = .returned (.tuple #[]) ∧ Bld b l w' ∧ Wd b b w w'
theorem prnL_take_le : ∀ (ks : List Ty) (c : UInt8) (k : Nat), (prnL (ks.take k) c).length ≤ (prnL ks c).length
  | [], _, _ => by simp [prnL]
  | a :: r, c, 0 => by simp [prnL]
  | a :: r, c, k + 1 => by
    have := prnL_take_le r 44 k
    simp only [List.take_succ_cons, prnL, List.length_cons, List.length_append]
    omega
theorem cells_snoc (l : List UInt8) (x : UInt8) : Lib.byteCells l ++ [.int .u8 (x.toNat : Int)] = Lib.byteCells (l ++ [x]) := by simp [Lib.byteCells]

theorem prnL_snoc : ∀ (ks : List Ty) (k : Ty) (c : UInt8), prnL (ks ++ [k]) c = prnL ks c ++ ((if ks = [] then c else 44) :: prn k)
  | [], k, c => by simp [prnL]
  | a :: r, k, c => by
    rw [List.cons_append, prnL, prnL_snoc r k 44, prnL]
    simp

set_option maxHeartbeats 8000000 in
set_option maxRecDepth 100000 in
theorem write_any (t : Ty) : ∀ (u v : Value) (b : Nat) (l : List UInt8) (w : World), TyIs w (Lt b) t u v → Bld b l w → l.length + (prn t).length ≤ 4000000 →
    Calls Tryd.prog 56 #[.pointer (some ⟨b, 0, none⟩), .agg #[u, v]] w (Wrote b (l ++ prn t) w) := by
  induction t using Ty.ind with | h n ks ih => ?_
  intro u v b l w ht hB hlen
  obtain ⟨A, c, vs, rfl, rfl, hn, hz, hc1, hc2, hT⟩ := ht.open_
  simp only [Ty.name, Ty.args] at hn hz hc1 hT ⊢
  obtain ⟨m, hm⟩ : ∃ m, m = ks.length := ⟨_, rfl⟩
  rw [← hm]
  rw [← hm] at hz hc1
  have HM := Lib.hid hm
  have IH := Lib.hid ih
  have hbl := bld_lt hB
  have hb1 : Below w.heap.size w (w.alloc (.cells #[sv n, .slice A m c] 31)) := (Below.refl _ _).alloc (Nat.le_refl _) _
  have hB1 := bld_below hB hb1
  rw [prn] at hlen
  have HB1 := Lib.hid hB1
  have HLEN := Lib.hid hlen
  have hln : l.length + n.length ≤ 4000000 := by simp only [List.length_append] at hlen; omega
  have hws := writeStringW_any b b (Lib.byteCells l) (bs n) _ hB1 (by rw [Lib.byteCells_length, bs_size]; omega) (by simp; omega)
  have hcl : Lib.byteCells l ++ Lib.strCells (bs n) = Lib.byteCells (l ++ n) := by simp [Lib.byteCells, Lib.strCells, bs_data]
  rw [hcl] at hws
  have HWS := Lib.hid hws
  clear hm ih ht hB hB1 hlen hws hcl hb1
  go_enter Tryd.func56, Tryd.ntmps56
  go_wp2_with fail
  refine HWS.out.mono ?_
  rintro e w2 ⟨rfl, hB2, hb2⟩
  have hW2 : Wd b b w w2 := ((Wd.refl _ _ _).alloc _).trans hb2
  have hX2 := hb2.heap (alloc1 w _) (by decide) (by omega)
  have hb2' : Bld b (l ++ n) w2 := .inr hB2
  have x1 : w2.cell? ⟨w.heap.size, 1, none⟩ = some (.slice A m c) := (Lib.cell_of_heap hX2 _).trans rfl
  have HB2 := Lib.hid hb2'
  have HX2 := Lib.hid hX2
  have HW2 := Lib.hid hW2
  clear hB2 hb2 hX2 hW2 hb2'
  go_wp2_with fail
  go_loopw [13] (fun i wr => ∃ k : Nat, k ≤ m ∧ i = .int .i64 k ∧ Bld b (l ++ n ++ prnL (ks.take k) 60) wr ∧ wr.heap[w.heap.size]? = some (.cells #[sv n, .slice A m c] 31 (0, 0)) ∧ Wd b b w wr) (fun i _ => m - (intOf i).toNat)
  case atStart => exact ⟨0, Nat.zero_le _, rfl, by simpa [prnL] using HB2.out, HX2.out, HW2.out⟩
  case round =>
    obtain ⟨k, hk, rfl, hB, hX, hW⟩ := hrel
    have x1 : wr.cell? ⟨w.heap.size, 1, none⟩ = some (.slice A m c) := (Lib.cell_of_heap hX _).trans rfl
    have hxl := lt_of_heap hX
    have hbr := hW.below (Nat.le_refl _) (by omega)
    have hszr := hW.size
    have hTr := hT.keep (kept_below hbr)
    by_cases hlt : k < m
    · have hki : k < ks.length := by rw [← HM.out]; exact hlt
      obtain ⟨ad, u, v, rfl, hS, e0, e1, hty⟩ := hTr.at_ (List.getElem?_eq_getElem hki)
      obtain ⟨u, v, rfl, rfl⟩ := hty.shape
      have hst : prnL (ks.take (k + 1)) 60 = prnL (ks.take k) 60 ++ ((if ks.take k = [] then 60 else 44) :: prn ks[k]) := by rw [List.take_succ_eq_append_getElem hki, prnL_snoc]
      have hle := prnL_take_le ks 60 (k + 1)
      have hlen := HLEN.out
      simp only [List.length_append] at hlen
      rw [hst] at hle
      simp only [List.length_append, List.length_cons] at hle
      have hba : Below wr.heap.size wr (wr.alloc (.cells #[sv u, .slice v.1 v.2.1 v.2.2] 31)) := (Below.refl _ _).alloc (Nat.le_refl _) _
      have HBA := Lib.hid (bld_below hB hba)
      have HXA := Lib.hid ((hba.block _ hxl).trans hX)
      have HYA := Lib.hid (alloc1 wr (.cells #[sv u, .slice v.1 v.2.1 v.2.2] 31))
      have HWA := Lib.hid (hW.alloc (.cells #[sv u, .slice v.1 v.2.1 v.2.2] 31))
      have HTY := Lib.hid (hty.keep (kept_below (hba.mono (by omega : b ≤ wr.heap.size))))
      have HST := Lib.hid hst
      have hll : l.length + n.length + (prnL (ks.take k) 60).length + 1 + (prn ks[k]).length ≤ 4000000 := by omega
      clear hst hle hlen hB hX hW hbr hTr hba hty
      have fin : ∀ (x : UInt8) (w4 : World), (if ks.take k = [] then (60 : UInt8) else 44) = x → Bld b (l ++ n ++ prnL (ks.take k) 60 ++ [x]) w4 → Wd b b (wr.alloc (.cells #[sv u, .slice v.1 v.2.1 v.2.2] 31)) w4 →
          Calls Tryd.prog 56 #[.pointer (some ⟨b, 0, none⟩), .agg #[sv u, .slice v.1 v.2.1 v.2.2]] w4 (Wrote b (l ++ n ++ prnL (ks.take (k + 1)) 60) w4) := by
        intro x w4 hx hB4 hW4
        have := IH.out ks[k] (List.getElem_mem hki) (sv u) (.slice v.1 v.2.1 v.2.2) b _ w4 (HTY.out.keep (kept_below (hW4.below (Nat.le_refl _) (by simp; omega)))) hB4 (by simp only [List.length_append, List.length_cons, List.length_nil]; omega)
        rw [HST.out, hx]
        simpa using this
      have FIN := Lib.hid fin
      clear fin
      rcases Nat.eq_zero_or_pos k with h0 | h0
      · have h0e : ((k : Int) == 0) = true := by simp [h0]
        have hif : (if ks.take k = [] then (60 : UInt8) else 44) = 60 := by simp [h0]
        clear h0
        go_wp2_with fail
        refine (writeByte_any b b _ 60 60 _ rfl HBA.out (by rw [Lib.byteCells_length]; simp only [List.length_append]; omega) (by simp; omega)).mono ?_
        rintro e w4 ⟨rfl, hB4, hb4⟩
        rw [cells_snoc] at hB4
        have hW4 : Wd b b _ w4 := hb4
        have hY4 := hW4.heap HYA.out (by decide) (by omega)
        have y0 : w4.cell? ⟨wr.heap.size, 0, none⟩ = some (sv u) := (Lib.cell_of_heap hY4 _).trans rfl
        have y1 : w4.cell? ⟨wr.heap.size, 1, none⟩ = some (.slice v.1 v.2.1 v.2.2) := (Lib.cell_of_heap hY4 _).trans rfl
        go_wp2_with fail
        refine (FIN.out 60 w4 hif (.inr hB4) hW4).mono ?_
        rintro e w5 ⟨rfl, hB5, hb5⟩
        have hX4 := hW4.heap HXA.out (by decide) (by omega)
        have hX5 := hb5.heap hX4 (by decide) (by omega)
        have hW5 := (HWA.out.trans hW4).trans hb5
        have hk1 : k + 1 ≤ m := hlt
        clear hb5 hX4 hW4 hB4 hY4
        go_wp2_with fail
        go_roundw
        case rel => exact ⟨k + 1, hk1, by go_num, hB5, hX5, hW5⟩
        case measure => simp [intOf]; omega
      · have h0e : ((k : Int) == 0) = false := by simp; omega
        have hif : (if ks.take k = [] then (60 : UInt8) else 44) = 44 := by
          have : ks.take k ≠ [] := by
            intro h
            have := congrArg List.length h
            simp only [List.length_take, List.length_nil] at this
            omega
          simp [this]
        clear h0
        go_wp2_with fail
        refine (writeByte_any b b _ 44 44 _ rfl HBA.out (by rw [Lib.byteCells_length]; simp only [List.length_append]; omega) (by simp; omega)).mono ?_
        rintro e w4 ⟨rfl, hB4, hb4⟩
        rw [cells_snoc] at hB4
        have hW4 : Wd b b _ w4 := hb4
        have hY4 := hW4.heap HYA.out (by decide) (by omega)
        have y0 : w4.cell? ⟨wr.heap.size, 0, none⟩ = some (sv u) := (Lib.cell_of_heap hY4 _).trans rfl
        have y1 : w4.cell? ⟨wr.heap.size, 1, none⟩ = some (.slice v.1 v.2.1 v.2.2) := (Lib.cell_of_heap hY4 _).trans rfl
        go_wp2_with fail
        refine (FIN.out 44 w4 hif (.inr hB4) hW4).mono ?_
        rintro e w5 ⟨rfl, hB5, hb5⟩
        have hX4 := hW4.heap HXA.out (by decide) (by omega)
        have hX5 := hb5.heap hX4 (by decide) (by omega)
        have hW5 := (HWA.out.trans hW4).trans hb5
        have hk1 : k + 1 ≤ m := hlt
        clear hb5 hX4 hW4 hB4 hY4
        go_wp2_with fail
        go_roundw
        case rel => exact ⟨k + 1, hk1, by go_num, hB5, hX5, hW5⟩
        case measure => simp [intOf]; omega
    · have hkm : k = m := by omega
      subst hkm
      have hall : ks.take k = ks := List.take_of_length_le (by rw [← HM.out]; exact Nat.le_refl _)
      rw [hall] at hB
      have HB := Lib.hid hB
      have HW := Lib.hid hW
      clear hB hX hW hbr hTr hT
      have hlen := HLEN.out
      simp only [List.length_append] at hlen
      by_cases hz0 : 0 < k
      · have hif : (if ks = [] then [] else [(62 : UInt8)]) = [62] := by
          have : ks ≠ [] := by
            rintro rfl
            have := HM.out
            simp only [List.length_nil] at this
            omega
          simp [this]
        go_wp2_with fail
        refine (writeByte_any b b _ 62 62 _ rfl HB.out (by rw [Lib.byteCells_length]; simp only [List.length_append]; omega) (by have := HW.out.size; omega)).mono ?_
        rintro e w4 ⟨rfl, hB4, hb4⟩
        rw [cells_snoc] at hB4
        go_wp2_with fail
        refine bodyPost_end (results_none rfl _ _ _) rfl ⟨rfl, ?_, HW.out.trans hb4⟩
        rw [prn, hif]
        have hB5 : Bld b (l ++ n ++ prnL ks 60 ++ [62]) w4 := .inr hB4
        simpa [List.append_assoc] using hB5
      · have hif : (if ks = [] then [] else [(62 : UInt8)]) = [] := by
          have : ks = [] := List.length_eq_zero_iff.1 (by rw [← HM.out]; omega)
          simp [this]
        go_wp2_with fail
        refine bodyPost_end (results_none rfl _ _ _) rfl ⟨rfl, ?_, HW.out⟩
        rw [prn, hif]
        simpa [List.append_assoc] using HB.out

set_option maxHeartbeats 8000000 in
set_option maxRecDepth 100000 in
theorem print_any (t : Ty) (u v : Value) (w : World) (ht : TyIs w (Lt w.heap.size) t u v) (hlen : (prn t).length ≤ 4000000) :
    Calls Tryd.prog 30 #[.agg #[u, v]] w fun e w' => e = .returned (.string (bs (prn t))) ∧ Below w.heap.size w w' := by
  obtain ⟨u, v, rfl, rfl⟩ := ht.shape
  go_enter Tryd.func30, Tryd.ntmps30
  go_wp2_with fail
  have hb2 : Below w.heap.size w ((w.alloc (.cells #[sv u, .slice v.1 v.2.1 v.2.2] 31)).alloc (.cells #[.pointer none, .slice none 0 0] 94)) := ((Below.refl _ _).alloc (Nat.le_refl _) _).alloc (by simp) _
  have hf : Bld (w.heap.size + 1) [] ((w.alloc (.cells #[sv u, .slice v.1 v.2.1 v.2.2] 31)).alloc (.cells #[.pointer none, .slice none 0 0] 94)) := by
    have := Lib.fresh_isBuilder 94 5 (w.alloc (.cells #[sv u, .slice v.1 v.2.1 v.2.2] 31))
    rw [show (w.alloc (.cells #[sv u, .slice v.1 v.2.1 v.2.2] 31)).heap.size = w.heap.size + 1 from by simp] at this
    exact this
  refine (write_any t _ _ _ [] _ ((ht.keep (kept_below hb2)).more fun y hy => Nat.lt_succ_of_lt hy) hf (by simpa using hlen)).mono ?_
  rintro e w2 ⟨rfl, hB2, hw2⟩
  have hbl := bld_lt hB2
  go_wp2_with fail
  refine (Tryd.Builder_String_any _ _ _ _ hB2 (by omega)).mono ?_
  rintro e w3 ⟨rfl, hb3⟩
  go_wp2_with fail
  refine bodyPost_ret (by simp [results, go_sem]; rfl) rfl ⟨rfl, ?_⟩
  exact (hb2.trans ((hw2.below (Nat.le_refl _) (by simp)).mono (by omega))).trans (hb3.mono (by omega))
end
end Go.Proofs.YtkggmckfdkpldaaDoor
