/-
  The walks of fact.next and all over ints, done over operations, readOp.
  Conditions: 'Env'; texts of at most 10^9 bytes.
-/
import Derived.Test.YtkggmckfdkpldaaDoorFcF
namespace Go.Proofs.YtkggmckfdkpldaaDoor
open Go.RowKit

theorem kpBelow {w u v : World} {M : Nat → Prop} (h : Below w.heap.size w u) (hk : Kp M u v) (hM : ∀ y, M y → w.heap.size ≤ y) : Below w.heap.size w v :=
  ⟨hk.os.trans h.os, hk.tape.trans h.tape, hk.output.trans h.output, Nat.le_trans h.size hk.size, fun y hy => (hk.block y (Nat.lt_of_lt_of_le hy h.size) (fun e => by have := hM y e; omega)).trans (h.block y hy)⟩
theorem FAt.far {B fb : Nat} {w w' : World} {L : List (List UInt8)} {ok : Bool} (h : FAt B fb w L ok) (hb : Below w.heap.size w w') : FAt B fb w' L ok := h.kp hb
theorem FAt.lt {B fb : Nat} {w : World} {L : List (List UInt8)} {ok : Bool} (h : FAt B fb w L ok) : fb < w.heap.size := by
  obtain ⟨_, A, c, _, _, hh, _⟩ := h
  exact lt_of_heap hh
/-- Blocks that came since w0, but not the fields. -/
abbrev Nw (w0 : World) (fb : Nat) (w : World) (b : Nat) : Prop := w0.heap.size ≤ b ∧ b < w.heap.size ∧ b ≠ fb
theorem IntsV.nw {w0 w w' : World} {fb : Nat} {v : Value} {l : List Int} (h : IntsV w (Nw w0 fb w) v l) (hk : Kp (fun y => y = fb) w w') : IntsV w' (Nw w0 fb w') v l :=
  (h.keep (hk.kept fun b hb => ⟨hb.2.1, hb.2.2⟩)).more fun b hb => ⟨hb.1, Nat.lt_of_lt_of_le hb.2.1 hk.size, hb.2.2⟩
/-- How a field is read and turned. -/
def NextRes (w0 : World) (fb : Nat) (L : List (List UInt8)) (ok : Bool) (R : World → Value → Prop) (w : World) (e : Ending) (w' : World) : Prop :=
  ∃ v, e = .returned v ∧ R w' v ∧ FAt w0.heap.size fb w' L ok ∧ Kp (fun y => y = fb) w w' ∧ Below w0.heap.size w0 w'
set_option maxHeartbeats 1600000 in
set_option maxRecDepth 100000 in
theorem nextInt_any (w0 : World) (fb : Nat) (x : List UInt8) (L : List (List UInt8)) (ok : Bool) (w : World) (he : Env w0) (hb : Below w0.heap.size w0 w) (h : FAt w0.heap.size fb w (x :: L) ok) (hx : x.length ≤ 1000000000) :
    Calls Tryd.prog 40 #[.pointer (some ⟨fb, 0, none⟩), fnV 41] w (NextRes w0 fb L (ok && (numv x).2) (fun _ v => v = iv (numv x).1) w) := by
  have HT := Lib.hid (text_any w0.heap.size fb x L ok w h)
  have HL := Lib.hid h.low
  obtain ⟨g, hg⟩ : ∃ g, g = (numv x).2 := ⟨_, rfl⟩
  obtain ⟨z, hz⟩ : ∃ z, z = (numv x).1 := ⟨_, rfl⟩
  have HC := Lib.hid fun (u : World) (hu : Env u) => num_b x u hx hu
  rw [← hg, ← hz] at HC
  rw [← hg, ← hz]
  clear hg hz hx h
  have HE := Lib.hid he
  have HB := Lib.hid hb
  clear he hb
  go_enter Tryd.func40, Tryd.ntmps40
  go_wp2_with fail
  refine HT.out.mono ?_
  rintro e w1 ⟨rfl, hF1, hk1⟩
  have HB1 := Lib.hid (kpBelow HB.out hk1 fun y e => by rw [e]; exact HL.out)
  have HF1 := Lib.hid hF1
  have HK1 := Lib.hid hk1
  clear hF1 hk1 HT HB
  go_wp2_with fail
  refine (HC.out w1 (HE.out.below HB1.out)).mono ?_
  rintro e w2 ⟨rfl, hb2⟩
  have hF2 := HF1.out.kp hb2
  obtain ⟨c1, f1⟩ := hF2.okCell
  have HB2 := Lib.hid (HB1.out.trans (hb2.mono HB1.out.size))
  have HK2 : Hid (Kp (fun y => y = fb) w w2) := Lib.hid (HK1.out.below hb2)
  have HF2 := Lib.hid hF2
  clear hF2 hb2 HC HF1 HK1
  have HRES : ∀ b, b = (ok && g) → Hid (NextRes w0 fb L (ok && g) (fun _ v => v = iv z) w (.returned (iv z)) (w2.setCell ⟨fb, 1, none⟩ (.bool b))) := fun b hbb => Lib.hid ⟨_, rfl, rfl, by rw [← hbb]; exact fat_ok HF2.out b, HK2.out.setCell (fun _ => rfl) _, HB2.out.setCell (p := ⟨fb, 1, none⟩) HL.out _⟩
  cases ok with
  | false =>
    have HR := HRES false rfl
    clear HRES
    go_wp2
    go_ret
    exact HR.out
  | true =>
    have HR := HRES g (by simp)
    clear HRES
    go_wp2
    go_ret
    exact HR.out
set_option maxHeartbeats 1600000 in
set_option maxRecDepth 100000 in
theorem listIntIn_any (x : List UInt8) (pb : Nat) (w : World) (he : Env w) (hs : x.length ≤ 1000000000) (hp : w.cell? ⟨pb, 0, none⟩ = some (fnV 41)) :
    Calls Tryd.prog 73 #[sv x, .pointer (some ⟨pb, 0, none⟩)] w (ListIntRes x w) := by
  have HU := Lib.hid (listInt_any x w he hs)
  clear he
  go_enter Tryd.func73, Tryd.ntmps73
  go_wp2_with fail
  refine HU.out.mono ?_
  rintro e w1 ⟨lv, rfl, h2, h3⟩
  have HRES : Hid (ListIntRes x w (.returned (.tuple #[lv, .bool (rdList numv x).2])) w1) := Lib.hid ⟨lv, rfl, h2, h3⟩
  clear h2 h3 hp
  go_wp2
  go_ret2
  exact HRES.out
set_option maxHeartbeats 1600000 in
set_option maxRecDepth 100000 in
theorem nextInts_any (w0 : World) (fb pb : Nat) (x : List UInt8) (L : List (List UInt8)) (ok : Bool) (w : World) (he : Env w0) (hb : Below w0.heap.size w0 w) (h : FAt w0.heap.size fb w (x :: L) ok) (hx : x.length ≤ 1000000000) (hp : w.cell? ⟨pb, 0, none⟩ = some (fnV 41)) (hne : pb ≠ fb) :
    Calls Tryd.prog 72 #[.pointer (some ⟨fb, 0, none⟩), .func (.func 73) #[] #[.pointer (some ⟨pb, 0, none⟩)]] w (NextRes w0 fb L (ok && (rdList numv x).2) (fun w' v => IntsV w' (Nw w0 fb w') v (rdList numv x).1) w) := by
  have HT := Lib.hid (text_any w0.heap.size fb x L ok w h)
  have HL := Lib.hid h.low
  have HLT := Lib.hid h.lt
  have HC := Lib.hid fun (u : World) (hu : Env u) (hp : u.cell? ⟨pb, 0, none⟩ = some (fnV 41)) => listIntIn_any x pb u hu hx hp
  obtain ⟨g, hg⟩ : ∃ g, g = (rdList numv x).2 := ⟨_, rfl⟩
  have HP := Lib.hid hp
  unfold ListIntRes at HC
  rw [← hg] at HC
  rw [← hg]
  clear hg hx h hp
  have HE := Lib.hid he
  have HB := Lib.hid hb
  clear he hb
  go_enter Tryd.func72, Tryd.ntmps72
  go_wp2_with fail
  refine HT.out.mono ?_
  rintro e w1 ⟨rfl, hF1, hk1⟩
  have HB1 := Lib.hid (kpBelow HB.out hk1 fun y e => by rw [e]; exact HL.out)
  have HF1 := Lib.hid hF1
  have HK1 := Lib.hid hk1
  have HP1 : Hid (w1.cell? ⟨pb, 0, none⟩ = some (fnV 41)) := Lib.hid ((hk1.kept (S := fun y => y = pb) (fun b hb => by subst hb; exact ⟨block_lt_of_cell HP.out, hne⟩) ⟨pb, 0, none⟩ rfl).trans HP.out)
  clear hF1 hk1 HT HB
  go_wp2_with fail
  refine (HC.out w1 (HE.out.below HB1.out) HP1.out).mono ?_
  rintro e w2 ⟨lv, rfl, hints, hb2⟩
  have hF2 := HF1.out.kp hb2
  obtain ⟨c1, f1⟩ := hF2.okCell
  have HB2 := Lib.hid (HB1.out.trans (hb2.mono HB1.out.size))
  have HK2 : Hid (Kp (fun y => y = fb) w w2) := Lib.hid (HK1.out.below hb2)
  have HF2 := Lib.hid hF2
  have HI : Hid (IntsV w2 (Nw w0 fb w2) lv (rdList numv x).1) := Lib.hid (hints.more fun b hb => ⟨Nat.le_trans HB1.out.size hb.1, hb.2, by have := HF1.out.lt; have := hb.1; omega⟩)
  clear hF2 hb2 HC HF1 HK1 hints
  have HRES : ∀ b, b = (ok && g) → Hid (NextRes w0 fb L (ok && g) (fun w' v => IntsV w' (Nw w0 fb w') v (rdList numv x).1) w (.returned lv) (w2.setCell ⟨fb, 1, none⟩ (.bool b))) := fun b hbb => Lib.hid ⟨_, rfl, HI.out.nw (setKp _ _ _ _), by rw [← hbb]; exact fat_ok HF2.out b, HK2.out.setCell (fun _ => rfl) _, HB2.out.setCell (p := ⟨fb, 1, none⟩) HL.out _⟩
  cases ok with
  | false =>
    have HR := HRES false rfl
    clear HRES
    go_wp2
    go_ret
    exact HR.out
  | true =>
    have HR := HRES g (by simp)
    clear HRES
    go_wp2
    go_ret
    exact HR.out
set_option maxHeartbeats 1600000 in
set_option maxRecDepth 100000 in
theorem allInt_any (w0 : World) (fb : Nat) (x : List UInt8) (L : List (List UInt8)) (ok : Bool) (w : World) (he : Env w0) (hb : Below w0.heap.size w0 w) (h : FAt w0.heap.size fb w (x :: L) ok) (hx : x.length ≤ 1000000000) :
    Calls Tryd.prog 64 #[.pointer (some ⟨fb, 0, none⟩), fnV 41] w (NextRes w0 fb L (ok && (rdList numv x).2) (fun w' v => IntsV w' (Nw w0 fb w') v (rdList numv x).1) w) := by
  have hb1 : Below w.heap.size w (w.alloc (.cells #[fnV 41] 80)) := (Below.refl _ _).alloc (Nat.le_refl _) _
  have hlt := h.lt
  have HC := Lib.hid (nextInts_any w0 fb w.heap.size x L ok (w.alloc (.cells #[fnV 41] 80)) he (hb.trans (hb1.mono hb.size)) (h.kp hb1) hx ((Lib.cell_of_heap (alloc1 w _) _).trans rfl) (by omega))
  have HB1 := Lib.hid hb1
  clear he hb h hb1
  go_enter Tryd.func64, Tryd.ntmps64
  go_wp2_with fail
  refine HC.out.mono ?_
  rintro e w1 ⟨v, rfl, h1, h2, h3, h4⟩
  have HRES : Hid (NextRes w0 fb L (ok && (rdList numv x).2) (fun w' v => IntsV w' (Nw w0 fb w') v (rdList numv x).1) w (.returned v) w1) := Lib.hid ⟨v, rfl, h1, h2, (Kp.ofBelow HB1.out).trans h3 (fun _ _ e => e), h4⟩
  clear h1 h2 h3 h4
  go_wp2
  go_ret
  exact HRES.out
end Go.Proofs.YtkggmckfdkpldaaDoor
