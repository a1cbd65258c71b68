/-
  The walk of law06's faces.
  Conditions: dice lie in memory.
-/
import Derived.Test.YtcliegpofhjpcaaMdZ
import Derived.Test.YtcliegpofhjpcaaBd
import Derived.Test.YtcliegpofhjpcaaMdR
namespace Go.Proofs.Ytcliegpofhjpcaa
open Go.RowKit

theorem infoF : (Try.prog.info? 37).map (fun i => (i.zero, i.size, i.bytes)) = some (some (.agg #[.string ⟨#[]⟩, .slice none 0 0, .slice none 0 0]), 3, 64) := by kernel_rfl
/-- Faces as they are made: few and small. -/
structure Small (l : List Face) : Prop where
  few : l.length ≤ 4
  md : ∀ f ∈ l, f.md.length ≤ 1
  own : ∀ f ∈ l, f.own.length ≤ 3 ∧ ∀ n ∈ f.own, n.length ≤ 12
  pub : ∀ f ∈ l, f.pub.length ≤ 3
theorem univ_len (n : Nat) : ∀ (l : List Face), (∀ f ∈ l, f.own.length ≤ n) → (univ l).length ≤ l.length * n
  | [], _ => by simp [univ]
  | f :: l, h => by
    have h1 := univ_len n l fun g hg => h g (by simp [hg])
    have h2 := h f (by simp)
    have h3 : (ownS f.own).length ≤ f.own.length := List.length_filter_le _ _
    simp only [univ, List.flatMap_cons, List.length_append, List.length_map, List.length_cons, Nat.add_mul, Nat.one_mul] at h1 ⊢
    omega
theorem Small.fit {l : List Face} (h : Small l) : Fit l := ⟨by have := h.few; omega, fun f hf => by have := h.md f hf; omega, fun f hf => ⟨by have := (h.own f hf).1; omega, fun n hn => by have := (h.own f hf).2 n hn; omega⟩, fun f hf => by have := h.pub f hf; omega, by
  have := univ_len 3 l fun f hf => (h.own f hf).1
  have := h.few
  have : l.length * 3 ≤ 4 * 3 := Nat.mul_le_mul_right _ this
  omega⟩

/-- A face that is being made, in the block that came first after w1. -/
structure FaceAt (w1 : World) (dd : Nat) (xs : List Int) (md : List UInt8) (u : World) (ov : Value) (own : List (List UInt8)) (pv : Value) (pub : List (List UInt8)) : Prop where
  dice : DiceAt u dd xs
  low : dd < w1.heap.size
  kp : Kp (fun y => y = dd) w1 u
  blk : u.heap[w1.heap.size]? = some (.cells #[sv md, ov, pv] 37 (0, 0))
  ro : u.ownsRow w1.heap.size 9 1 ov own.length (own.map sv)
  rp : u.ownsRow w1.heap.size 9 1 pv pub.length (pub.map sv)
  ne : ∀ g, ov.ownBlock = some g → pv.ownBlock ≠ some g

theorem FaceAt.thrown {w1 : World} {dd : Nat} {xs : List Int} {md : List UInt8} {u u' : World} {ov pv : Value} {own pub : List (List UInt8)} (h : FaceAt w1 dd xs md u ov own pv pub) (hD : DiceAt u' dd xs) (hk : Kp (fun y => y = dd) u u') : FaceAt w1 dd xs md u' ov own pv pub :=
  ⟨hD, h.low, h.kp.one hk, hk.heap h.blk (fun e => by have := h.low; omega), hk.own h.ro fun g hg e => by have := (h.ro.lt g hg).1; have := h.low; omega, hk.own h.rp fun g hg e => by have := (h.rp.lt g hg).1; have := h.low; omega, h.ne⟩
theorem FaceAt.below {w1 : World} {dd : Nat} {xs : List Int} {md : List UInt8} {u u' : World} {ov pv : Value} {own pub : List (List UInt8)} (h : FaceAt w1 dd xs md u ov own pv pub) (hb : Below u.heap.size u u') : FaceAt w1 dd xs md u' ov own pv pub :=
  h.thrown (h.dice.below hb) (Kp.ofBelow hb)
theorem FaceAt.cells {w1 : World} {dd : Nat} {xs : List Int} {md : List UInt8} {u : World} {ov pv : Value} {own pub : List (List UInt8)} (h : FaceAt w1 dd xs md u ov own pv pub) : AtCells [(⟨w1.heap.size, 0, none⟩, sv md), (⟨w1.heap.size, 1, none⟩, ov), (⟨w1.heap.size, 2, none⟩, pv)] u :=
  ⟨(Lib.cell_of_heap h.blk _).trans rfl, (Lib.cell_of_heap h.blk _).trans rfl, (Lib.cell_of_heap h.blk _).trans rfl, trivial⟩
theorem FaceAt.c1 {w1 : World} {dd : Nat} {xs : List Int} {md : List UInt8} {u : World} {ov pv : Value} {own pub : List (List UInt8)} (h : FaceAt w1 dd xs md u ov own pv pub) : AtCells [(⟨w1.heap.size, 1, none⟩, ov)] u := ⟨h.cells.2.1, trivial⟩
theorem FaceAt.c2 {w1 : World} {dd : Nat} {xs : List Int} {md : List UInt8} {u : World} {ov pv : Value} {own pub : List (List UInt8)} (h : FaceAt w1 dd xs md u ov own pv pub) : AtCells [(⟨w1.heap.size, 2, none⟩, pv)] u := ⟨h.cells.2.2.1, trivial⟩
theorem FaceAt.still {w1 : World} {dd : Nat} {xs : List Int} {md : List UInt8} {u u' : World} {ov pv v : Value} {own pub : List (List UInt8)} (h : FaceAt w1 dd xs md u ov own pv pub) (hv : v = ov ∨ v = pv) (hg : u.grownBy u' v.ownBlock) : u'.heap[w1.heap.size]? = some (.cells #[sv md, ov, pv] 37 (0, 0)) := by
  have hk1 : Kp (fun y => v.ownBlock = some y) u u' := (Kp.refl _ _).grown hg fun r hr _ => hr
  refine hk1.heap h.blk fun e => ?_
  rcases hv with rfl | rfl
  · exact own_ne h.ro h.blk (by decide) _ e rfl
  · exact own_ne h.rp h.blk (by decide) _ e rfl
/-- A name more in the first list. -/
theorem FaceAt.own_step {w1 : World} {dd : Nat} {xs : List Int} {md s : List UInt8} {u u' : World} {ov pv : Value} {own pub : List (List UInt8)} (h : FaceAt w1 dd xs md u ov own pv pub) {vg vcap : Nat}
    (hown : u'.ownsRow w1.heap.size 9 1 (.slice (some ⟨vg, 0, none⟩) (own.length + 1) vcap) (own.length + 1) (own.map sv ++ [sv s])) (hg : u.grownBy u' ov.ownBlock) (hat : ov.ownBlock = some vg ∨ vg = u.heap.size) :
    FaceAt w1 dd xs md (u'.setCell ⟨w1.heap.size, 1, none⟩ (.slice (some ⟨vg, 0, none⟩) (own.length + 1) vcap)) (.slice (some ⟨vg, 0, none⟩) (own.length + 1) vcap) (own ++ [s]) pv pub := by
  have hlow := h.low
  have hs0 := h.kp.size
  have hfb := lt_of_heap h.blk
  have hov := own_ne h.ro h.blk (by decide)
  have hpv := own_ne h.rp h.blk (by decide)
  have hk1 : Kp (fun y => ov.ownBlock = some y) u u' := (Kp.refl _ _).grown hg fun r hr _ => hr
  have hblk1 := hk1.heap h.blk fun e => hov _ e rfl
  have hk2 : Kp (fun y => y = w1.heap.size) u' (u'.setCell ⟨w1.heap.size, 1, none⟩ (.slice (some ⟨vg, 0, none⟩) (own.length + 1) vcap)) := Kp.setCell (M := fun y => y = w1.heap.size) (Kp.refl _ _) (fun _ => rfl) _
  have hvg := own_ne hown hblk1 (by decide)
  have hdice := (h.dice.keep hk1 fun y e => by have := (h.ro.lt y e).1; omega).keep hk2 fun y e => by omega
  refine ⟨hdice, hlow, ?_, setCell_heap (w := u') hblk1, ?_, ?_, ?_⟩
  · refine (h.kp.trans (M1 := fun y => ov.ownBlock = some y) hk1 fun y hy e => ?_).trans (M1 := fun y => y = w1.heap.size) hk2 fun y hy e => ?_
    · have := (h.ro.lt y e).1
      omega
    · omega
  · rw [List.length_append, List.map_append]
    exact hk2.own hown hvg
  · refine hk2.own (hk1.own h.rp fun g hg e => h.ne g e hg) hpv
  · intro g e1 e2
    have e1 : some vg = some g := e1
    rcases hat with h1 | h1
    · exact h.ne g (h1.trans e1) e2
    · have := (h.rp.lt g e2).2
      have := Option.some.inj e1
      omega
/-- A name more in the second list. -/
theorem FaceAt.pub_step {w1 : World} {dd : Nat} {xs : List Int} {md s : List UInt8} {u u' : World} {ov pv : Value} {own pub : List (List UInt8)} (h : FaceAt w1 dd xs md u ov own pv pub) {vg vcap : Nat}
    (hown : u'.ownsRow w1.heap.size 9 1 (.slice (some ⟨vg, 0, none⟩) (pub.length + 1) vcap) (pub.length + 1) (pub.map sv ++ [sv s])) (hg : u.grownBy u' pv.ownBlock) (hat : pv.ownBlock = some vg ∨ vg = u.heap.size) :
    FaceAt w1 dd xs md (u'.setCell ⟨w1.heap.size, 2, none⟩ (.slice (some ⟨vg, 0, none⟩) (pub.length + 1) vcap)) ov own (.slice (some ⟨vg, 0, none⟩) (pub.length + 1) vcap) (pub ++ [s]) := by
  have hlow := h.low
  have hs0 := h.kp.size
  have hfb := lt_of_heap h.blk
  have hov := own_ne h.ro h.blk (by decide)
  have hpv := own_ne h.rp h.blk (by decide)
  have hk1 : Kp (fun y => pv.ownBlock = some y) u u' := (Kp.refl _ _).grown hg fun r hr _ => hr
  have hblk1 := hk1.heap h.blk fun e => hpv _ e rfl
  have hk2 : Kp (fun y => y = w1.heap.size) u' (u'.setCell ⟨w1.heap.size, 2, none⟩ (.slice (some ⟨vg, 0, none⟩) (pub.length + 1) vcap)) := Kp.setCell (M := fun y => y = w1.heap.size) (Kp.refl _ _) (fun _ => rfl) _
  have hvg := own_ne hown hblk1 (by decide)
  have hdice := (h.dice.keep hk1 fun y e => by have := (h.rp.lt y e).1; omega).keep hk2 fun y e => by omega
  refine ⟨hdice, hlow, ?_, setCell_heap (w := u') hblk1, ?_, ?_, ?_⟩
  · refine (h.kp.trans (M1 := fun y => pv.ownBlock = some y) hk1 fun y hy e => ?_).trans (M1 := fun y => y = w1.heap.size) hk2 fun y hy e => ?_
    · have := (h.rp.lt y e).1
      omega
    · omega
  · refine hk2.own (hk1.own h.ro fun g hg e => h.ne g hg e) hov
  · rw [List.length_append, List.map_append]
    exact hk2.own hown hvg
  · intro g e1 e2
    have e2 : some vg = some g := e2
    rcases hat with h1 | h1
    · exact h.ne g e1 (h1.trans e2)
    · have := (h.ro.lt g e1).2
      have := Option.some.inj e2
      omega

/-- The list of faces so far. -/
def LsAt (B : Nat) (u : World) (lv : Value) (l : List Face) : Prop :=
  ∃ vs : List FV, u.ownsRow B 37 3 lv l.length (flt fvC vs) ∧ vs.length = l.length ∧ ∀ (i : Nat) (x : FV) (f : Face), vs[i]? = some x → l[i]? = some f → x.md = f.md ∧ StrsV u (fun b => Fr B u.heap.size b ∧ lv.ownBlock ≠ some b) x.ov f.own ∧ StrsV u (fun b => Fr B u.heap.size b ∧ lv.ownBlock ≠ some b) x.pv f.pub
theorem LsAt.kp {B dd : Nat} {u u' : World} {lv : Value} {l : List Face} (h : LsAt B u lv l) (hd : dd < B) (hk : Kp (fun y => y = dd) u u') : LsAt B u' lv l := by
  obtain ⟨vs, h1, h2, h3⟩ := h
  have hs := hk.size
  have hkp : Kept (fun b => Fr B u.heap.size b ∧ lv.ownBlock ≠ some b) u u' := hk.kept fun b hb => ⟨hb.1.2, fun e => by have := hb.1.1; omega⟩
  have hmo : ∀ b, (Fr B u.heap.size b ∧ lv.ownBlock ≠ some b) → (Fr B u'.heap.size b ∧ lv.ownBlock ≠ some b) := fun b hb => ⟨⟨hb.1.1, Nat.lt_of_lt_of_le hb.1.2 hs⟩, hb.2⟩
  exact ⟨vs, hk.own h1 fun g hg e => by have := (h1.lt g hg).1; omega, h2, fun i x f e1 e2 => ⟨(h3 i x f e1 e2).1, ((h3 i x f e1 e2).2.1.keep hkp).more hmo, ((h3 i x f e1 e2).2.2.keep hkp).more hmo⟩⟩
theorem own_strs {u : World} {B : Nat} {v : Value} {l : List (List UInt8)} {S : Nat → Prop} (h : u.ownsRow B 9 1 v l.length (l.map sv)) (hS : ∀ g, v.ownBlock = some g → B ≤ g → g < u.heap.size → S g) : StrsV u S v l := by
  obtain ⟨A, c, rfl, _⟩ := own_slice h
  exact ⟨A, c, rfl, Row.ofOwn h fun g e => hS g (by rw [e]; rfl)⟩
/-- A face more. -/
theorem LsAt.step {B dd : Nat} {xs : List Int} {w1 u u' : World} {lv ov pv : Value} {l : List Face} {f : Face} (hd : dd < B) (hB : B ≤ w1.heap.size) (hf : FaceAt w1 dd xs f.md u ov f.own pv f.pub) {vg vcap : Nat} {vs : List FV} (hvs : vs.length = l.length)
    (hl : ∀ (i : Nat) (x : FV) (f : Face), vs[i]? = some x → l[i]? = some f → x.md = f.md ∧ StrsV w1 (fun b => Fr B w1.heap.size b ∧ lv.ownBlock ≠ some b) x.ov f.own ∧ StrsV w1 (fun b => Fr B w1.heap.size b ∧ lv.ownBlock ≠ some b) x.pv f.pub)
    (hlv : ∀ g, lv.ownBlock = some g → g < w1.heap.size)
    (hown : u'.ownsRow B 37 3 (.slice (some ⟨vg, 0, none⟩) (l.length + 1) vcap) (l.length + 1) (flt fvC vs ++ [sv f.md, ov, pv])) (hk : Kp (fun y => lv.ownBlock = some y) u u') (hat : lv.ownBlock = some vg ∨ u.heap.size ≤ vg) :
    LsAt B u' (.slice (some ⟨vg, 0, none⟩) (l.length + 1) vcap) (l ++ [f]) := by
  have hs := hf.kp.size
  have hs' := hk.size
  have hkp : Kept (fun b => Fr B w1.heap.size b ∧ lv.ownBlock ≠ some b) w1 u' := (hf.kp.kept fun b hb => ⟨hb.1.2, fun e => by have := hb.1.1; omega⟩).trans (hk.kept fun b hb => ⟨Nat.lt_of_lt_of_le hb.1.2 hs, hb.2⟩)
  have hmo : ∀ b, (Fr B w1.heap.size b ∧ lv.ownBlock ≠ some b) → (Fr B u'.heap.size b ∧ (Value.slice (some ⟨vg, 0, none⟩) (l.length + 1) vcap).ownBlock ≠ some b) := fun b hb => ⟨⟨hb.1.1, by have := hb.1.2; omega⟩, fun e => by
    have e : some vg = some b := e
    rcases hat with h1 | h1
    · exact hb.2 (h1.trans e)
    · have := hb.1.2
      have := Option.some.inj e
      omega⟩
  have hnew : ∀ (v : Value) (x : List (List UInt8)), u.ownsRow w1.heap.size 9 1 v x.length (x.map sv) → StrsV u' (fun b => Fr B u'.heap.size b ∧ (Value.slice (some ⟨vg, 0, none⟩) (l.length + 1) vcap).ownBlock ≠ some b) v x := fun v x hv => by
    have hv' := hk.own hv fun g hg e => by have := hlv g e; have := (hv.lt g hg).1; omega
    refine own_strs hv' fun g hg h1 h2 => ⟨⟨by omega, h2⟩, fun e => ?_⟩
    have e : some vg = some g := e
    have hl1 := hv.lt g hg
    rcases hat with h3 | h3
    · have := hlv vg h3
      have := Option.some.inj e
      omega
    · have := Option.some.inj e
      omega
  refine ⟨vs ++ [⟨f.md, ov, pv⟩], ?_, by simp [hvs], fun i x g e1 e2 => ?_⟩
  · rw [List.length_append]
    simpa [flt, fvC] using hown
  · by_cases hi : i < l.length
    · rw [List.getElem?_append_left (by omega)] at e1
      rw [List.getElem?_append_left hi] at e2
      obtain ⟨g1, g2, g3⟩ := hl i x g e1 e2
      exact ⟨g1, (g2.keep hkp).more hmo, (g3.keep hkp).more hmo⟩
    · rw [List.getElem?_append_right (by omega), hvs] at e1
      rw [List.getElem?_append_right (by omega)] at e2
      obtain ⟨p1, e1⟩ := List.getElem?_eq_some_iff.1 e1
      obtain ⟨p2, e2⟩ := List.getElem?_eq_some_iff.1 e2
      simp at p1 p2
      simp [p1] at e1 e2
      subst e1
      subst e2
      exact ⟨rfl, hnew _ _ hf.ro, hnew _ _ hf.rp⟩
def FacesRes (dd : Nat) (xs : List Int) (w : World) (e : Ending) (w' : World) : Prop := ∃ (v : Value) (l : List Face), e = .returned v ∧ FcsV w' (Fr w.heap.size w'.heap.size) v l ∧ Small l ∧ Thrown dd xs w w'

set_option maxHeartbeats 1600000 in
set_option maxRecDepth 100000 in
theorem faces_any (dd : Nat) (xs : List Int) (w : World) (hd : DiceAt w dd xs) : Calls Try.prog 9 #[.pointer (some ⟨dd, 0, none⟩)] w (FacesRes dd xs w) := by
  have hdl := hd.lt
  have HD := Lib.hid hd
  have HDL := Lib.hid hdl
  clear hd hdl
  obtain ⟨i0, hi, hz0, hz1, hz2⟩ := info_parts infoS
  obtain ⟨i3, fi, fz0, fz1, fz2⟩ := info_parts infoF
  go_enter Try.func9, Try.ntmps9
  go_wp2_with fail
  refine (next_any 5 dd xs w (by decide) (by decide) HD.out).mono ?_
  rintro e w0 ⟨n0, hn0, rfl, hD0, hK0⟩
  have HD0 := Lib.hid hD0
  have HK0 := Lib.hid hK0
  clear hD0 hK0 HD
  go_wp2_with fail
  go_loopw [3, 4] (fun lv i wr => ∃ (n : Nat) (l : List Face), i = .int .i64 n ∧ n + l.length ≤ 4 ∧ LsAt w.heap.size wr lv l ∧ Small l ∧ DiceAt wr dd xs ∧ Kp (fun y => y = dd) w wr) (fun _ i _ => (intOf i).toNat)
  case atStart =>
    exact ⟨n0, [], rfl, by simp; omega, ⟨[], World.ownsRow_nil _ _ _ _, rfl, fun i x f h => by cases h⟩, ⟨by simp, by simp, by simp, by simp⟩, HD0.out, HK0.out⟩
  case round =>
    obtain ⟨n, l, rfl, hnl, hLs, hSm, hDr, hKr⟩ := hrel
    have HLS := Lib.hid hLs
    have HSM := Lib.hid hSm
    have HDR := Lib.hid hDr
    have HKR := Lib.hid hKr
    clear hLs hSm hDr hKr HD0 HK0
    by_cases hn : 0 < n
    · have hb4 : Below wr.heap.size wr (wr.alloc (.cells #[.string ⟨#[97]⟩, .string ⟨#[98]⟩, .string ⟨#[99]⟩, .string ⟨#[100]⟩] 9)) := (Below.refl _ _).alloc (Nat.le_refl _) _
      have hof := of_any [[97], [98], [99], [100]] (some ⟨wr.heap.size, 0, none⟩) 4 dd xs (wr.alloc (.cells #[.string ⟨#[97]⟩, .string ⟨#[98]⟩, .string ⟨#[99]⟩, .string ⟨#[100]⟩] 9)) (by decide) (by decide) (HDR.out.below hb4) (row_lit wr _ _ _ rfl dd HDR.out.lt)
      have HOF := Lib.hid hof
      have HB4 := Lib.hid hb4
      clear hof hb4
      go_wp2_with fail
      refine HOF.out.mono ?_
      rintro e w1 ⟨md, hmd, rfl, hD1, hK1⟩
      have hmd1 : md.length ≤ 1 := by
        simp only [List.mem_cons, List.not_mem_nil, or_false] at hmd
        rcases hmd with rfl | rfl | rfl | rfl <;> decide
      have hk01 : Kp (fun y => y = dd) wr w1 := (Kp.ofBelow HB4.out).one hK1
      have HLS1 := Lib.hid (HLS.out.kp HDL.out hk01)
      have HK1 := Lib.hid (HKR.out.one hk01)
      have HD1 := Lib.hid hD1
      have hsz1 := HK1.out.size
      clear hmd hD1 hK1 hk01 HOF HB4 HLS HDR HKR
      go_wp2_with fail
      have hf2 : FaceAt w1 dd xs md (w1.alloc (.cells #[sv md, .slice none 0 0, .slice none 0 0] 37)) (.slice none 0 0) [] (.slice none 0 0) [] :=
        ⟨HD1.out.below ((Below.refl _ _).alloc (Nat.le_refl _) _), by have := HDL.out; omega, (Kp.refl _ _).alloc _, alloc1 _ _, World.ownsRow_nil _ _ _ _, World.ownsRow_nil _ _ _ _, fun g h => by cases h⟩
      refine (next_any 4 dd xs _ (by decide) (by decide) hf2.dice).mono ?_
      rintro e w3 ⟨k3, hk3, rfl, hD3, hK3⟩
      have HF3 := Lib.hid (hf2.thrown hD3 hK3)
      clear hf2 hD3 hK3
      go_wp2_with fail
      go_loopw [6] (fun i wr => ∃ (k : Nat) (own : List (List UInt8)) (ov : Value), i = .int .i64 k ∧ k + own.length ≤ 3 ∧ (∀ s ∈ own, s.length ≤ 12) ∧ FaceAt w1 dd xs md wr ov own (.slice none 0 0) []) (fun i _ => (intOf i).toNat)
      case atStart => exact ⟨k3, [], _, rfl, by simp; omega, by simp, HF3.out⟩
      case round =>
        obtain ⟨k, own, ov, rfl, hko, hso, hfa⟩ := hrel
        have HSO := Lib.hid hso
        have HFA := Lib.hid hfa
        have HOL : Hid (own.length ≤ 3) := Lib.hid (by omega)
        clear hso hfa HF3
        by_cases hk : 0 < k
        · go_wp2_with fail
          have hfb := lt_of_heap HFA.out.blk
          refine wp_region_mix (AtCells [(⟨w1.heap.size, 1, none⟩, ov)]) [(true, 0), (true, 1), (true, 2), (false, 3), (false, 4), (false, 5), (false, 6)] [7, 8] (by kernel_rfl) (by kernel_rfl) ?sa ?ha
          case sa => exact FaceAt.c1 (HFA.out.below (Below.refl _ wr).drew)
          case ha =>
          simp only [mixAt, List.filterMap_cons, List.filterMap_nil, List.getElem?_toArray, List.getElem?_cons_succ, List.getElem?_cons_zero, Option.map_some]
          refine wpMix_load ?vaa0 rfl (fun w' hS => ?yaa0) ?kaa0
          case yaa0 =>
            obtain ⟨g0, _⟩ := hS
            go_simp
            try rfl
          case kaa0 =>
          go_simp
          refine wpMix_load ?vaa1 rfl (fun w' hS => ?yaa1) ?kaa1
          case yaa1 =>
            obtain ⟨g0, _⟩ := hS
            go_simp
            try rfl
          case kaa1 =>
          go_simp
          refine wpMix_load ?vaa2 rfl (fun w' hS => ?yaa2) ?kaa2
          case yaa2 =>
            obtain ⟨g0, _⟩ := hS
            go_simp
            try rfl
          case kaa2 =>
          go_simp
          refine wpMix_keep rfl ?_
          go_wp2_with fail
          have hb7 : Below wr.heap.size wr (wr.alloc (.cells #[.string ⟨#[120]⟩, .string ⟨#[121]⟩, .string ⟨#[122]⟩, .string ⟨#[105, 109, 112, 108, 32, 120, 32, 102, 111, 114, 32, 121]⟩, .string ⟨#[119]⟩] 9)).drew := ((Below.refl _ _).alloc (Nat.le_refl _) _).drew
          have hf7 := HFA.out.below hb7
          refine ⟨FaceAt.c1 hf7, ?_⟩
          have HF7 := Lib.hid hf7
          clear hb7 hf7
          refine wpMix_keep rfl ?_
          go_wp2_with fail
          refine (of_any [[120], [121], [122], [105, 109, 112, 108, 32, 120, 32, 102, 111, 114, 32, 121], [119]] (some ⟨wr.heap.size, 0, none⟩) 5 dd xs (wr.alloc (.cells #[.string ⟨#[120]⟩, .string ⟨#[121]⟩, .string ⟨#[122]⟩, .string ⟨#[105, 109, 112, 108, 32, 120, 32, 102, 111, 114, 32, 121]⟩, .string ⟨#[119]⟩] 9)).drew (by decide) (by decide) HF7.out.dice (row_lit wr _ _ [[120], [121], [122], [105, 109, 112, 108, 32, 120, 32, 102, 111, 114, 32, 121], [119]] rfl dd (by have := HFA.out.low; omega))).mono ?_
          rintro e w8 ⟨s, hs, rfl, hD8, hK8⟩
          have HSL : Hid (s.length ≤ 12) := Lib.hid (by
            simp only [List.mem_cons, List.not_mem_nil, or_false] at hs
            rcases hs with rfl | rfl | rfl | rfl | rfl <;> decide)
          have hf8 := HF7.out.thrown hD8 hK8
          refine ⟨FaceAt.c1 hf8, ?_⟩
          have HF8 := Lib.hid hf8
          clear hs hD8 hK8 hf8 HF7
          refine wpMix_keep rfl ?_
          go_wp2_with fail
          have hf9 := HF8.out.below ((Below.refl _ w8).alloc (Nat.le_refl _) (.cells #[sv s] 9))
          refine ⟨FaceAt.c1 hf9, ?_⟩
          have hnew : ∀ j u, [sv s][j]? = some u → (w8.alloc (.cells #[sv s] 9)).cell? ((⟨w8.heap.size, 0, none⟩ : Addr).add j) = some u := World.news_of_block (cs := #[sv s]) (alloc1 w8 _)
          have hz9 : (w8.alloc (.cells #[sv s] 9)).heap.size = w8.heap.size + 1 := by simp
          have HF9 := Lib.hid hf9
          clear hf9
          refine wpMix_keep rfl ?_
          have hs9 := HF9.out.kp.size
          refine wp_append_lies _ _ _ 35 rfl w1.heap.size 9 i0 _ 1 16 Try.underlying35 hi hz0 hz1 hz2 rfl (by omega) ov own.length (own.map sv) rfl (FaceAt.ro HF9.out) ⟨w8.heap.size, 0, none⟩ 1 1 [sv s] rfl rfl hnew ?d2a (by omega) ?d3a ?d4a ?d5a _ rfl ?_
          case d2a =>
            intro u hu
            rw [List.mem_singleton.1 hu]
            rfl
          case d3a => unfold maxLen; omega
          case d4a => omega
          case d5a => exact hs9
          intro vg vcap w9 hown9 hgr hat _
          have hfx := FaceAt.own_step HF9.out hown9 hgr hat
          have hblk9 := HF9.out.still (.inl rfl) hgr
          have c9 : w9.cell? ⟨w1.heap.size, 1, none⟩ = some ov := (Lib.cell_of_heap hblk9 _).trans rfl
          have f9 : w9.frozen? ⟨w1.heap.size, 1, none⟩ = false := Lib.frozen_of_heap hblk9 1
          refine ⟨⟨c9, trivial⟩, ?_⟩
          have HFX := Lib.hid hfx
          clear hfx hown9 hgr hat hblk9 hnew hz9 hs9 hfb
          refine wpMix_nil ?_
          simp only [opsAt, List.filterMap_cons, List.filterMap_nil, List.getElem?_toArray, List.getElem?_cons_succ, List.getElem?_cons_zero]
          go_wp2
          refine NoPanic.normal ?_
          go_wp2_with fail
          go_roundw
          case rel =>
            refine ⟨k - 1, own ++ [s], _, by go_num, by simp; omega, ?_, HFX.out⟩
            intro s' hs'
            rcases List.mem_append.1 hs' with h | h
            · exact HSO.out s' h
            · rw [List.mem_singleton.1 h]
              exact HSL.out
          case measure => simp [intOf]; omega
        · go_wp2_with fail
          clear hk
          refine (next_any 4 dd xs wr (by decide) (by decide) HFA.out.dice).mono ?_
          rintro e w4 ⟨k4, hk4, rfl, hD4, hK4⟩
          have HF4 := Lib.hid (HFA.out.thrown hD4 hK4)
          clear hD4 hK4 HFA
          go_wp2_with fail
          go_loopw [7] (fun i wr => ∃ (k : Nat) (pub : List (List UInt8)) (pv : Value), i = .int .i64 k ∧ k + pub.length ≤ 3 ∧ FaceAt w1 dd xs md wr ov own pv pub) (fun i _ => (intOf i).toNat)
          case atStart => exact ⟨k4, [], _, rfl, by simp; omega, HF4.out⟩
          case round =>
            obtain ⟨k, pub, pv, rfl, hkp, hfa⟩ := hrel
            have HFA := Lib.hid hfa
            clear hfa HF4
            by_cases hk : 0 < k
            · go_wp2_with fail
              have hfb := lt_of_heap HFA.out.blk
              refine wp_region_mix (AtCells [(⟨w1.heap.size, 2, none⟩, pv)]) [(true, 0), (true, 1), (true, 2), (false, 3), (false, 4), (false, 5), (false, 6)] [7, 8] (by kernel_rfl) (by kernel_rfl) ?sb ?hb
              case sb => exact FaceAt.c2 (HFA.out.below (Below.refl _ wr).drew)
              case hb =>
              simp only [mixAt, List.filterMap_cons, List.filterMap_nil, List.getElem?_toArray, List.getElem?_cons_succ, List.getElem?_cons_zero, Option.map_some]
              refine wpMix_load ?vba0 rfl (fun w' hS => ?yba0) ?kba0
              case yba0 =>
                obtain ⟨g0, _⟩ := hS
                go_simp
                try rfl
              case kba0 =>
              go_simp
              refine wpMix_load ?vba1 rfl (fun w' hS => ?yba1) ?kba1
              case yba1 =>
                obtain ⟨g0, _⟩ := hS
                go_simp
                try rfl
              case kba1 =>
              go_simp
              refine wpMix_load ?vba2 rfl (fun w' hS => ?yba2) ?kba2
              case yba2 =>
                obtain ⟨g0, _⟩ := hS
                go_simp
                try rfl
              case kba2 =>
              go_simp
              refine wpMix_keep rfl ?_
              go_wp2_with fail
              have hb7 : Below wr.heap.size wr (wr.alloc (.cells #[.string ⟨#[97]⟩, .string ⟨#[98]⟩, .string ⟨#[99]⟩, .string ⟨#[100]⟩, .string ⟨#[101]⟩] 9)).drew := ((Below.refl _ _).alloc (Nat.le_refl _) _).drew
              have hf7 := HFA.out.below hb7
              refine ⟨FaceAt.c2 hf7, ?_⟩
              have HF7 := Lib.hid hf7
              clear hb7 hf7
              refine wpMix_keep rfl ?_
              go_wp2_with fail
              refine (of_any [[97], [98], [99], [100], [101]] (some ⟨wr.heap.size, 0, none⟩) 5 dd xs (wr.alloc (.cells #[.string ⟨#[97]⟩, .string ⟨#[98]⟩, .string ⟨#[99]⟩, .string ⟨#[100]⟩, .string ⟨#[101]⟩] 9)).drew (by decide) (by decide) HF7.out.dice (row_lit wr _ _ [[97], [98], [99], [100], [101]] rfl dd (by have := HFA.out.low; omega))).mono ?_
              rintro e w8 ⟨s, hs, rfl, hD8, hK8⟩
              have HSL : Hid (s.length ≤ 12) := Lib.hid (by
                simp only [List.mem_cons, List.not_mem_nil, or_false] at hs
                rcases hs with rfl | rfl | rfl | rfl | rfl <;> decide)
              have hf8 := HF7.out.thrown hD8 hK8
              refine ⟨FaceAt.c2 hf8, ?_⟩
              have HF8 := Lib.hid hf8
              clear hs hD8 hK8 hf8 HF7
              refine wpMix_keep rfl ?_
              go_wp2_with fail
              have hf9 := HF8.out.below ((Below.refl _ w8).alloc (Nat.le_refl _) (.cells #[sv s] 9))
              refine ⟨FaceAt.c2 hf9, ?_⟩
              have hnew : ∀ j u, [sv s][j]? = some u → (w8.alloc (.cells #[sv s] 9)).cell? ((⟨w8.heap.size, 0, none⟩ : Addr).add j) = some u := World.news_of_block (cs := #[sv s]) (alloc1 w8 _)
              have hz9 : (w8.alloc (.cells #[sv s] 9)).heap.size = w8.heap.size + 1 := by simp
              have HF9 := Lib.hid hf9
              clear hf9
              refine wpMix_keep rfl ?_
              have hs9 := HF9.out.kp.size
              refine wp_append_lies _ _ _ 35 rfl w1.heap.size 9 i0 _ 1 16 Try.underlying35 hi hz0 hz1 hz2 rfl (by omega) pv pub.length (pub.map sv) rfl (FaceAt.rp HF9.out) ⟨w8.heap.size, 0, none⟩ 1 1 [sv s] rfl rfl hnew ?d2b (by omega) ?d3b ?d4b ?d5b _ rfl ?_
              case d2b =>
                intro u hu
                rw [List.mem_singleton.1 hu]
                rfl
              case d3b => unfold maxLen; omega
              case d4b => omega
              case d5b => exact hs9
              intro vg vcap w9 hown9 hgr hat _
              have hfx := FaceAt.pub_step HF9.out hown9 hgr hat
              have hblk9 := HF9.out.still (.inr rfl) hgr
              have c9 : w9.cell? ⟨w1.heap.size, 2, none⟩ = some pv := (Lib.cell_of_heap hblk9 _).trans rfl
              have f9 : w9.frozen? ⟨w1.heap.size, 2, none⟩ = false := Lib.frozen_of_heap hblk9 2
              refine ⟨⟨c9, trivial⟩, ?_⟩
              have HFX := Lib.hid hfx
              clear hfx hown9 hgr hat hblk9 hnew hz9 hs9 hfb
              refine wpMix_nil ?_
              simp only [opsAt, List.filterMap_cons, List.filterMap_nil, List.getElem?_toArray, List.getElem?_cons_succ, List.getElem?_cons_zero]
              go_wp2
              refine NoPanic.normal ?_
              go_wp2_with fail
              go_roundw
              case rel => exact ⟨k - 1, pub ++ [s], _, by go_num, by simp; omega, HFX.out⟩
              case measure => simp [intOf]; omega
            · have e0 := HFA.out.cells
              obtain ⟨e0, e1, e2, _⟩ := e0
              obtain ⟨vs, hown, hvl, hvs⟩ := HLS1.out
              have hs4 := HFA.out.kp.size
              have hown' := (HFA.out.kp.own hown fun g hg e => by have := (hown.lt g hg).1; have := HDL.out; omega).alloc (.cells #[sv md, ov, pv] 37)
              have HOWN := Lib.hid hown
              have HOWNA := Lib.hid hown'
              have HVL := Lib.hid hvl
              have HVS := Lib.hid hvs
              have hnew : ∀ j u, [sv md, ov, pv][j]? = some u → (wr.alloc (.cells #[sv md, ov, pv] 37)).cell? ((⟨wr.heap.size, 0, none⟩ : Addr).add j) = some u := World.news_of_block (cs := #[sv md, ov, pv]) (alloc1 wr _)
              have HNEW := Lib.hid hnew
              clear hown hvl hvs hnew hown'
              go_wp2_with (at_builtin; refine wpList_append_lies _ rfl _ _ 22 rfl w.heap.size 37 i3 _ 3 64 Try.underlying22 fi fz0 fz1 fz2 rfl (by omega) u3 l.length (flt fvC vs) rfl HOWNA.out ⟨wr.heap.size, 0, none⟩ 1 1 [sv md, ov, pv] rfl rfl HNEW.out ?d2 (by omega) ?d3 ?d4 ?d5 _ rfl ?_)
              case d2 =>
                obtain ⟨A1, c1, rfl, _⟩ := own_slice HFA.out.ro
                obtain ⟨A2, c2, rfl, _⟩ := own_slice HFA.out.rp
                exact ⟨rfl, rfl, rfl⟩
              case d3 => unfold maxLen; omega
              case d4 => omega
              case d5 => have := HK1.out.size; omega
              intro vg vcap w5 hown5 hgr hat _
              have hltv := HOWN.out.lt
              have hk5 : Kp (fun y => u3.ownBlock = some y) wr w5 := ((Kp.refl _ _).alloc (.cells #[sv md, ov, pv] 37)).grown hgr fun r hr _ => hr
              have hls := LsAt.step (l := l) (f := ⟨md, own, pub⟩) HDL.out (by omega) HFA.out HVL.out HVS.out (fun g hg => (hltv g hg).2) hown5 hk5 (hat.imp id fun h => by rw [h]; simp)
              have HLSN := Lib.hid hls
              have HD5 := Lib.hid (HFA.out.dice.keep hk5 fun y e => by have := (hltv y e).1; have := HDL.out; omega)
              have HK5 := Lib.hid ((HK1.out.trans (M1 := fun y => y = dd ∨ u3.ownBlock = some y) ((HFA.out.kp.more (M' := fun y => y = dd ∨ u3.ownBlock = some y) fun y _ e => .inl e).trans (M1 := fun y => u3.ownBlock = some y) hk5 fun y _ e => .inr e) fun y hy e => by
                rcases e with e | e
                · exact e
                · have := (hltv y e).1
                  omega))
              have HPL : Hid (pub.length ≤ 3) := Lib.hid (by omega)
              clear hown5 hgr hat hltv hk5 hls HOWN HOWNA HNEW HVL HVS HFA HLS1 e0 e1 e2 hs4
              go_wp2_with fail
              go_roundw
              case rel =>
                refine ⟨n - 1, l ++ [⟨md, own, pub⟩], by go_num, by simp; omega, HLSN.out, ⟨by simp; omega, ?_, ?_, ?_⟩, HD5.out, HK5.out⟩
                · intro f hf
                  rcases List.mem_append.1 hf with h | h
                  · exact HSM.out.md f h
                  · rw [List.mem_singleton.1 h]
                    exact hmd1
                · intro f hf
                  rcases List.mem_append.1 hf with h | h
                  · exact HSM.out.own f h
                  · rw [List.mem_singleton.1 h]
                    exact ⟨HOL.out, HSO.out⟩
                · intro f hf
                  rcases List.mem_append.1 hf with h | h
                  · exact HSM.out.pub f h
                  · rw [List.mem_singleton.1 h]
                    exact HPL.out
              case measure => simp [intOf]; omega
    · go_wp2_with fail
      go_ret
      obtain ⟨vs, hown, hvl, hvs⟩ := HLS.out
      obtain ⟨A, c, rfl, _⟩ := own_slice hown
      refine ⟨_, l, rfl, ⟨A, c, vs, rfl, hvl, Row.ofOwn hown fun g _ h1 h2 => ⟨h1, h2⟩, fun i x f e1 e2 => ?_⟩, HSM.out, HDR.out, HKR.out⟩
      obtain ⟨g1, g2, g3⟩ := hvs i x f e1 e2
      exact ⟨g1, g2.more fun b hb => hb.1, g3.more fun b hb => hb.1⟩
end Go.Proofs.Ytcliegpofhjpcaa
