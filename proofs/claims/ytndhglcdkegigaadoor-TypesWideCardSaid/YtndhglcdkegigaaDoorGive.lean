/-
  The walk of (*unify.Solver).give.
  Conditions: names are not empty, and no variable's or that of a variable below 100; there is a rank; the variable is not given.
-/
import Derived.Test.YtndhglcdkegigaaDoorOcc
namespace Go.Proofs.YtndhglcdkegigaaDoor
open Go.RowKit

theorem row_shape {w : World} {base : Nat} {e : TypeId} {size n : Nat} {v : Value} {xs : List Value} (h : w.ownsRow base e size v n xs) : ∃ A c, v = .slice A n c := by
  rcases h.2 with ⟨rfl, rfl⟩ | ⟨g, cap, cur, rfl, _⟩
  · exact ⟨none, 0, rfl⟩
  · exact ⟨_, _, rfl⟩

/-- The blocks that a solver writes. -/
def SvM (d : SD) (y : Nat) : Prop := y = d.sb ∨ y = d.gb ∨ y = d.ab ∨ d.trv.ownBlock = some y ∨ d.psv.ownBlock = some y
/-- What comes of a solver: its blocks are the same, or new. -/
structure SNext (n : Nat) (d d' : SD) : Prop where
  sb : d'.sb = d.sb
  gb : d'.gb = d.gb
  ab : d'.ab = d.ab
  trv : ∀ y, d'.trv.ownBlock = some y → d.trv.ownBlock = some y ∨ n ≤ y
  psv : ∀ y, d'.psv.ownBlock = some y → d.psv.ownBlock = some y ∨ n ≤ y
theorem SNext.refl (n : Nat) (d : SD) : SNext n d d := ⟨rfl, rfl, rfl, fun _ h => .inl h, fun _ h => .inl h⟩
theorem SNext.trans {n n1 : Nat} {d d1 d2 : SD} (h : SNext n d d1) (h1 : SNext n1 d1 d2) (hn : n ≤ n1) : SNext n d d2 :=
  ⟨h1.sb.trans h.sb, h1.gb.trans h.gb, h1.ab.trans h.ab, fun y hy => (h1.trv y hy).elim (h.trv y) (fun e => .inr (Nat.le_trans hn e)), fun y hy => (h1.psv y hy).elim (h.psv y) (fun e => .inr (Nat.le_trans hn e))⟩
theorem SNext.back {n : Nat} {d d' : SD} (h : SNext n d d') : ∀ y, y < n → SvM d' y → SvM d y := by
  rintro y hy (e | e | e | e | e)
  · exact .inl (e.trans h.sb)
  · exact .inr (.inl (e.trans h.gb))
  · exact .inr (.inr (.inl (e.trans h.ab)))
  · rcases h.trv y e with e | e
    · exact .inr (.inr (.inr (.inl e)))
    · omega
  · rcases h.psv y e with e | e
    · exact .inr (.inr (.inr (.inr e)))
    · omega
/-- The solver's blocks are from B on. -/
theorem Sv.from {w : World} {B : Nat} {S : Nat → Prop} {d : SD} (h : Sv w B S d) : ∀ y, SvM d y → B ≤ y := by
  rintro y (e | e | e | e | e)
  · rw [e]; exact h.lo.1
  · rw [e]; exact h.lo.2.1
  · rw [e]; exact h.lo.2.2.1
  · exact (h.trail.lt _ e).1
  · exact (h.pairs.lt _ e).1

theorem setCell_other {w : World} {b i x : Nat} {v : Value} (h : x ≠ b) : (w.setCell ⟨b, i, none⟩ v).heap[x]? = w.heap[x]? := by
  by_cases hx : x < w.heap.size
  · exact (Kp.setCell (M := fun y => y = b) (Kp.refl _ w) (fun _ => rfl) v).block x hx h
  · have h1 : w.heap.size ≤ x := by omega
    have h2 : (w.setCell ⟨b, i, none⟩ v).heap.size ≤ x := by rw [sizeSet]; exact h1
    rw [Array.getElem?_eq_none h1, Array.getElem?_eq_none h2]

theorem Sv.gave {w1 w2 w3 : World} {B : Nat} {S : Nat → Prop} {d : SD} {n : Nat} {p : Addr} {t : Ty} {o : Obj} {v' : Value} (hs : Sv w1 B S d) (hpl : Plb w1 B S) (hB : B ≤ w1.heap.size) (hp : PtTy w1 S p t)
    (hm : MapAt w2 d.gb ((d.G ++ [(n, p, t)]).map givenV)) (hk : Kp (fun y => y = d.gb) w1 w2) (hg : (w2.alloc o).grownBy w3 d.trv.ownBlock)
    (hown : w3.ownsRow B 3 1 v' (d.tr.length + 1) ((d.tr ++ [n]).map fun n : Nat => .int .i64 (n : Int))) :
    Sv (w3.setCell ⟨d.sb, 2, none⟩ v') B S { d with G := d.G ++ [(n, p, t)], tr := d.tr ++ [n], trv := v' } ∧ Kp (SvM d) w1 (w3.setCell ⟨d.sb, 2, none⟩ v') := by
  have kB : Kp (fun y => d.trv.ownBlock = some y) w2 w3 := ((Kp.refl _ w2).alloc o).grown hg (fun r hr _ => hr)
  have kC : Kp (fun y => y = d.sb) w3 (w3.setCell ⟨d.sb, 2, none⟩ v') := Kp.setCell (M := fun y => y = d.sb) (Kp.refl _ w3) (fun _ => rfl) v'
  have k2 : Kp (SvM d) w1 w3 := (hk.more fun x _ e => .inr (.inl e)).trans kB fun x _ e => .inr (.inr (.inr (.inl e)))
  have k3 : Kp (SvM d) w1 (w3.setCell ⟨d.sb, 2, none⟩ v') := k2.trans kC fun x _ e => .inl e
  refine ⟨?_, k3⟩
  have hkt : Kept S w1 (w3.setCell ⟨d.sb, 2, none⟩ v') := k3.kept fun b hS => ⟨Nat.lt_of_lt_of_le (hpl.lt b hS) hB, fun e => by have := hs.from b e; have := hpl.lt b hS; omega⟩
  have hsg : d.sb ≠ d.gb := fun e => hs.given.not_cells (e ▸ hs.cells)
  have hsa : d.sb ≠ d.ab := fun e => hs.agreed.not_cells (e ▸ hs.cells)
  have ht2 := hk.own hs.trail (fun g hg e => by obtain ⟨cs, hc⟩ := row_block hs.trail hg; exact hs.given.not_cells (e ▸ hc))
  have hc2 := hk.heap hs.cells hsg
  have hst : ¬ d.trv.ownBlock = some d.sb := fun e => by
    obtain ⟨cs, hc⟩ := row_block hs.trail e
    rw [hs.cells] at hc
    injection hc with hc
    injection hc with _ hT
    revert hT
    decide
  have hsp : ¬ d.psv.ownBlock = some d.sb := fun e => by
    obtain ⟨cs, hc⟩ := row_block hs.pairs e
    rw [hs.cells] at hc
    injection hc with hc
    injection hc with _ hT
    revert hT
    decide
  have hc3 := kB.heap hc2 hst
  have hgt : ¬ d.trv.ownBlock = some d.gb := fun e => by obtain ⟨cs, hc⟩ := row_block ht2 e; exact hm.not_cells hc
  have hm3 := hm.same (kB.block _ hm.lt hgt)
  have ha2 := hs.agreed.same (hk.block _ hs.agreed.lt (fun e => hs.lo.2.2.2 e.symm))
  have hat : ¬ d.trv.ownBlock = some d.ab := fun e => by obtain ⟨cs, hc⟩ := row_block ht2 e; exact ha2.not_cells hc
  have ha3 := ha2.same (kB.block _ ha2.lt hat)
  have hp2 := hk.own hs.pairs (fun g hg e => by obtain ⟨cs, hc⟩ := row_block hs.pairs hg; exact hs.given.not_cells (e ▸ hc))
  have hpt : ∀ g, d.psv.ownBlock = some g → ¬ d.trv.ownBlock = some g := fun g h1 h2 => by
    obtain ⟨cs, hc⟩ := row_block hs.pairs h1
    obtain ⟨cs', hc'⟩ := row_block hs.trail h2
    rw [hc] at hc'
    injection hc' with hc'
    injection hc' with _ hT
    revert hT
    decide
  have hp3 := kB.own hp2 hpt
  have hvs : ∀ g, v'.ownBlock = some g → g ≠ d.sb := fun g hg e => by
    obtain ⟨cs, hc⟩ := row_block hown hg
    rw [e, hc3] at hc
    injection hc with hc
    injection hc with _ hT
    revert hT
    decide
  refine ⟨hs.lo, setCell_heap hc3, hm3.same (setCell_other (fun e => hsg e.symm)), ha3.same (setCell_other (fun e => hsa e.symm)), ?_, ?_, ?_, ?_⟩
  · intro g hg
    rcases List.mem_append.1 hg with hg | hg
    · exact (hs.gty g hg).keep hkt
    · obtain rfl := List.mem_singleton.1 hg
      exact hp.keep hkt
  · intro x hx
    obtain ⟨⟨t', h3⟩, u, h4⟩ := hs.aty x hx
    exact ⟨⟨t', h3.keep hkt⟩, u, h4.keep hkt⟩
  · have := kC.own hown hvs
    simpa using this
  · exact kC.own hp3 fun g hg e => hsp (e ▸ hg)

theorem infoI : (Tryd.prog.info? 3).map (fun i => (i.zero, i.size, i.bytes)) = some (some (.int .i64 0), 1, 8) := by kernel_rfl
structure DownN (Q : Ty → Prop) : Prop extends Down Q where
  full : ∀ t, Q t → t.name ≠ []

def GiveRes (B : Nat) (S : Nat → Prop) (d : SD) (n : Nat) (p : Addr) (t : Ty) (w : World) (e : Ending) (w' : World) : Prop :=
  (Occ d.sol n t ∧ e = .returned (.bool false) ∧ Below w.heap.size w w') ∨
  (¬ Occ d.sol n t ∧ e = .returned (.bool true) ∧ ∃ v', Sv w' B S { d with G := d.G ++ [(n, p, t)], tr := d.tr ++ [n], trv := v' } ∧ Kp (SvM d) w w' ∧ ∀ y, v'.ownBlock = some y → d.trv.ownBlock = some y ∨ w.heap.size ≤ y)

set_option maxHeartbeats 8000000 in
set_option maxRecDepth 100000 in
theorem give_any (B : Nat) (S : Nat → Prop) (d : SD) (Q : Ty → Prop) (hQ : DownN Q) (ρ : Ty → Nat) (hr : Rank d.sol ρ) (n : Nat) (hqg : ∀ g ∈ d.G, Q g.2.2) (hn : d.sol n = none) (hlen : d.tr.length ≤ 1000)
    (t : Ty) (p : Addr) (w : World) (hs : Sv w B S d) (hpl : Plb w B S) (hB : B ≤ w.heap.size) (hp : PtTy w S p t) (hq : Q t) :
    Calls Tryd.prog 78 #[.pointer (some ⟨d.sb, 0, none⟩), .int .i64 (n : Int), .pointer (some p)] w (GiveRes B S d n p t w) := by
  have hmm := @run_makeMap Tryd.prog
  have hb0 : Below w.heap.size w (w.alloc (.map #[] 0)) := (Below.refl _ _).alloc (Nat.le_refl _) _
  have hs0 := hs.below hpl hB hb0
  have hpl0 := hpl.below (hb0.mono hB)
  have hB0 : B ≤ (w.alloc (.map #[] 0)).heap.size := Nat.le_trans hB hb0.size
  have hm0 : MapAt (w.alloc (.map #[] 0)) w.heap.size (([] : List Addr).map seenV) := MapAt.new w
  have hng : w.heap.size ≠ d.gb := fun e => by have := hs.given.lt; omega
  have hna : w.heap.size ≠ d.ab := fun e => by have := hs.agreed.lt; omega
  have OC := Lib.hid (occurs_any B S d Q hQ.toDown ρ hr n hqg w.heap.size hng hna hB (ρ t) t p [] _ (Nat.le_refl _) hs0 hpl0 hB0 (hp.keep (hpl.kept (hb0.mono hB))) hq hm0 (fun a ha => by cases ha))
  have HS0 := Lib.hid hs0
  have HB0 := Lib.hid hb0
  have HM0 := Lib.hid hm0
  clear hs0 hb0 hm0
  go_enter Tryd.func78, Tryd.ntmps78
  go_wp2_with fail
  refine OC.out.mono ?_
  rintro e w1 ⟨r, rfl, hk1, hyes, hnn⟩
  have hb1 : Below w.heap.size w w1 := HB0.out.trans ⟨hk1.os, hk1.tape, hk1.output, hk1.size, fun x hx => hk1.block x (by simp; omega) (by omega)⟩
  have hs1 := hs.below hpl hB hb1
  have hpl1 := hpl.below (hb1.mono hB)
  have hB1 : B ≤ w1.heap.size := Nat.le_trans hB hb1.size
  have HYES := Lib.hid hyes
  have HNN := Lib.hid hnn
  clear hyes hnn
  cases r with
  | true =>
    go_wp2
    go_ret
    exact .inl ⟨HYES.out trivial, rfl, hb1⟩
  | false =>
    have hno := (HNN.out rfl).1
    obtain ⟨A, c, hS, e0, e1, hl, hc1, hc2, harg⟩ := (hp.keep (hpl.kept (hb1.mono hB))).cells
    have hnm := hQ.full t hq
    have he : (bs t.name).toList.isEmpty = false := by
      rw [Lib.toList_data, bs_data]
      cases h : t.name with
      | nil => exact absurd h hnm
      | cons _ _ => rfl
    have hne : ((bs t.name).toList == []) = false := by rw [Lib.toList_data, bs_data]; simp [hnm]
    obtain ⟨w2, hput, hm2, hk2⟩ := run_put_new (.pointer (some p)) Tryd.underlying80 law_int hs1.given (k := .int .i64 (n : Int)) ⟨_, rfl⟩ given_keys (fun x hx e => by
      obtain ⟨g, hg, rfl⟩ := List.mem_map.1 hx
      have : g.1 = n := by
        have := Value.int.inj e
        omega
      exact find_none hn g hg this)
    have hsg : d.sb ≠ d.gb := fun e => hs1.given.not_cells (e ▸ hs1.cells)
    have hc2 := hk2.heap hs1.cells hsg
    have ht2 := hk2.own hs1.trail (fun g hg e => by obtain ⟨cs, hc⟩ := row_block hs1.trail hg; exact hs1.given.not_cells (e ▸ hc))
    obtain ⟨TA, tc, htv⟩ := row_shape hs.trail
    have x0 : w1.cell? ⟨d.sb, 0, none⟩ = some (.map (some d.gb)) := (Lib.cell_of_heap hs1.cells _).trans rfl
    have x2 : w2.cell? ⟨d.sb, 2, none⟩ = some (.slice TA d.tr.length tc) := (Lib.cell_of_heap hc2 _).trans (by rw [htv]; rfl)
    have hsz2 := lt_of_heap hc2
    have HTV := Lib.hid htv
    have HC2 := Lib.hid hc2
    have HM2 := Lib.hid hm2
    have hown := ht2.alloc (.cells #[.int .i64 (n : Int)] 3)
    rw [htv] at hown
    obtain ⟨m, hmt⟩ : ∃ m, m = d.tr.length := ⟨_, rfl⟩
    rw [← hmt] at hown x2 hlen
    have HMT := Lib.hid hmt
    generalize hxs : (d.tr.map fun n : Nat => Value.int .i64 (n : Int)) = xs at hown
    have HXS := Lib.hid hxs
    clear hxs hmt
    clear htv hc2 hm2 ht2 hsg
    obtain ⟨i0, hi0, hz0, hz1, hz2⟩ := info_parts infoI
    go_wp2_with (at_builtin; refine wpList_append_lies _ rfl _ _ 22 rfl B 3 i0 _ 1 8 Tryd.underlying22 hi0 hz0 hz1 hz2 rfl (by omega) _ m xs rfl hown ⟨w2.heap.size, 0, none⟩ 1 1 [.int .i64 (n : Int)] rfl rfl ?c1 ?c2 (by omega) ?c3 ?c4 ?c5 _ rfl ?_)
    case c1 => exact World.news_of_block (cs := #[.int .i64 (n : Int)]) (alloc1 w2 _)
    case c2 => simp [Value.oneCell']
    case c3 => unfold maxLen; omega
    case c4 => omega
    case c5 => simp; have := hk2.size; omega
    intro ga cap w3 hown3 hgrow hat _
    have hv : Value.slice TA m tc = d.trv := by rw [HMT.out]; exact HTV.out.symm
    rw [hv] at hgrow hat
    have hst : ¬ d.trv.ownBlock = some d.sb := fun e => by
      obtain ⟨cs, hc⟩ := row_block hs1.trail e
      rw [hs1.cells] at hc
      injection hc with hc
      injection hc with _ hT
      revert hT
      decide
    have hc3 : w3.heap[d.sb]? = some (.cells #[.map (some d.gb), .map (some d.ab), d.trv, d.psv, .int .i64 d.lo] 84 (0, 0)) :=
      (hgrow.block _ (by simp; omega) (fun e => hst e.symm)).trans ((heap_alloc_old _ _ hsz2).trans HC2.out)
    have x3 : w3.cell? ⟨d.sb, 2, none⟩ = some d.trv := (Lib.cell_of_heap hc3 _).trans rfl
    have y3 : w3.frozen? ⟨d.sb, 2, none⟩ = false := Lib.frozen_of_heap hc3 2
    have hgave := Sv.gave (n := n) (p := p) (t := t) hs1 hpl1 hB1 (hp.keep (hpl.kept (hb1.mono hB))) (by rw [List.map_append]; exact HM2.out) hk2 hgrow (by rw [List.map_append, HXS.out, ← HMT.out]; exact hown3)
    have HGAVE := Lib.hid hgave
    have HAT := Lib.hid hat
    clear hgave hv hown hgrow hown3 hat hst hc3
    go_wp2
    go_ret
    refine .inr ⟨hno, rfl, _, HGAVE.out.1, (Kp.ofBelow hb1).trans HGAVE.out.2 (fun _ _ h => h), fun y hy => ?_⟩
    have : y = ga := by
      have := Option.some.inj hy
      exact this.symm
    subst this
    rcases HAT.out with h | h
    · exact .inl h
    · right
      have := hb1.size
      have := hk2.size
      omega
end Go.Proofs.YtndhglcdkegigaaDoor
