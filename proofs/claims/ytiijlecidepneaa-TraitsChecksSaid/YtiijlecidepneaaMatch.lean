/-
  The walks of types.match and types.Match.
  Conditions: the arguments read as types; what is found stays short.
-/
import Derived.Test.YtiijlecidepneaaMSt
namespace Go.Proofs.Ytiijlecidepneaa
open Go.RowKit

theorem infoStr : (Try.prog.info? 9).map (fun i => (i.zero, i.size, i.bytes)) = some (some (.string ⟨#[]⟩), 1, 16) := by kernel_rfl

mutual
def Ty.size : Ty → Nat
  | .mk _ ks => 1 + sizeL ks
def sizeL : List Ty → Nat
  | [] => 0
  | t :: r => t.size + sizeL r
end

theorem idx_range (ls : List (List UInt8)) (x : List UInt8) : ∀ k : Nat, idx ls x k = -1 ∨ ∃ j : Nat, j < ls.length ∧ idx ls x k = ((k + j : Nat) : Int) := by
  induction ls with
  | nil => intro k; exact .inl rfl
  | cons a r ih =>
    intro k
    unfold idx
    by_cases h : a = x
    · exact .inr ⟨0, by simp, by rw [if_pos h]; rfl⟩
    · rw [if_neg h]
      rcases ih (k + 1) with e | ⟨j, hj, e⟩
      · exact .inl e
      · exact .inr ⟨j + 1, by simp; omega, by rw [e]; congr 1; omega⟩

theorem ownShape {w : World} {base : Nat} {e : TypeId} {size n : Nat} {v : Value} {xs : List Value} (h : w.ownsRow base e size v n xs) : ∃ (A : Option Addr) (c : Nat), v = .slice A n c ∧ n ≤ c ∧ c ≤ maxLen := by
  rcases h.2 with ⟨hv, h0⟩ | ⟨g, cap, cur, hv, _, _, h1, h2, _⟩
  · exact ⟨none, 0, by rw [hv, h0], by omega, Nat.zero_le _⟩
  · exact ⟨_, cap, hv, h1, h2⟩

theorem MSt.tys {bn bl B : Nat} {f : Found} {nv : Value} {A : Option Addr} {n c : Nat} {vs : List (Value × Value)} {w : World} (h : MSt bn bl B f nv (.slice A n c) vs w) (hn : n = f.2.length) : Tys w (Lt w.heap.size) A f.2 vs := by
  subst hn
  exact ⟨h.vlen, Row.ofOwn h.lown fun _ _ _ h2 => h2, fun i t p ht hp => (h.each i t p ht hp).more fun _ hx => hx.2.1⟩

def Away (B bn bl : Nat) (x : Nat) : Prop := x < B ∧ x ≠ bn ∧ x ≠ bl

/-- What a match leaves. -/
def MOk (r : Bool × Found) (bn bl B : Nat) (nv lv : Value) (w : World) (e : Ending) (w' : World) : Prop :=
  ∃ (nv' lv' : Value) (vs' : List (Value × Value)), e = .returned (.bool r.1) ∧ MSt bn bl B r.2 nv' lv' vs' w' ∧ Kp (Mine bn bl nv lv) w w' ∧ ∀ x, x < w.heap.size → Mine bn bl nv' lv' x → Mine bn bl nv lv x

def MatchAt (p : Ty) : Prop := ∀ (t : Ty) (f : Found) (bn bl B : Nat) (nv lv : Value) (vs : List (Value × Value)) (u v u' v' : Value) (w : World), TyIs w (Away B bn bl) p u v → TyIs w (Away B bn bl) t u' v' → MSt bn bl B f nv lv vs w →
  B ≤ w.heap.size → f.1.length = f.2.length → f.1.length + p.size ≤ 3518437208883 →
  Calls Try.prog 55 #[.agg #[u, v], .agg #[u', v'], .pointer (some ⟨bn, 0, none⟩), .pointer (some ⟨bl, 0, none⟩)] w (MOk (mtch p t f) bn bl B nv lv w)


/-- A match at a parameter whose name is x. -/
def NameAt (n : List UInt8) (ks : List Ty) (R : Ty → Found → Bool × Found) (I : Found → Prop) : Prop := ∀ (n' : List UInt8) (ls : List Ty) (f : Found) (bn bl B : Nat) (nv lv : Value) (vs : List (Value × Value)) (A A' : Option Addr) (c c' : Nat) (w : World),
  ks.length ≤ 3518437208883 → TyIs w (Away B bn bl) (.mk n' ls) (sv n') (.slice A' ls.length c') → MSt bn bl B f nv lv vs w → B ≤ w.heap.size → f.1.length = f.2.length → f.1.length ≤ 3518437208882 → I f →
  Calls Try.prog 55 #[.agg #[sv n, .slice A ks.length c], .agg #[sv n', .slice A' ls.length c'], .pointer (some ⟨bn, 0, none⟩), .pointer (some ⟨bl, 0, none⟩)] w (MOk (R (.mk n' ls) f) bn bl B nv lv w)

set_option maxHeartbeats 2000000 in
set_option maxRecDepth 100000 in
theorem match_old (n : List UInt8) (ks : List Ty) (x : List UInt8) (hpw : parW n ks.length = (x, true)) : NameAt n ks (fun t f => oneName f.1 f.2 x t) (fun f => idx f.1 x 0 ≠ -1) := by
  intro n' ls f bn bl B nv lv vs A A' c c' w hz ht hM hB hlen hsz hI
  have hb2 : Below w.heap.size w ((w.alloc (.cells #[sv n, .slice A ks.length c] 35)).alloc (.cells #[sv n', .slice A' ls.length c'] 35)) := ((Below.refl _ _).alloc (Nat.le_refl _) _).alloc (by simp) _
  have HPW := Lib.hid hpw
  clear hpw
  have HT' := Lib.hid ht
  clear ht
  obtain ⟨j, hj, hi1⟩ := (idx_range f.1 x 0).resolve_left hI
  rw [Nat.zero_add] at hi1
  clear hI
  dsimp only

  have HI := Lib.hid hi1
  clear hi1
  go_enter Try.func55, Try.ntmps55
  go_wp2_with fail
  refine (parameter_any n A ks.length c _ hz).mono ?_
  rw [HPW.out]
  rintro e w1 ⟨rfl, hb1⟩
  have hb3 : Below w.heap.size w w1 := hb2.trans (hb1.mono (by simp; omega))
  have hM1 := hM.kept hb3
  obtain ⟨A3, c3, rfl, _, _⟩ := ownShape hM1.nown
  obtain ⟨A4, c4, rfl, _, _⟩ := ownShape hM1.lown
  have n0 : w1.cell? ⟨bn, 0, none⟩ = some (.slice A3 f.1.length c3) := by rw [Lib.cell_of_heap hM1.nblk]; rfl
  have l0 : w1.cell? ⟨bl, 0, none⟩ = some (.slice A4 f.2.length c4) := by rw [Lib.cell_of_heap hM1.lblk]; rfl
  have hrow : Row w1 (Lt w1.heap.size) A3 (f.1.map sv) := Row.ofOwn hM1.nown fun _ _ _ h2 => h2
  have HM1 := Lib.hid hM1
  have HLEN := Lib.hid hlen
  clear hM1 hM hlen
  go_wp2_with fail
  refine (index_any A3 c3 _ f.1 x _ hrow (by omega)).mono ?_
  rw [HI.out]
  rintro e w1 ⟨rfl, rfl⟩
  have hj2 : j < f.2.length := by rw [← HLEN.out]; exact hj
  have hy1 : f.2[j]? = some (f.2[j]) := List.getElem?_eq_getElem hj2
  obtain ⟨ad, uy, vy, rfl, hSy, e0, e1, hty⟩ := (HM1.out.tys rfl).at_ hy1
  obtain ⟨uy, vy, rfl, rfl⟩ := hty.shape
  have hq := alloc2 w (.cells #[sv n, .slice A ks.length c] 35) (.cells #[sv n', .slice A' ls.length c'] 35)
  have hq2 := (hb1.block (w.heap.size + 1) (by simp)).trans hq.2
  have s0 : w1.cell? ⟨w.heap.size + 1, 0, none⟩ = some (sv n') := by rw [Lib.cell_of_heap hq2]; rfl
  have s1 : w1.cell? ⟨w.heap.size + 1, 1, none⟩ = some (.slice A' ls.length c') := by rw [Lib.cell_of_heap hq2]; rfl
  have HY := Lib.hid hy1
  have hq3 := hq2
  have HQ3 := Lib.hid hq3
  clear hq hq2 hq3 hy1
  go_wp2_with fail
  refine wp_region_held' (fun w' => w'.cell? ⟨bl, 0, none⟩ = some (.slice (some ad) f.2.length c4) ∧ w'.cell? (ad.add (j * 2)) = some (sv uy) ∧ w'.cell? ⟨(ad.add (j * 2)).block, (ad.add (j * 2)).off + 1, none⟩ = some (.slice vy.1 vy.2.1 vy.2.2) ∧ w'.cell? ⟨w.heap.size + 1, 0, none⟩ = some (sv n') ∧ w'.cell? ⟨w.heap.size + 1, 1, none⟩ = some (.slice A' ls.length c')) [] [0, 1, 2, 3, 4, 5, 6] [7] [8] (by kernel_rfl) (by kernel_rfl) ?s0 ?h0
  case s0 => exact ⟨l0, e0, e1, s0, s1⟩
  case h0 =>
    simp only [opsAt, List.filterMap_cons, List.filterMap_nil, List.getElem?_toArray, List.getElem?_cons_succ, List.getElem?_cons_zero]
    refine wpFloat_nil ?_
    refine wpLoad_step ?va0 rfl (fun w' hS => ?ya0) ?ka0
    case ya0 =>
      obtain ⟨h1, h2, h3, h4, h5⟩ := hS
      go_simp
      try rfl
    case ka0 =>
    go_simp
    refine wpLoad_step ?va1 rfl (fun w' hS => ?ya1) ?ka1
    case ya1 =>
      obtain ⟨h1, h2, h3, h4, h5⟩ := hS
      go_simp
      try rfl
    case ka1 =>
    go_simp
    refine wpLoad_step ?va2 rfl (fun w' hS => ?ya2) ?ka2
    case ya2 =>
      obtain ⟨h1, h2, h3, h4, h5⟩ := hS
      go_simp
      try rfl
    case ka2 =>
    go_simp
    refine wpLoad_step ?va3 rfl (fun w' hS => ?ya3) ?ka3
    case ya3 =>
      obtain ⟨h1, h2, h3, h4, h5⟩ := hS
      go_simp
      try rfl
    case ka3 =>
    go_simp
    refine wpLoad_step ?va4 rfl (fun w' hS => ?ya4) ?ka4
    case ya4 =>
      obtain ⟨h1, h2, h3, h4, h5⟩ := hS
      go_simp
      try rfl
    case ka4 =>
    go_simp
    refine wpLoad_step ?va5 rfl (fun w' hS => ?ya5) ?ka5
    case ya5 =>
      obtain ⟨h1, h2, h3, h4, h5⟩ := hS
      go_simp
      try rfl
    case ka5 =>
    go_simp
    refine wpLoad_step ?va6 rfl (fun w' hS => ?ya6) ?ka6
    case ya6 =>
      obtain ⟨h1, h2, h3, h4, h5⟩ := hS
      go_simp
      try rfl
    case ka6 =>
    go_simp
    refine wpLoad_nil ?_
    refine wpKeep_step rfl ?_
    go_simp
    have hbd : Below w1.heap.size w1 w1.drew := (Below.refl _ _).drew
    have htt : TyIs w1 (Lt w1.heap.size) (.mk n' ls) (sv n') (.slice A' ls.length c') := ((HT'.out.more (S' := Lt w.heap.size) fun y hy => Nat.lt_of_lt_of_le hy.1 hB).now (Nat.le_refl _) hb3)
    refine (same_any f.2[j] (.mk n' ls) _ _ _ _ _ (hty.now (Nat.le_refl _) hbd) (htt.now (Nat.le_refl _) hbd)).mono ?_
    rintro e w2 ⟨r, rfl, hr, hb4⟩
    have hb5 : Below w1.heap.size w1 w2 := hbd.trans hb4
    have d1 : w2.cell? ⟨bl, 0, none⟩ = some (.slice (some ad) f.2.length c4) := ((belowCell hb5).1 _ _ (lt_of_heap HM1.out.lblk)).trans l0
    have d2 := (hb5.cell (p := ad.add (j * 2)) (by rw [blkAdd]; exact hSy)).trans e0
    have d3 := (hb5.cell (p := ⟨(ad.add (j * 2)).block, (ad.add (j * 2)).off + 1, none⟩) (by show (ad.add (j * 2)).block < _; rw [blkAdd]; exact hSy)).trans e1
    have d4 := ((belowCell hb5).1 (w.heap.size + 1) 0 (Array.getElem?_eq_some_iff.1 HQ3.out).1).trans s0
    have d5 := ((belowCell hb5).1 (w.heap.size + 1) 1 (Array.getElem?_eq_some_iff.1 HQ3.out).1).trans s1
    refine ⟨⟨d1, d2, d3, d4, d5⟩, ?_⟩
    have hrr : r = Ty.eqb f.2[j] (.mk n' ls) := by
      rw [Bool.eq_iff_iff, hr, eqb_iff]
    have HRR := Lib.hid hrr
    clear hr hrr d1 d2 d3 d4 d5
    refine wpKeep_nil ?_
    go_wp2_with fail
    refine NoPanic.normal ?_
    go_wp2_with fail
    go_ret
    have hone : oneName f.1 f.2 x (.mk n' ls) = (r, f) := by
      rw [oneName, HI.out, if_pos (by omega), show ((j : Int)).toNat = j from by omega, HY.out, HRR.out]
      rfl
    rw [hone]
    exact ⟨_, _, vs, rfl, HM1.out.kept hb5, Kp.ofBelow (hb3.trans (hb5.mono hb3.size)), fun y _ hy => hy⟩
end Go.Proofs.Ytiijlecidepneaa
