/-
  The walks of types.Same and slices.EqualFunc over types: whether two types are equal.
  Conditions: the arguments read as types.
  The plain law: what Match, Select, Leads and Holds compute, with no program in sight.
  Conditions: none beyond those of each theorem.
  What a call may change, and the state of a match: a cell with the names so far, a cell with their types.
  Conditions: those of each theorem.
-/
import Derived.Test.YtiijlecidepneaaCop
namespace Go.Proofs.Ytiijlecidepneaa
section
open Go.RowKit
/-- A Bool was returned that says P; what was there is as it was. -/
def Says (P : Prop) (w : World) (e : Ending) (w' : World) : Prop := ∃ r : Bool, e = .returned (.bool r) ∧ (r = true ↔ P) ∧ Below w.heap.size w w'

theorem Tys.now {w w' : World} {n : Nat} {A : Option Addr} {ts : List Ty} {vs : List (Value × Value)} (h : Tys w (Lt n) A ts vs) (hn : n ≤ w.heap.size) (hb : Below w.heap.size w w') : Tys w' (Lt w'.heap.size) A ts vs :=
  (h.keep (kept_below (hb.mono hn))).more fun _ h => Nat.lt_of_lt_of_le h (Nat.le_trans hn hb.size)

def SameAt (a : Ty) : Prop := ∀ (b : Ty) (u v u' v' : Value) (w : World), TyIs w (Lt w.heap.size) a u v → TyIs w (Lt w.heap.size) b u' v' → Calls Try.prog 28 #[.agg #[u, v], .agg #[u', v']] w (Says (a = b) w)

set_option maxHeartbeats 4000000 in
set_option maxRecDepth 100000 in
theorem equalFunc_any (ks ls : List Ty) (ih : ∀ a ∈ ks, SameAt a) (A A' : Option Addr) (c c' : Nat) (vs vs' : List (Value × Value)) (w : World) (h : Tys w (Lt w.heap.size) A ks vs) (h' : Tys w (Lt w.heap.size) A' ls vs') (hz : ks.length ≤ 3518437208883) :
    Calls Try.prog 34 #[.slice A ks.length c, .slice A' ls.length c', .func (.func 28) #[] #[]] w (Says (ks = ls) w) := by
  by_cases hnn : ks.length = ls.length
  · rw [← hnn]
    obtain ⟨n, hln⟩ : ∃ n, n = ks.length := ⟨_, rfl⟩
    rw [← hln]
    have HN := Lib.hid hnn
    have HL := Lib.hid hln
    have hn : n ≤ 3518437208883 := by omega
    clear hnn hln hz
    go_enter Try.func34, Try.ntmps34
    go_wp2
    go_loopw [17] (fun i wr => ∃ k : Nat, k ≤ n ∧ i = .int .i64 k ∧ ks.take k = ls.take k ∧ Below w.heap.size w wr) (fun i _ => n - (intOf i).toNat)
    case atStart => exact ⟨0, Nat.zero_le _, rfl, rfl, Below.refl _ _⟩
    case round =>
      obtain ⟨k, hk, rfl, hx, hb⟩ := hrel
      have HX := Lib.hid hx
      clear hx
      have hsz := hb.size
      by_cases hlt : k < n
      · have hki : k < ks.length := by rw [← HL.out]; exact hlt
        have hki' : k < ls.length := by rw [← HN.out, ← HL.out]; exact hlt
        obtain ⟨ad, u, v, rfl, hS, e0, e1, hty⟩ := (h.now (Nat.le_refl _) hb).at_ (List.getElem?_eq_getElem hki)
        obtain ⟨ad', u', v', rfl, hS', e0', e1', hty'⟩ := (h'.now (Nat.le_refl _) hb).at_ (List.getElem?_eq_getElem hki')
        obtain ⟨u, v, rfl, rfl⟩ := hty.shape
        obtain ⟨u', v', rfl, rfl⟩ := hty'.shape
        have g0 : (wr.alloc (.cells #[.string (bs u), .slice v.1 v.2.1 v.2.2] 35)).cell? (ad'.add (k * 2)) = some (sv u') := (World.cell?_of_block (heap_alloc_old _ _ (by rw [blkAdd]; exact hS'))).trans e0'
        have g1 : (wr.alloc (.cells #[.string (bs u), .slice v.1 v.2.1 v.2.2] 35)).cell? ⟨(ad'.add (k * 2)).block, (ad'.add (k * 2)).off + 1, none⟩ = some (.slice v'.1 v'.2.1 v'.2.2) := (cellAlloc (by rw [blkAdd]; exact hS')).trans e1'
        have hb2 : Below wr.heap.size wr ((wr.alloc (.cells #[.string (bs u), .slice v.1 v.2.1 v.2.2] 35)).alloc (.cells #[.string (bs u'), .slice v'.1 v'.2.1 v'.2.2] 35)) := ((Below.refl _ _).alloc (Nat.le_refl _) _).alloc (by simp) _
        have hs1 : ks.take (k + 1) = ks.take k ++ [ks[k]] := List.take_succ_eq_append_getElem hki
        have hs2 : ls.take (k + 1) = ls.take k ++ [ls[k]] := List.take_succ_eq_append_getElem hki'
        have HS1 := Lib.hid hs1
        have HS2 := Lib.hid hs2
        clear hs1 hs2
        go_wp2_with fail
        refine (ih ks[k] (List.getElem_mem hki) ls[k] _ _ _ _ _ (hty.now (Nat.le_refl _) hb2) (hty'.now (Nat.le_refl _) hb2)).mono ?_
        rintro e w1 ⟨r, rfl, hr, hb1⟩
        have hb3 : Below w.heap.size w w1 := hb.trans ((hb2.trans (hb1.mono (by simp; omega))).mono hsz)
        have HR := Lib.hid hr
        clear hr
        cases r with
        | true =>
          have he := HR.out.1 rfl
          have HE := Lib.hid he
          clear he
          go_wp2
          go_roundw
          case rel => exact ⟨k + 1, by omega, by go_num, by rw [HS1.out, HS2.out, HX.out, HE.out], hb3⟩
          case measure => simp [intOf]; omega
        | false =>
          go_wp2
          go_ret
          refine ⟨false, rfl, ⟨(fun h => by cases h), fun h => ?_⟩, hb3⟩
          have : ks[k] = ls[k] := by
            have e := congrArg (fun l => l[k]?) h
            simp only [List.getElem?_eq_getElem hki, List.getElem?_eq_getElem hki'] at e
            exact Option.some.inj e
          exact HR.out.2 this
      · have hkn : k = n := by omega
        have HK := Lib.hid hkn
        clear hkn
        have hg : ¬ k < n := hlt
        go_wp2
        go_ret
        refine ⟨true, rfl, ⟨fun _ => ?_, fun _ => rfl⟩, hb⟩
        have := HX.out
        rw [HK.out, List.take_of_length_le (by rw [HL.out]; exact Nat.le_refl _), List.take_of_length_le (by rw [HL.out, HN.out]; exact Nat.le_refl _)] at this
        exact this
  · have e1 : ((ks.length : Int) == (ls.length : Int)) = false := by simp; omega
    have e2 : ((ks.length : Int) != (ls.length : Int)) = true := by simp; omega
    go_enter Try.func34, Try.ntmps34
    go_wp2
    go_ret
    exact ⟨false, rfl, by simp; intro e; exact hnn (by rw [e]), Below.refl _ _⟩

set_option maxHeartbeats 4000000 in
set_option maxRecDepth 100000 in
theorem same_any (a : Ty) : SameAt a := by
  induction a using Ty.ind with | h n ks ih => ?_
  intro b u v u' v' w ht ht'
  obtain ⟨A, c, vs, rfl, rfl, hn, hz, hc1, hc2, hT⟩ := ht.open_
  obtain ⟨A', c', vs', rfl, rfl, hn', hz', hc1', hc2', hT'⟩ := ht'.open_
  obtain ⟨n', ls⟩ := b
  simp only [Ty.name, Ty.args] at hn hz hc1 hT hn' hz' hc1' hT' ⊢
  by_cases hnn : n = n'
  · have hE := bytesEq hnn
    go_enter Try.func28, Try.ntmps28
    go_wp2_with fail
    have hb2 : Below w.heap.size w ((w.alloc (.cells #[sv n', .slice A ks.length c] 35)).alloc (.cells #[sv n', .slice A' ls.length c'] 35)) := ((Below.refl _ _).alloc (Nat.le_refl _) _).alloc (by simp) _
    refine (equalFunc_any ks ls ih A A' c c' vs vs' _ (hT.now (Nat.le_refl _) hb2) (hT'.now (Nat.le_refl _) hb2) hz).mono ?_
    rintro e w1 ⟨r, rfl, hr, hb1⟩
    have HR := Lib.hid hr
    clear hr
    go_wp2
    go_ret
    exact ⟨r, rfl, by rw [HR.out]; simp [hnn], hb2.trans (hb1.mono (by simp; omega))⟩
  · have hE := bytesNe hnn
    go_enter Try.func28, Try.ntmps28
    go_wp2_with fail
    go_ret
    refine ⟨false, rfl, by simp [hnn], ((Below.refl _ _).alloc (Nat.le_refl _) _).alloc (by simp) _⟩
end

section

mutual
def Ty.eqb : Ty → Ty → Bool
  | .mk n ks, .mk m ls => (n == m) && eqbL ks ls
def eqbL : List Ty → List Ty → Bool
  | [], [] => true
  | a :: r, b :: s => Ty.eqb a b && eqbL r s
  | [], _ :: _ => false
  | _ :: _, [] => false
end

theorem eqbL_iff (ks : List Ty) (ih : ∀ a ∈ ks, ∀ b, a.eqb b = true ↔ a = b) : ∀ ls, eqbL ks ls = true ↔ ks = ls := by
  induction ks with
  | nil => intro ls; cases ls <;> simp [eqbL]
  | cons a r ihr =>
    intro ls
    cases ls with
    | nil => simp [eqbL]
    | cons b s =>
      simp only [eqbL, Bool.and_eq_true, List.cons.injEq]
      rw [ih a (by simp) b, ihr (fun x hx => ih x (by simp [hx])) s]
theorem eqb_iff (a : Ty) : ∀ b, a.eqb b = true ↔ a = b := by
  induction a using Ty.ind with | h n ks ih => ?_
  intro b
  obtain ⟨m, ls⟩ := b
  simp only [Ty.eqb, Bool.and_eq_true, beq_iff_eq, Ty.mk.injEq]
  rw [eqbL_iff ks ih ls]

/-- What Match has found so far: names, and the type of each. -/
abbrev Found := List (List UInt8) × List Ty

def oneName (ns : List (List UInt8)) (ls : List Ty) (x : List UInt8) (t : Ty) : Bool × Found :=
  if 0 ≤ idx ns x 0 then (((ls[(idx ns x 0).toNat]?).map fun y => Ty.eqb y t).getD false, (ns, ls)) else (true, (ns ++ [x], ls ++ [t]))

mutual
def mtch : Ty → Ty → Found → Bool × Found
  | .mk n ks, t, s =>
    if (parW n ks.length).2 then oneName s.1 s.2 (parW n ks.length).1 t
    else if n == t.name && ks.length == t.args.length then mtchL ks t.args s else (false, s)
def mtchL : List Ty → List Ty → Found → Bool × Found
  | [], _, s => (true, s)
  | k :: ks, ts, s => match ts with
    | [] => (true, s)
    | t :: ts => match mtch k t s with
      | (true, s') => mtchL ks ts s'
      | (false, s') => (false, s')
end
end

section
open Go.RowKit
/-- What was there is as it was, but for the blocks of M. -/
structure Kp (M : Nat → Prop) (w w' : World) : Prop where
  os : w'.os = w.os
  tape : w'.tape = w.tape
  output : w'.output = w.output
  size : w.heap.size ≤ w'.heap.size
  block : ∀ x, x < w.heap.size → ¬ M x → w'.heap[x]? = w.heap[x]?

theorem Kp.refl (M : Nat → Prop) (w : World) : Kp M w w := ⟨rfl, rfl, rfl, Nat.le_refl _, fun _ _ _ => rfl⟩
theorem Kp.trans {M M1 : Nat → Prop} {w w1 w2 : World} (h : Kp M w w1) (h1 : Kp M1 w1 w2) (hM : ∀ x, x < w.heap.size → M1 x → M x) : Kp M w w2 :=
  ⟨h1.os.trans h.os, h1.tape.trans h.tape, h1.output.trans h.output, Nat.le_trans h.size h1.size, fun x hx hm => (h1.block x (Nat.lt_of_lt_of_le hx h.size) (fun e => hm (hM x hx e))).trans (h.block x hx hm)⟩
theorem Kp.ofBelow {M : Nat → Prop} {w w' : World} (h : Below w.heap.size w w') : Kp M w w' := ⟨h.os, h.tape, h.output, h.size, fun x hx _ => h.block x hx⟩
theorem Kp.more {M M' : Nat → Prop} {w w' : World} (h : Kp M w w') (hM : ∀ x, x < w.heap.size → M x → M' x) : Kp M' w w' := ⟨h.os, h.tape, h.output, h.size, fun x hx hm => h.block x hx (fun e => hm (hM x hx e))⟩
theorem Kp.kept {M S : Nat → Prop} {w w' : World} (h : Kp M w w') (hS : ∀ b, S b → b < w.heap.size ∧ ¬ M b) : Kept S w w' := fun _ hp => World.cell?_of_block (h.block _ (hS _ hp).1 (hS _ hp).2)
theorem Kp.below {M : Nat → Prop} {w w1 w2 : World} (h : Kp M w w1) (h1 : Below w1.heap.size w1 w2) : Kp M w w2 := h.trans (M1 := fun _ => False) (Kp.ofBelow h1) (fun _ _ e => e.elim)
theorem Kp.alloc {M : Nat → Prop} {w w1 : World} (h : Kp M w w1) (o : Obj) : Kp M w (w1.alloc o) := h.below ((Below.refl _ _).alloc (Nat.le_refl _) _)
theorem Kp.drew {M : Nat → Prop} {w w1 : World} (h : Kp M w w1) : Kp M w w1.drew := ⟨h.os, h.tape, h.output, h.size, h.block⟩
theorem Kp.grown {M : Nat → Prop} {w w1 w2 : World} {row : Option Nat} (h : Kp M w w1) (hg : w1.grownBy w2 row) (hr : ∀ r, row = some r → r < w.heap.size → M r) : Kp M w w2 :=
  ⟨hg.os.trans h.os, hg.tape.trans h.tape, hg.output.trans h.output, Nat.le_trans h.size hg.size, fun x hx hm => (hg.block x (Nat.lt_of_lt_of_le hx h.size) (fun e => hm (hr x e.symm hx))).trans (h.block x hx hm)⟩
theorem Kp.setCell {M : Nat → Prop} {w w1 : World} (h : Kp M w w1) {b o : Nat} (hb : b < w.heap.size → M b) (v : Value) : Kp M w (w1.setCell ⟨b, o, none⟩ v) :=
  h.grown grownSet (fun r hr hlt => by injection hr with hr; subst hr; exact hb hlt)
theorem Kp.heap {M : Nat → Prop} {w w' : World} (h : Kp M w w') {b : Nat} {o : Obj} (hb : w.heap[b]? = some o) (hm : ¬ M b) : w'.heap[b]? = some o := (h.block b (lt_of_heap hb) hm).trans hb
theorem Kp.own {M : Nat → Prop} {w w' : World} {base : Nat} {e : TypeId} {size n : Nat} {v : Value} {xs : List Value} (h : Kp M w w') (ho : w.ownsRow base e size v n xs) (hm : ∀ g, v.ownBlock = some g → ¬ M g) : w'.ownsRow base e size v n xs := by
  refine ⟨ho.1, ?_⟩
  rcases ho.2 with hn | ⟨g, cap, cur, rfl, hb, hgg, rest⟩
  · exact .inl hn
  · exact .inr ⟨g, cap, cur, rfl, hb, h.heap hgg (hm g rfl), rest⟩

theorem setCell_swap {w : World} {a b : Addr} {u v : Value} (h : a.block ≠ b.block) : (w.setCell a u).setCell b v = (w.setCell b v).setCell a u := by
  have hh : ((w.setCell a u).setCell b v).heap = ((w.setCell b v).setCell a u).heap := by
    apply Array.ext_getElem?
    intro i
    simp only [World.setCell, Array.getElem?_modify]
    by_cases h1 : a.block = i
    · have h2 : ¬ b.block = i := fun e => h (h1.trans e.symm)
      simp [h1, h2]
    · simp [h1]
  have e : ∀ w1 w2 : World, w1.heap = w2.heap → w1.os = w2.os → w1.tape = w2.tape → w1.output = w2.output → w1.drawn = w2.drawn → w1 = w2 := by
    intro w1 w2 a b c d e
    cases w1; cases w2
    simp_all
  exact e _ _ hh rfl rfl rfl rfl

def Mine (bn bl : Nat) (nv lv : Value) (x : Nat) : Prop := x = bn ∨ x = bl ∨ some x = nv.ownBlock ∨ some x = lv.ownBlock

/-- The state of a match: block bn holds the slice of the names, bl that of their types; all else that it reaches lies from B on. -/
structure MSt (bn bl B : Nat) (f : Found) (nv lv : Value) (vs : List (Value × Value)) (w : World) : Prop where
  nblk : w.heap[bn]? = some (.cells #[nv] 37 (0, 0))
  nown : w.ownsRow B 9 1 nv f.1.length (f.1.map sv)
  lblk : w.heap[bl]? = some (.cells #[lv] 33 (0, 0))
  lown : w.ownsRow B 35 2 lv f.2.length (flat2 vs)
  vlen : vs.length = f.2.length
  each : ∀ (i : Nat) (t : Ty) (p : Value × Value), f.2[i]? = some t → vs[i]? = some p → TyIs w (fun x => B ≤ x ∧ x < w.heap.size ∧ some x ≠ nv.ownBlock ∧ some x ≠ lv.ownBlock) t p.1 p.2
  apart : ∀ g, nv.ownBlock = some g → lv.ownBlock = some g → False
  lo : bn < B ∧ bl < B ∧ bn ≠ bl

theorem MSt.kept {bn bl B : Nat} {f : Found} {nv lv : Value} {vs : List (Value × Value)} {w w' : World} (h : MSt bn bl B f nv lv vs w) (hb : Below w.heap.size w w') : MSt bn bl B f nv lv vs w' := by
  have hk : Kp (fun _ => False) w w' := Kp.ofBelow hb
  refine ⟨hk.heap h.nblk (fun e => e), hk.own h.nown (fun _ _ e => e), hk.heap h.lblk (fun e => e), hk.own h.lown (fun _ _ e => e), h.vlen, fun i t p ht hp => ?_, h.apart, h.lo⟩
  exact ((h.each i t p ht hp).keep (hk.kept fun x hx => ⟨hx.2.1, fun e => e⟩)).more fun x hx => ⟨hx.1, Nat.lt_of_lt_of_le hx.2.1 hb.size, hx.2.2⟩

theorem MSt.pushN {bn bl B : Nat} {ns : List (List UInt8)} {ls : List Ty} {nv lv : Value} {vs : List (Value × Value)} {w w1 : World} {x : List UInt8} {g cap : Nat} (h : MSt bn bl B (ns, ls) nv lv vs w)
    (hg : w.grownBy w1 nv.ownBlock) (hown : w1.ownsRow B 9 1 (.slice (some ⟨g, 0, none⟩) (ns.length + 1) cap) (ns.length + 1) (ns.map sv ++ [sv x])) (hat : nv.ownBlock = some g ∨ g = w.heap.size) :
    MSt bn bl B (ns ++ [x], ls) (.slice (some ⟨g, 0, none⟩) (ns.length + 1) cap) lv vs (w1.setCell ⟨bn, 0, none⟩ (.slice (some ⟨g, 0, none⟩) (ns.length + 1) cap)) := by
  obtain ⟨h1, h2, h3⟩ := h.lo
  have hgB : B ≤ g := (hown.lt g rfl).1
  have hnl := lt_of_heap h.nblk
  have hll := lt_of_heap h.lblk
  have hn0 : some bn ≠ nv.ownBlock := fun e => by have := (h.nown.lt _ e.symm).1; omega
  have hl0 : some bl ≠ nv.ownBlock := fun e => by have := (h.nown.lt _ e.symm).1; omega
  have hrow : ∀ y, lv.ownBlock = some y → y ≠ g := fun y hy e => by
    subst e
    rcases hat with e | e
    · exact h.apart _ e hy
    · have := (h.lown.lt _ hy).2; omega
  have hK : Kp (fun y => y = bn ∨ some y = nv.ownBlock) w (w1.setCell ⟨bn, 0, none⟩ (.slice (some ⟨g, 0, none⟩) (ns.length + 1) cap)) :=
    ((Kp.refl _ _).grown hg (fun r hr _ => .inr hr.symm)).setCell (fun _ => .inl rfl) _
  refine ⟨setCell_heap ((hg.block bn hnl hn0).trans h.nblk), ?_, hK.heap h.lblk (fun e => ?_), hK.own h.lown (fun y hy e => ?_), h.vlen, fun i t p ht hp => ?_, fun y hy hy' => ?_, h.lo⟩
  · rw [List.map_append, List.length_append]
    exact hown.kept grownSet (.inr (by simp [Value.ownBlock]; omega))
  · rcases e with e | e
    · exact h3 e.symm
    · exact hl0 e
  · rcases e with e | e
    · have := (h.lown.lt _ hy).1; omega
    · exact h.apart y e.symm hy
  · refine ((h.each i t p ht hp).keep (hK.kept fun y hy => ⟨hy.2.1, fun e => ?_⟩)).more fun y hy => ⟨hy.1, Nat.lt_of_lt_of_le hy.2.1 hK.size, fun e => ?_, hy.2.2.2⟩
    · rcases e with e | e
      · have := hy.1; omega
      · exact hy.2.2.1 e
    · injection e with e
      subst e
      rcases hat with e | e
      · exact hy.2.2.1 e.symm
      · have := hy.2.1; omega
  · injection hy with hy
    exact hrow y hy' hy.symm

theorem flat2_set {vs : List (Value × Value)} {z0 z1 u v : Value} : ((flat2 vs ++ [z0, z1]).set (vs.length * 2) u).set (vs.length * 2 + 1) v = flat2 (vs ++ [(u, v)]) := by
  rw [flat2_append]
  have hl := flat2_length vs
  rw [List.set_append_right _ _ (by omega), List.set_append_right _ _ (by omega)]
  have e1 : vs.length * 2 - (flat2 vs).length = 0 := by omega
  have e2 : vs.length * 2 + 1 - (flat2 vs).length = 1 := by omega
  rw [e1, e2]
  rfl

theorem MSt.pushL {bn bl B : Nat} {ns : List (List UInt8)} {ls : List Ty} {nv lv : Value} {vs : List (Value × Value)} {w w1 : World} {t : Ty} {u v z0 z1 : Value} {g cap : Nat} (h : MSt bn bl B (ns, ls) nv lv vs w)
    (ht : TyIs w (fun x => B ≤ x ∧ x < w.heap.size ∧ some x ≠ nv.ownBlock ∧ some x ≠ lv.ownBlock) t u v)
    (hg : w.grownBy w1 lv.ownBlock) (hown : w1.ownsRow B 35 2 (.slice (some ⟨g, 0, none⟩) (ls.length + 1) cap) (ls.length + 1) (flat2 vs ++ [z0, z1])) (hat : lv.ownBlock = some g ∨ g = w.heap.size) :
    MSt bn bl B (ns, ls ++ [t]) nv (.slice (some ⟨g, 0, none⟩) (ls.length + 1) cap) (vs ++ [(u, v)]) (((w1.setCell ⟨g, ls.length * 2, none⟩ u).setCell ⟨g, ls.length * 2 + 1, none⟩ v).setCell ⟨bl, 0, none⟩ (.slice (some ⟨g, 0, none⟩) (ls.length + 1) cap)) := by
  obtain ⟨h1, h2, h3⟩ := h.lo
  have hgB : B ≤ g := (hown.lt g rfl).1
  have hnl := lt_of_heap h.nblk
  have hll := lt_of_heap h.lblk
  have hn0 : some bn ≠ lv.ownBlock := fun e => by have := (h.lown.lt _ e.symm).1; omega
  have hl0 : some bl ≠ lv.ownBlock := fun e => by have := (h.lown.lt _ e.symm).1; omega
  have hrow : ∀ y, nv.ownBlock = some y → y ≠ g := fun y hy e => by
    subst e
    rcases hat with e | e
    · exact h.apart _ hy e
    · have := (h.nown.lt _ hy).2; omega
  have hs1 := hown.stored (ls.length * 2) u
  have hs2 := hs1.1.stored (ls.length * 2 + 1) v
  have hK1 : Kp (fun y => y = g ∨ some y = lv.ownBlock) w ((w1.setCell ⟨g, ls.length * 2, none⟩ u).setCell ⟨g, ls.length * 2 + 1, none⟩ v) :=
    (((Kp.refl _ _).grown hg (fun r hr _ => .inr hr.symm)).setCell (fun _ => .inl rfl) _).setCell (fun _ => .inl rfl) _
  have hK : Kp (fun y => y = bl ∨ y = g ∨ some y = lv.ownBlock) w (((w1.setCell ⟨g, ls.length * 2, none⟩ u).setCell ⟨g, ls.length * 2 + 1, none⟩ v).setCell ⟨bl, 0, none⟩ (.slice (some ⟨g, 0, none⟩) (ls.length + 1) cap)) :=
    (hK1.more fun y _ hy => .inr hy).setCell (fun _ => .inl rfl) _
  have hfar : ∀ y, y < w.heap.size → some y ≠ lv.ownBlock → y ≠ g := fun y hy hne e => by
    subst e
    rcases hat with e | e
    · exact hne e.symm
    · omega
  refine ⟨hK.heap h.nblk (fun e => ?_), hK.own h.nown (fun y hy e => ?_), ?_, ?_, by simp [h.vlen], fun i t' p ht' hp => ?_, fun y hy hy' => ?_, h.lo⟩
  · rcases e with e | e | e
    · exact h3 e
    · omega
    · exact hn0 e
  · rcases e with e | e | e
    · have := (h.nown.lt _ hy).1; omega
    · exact hrow y hy e
    · exact h.apart y hy e.symm
  · refine setCell_heap (cs := #[lv]) (hK1.heap h.lblk (fun e => ?_))
    rcases e with e | e
    · omega
    · exact hl0 e
  · have hx := hs2.1
    rw [show ls.length = vs.length from h.vlen.symm, flat2_set] at hx
    rw [List.length_append]
    rw [show vs.length = ls.length from h.vlen] at hx
    exact hx.kept grownSet (.inr (by simp [Value.ownBlock]; omega))
  · refine TyIs.more (S := fun x => B ≤ x ∧ x < w.heap.size ∧ some x ≠ nv.ownBlock ∧ some x ≠ lv.ownBlock) (TyIs.keep (w := w) ?_ (hK.kept fun y hy => ⟨hy.2.1, fun e => ?_⟩)) fun y hy => ⟨hy.1, Nat.lt_of_lt_of_le hy.2.1 hK.size, hy.2.2.1, fun e => ?_⟩
    · rcases Nat.lt_trichotomy i ls.length with hi | hi | hi
      · rw [List.getElem?_append_left hi] at ht'
        rw [List.getElem?_append_left (by rw [h.vlen]; exact hi)] at hp
        exact h.each i t' p ht' hp
      · subst hi
        have hv := h.vlen
        simp only at hv
        rw [List.getElem?_append_right (Nat.le_refl _)] at ht'
        rw [List.getElem?_append_right (by rw [hv]; exact Nat.le_refl _)] at hp
        simp [hv] at ht' hp
        subst ht' hp
        exact ht
      · have := (List.getElem?_eq_some_iff.1 ht').1
        simp at this
        omega
    · rcases e with e | e | e
      · have := hy.1; omega
      · exact hfar y hy.2.1 hy.2.2.2 e
      · exact hy.2.2.2 e
    · injection e with e
      exact hfar y hy.2.1 hy.2.2.2 e
  · injection hy' with hy'
    exact hrow y hy hy'.symm
end
end Go.Proofs.Ytiijlecidepneaa
