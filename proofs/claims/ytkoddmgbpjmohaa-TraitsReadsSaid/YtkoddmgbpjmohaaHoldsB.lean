/-
  The state of Holds in memory: the goals so far in a row, what is known of them in a map, the implementations and the supers.
  Conditions: those of each theorem.
-/
import Derived.Test.YtkoddmgbpjmohaaDfs
import Derived.Maps.Own
import Derived.Maps.Views
namespace Go.Proofs.Ytkoddmgbpjmohaa
open Go.RowKit
open Go.Maps (Keyed int_keyed keyOf_int_mk atKey_put_same atKey_put_other)


set_option maxRecDepth 100000 in
theorem keyLaw : Keyed Try.prog 3 := int_keyed Try.underlying3

/-- In w block b is a map of what is known of the goals. -/
def MapRd (w : World) (b : Nat) (st : DSt) : Prop :=
  ∃ (n : Nat) (D : DataW Unit), n ≤ decd st ∧ w.ownsMap Try.prog 3 (plainElem (H := Unit) Try.prog 4) b n D ∧ ∀ k : Nat, D.atKey (.int .i64 k) (.lit (.bool false)) = .lit (.bool (knownAt st k))

set_option maxRecDepth 100000 in
theorem MapRd.kept {w w' : World} {row : Option Nat} {b : Nat} {st : DSt} (h : MapRd w b st) (hg : w.grownBy w' row) (hne : some b ≠ row) : MapRd w' b st := by
  obtain ⟨n, D, h1, h2, h3⟩ := h
  exact ⟨n, D, h1, h2.kept hg hne, h3⟩
set_option maxRecDepth 100000 in
theorem MapRd.look {w : World} {b : Nat} {st : DSt} (h : MapRd w b st) (k : Nat) (hk : k < 1000000000) (hz : (zeroValue 4).run Try.prog w = .ok (.bool false) w) :
    (Instr.lookup 54 (.map (some b)) (.int .i64 (k : Int)) false).run Try.prog w = .ok (.bool (knownAt st k)) w := by
  obtain ⟨n, D, h1, h2, h3⟩ := h
  obtain ⟨v, ps, hrun, hv⟩ := h2.lookup keyLaw Try.underlying54 hz (plainElem_bool Try.underlying4 false) (keyOf_int_mk Try.underlying3 (a := (k : Int)) (WalkArith.wf_i64 (by omega)))
  rw [h3 k] at hv
  rw [hrun]
  have : v = .bool (knownAt st k) := by
    unfold plainElem at hv
    rw [Try.underlying4] at hv
    cases v <;> simp at hv
    rw [hv.1]
  rw [this]
set_option maxRecDepth 100000 in
theorem MapRd.push {w : World} {b : Nat} {st : DSt} (h : MapRd w b st) (g : Goal) : MapRd w b (st ++ [(g, none)]) := by
  obtain ⟨n, D, h1, h2, h3⟩ := h
  exact ⟨n, D, by rw [decd_push]; exact h1, h2, fun k => by rw [known_push]; exact h3 k⟩

/-- The closure that Holds makes: its captured variables lie at B and behind it. -/
abbrev holdsV (B : Nat) : Value := .func (.func 18) #[] #[.pointer (some ⟨B + 3, 0, none⟩), .pointer (some ⟨B + 5, 0, none⟩), .pointer (some ⟨B, 0, none⟩), .pointer (some ⟨B + 1, 0, none⟩), .pointer (some ⟨B + 6, 0, none⟩)]

structure Ctx (B : Nat) (l : List Hdr) (s : List (List UInt8 × List UInt8)) (w : World) : Prop where
  lblk : ∃ (LA : Option Addr) (lc : Nat) (qs : List HV), w.heap[B]? = some (.cells #[.slice LA l.length lc] 41 (0, 0)) ∧ (LA = none → lc = 0) ∧ Hds w (Lt B) LA l qs
  sblk : ∃ (SA : Option Addr) (sc : Nat), w.heap[B + 1]? = some (.cells #[.slice SA s.length sc] 53 (0, 0)) ∧ Row w (Lt B) SA (flat2 (s.map pairV))
  mblk : w.heap[B + 5]? = some (.cells #[.map (some (B + 4))] 54 (0, 0))
  hblk : w.heap[B + 6]? = some (.cells #[holdsV B] 55 (0, 0))
  few : s.length ≤ 1000000

set_option maxRecDepth 100000 in
theorem Ctx.keep {B : Nat} {l : List Hdr} {s : List (List UInt8 × List UInt8)} {w w' : World} {M : Nat → Prop} (h : Ctx B l s w) (hk : Kp M w w') (hM : ∀ y, M y → y = B + 3 ∨ y = B + 4 ∨ B + 7 ≤ y) : Ctx B l s w' := by
  have hh := lt_of_heap h.hblk
  have hS : Kept (Lt B) w w' := hk.kept fun b hb => ⟨by unfold Lt at hb; omega, fun e => by have := hM b e; unfold Lt at hb; omega⟩
  obtain ⟨LA, lc, qs, h1, h2, h3⟩ := h.lblk
  obtain ⟨SA, sc, h4, h5⟩ := h.sblk
  exact ⟨⟨LA, lc, qs, hk.heap h1 (fun e => by have := hM _ e; omega), h2, h3.keep hS⟩, ⟨SA, sc, hk.heap h4 (fun e => by have := hM _ e; omega), h5.keep hS⟩, hk.heap h.mblk (fun e => by have := hM _ e; omega), hk.heap h.hblk (fun e => by have := hM _ e; omega), h.few⟩

/-- Blocks that Holds does not write. -/
def Offb (B : Nat) (ov : Value) (n y : Nat) : Prop := y < n ∧ y ≠ B + 3 ∧ y ≠ B + 4 ∧ some y ≠ ov.ownBlock
/-- Blocks that it writes. -/
def MB (B : Nat) (ov : Value) (y : Nat) : Prop := y = B + 3 ∨ y = B + 4 ∨ some y = ov.ownBlock
set_option maxRecDepth 100000 in
theorem Offb.not {B : Nat} {ov : Value} {n y : Nat} (h : Offb B ov n y) : ¬ MB B ov y := fun e => by
  rcases e with e | e | e
  · exact h.2.1 e
  · exact h.2.2.1 e
  · exact h.2.2.2 e

structure HSt (B : Nat) (l : List Hdr) (s : List (List UInt8 × List UInt8)) (st : DSt) (ov : Value) (vs : List GV) (w : World) : Prop where
  gblk : w.heap[B + 3]? = some (.cells #[ov] 32 (0, 0))
  own : w.ownsRow (B + 7) 28 3 ov st.length (flat3 vs)
  vlen : vs.length = st.length
  each : ∀ (i : Nat) (x : Goal × Option Bool) (q : GV), st[i]? = some x → vs[i]? = some q → GlIs w (Offb B ov w.heap.size) x.1 q
  known : MapRd w (B + 4) st
  ctx : Ctx B l s w

set_option maxRecDepth 100000 in
theorem HSt.mb {B : Nat} {l : List Hdr} {s : List (List UInt8 × List UInt8)} {st : DSt} {ov : Value} {vs : List GV} {w : World} (h : HSt B l s st ov vs w) : ∀ y, MB B ov y → y = B + 3 ∨ y = B + 4 ∨ B + 7 ≤ y := fun y hy => by
  rcases hy with e | e | e
  · exact .inl e
  · exact .inr (.inl e)
  · exact .inr (.inr (h.own.lt y e.symm).1)
set_option maxRecDepth 100000 in
theorem HSt.kept {B : Nat} {l : List Hdr} {s : List (List UInt8 × List UInt8)} {st : DSt} {ov : Value} {vs : List GV} {w w' : World} (h : HSt B l s st ov vs w) (hb : Below w.heap.size w w') : HSt B l s st ov vs w' := by
  have hk : Kp (fun _ => False) w w' := Kp.ofBelow hb
  exact ⟨hk.heap h.gblk (fun e => e), hk.own h.own (fun _ _ e => e), h.vlen, fun i x q hx hq => ((h.each i x q hx hq).keep (hk.kept fun y hy => ⟨hy.1, fun e => e⟩)).more fun y hy => ⟨Nat.lt_of_lt_of_le hy.1 hb.size, hy.2⟩, h.known.kept (grownOfBelow hb) (by simp), h.ctx.keep hk (fun y e => e.elim)⟩

set_option maxRecDepth 100000 in
theorem HSt.push {B : Nat} {l : List Hdr} {s : List (List UInt8 × List UInt8)} {st : DSt} {ov : Value} {vs : List GV} {w w1 : World} {x : Goal} {q : GV} {g cap : Nat} (h : HSt B l s st ov vs w)
    (hx : GlIs w (Offb B ov w.heap.size) x q) (hg : w.grownBy w1 ov.ownBlock) (hown : w1.ownsRow (B + 7) 28 3 (.slice (some ⟨g, 0, none⟩) (st.length + 1) cap) (st.length + 1) (flat3 vs ++ [q.1, q.2.1, q.2.2]))
    (hat : ov.ownBlock = some g ∨ g = w.heap.size) : HSt B l s (st ++ [(x, none)]) (.slice (some ⟨g, 0, none⟩) (st.length + 1) cap) (vs ++ [q]) (w1.setCell ⟨B + 3, 0, none⟩ (.slice (some ⟨g, 0, none⟩) (st.length + 1) cap)) ∧
      Kp (MB B ov) w (w1.setCell ⟨B + 3, 0, none⟩ (.slice (some ⟨g, 0, none⟩) (st.length + 1) cap)) := by
  have hK1 : Kp (MB B ov) w w1 := (Kp.refl _ _).grown hg (fun r hr _ => .inr (.inr hr.symm))
  have hK : Kp (MB B ov) w (w1.setCell ⟨B + 3, 0, none⟩ (.slice (some ⟨g, 0, none⟩) (st.length + 1) cap)) := hK1.setCell (fun _ => .inl rfl) _
  have hgl := lt_of_heap h.gblk
  have hgg : some (B + 3) ≠ ov.ownBlock := fun e => by have := (h.own.lt _ e.symm).1; omega
  have hgb := (hown.lt g rfl).1
  refine ⟨⟨setCell_heap ((hg.block _ hgl hgg).trans h.gblk), ?_, by simp [h.vlen], fun i y p hy hp => ?_, ?_, h.ctx.keep hK h.mb⟩, hK⟩
  · rw [List.length_append, flat3_append]
    exact hown.kept grownSet (.inr (by simp [Value.ownBlock]; omega))
  · refine GlIs.more (S := Offb B ov w.heap.size) (GlIs.keep (w := w) ?_ (hK.kept fun b hb => ⟨hb.1, hb.not⟩)) fun b hb => ⟨Nat.lt_of_lt_of_le hb.1 hK.size, hb.2.1, hb.2.2.1, fun e => ?_⟩
    · rcases Nat.lt_trichotomy i st.length with hi | hi | hi
      · rw [List.getElem?_append_left hi] at hy
        rw [List.getElem?_append_left (by rw [h.vlen]; exact hi)] at hp
        exact h.each i y p hy hp
      · subst hi
        have hv := h.vlen
        rw [List.getElem?_append_right (Nat.le_refl _)] at hy
        rw [List.getElem?_append_right (by rw [hv]; exact Nat.le_refl _)] at hp
        simp [hv] at hy hp
        subst hy hp
        exact hx
      · have := (List.getElem?_eq_some_iff.1 hy).1
        simp at this
        omega
    · have e : b = g := Option.some.inj e
      subst e
      rcases hat with e | e
      · exact hb.2.2.2 e.symm
      · have := hb.1; omega
  · refine ((h.known.push x).kept hg (fun e => ?_)).kept grownSet (fun e => ?_)
    · have := (h.own.lt _ e.symm).1; omega
    · have := Option.some.inj e; omega

/-- The law at the store 'known[k] = ok'. -/
theorem HSt.mark {B : Nat} {l : List Hdr} {s : List (List UInt8 × List UInt8)} {st m : DSt} {ov : Value} {vs : List GV} {w w1 : World} {x : Goal} {ok : Bool} {n : Nat} {D : DataW Unit} (h : HSt B l s (st ++ (x, none) :: m) ov vs w)
    (hn : n ≤ decd (st ++ (x, none) :: m)) (hD : ∃ es, D = .map es) (hat : ∀ k : Nat, D.atKey (.int .i64 k) (.lit (.bool false)) = .lit (.bool (knownAt (st ++ (x, none) :: m) k)))
    (hg : w.grownBy w1 (some (B + 4))) (hm : w1.ownsMap Try.prog 3 (plainElem (H := Unit) Try.prog 4) (B + 4) (n + 1) (D.put (.int .i64 (st.length : Nat)) (.lit (.bool ok)))) :
    HSt B l s ((st ++ (x, none) :: m).set st.length (x, some ok)) ov vs w1 ∧ Kp (MB B ov) w w1 := by
  have hK : Kp (MB B ov) w w1 := (Kp.refl _ _).grown hg (fun r hr _ => .inr (.inl (Option.some.inj hr).symm))
  have hl : st.length < (st ++ (x, none) :: m).length := by simp
  refine ⟨⟨(hg.block _ (lt_of_heap h.gblk) (by simp)).trans h.gblk, ?_, ?_, fun i y p hy hp => ?_, ⟨n + 1, _, ?_, hm, fun k => ?_⟩, h.ctx.keep hK h.mb⟩, hK⟩
  · rw [List.length_set]
    refine h.own.kept hg ?_
    by_cases e : ov.ownBlock = none
    · exact .inl e
    · right
      intro e2
      have := (h.own.lt _ e2).1
      omega
  · rw [List.length_set]; exact h.vlen
  · refine GlIs.more (S := Offb B ov w.heap.size) (GlIs.keep (w := w) ?_ (hK.kept fun b hb => ⟨hb.1, hb.not⟩)) fun b hb => ⟨Nat.lt_of_lt_of_le hb.1 hK.size, hb.2⟩
    by_cases hi : i = st.length
    · subst hi
      rw [List.getElem?_set_self hl] at hy
      cases hy
      exact h.each _ (x, none) p (by simp) hp
    · rw [List.getElem?_set_ne (fun e => hi e.symm)] at hy
      exact h.each i y p hy hp
  · rw [decd_mark]; omega
  · rw [known_mark _ _ _ _ _ hl]
    by_cases hk : k = st.length
    · rw [if_pos hk, hk, atKey_put_same hD (by trivial)]
    · rw [if_neg hk, atKey_put_other (fun e => hk (by injection e; omega)), hat]

def HRes (B : Nat) (l : List Hdr) (s : List (List UInt8 × List UInt8)) (r : Bool × DSt) (ov : Value) (w : World) (e : Ending) (w' : World) : Prop :=
  ∃ (ov' : Value) (vs' : List GV), e = .returned (.bool r.1) ∧ HSt B l s r.2 ov' vs' w' ∧ Kp (MB B ov) w w' ∧ ∀ y, ov'.ownBlock = some y → ov.ownBlock = some y ∨ w.heap.size ≤ y
end Go.Proofs.Ytkoddmgbpjmohaa
