/-
  The walk of types.Match.
  Conditions: the arguments read as types; the pattern has at most 4000000 nodes.
-/
import Derived.Test.YtiijlecidepneaaMatchC
import Derived.Deep.QuietTactic
import Derived.BigQuiet
namespace Go.Proofs.Ytiijlecidepneaa
open Go.RowKit

theorem alloc4 (w : World) (a b c d : Obj) : ((((w.alloc a).alloc b).alloc c).alloc d).heap[w.heap.size + 2]? = some c ∧ ((((w.alloc a).alloc b).alloc c).alloc d).heap[w.heap.size + 3]? = some d := by
  refine ⟨?_, ?_⟩
  · rw [heap_alloc_old]
    · exact (alloc3 w a b c).2.2
    · simp
  · have := alloc1 (((w.alloc a).alloc b).alloc c) d
    simpa using this

/-- Match found what makes the type. -/
def MatchYes (f : Found) (w : World) (e : Ending) (w' : World) : Prop :=
  ∃ (A A' : Option Addr) (n c n' c' : Nat) (vs : List (Value × Value)), e = .returned (.tuple #[.slice A n c, .slice A' n' c', .bool true]) ∧ n = f.1.length ∧ n' = f.2.length ∧ Row w' (Fr w.heap.size w'.heap.size) A (f.1.map sv) ∧ Tys w' (Fr w.heap.size w'.heap.size) A' f.2 vs ∧ Below w.heap.size w w'

/-- The same, with the room of the slices. -/
def MatchYes2 (f : Found) (w : World) (e : Ending) (w' : World) : Prop :=
  ∃ (A A' : Option Addr) (n c n' c' : Nat) (vs : List (Value × Value)), (e = .returned (.tuple #[.slice A n c, .slice A' n' c', .bool true]) ∧ n = f.1.length ∧ n' = f.2.length ∧ Row w' (Fr w.heap.size w'.heap.size) A (f.1.map sv) ∧ Tys w' (Fr w.heap.size w'.heap.size) A' f.2 vs ∧ Below w.heap.size w w') ∧ n' ≤ c' ∧ c' ≤ maxLen

def Nope (v : Value) (w : World) (e : Ending) (w' : World) : Prop := e = .returned v ∧ Below w.heap.size w w'

set_option maxHeartbeats 4000000 in
set_option maxRecDepth 100000 in
theorem matchTop2 (p t : Ty) (u v u' v' : Value) (w : World) (hp : TyIs w (Lt w.heap.size) p u v) (ht : TyIs w (Lt w.heap.size) t u' v') (hsz : p.size ≤ 3518437208883) :
    Calls Try.prog 41 #[.agg #[u, v], .agg #[u', v']] w (fun e w' => if (mtch p t ([], [])).1 = true then MatchYes2 (mtch p t ([], [])).2 w e w' else Nope (.tuple #[.slice none 0 0, .slice none 0 0, .bool false]) w e w') := by
  obtain ⟨u, v, rfl, rfl⟩ := hp.shape
  obtain ⟨u', v', rfl, rfl⟩ := ht.shape
  obtain ⟨b, f, hr⟩ : ∃ b f, mtch p t ([], []) = (b, f) := ⟨_, _, rfl⟩
  rw [hr]
  have HR := Lib.hid hr
  clear hr
  go_enter Try.func41, Try.ntmps41
  go_wp2_with fail
  have hb4 : Below w.heap.size w ((((w.alloc (.cells #[sv u, .slice v.1 v.2.1 v.2.2] 35)).alloc (.cells #[sv u', .slice v'.1 v'.2.1 v'.2.2] 35)).alloc (.cells #[.slice none 0 0] 37)).alloc (.cells #[.slice none 0 0] 33)) :=
    ((((Below.refl _ _).alloc (Nat.le_refl _) _).alloc (by simp) _).alloc (by simp; omega) _).alloc (by simp; omega) _
  have hq := alloc4 w (.cells #[sv u, .slice v.1 v.2.1 v.2.2] 35) (.cells #[sv u', .slice v'.1 v'.2.1 v'.2.2] 35) (.cells #[.slice none 0 0] 37) (.cells #[.slice none 0 0] 33)
  have hM : MSt (w.heap.size + 1 + 1) (w.heap.size + 1 + 1 + 1) (w.heap.size + 4) ([], []) (.slice none 0 0) (.slice none 0 0) [] _ :=
    ⟨hq.1, World.ownsRow_nil _ _ _ _, hq.2, World.ownsRow_nil _ _ _ _, rfl, fun i t p ht => by simp at ht, fun g h => by simp [Value.ownBlock] at h, by omega, by omega, by omega⟩
  have haw : ∀ y, Lt w.heap.size y → Away (w.heap.size + 4) (w.heap.size + 1 + 1) (w.heap.size + 1 + 1 + 1) y := fun y hy => by unfold Lt at hy; exact ⟨by omega, by omega, by omega⟩
  have hsz4 : ((((w.alloc (.cells #[sv u, .slice v.1 v.2.1 v.2.2] 35)).alloc (.cells #[sv u', .slice v'.1 v'.2.1 v'.2.2] 35)).alloc (.cells #[.slice none 0 0] 37)).alloc (.cells #[.slice none 0 0] 33)).heap.size = w.heap.size + 4 := by simp
  have hma := match_any p t ([], []) _ _ _ _ _ _ _ _ _ _ _ ((hp.lower hb4).more haw) ((ht.lower hb4).more haw) hM (by omega) rfl (by simpa using hsz)
  rw [HR.out] at hma
  refine hma.mono ?_
  clear hma
  rintro e w1 ⟨nv', lv', vs', rfl, hM1, hK1, hm1⟩
  have hb1 : Below w.heap.size w w1 := by
    refine ⟨hK1.os.trans hb4.os, hK1.tape.trans hb4.tape, hK1.output.trans hb4.output, Nat.le_trans hb4.size hK1.size, fun y hy => ?_⟩
    rw [hK1.block y (by omega) (fun e => ?_), hb4.block y hy]
    rcases e with e | e | e | e
    · omega
    · omega
    · simp [Value.ownBlock] at e
    · simp [Value.ownBlock] at e
  obtain ⟨A3, c3, rfl, _, _⟩ := ownShape hM1.nown
  obtain ⟨A4, c4, rfl, hc41, hc42⟩ := ownShape hM1.lown
  have n0 : w1.cell? ⟨w.heap.size + 1 + 1, 0, none⟩ = some (.slice A3 f.1.length c3) := by rw [Lib.cell_of_heap hM1.nblk]; rfl
  have l0 : w1.cell? ⟨w.heap.size + 1 + 1 + 1, 0, none⟩ = some (.slice A4 f.2.length c4) := by rw [Lib.cell_of_heap hM1.lblk]; rfl
  have HM1 := Lib.hid hM1
  clear hM1 hM hq hsz4
  cases b with
  | true =>
    go_wp2_with fail
    go_quiet (fail)
    go_wp2_with fail
    refine bodyPost_ret (v := .tuple #[.slice A3 f.1.length c3, .slice A4 f.2.length c4, .bool true]) (by simp [results, Try.results41, go_sem]) rfl ?_
    refine ⟨A3, A4, _, c3, _, c4, vs', ⟨rfl, rfl, rfl, ?_, ⟨HM1.out.vlen, ?_, fun i t p ht hp => ?_⟩, belowDrewN hb1 _⟩, hc41, hc42⟩
    · exact (Row.ofOwn HM1.out.nown fun g _ h1 h2 => ⟨by omega, h2⟩ : Row w1 (Fr w.heap.size w1.heap.size) A3 (f.1.map sv)).keep fun _ _ => rfl
    · exact (Row.ofOwn HM1.out.lown fun g _ h1 h2 => ⟨by omega, h2⟩ : Row w1 (Fr w.heap.size w1.heap.size) A4 (flat2 vs')).keep fun _ _ => rfl
    · exact ((HM1.out.each i t p ht hp).more fun y hy => (⟨by omega, hy.2.1⟩ : Fr w.heap.size w1.heap.size y)).keep fun _ _ => rfl
  | false =>
    go_wp2_with fail
    refine bodyPost_ret (v := .tuple #[.slice none 0 0, .slice none 0 0, .bool false]) (by simp [results, Try.results41, go_sem]) rfl ?_
    exact ⟨rfl, hb1⟩
theorem matchTop (p t : Ty) (u v u' v' : Value) (w : World) (hp : TyIs w (Lt w.heap.size) p u v) (ht : TyIs w (Lt w.heap.size) t u' v') (hsz : p.size ≤ 3518437208883) :
    Calls Try.prog 41 #[.agg #[u, v], .agg #[u', v']] w (fun e w' => if (mtch p t ([], [])).1 = true then MatchYes (mtch p t ([], [])).2 w e w' else Nope (.tuple #[.slice none 0 0, .slice none 0 0, .bool false]) w e w') :=
  (matchTop2 p t u v u' v' w hp ht hsz).mono fun e w' h => by
    split at h
    · rename_i hm
      rw [if_pos hm]
      obtain ⟨A, A', n, c, n', c', vs, h, _⟩ := h
      exact ⟨A, A', n, c, n', c', vs, h⟩
    · rename_i hm
      rw [if_neg hm]
      exact h
end Go.Proofs.Ytiijlecidepneaa
