/-
  The walks of maps.Keys over a map of binds, its iterator, slices.AppendSeq, slices.Collect, slices.SortedFunc.
  Conditions: the map lies in memory; it has at most 2^20 entries.
-/
import Derived.Test.YtcliegpofhjpcaaMdS
import Derived.Test.YtcliegpofhjpcaaBrx
import Derived.RangeFuncNested
import Derived.RangeFuncBound
import Derived.RangeFuncCalls
import Derived.RangeFuncLeaves
import Derived.Shelf.Abstract
import Derived.Shelf.RegionOpen
import Derived.WalkKit
import Derived.OwnWalkIn
import Derived.TacticsInMore
import Derived.LoopNIn
import Derived.LoopIn
import Derived.RangeFuncGives
import Derived.RangeFuncWrites
import Derived.RangeFuncKeeps
import Derived.RangeFuncBox
import Derived.Maps.AppendAt
namespace Go.Proofs.Ytcliegpofhjpcaa
open Go.RowKit Go.Shelf

theorem infoBind : (Try.prog.info? 42).map (fun i => (i.zero, i.size, i.bytes)) = some (some (.agg #[.string ⟨#[]⟩, .string ⟨#[]⟩]), 2, 32) := by kernel_rfl
def bkE (p : Key × Bool) : Value × Value := (bdV p.1, .bool p.2)
set_option maxRecDepth 100000 in
set_option maxHeartbeats 1000000 in
theorem keysB_stops (F : Fence) (n : Nat) (hF : F.fn 32) (hro : F.round = none) (hn : 1 ≤ n) (Bm b : Nat) (L : List (Key × Bool)) (w : World) (hBm : Bm < w.heap.size)
    (hm : w.cell? ⟨Bm, 0, none⟩ = some (.map (some b))) (hM : MapAt w b (L.map bkE)) :
    SeqStopsK F n Try.prog 32 #[.pointer (some ⟨Bm, 0, none⟩)] (fun k => #[bdV k]) KeepsWalks (fun ss => ss.Perm (L.map (·.1))) (fun _ => True) L.length w := fun l J Jx W hW hJ _ hY h0 => by
  have hMW : MapAt W b (L.map bkE) := hM.same (hW.block b hM.lt)
  have hmW : W.cell? ⟨Bm, 0, none⟩ = some (.map (some b)) := (hW.cell (p := ⟨Bm, 0, none⟩) hBm).trans hm
  obtain ⟨w0, hrun, hrx, hg0⟩ := run_rangeX_start (P := Try.prog) hMW Try.underlying53
  have hJ0 := hJ [] W w0 none h0 hg0 (fun r e => by cases e)
  refine callsIn_of_wp Try.func32 rfl hF ?_ hro
  simp only [Try.ntmps32, List.size_toArray, List.length_cons, List.length_nil, Nat.reduceAdd, Nat.reduceSub, Array.replicate_succ, Array.replicate_zero, List.push_toArray, List.append_toArray, List.nil_append, List.cons_append]
  gi_wp2
  clear hrun
  gi_loopw [3] (fun _ wr => ∃ (ss : List Key) (done : List (Value × Value)), RangeX wr b W.heap.size (L.map bkE) done ∧ J ss wr ∧ ss.Nodup ∧ ss.length = done.length ∧ (∀ k, k ∈ ss ↔ ∃ v, (k, v) ∈ L ∧ bkE (k, v) ∈ done))
    (fun _ wr => rangeLeft wr b W.heap.size)
  case atStart =>
    exact ⟨[], [], hrx, hJ0, .nil, rfl, fun k => ⟨(fun h => by cases h), fun ⟨v, _, h⟩ => by cases h⟩⟩
  case round =>
    obtain ⟨ss, done, hrg, hJs, hnd, hlen, hss⟩ := hrel
    have hfew := hrg.few
    rw [List.length_map] at hfew
    rcases run_rangeX_next (P := Try.prog) hrg 0 with ⟨hall, hrun⟩ | ⟨kv, vv, w2, hkl, hkd, hrun, hrg2, hg2, hlt, hen⟩
    · have hperm : ss.Perm (L.map (·.1)) := by
        have hn2 := nodup_of_map (kE := bdV) (vE := fun v => Value.bool v) hMW
        refine (List.perm_ext_iff_of_nodup hnd hn2).2 fun k => ?_
        rw [hss k, List.mem_map]
        constructor
        · rintro ⟨v, h1, _⟩
          exact ⟨(k, v), h1, rfl⟩
        · rintro ⟨⟨k', v⟩, h1, rfl⟩
          exact ⟨v, h1, hall _ (List.mem_map_of_mem h1)⟩
      gi_wp2
      go_end0
      exact ⟨⟨_, rfl⟩, .inl ⟨ss, hperm, hJs⟩⟩
    · obtain ⟨q, hq, hqe⟩ := List.mem_map.1 hkl
      obtain ⟨k, v⟩ := q
      obtain ⟨rfl, rfl⟩ : bdV k = kv ∧ Value.bool v = vv := ⟨congrArg Prod.fst hqe, congrArg Prod.snd hqe⟩
      have hJ2 : J ss w2 := hJ ss wr w2 (some W.heap.size) hJs hg2 (fun r e => by cases e; exact ⟨Nat.le_refl _, hrg.walk⟩)
      have hJ3 : J ss (w2.alloc (.cells #[sv k.1, sv k.2] 42)) := hJ ss w2 _ none hJ2 (grownOfBelow ((Below.refl _ _).alloc (Nat.le_refl _) _)) (fun r e => by cases e)
      have hrg3 := hrg2.same (w' := w2.alloc (.cells #[sv k.1, sv k.2] 42)) (heap_alloc_old _ _ hrg2.ltb) (heap_alloc_old _ _ hrg2.lt)
      have hleft3 : rangeLeft (w2.alloc (.cells #[sv k.1, sv k.2] 42)) b W.heap.size = rangeLeft w2 b W.heap.size := rangeLeft_same (heap_alloc_old _ _ hrg2.ltb) (heap_alloc_old _ _ hrg2.lt)
      have hf2 := hrg2.few
      rw [List.length_map, List.length_cons] at hf2
      have hkn : k ∉ ss := fun hk => by
        obtain ⟨v', h1, h2⟩ := (hss k).1 hk
        have hn2 := nodup_of_map (kE := bdV) (vE := fun v => Value.bool v) hMW
        have hv : v' = v := by
          have := glook_mem hn2 h1
          rw [glook_mem hn2 hq] at this
          exact (Option.some.inj this).symm
        subst hv
        exact hkd h2
      obtain ⟨fn, tmps, assign, body, hy, hR⟩ := hY ss k _ hJ3 (by omega)
      have HHY := Lib.hid hY
      clear hY
      gi_wp2
      refine hR.mono ?_
      rintro e W3 (⟨rfl, hJ4, hk4⟩ | ⟨rfl, hJx⟩)
      case inr =>
        clear hrun hen hy hR
        gi_wp2
        refine bodyPost_ret (results_none rfl _ _ _) rfl ?_
        exact ⟨⟨_, rfl⟩, .inr ⟨_, trivial, hJx⟩⟩
      obtain ⟨hrg4, hl4⟩ := hrg3.of_walks hk4
      clear hrun hen hy hR
      gi_wp2
      go_roundw
      case rel =>
        refine ⟨ss ++ [k], (bdV k, .bool v) :: done, hrg4, hJ4, ?_, by simp [hlen], fun k' => ?_⟩
        · exact List.nodup_append.2 ⟨hnd, List.nodup_cons.2 ⟨(fun h => by cases h), .nil⟩, fun a ha b hb e => by rw [List.mem_singleton.1 hb] at e; exact hkn (e ▸ ha)⟩
        · rw [List.mem_append, hss k', List.mem_singleton]
          constructor
          · rintro (⟨v', h1, h2⟩ | rfl)
            · exact ⟨v', h1, List.mem_cons_of_mem _ h2⟩
            · exact ⟨v, hq, List.mem_cons_self⟩
          · rintro ⟨v', h1, h2⟩
            rcases List.mem_cons.1 h2 with h3 | h3
            · exact .inr (bdV_inj (congrArg Prod.fst h3))
            · exact .inl ⟨v', h1, h3⟩
      case measure =>
        rw [hl4, hleft3]
        exact hlt

attribute [local go_sem] Oper.semAt_some

/-- The keys, each once, in a row of one's own. -/
def KeysRes (L : List (Key × Bool)) (w : World) (e : Ending) (w' : World) : Prop :=
  ∃ (v : Value) (ss : List Key), e = .returned v ∧ ss.Perm (L.map (·.1)) ∧ w'.ownsRow w.heap.size 42 2 v ss.length (flt bdC ss) ∧ Below w.heap.size w w'
set_option maxRecDepth 100000 in
set_option maxHeartbeats 2000000 in
theorem appendSeq_in (F : Fence) (n : Nat) (hFA : F.fn 35) (hFK : F.fn 32) (hro : F.round = none) (hn : 4 ≤ n) (Bm b : Nat) (L : List (Key × Bool)) (w : World) (hBm : Bm < w.heap.size)
    (hm : w.cell? ⟨Bm, 0, none⟩ = some (.map (some b))) (hM : MapAt w b (L.map bkE)) (hL : L.length ≤ 100000000) :
    CallsIn F n Try.prog 35 #[.slice none 0 0, .func (.func 32) #[] #[.pointer (some ⟨Bm, 0, none⟩)]] w (KeysRes L w) := by
  have h1 : 1 ≤ n := by omega
  obtain ⟨i0, hi, hz0, hz1, hz2⟩ := info_parts infoBind
  refine callsIn_of_wp_marks Try.func35 rfl hFA ?_ hro
  simp only [Try.ntmps35, List.size_toArray, List.length_cons, List.length_nil, Nat.reduceAdd, Nat.reduceSub, Array.replicate_succ, Array.replicate_zero, List.push_toArray, List.append_toArray, List.nil_append, List.cons_append]
  gi_wp2
  have bB := Boxed.new w 33 (.slice none 0 0)
  have hB0 : Below w.heap.size w (w.alloc (.cells #[.slice none 0 0] 33)) := (Below.refl _ w).alloc (Nat.le_refl _) _
  have hsz : (w.alloc (.cells #[.slice none 0 0] 33)).heap.size = w.heap.size + 1 := by simp
  obtain ⟨W0, hW0⟩ : ∃ W0, w.alloc (.cells #[.slice none 0 0] 33) = W0 := ⟨_, rfl⟩
  rw [hW0] at bB hB0 hsz ⊢
  clear hW0
  refine wpIn_rangeFunc_ownH hro h1 (gf := 32) (lb := #[.pointer (some ⟨Bm, 0, none⟩)]) rfl hFK (enters_of Try.func32 (by kernel_rfl) rfl)
    (keysB_stops F (n - 1) hFK hro (by omega) Bm b L W0 (by omega) ((hB0.cell (p := ⟨Bm, 0, none⟩) hBm).trans hm) (hM.same (hB0.block b hM.lt))) walksK_t walksK_b (Below.refl _ _) (fun _ => rfl)
    (fun pre W => (∃ v, Boxed W w.heap.size 33 v ∧ W.ownsRow w.heap.size 42 2 v pre.length (flt bdC pre) ∧ True) ∧ Below w.heap.size w W)
    (fun _ _ _ => False)
    (OwnFrom.and (Own.from (holdsRow_own w.heap.size w.heap.size 33 42 2 (fun pre : List Key => pre.length) (fun pre => flt bdC pre) (fun _ _ => True)) _) (ownFrom_below (Nat.le_refl _) (by omega)))
    (fun _ _ _ _ _ hs _ _ => hs)
    ⟨⟨_, bB, ⟨rfl, .inl ⟨rfl, rfl⟩⟩, trivial⟩, hB0⟩
    (fun x a' W => ∃ Bx, w.heap.size < Bx ∧ W.heap[Bx]? = some (.cells #[sv x.1, sv x.2] 42 (0, 0)) ∧ a' = { tmps := #[.slice none 0 0, .func (.func 32) #[] #[.pointer (some ⟨Bm, 0, none⟩)], .pointer (some ⟨w.heap.size, 0, none⟩), undef, .slice none 0 0, .pointer (some ⟨Bx, 0, none⟩), .func (.func 32) #[] #[.pointer (some ⟨Bm, 0, none⟩)], bdV x, undef, undef, undef, undef, undef], defers := [] })
    (fun x a' _ X Y row hs hg hr => by
      obtain ⟨Bx, h1, h2, h3⟩ := hs
      refine ⟨Bx, h1, (hg.block Bx (lt_of_heap h2) fun e => ?_).trans h2, h3⟩
      obtain ⟨_, o, ho, hc⟩ := hr Bx e.symm
      rw [h2] at ho
      cases ho
      cases hc)
    ?assign ?body ?done ?stop
  case assign =>
    rintro l pre x W K ⟨⟨v, bv, hrow, _⟩, hB⟩ hK
    gi_wp2
    exact hK _ _ ((KeepsOthers.alloc _ _).from _) (KeepsWalks.alloc _ _) ⟨⟨v, bv.alloc _, hrow.alloc _, trivial⟩, hB.alloc hB.size _⟩ ⟨W.heap.size, bv.lt, alloc1 _ _, rfl⟩
  case body =>
    rintro l pre x a' W hl ⟨r, hr⟩ ⟨⟨v, bv, hrow, _⟩, hB⟩ ⟨Bx, hBx, bX, rfl⟩ hlt
    have hvc := bv.cell
    have x0 : W.cell? ⟨Bx, 0, none⟩ = some (sv x.1) := (Lib.cell_of_heap bX _).trans rfl
    have x1 : W.cell? ⟨Bx, 1, none⟩ = some (sv x.2) := (Lib.cell_of_heap bX _).trans rfl
    have hbs := hB.size
    gi_wp2_with (gi_at_builtin; refine wpListIn_append_own _ rfl _ _ 33 rfl w.heap.size 42 i0 _ 2 32 Try.underlying33 hi hz0 hz1 hz2 rfl (by decide) _ _ _ rfl (hrow.alloc _) ⟨W.heap.size, 0, none⟩ 1 1 (bdC x) rfl rfl (World.news_of_block (cs := #[sv x.1, sv x.2]) (alloc1 W _)) (bdC_one x) (by unfold maxLen; omega) (by omega) (by simp; omega) ?_; intro v' w1 hown' hgrow _; obtain ⟨g', cap', rfl⟩ := ownsRow_succ hown'; obtain ⟨hv1, hv2, hr2, hk2, hb2⟩ := bv.appended (by decide) hrow hB.size (Nat.le_refl _) hown' hgrow; have hc1 := hv1.cell; have hf1 := hv1.frozen)
    refine ⟨hk2.from _, hk2.walks, ⟨_, hv2, ?_, trivial⟩, hB.trans hb2⟩
    rw [flt_append, flt_one, List.length_append]
    exact hr2
  case done =>
    rintro D ys W hD hS ⟨⟨v, bv, hrow, _⟩, hB⟩ hK
    have hvc := bv.cell
    gi_wp2
    refine ⟨by simp, .inl ⟨_, _, rfl, run_takeDeferred hK, ?_⟩⟩
    exact ⟨_, results_tmp rfl _ _ _, v, ys, rfl, hS, ownsRow_putObj hrow _ hK rfl, hB.trans (belowK_b (w := w) (Nat.le_refl _) W D _ _ (by omega) hK rfl rfl)⟩
  case stop =>
    rintro D c pre W _ _ h _
    exact h.elim
end Go.Proofs.Ytcliegpofhjpcaa
