/-
  The walk of types.copied: a type in new memory.
  Conditions: the argument reads as a type.
-/
import Derived.Test.YtiijlecidepneaaStr
import Derived.Test.YtiijlecidepneaaSched
import Derived.Lib.Walk
namespace Go.Proofs.Ytiijlecidepneaa
open Go.RowKit

theorem infoT : (Try.prog.info? 35).map (fun i => (i.zero, i.size, i.bytes)) = some (some (.agg #[.string ⟨#[]⟩, .slice none 0 0]), 2, 40) := by kernel_rfl

/-- A type in new memory was returned; what was there is as it was. -/
def MadeTy (t : Ty) (w : World) (e : Ending) (w' : World) : Prop :=
  ∃ u v, e = .returned (.agg #[u, v]) ∧ TyIs w' (Fr w.heap.size w'.heap.size) t u v ∧ Below w.heap.size w w'

theorem setCell_heap {w : World} {b o : Nat} {cs : Array Value} {T : TypeId} {fr : Nat × Nat} {v : Value} (h : w.heap[b]? = some (.cells cs T fr)) : (w.setCell ⟨b, o, none⟩ v).heap[b]? = some (.cells (cs.setIfInBounds o v) T fr) := by
  unfold World.setCell
  simp [Array.getElem?_modify, h]
theorem grownSet {w : World} {b o : Nat} {v : Value} : w.grownBy (w.setCell ⟨b, o, none⟩ v) (some b) := ⟨rfl, rfl, rfl, by simp [World.setCell], fun k _ hk => Below.heap_setCell w _ _ k (fun e => hk (by rw [e]))⟩
theorem grownOfBelow {a w : World} (h : Below a.heap.size a w) : a.grownBy w none := ⟨h.os, h.tape, h.output, h.size, fun i hi _ => h.block i hi⟩
theorem keptGrown {w w' : World} {row : Option Nat} {S : Nat → Prop} (h : w.grownBy w' row) (hS : ∀ b, S b → b < w.heap.size ∧ some b ≠ row) : Kept S w w' := fun _ hp => World.cell?_of_block (h.block _ (hS _ hp).1 (hS _ hp).2)
theorem ownNone (v : Value) : v.ownBlock = none ∨ v.ownBlock ≠ none := by cases v.ownBlock <;> simp
theorem sizeSet (w : World) (p : Addr) (v : Value) : (w.setCell p v).heap.size = w.heap.size := by simp [World.setCell]
theorem lt_of_heap {w : World} {b : Nat} {o : Obj} (h : w.heap[b]? = some o) : b < w.heap.size := (Array.getElem?_eq_some_iff.1 h).1

/-- Block b holds a type that is being made: its name, and a row of its own with the arguments so far. -/
structure OutAt (b : Nat) (n : List UInt8) (ts : List Ty) (ov : Value) (vs : List (Value × Value)) (w : World) : Prop where
  blk : w.heap[b]? = some (.cells #[sv n, ov] 35 (0, 0))
  own : w.ownsRow (b + 1) 35 2 ov ts.length (flat2 vs)
  len : vs.length = ts.length
  each : ∀ (i : Nat) (t : Ty) (p : Value × Value), ts[i]? = some t → vs[i]? = some p → TyIs w (fun x => b < x ∧ x < w.heap.size ∧ some x ≠ ov.ownBlock) t p.1 p.2

def OutIs (b : Nat) (n : List UInt8) (ts : List Ty) (w : World) : Prop := ∃ (ov : Value) (vs : List (Value × Value)), OutAt b n ts ov vs w

theorem OutAt.kept {b : Nat} {n : List UInt8} {ts : List Ty} {ov : Value} {vs : List (Value × Value)} {w w' : World} {row : Option Nat} (h : OutAt b n ts ov vs w) (hg : w.grownBy w' row) (h1 : row = none ∨ ∃ r, row = some r ∧ r < b) : OutAt b n ts ov vs w' := by
  have hlt := lt_of_heap h.blk
  have hne : ∀ x, b ≤ x → some x ≠ row := fun x hx e => by
    rcases h1 with h1 | ⟨r, h1, h2⟩
    · rw [h1] at e; cases e
    · rw [h1] at e; injection e; omega
  refine ⟨(hg.block b hlt (hne b (Nat.le_refl _))).trans h.blk, h.own.kept hg ?_, h.len, fun i t p ht hp => ?_⟩
  · rcases hv : ov.ownBlock with _ | g
    · exact .inl rfl
    · exact .inr (hne g (by have := (h.own.lt g hv).1; omega))
  · exact ((h.each i t p ht hp).keep (keptGrown hg fun x hx => ⟨hx.2.1, hne x (by omega)⟩)).more fun x ⟨h5, h6, h7⟩ => ⟨h5, Nat.lt_of_lt_of_le h6 hg.size, h7⟩

theorem OutIs.below {b : Nat} {n : List UInt8} {ts : List Ty} {w w' : World} (h : OutIs b n ts w) (hb : Below w.heap.size w w') : OutIs b n ts w' := by
  obtain ⟨ov, vs, h⟩ := h
  exact ⟨ov, vs, h.kept (grownOfBelow hb) (.inl rfl)⟩

/-- One more argument. -/
theorem OutAt.push {b : Nat} {n : List UInt8} {ts : List Ty} {ov : Value} {vs : List (Value × Value)} {w w' : World} {t : Ty} {u v : Value} {g cap : Nat} (h : OutAt b n ts ov vs w)
    (ht : TyIs w (fun x => b < x ∧ x < w.heap.size ∧ some x ≠ ov.ownBlock) t u v)
    (hown : w'.ownsRow (b + 1) 35 2 (.slice (some ⟨g, 0, none⟩) (ts.length + 1) cap) (ts.length + 1) (flat2 vs ++ [u, v])) (hg : w.grownBy w' ov.ownBlock) (hat : ov.ownBlock = some g ∨ g = w.heap.size) :
    OutIs b n (ts ++ [t]) (w'.setCell ⟨b, 1, none⟩ (.slice (some ⟨g, 0, none⟩) (ts.length + 1) cap)) := by
  have hbl := lt_of_heap h.blk
  have hbg : b < g := by have := (hown.lt g rfl).1; omega
  have hbo : some b ≠ ov.ownBlock := fun e => by have := (h.own.lt b e.symm).1; omega
  have hb' : w'.heap[b]? = some (.cells #[sv n, ov] 35 (0, 0)) := (hg.block b hbl hbo).trans h.blk
  have hfar : ∀ x, b < x ∧ x < w.heap.size ∧ some x ≠ ov.ownBlock → b < x ∧ x < (w'.setCell ⟨b, 1, none⟩ (.slice (some ⟨g, 0, none⟩) (ts.length + 1) cap)).heap.size ∧ some x ≠ some g := fun x ⟨h1, h2, h3⟩ => by
    refine ⟨h1, by rw [sizeSet]; exact Nat.lt_of_lt_of_le h2 hg.size, fun e => ?_⟩
    injection e with e
    rcases hat with hat | hat
    · exact h3 (by rw [hat, e])
    · omega
  have hkeep : Kept (fun x => b < x ∧ x < w.heap.size ∧ some x ≠ ov.ownBlock) w (w'.setCell ⟨b, 1, none⟩ (.slice (some ⟨g, 0, none⟩) (ts.length + 1) cap)) :=
    Kept.trans (keptGrown hg fun x hx => ⟨hx.2.1, hx.2.2⟩) (keptGrown grownSet fun x hx => ⟨Nat.lt_of_lt_of_le hx.2.1 hg.size, fun e => by injection e; omega⟩)
  refine ⟨_, vs ++ [(u, v)], setCell_heap hb', ?_, by simp [h.len], fun i t' p ht' hp => ?_⟩
  · rw [flat2_append, List.length_append]
    exact hown.kept grownSet (.inr (by simp [Value.ownBlock]; omega))
  · refine TyIs.more (S := fun x => b < x ∧ x < w.heap.size ∧ some x ≠ ov.ownBlock) ?_ hfar
    refine TyIs.keep ?_ hkeep
    rcases Nat.lt_trichotomy i ts.length with hi | hi | hi
    · rw [List.getElem?_append_left hi] at ht'
      rw [List.getElem?_append_left (by rw [h.len]; exact hi)] at hp
      exact h.each i t' p ht' hp
    · subst hi
      rw [List.getElem?_append_right (Nat.le_refl _)] at ht'
      rw [List.getElem?_append_right (by rw [h.len]; exact Nat.le_refl _)] at hp
      simp [h.len] at ht' hp
      subst ht' hp
      exact ht
    · have := (List.getElem?_eq_some_iff.1 ht').1
      simp at this
      omega

theorem OutAt.shape {b : Nat} {n : List UInt8} {ts : List Ty} {ov : Value} {vs : List (Value × Value)} {w : World} (h : OutAt b n ts ov vs w) : ∃ (a : Option Addr × Nat × Nat), ov = .slice a.1 a.2.1 a.2.2 := by
  rcases h.own.2 with ⟨hv, _⟩ | ⟨g, cap, cur, hv, _⟩
  · exact ⟨(none, 0, 0), hv⟩
  · exact ⟨(some ⟨g, 0, none⟩, ts.length, cap), hv⟩

/-- The type is made. -/
theorem OutAt.done {b : Nat} {n : List UInt8} {ts : List Ty} {ov : Value} {vs : List (Value × Value)} {w : World} (h : OutAt b n ts ov vs w) (hn : n.length ≤ 140737488355328) (hz : ts.length ≤ 3518437208883) : TyIs w (fun x => b < x ∧ x < w.heap.size) (.mk n ts) (sv n) ov := by
  have hc : ∃ (A : Option Addr) (c : Nat), ov = .slice A ts.length c ∧ ts.length ≤ c ∧ c ≤ maxLen := by
    rcases h.own.2 with ⟨hv, h0⟩ | ⟨g, cap, cur, hv, _, _, h1, h2, _⟩
    · exact ⟨none, 0, by rw [hv, h0], by omega, Nat.zero_le _⟩
    · exact ⟨_, cap, hv, h1, h2⟩
  obtain ⟨A, c, rfl, h1, h2⟩ := hc
  refine Tys.close (vs := vs) ⟨h.len, Row.ofOwn h.own fun g _ h3 h4 => ⟨by omega, h4⟩, fun i t p ht hp => (h.each i t p ht hp).more fun x hx => ⟨hx.1, hx.2.1⟩⟩ hn hz ⟨h1, h2⟩

theorem OutIs.fresh {b : Nat} {n : List UInt8} {w : World} (h : w.heap[b]? = some (.cells #[sv n, .slice none 0 0] 35 (0, 0))) : OutIs b n [] w :=
  ⟨_, [], h, World.ownsRow_nil w _ _ _, rfl, fun i t p ht => by simp at ht⟩

set_option maxHeartbeats 4000000 in
set_option maxRecDepth 100000 in
theorem copied_any (t : Ty) : ∀ (u v : Value) (w : World), TyIs w (Lt w.heap.size) t u v → Calls Try.prog 48 #[.agg #[u, v]] w (MadeTy t w) := by
  induction t using Ty.ind with | h n ks ih => ?_
  intro u v w ht
  obtain ⟨A, c, vs, rfl, rfl, hn, hz, hc1, hc2, hT⟩ := ht.open_
  simp only [Ty.name, Ty.args] at hn hz hc1 hT ⊢
  obtain ⟨m, hm⟩ : ∃ m, m = ks.length := ⟨_, rfl⟩
  rw [← hm]
  rw [← hm] at hz hc1
  have HM := Lib.hid hm
  clear hm ht
  obtain ⟨i0, hi, hz0, hz1, hz2⟩ := info_parts infoT
  go_enter Try.func48, Try.ntmps48
  go_wp2_with fail
  go_loopw [12] (fun i wr => ∃ k : Nat, k ≤ m ∧ i = .int .i64 k ∧ OutIs (w.heap.size + 2) n (ks.take k) wr ∧ wr.heap[w.heap.size + 1]? = some (.cells #[.string ⟨#[]⟩, .slice none 0 0] 35 (0, 0)) ∧ Below w.heap.size w wr) (fun i _ => m - (intOf i).toNat)
  case atStart =>
    refine ⟨0, Nat.zero_le _, rfl, OutIs.fresh ?_, ?_, (((Below.refl _ _).alloc (Nat.le_refl _) _).alloc (by simp) _).alloc (by simp; omega) _⟩
    · exact (alloc3 _ _ _ _).2.2
    · exact (alloc3 _ _ _ _).2.1
  case round =>
    obtain ⟨k, hk, rfl, ho, hr, hb⟩ := hrel
    obtain ⟨ov, vs', ho'⟩ := ho
    have hl := ho'.len
    have hB := ho'.blk
    have c0 : wr.cell? ⟨w.heap.size + 2, 0, none⟩ = some (sv n) := by rw [Lib.cell_of_heap hB]; rfl
    have c1 : wr.cell? ⟨w.heap.size + 2, 1, none⟩ = some ov := by rw [Lib.cell_of_heap hB]; rfl
    have f1 : wr.frozen? ⟨w.heap.size + 2, 1, none⟩ = false := Lib.frozen_of_heap hB 1
    by_cases hlt : k < m
    · have hki : k < ks.length := by rw [← HM.out]; exact hlt
      obtain ⟨ad, u, v, rfl, hS, e0, e1, hty⟩ := (hT.keep (kept_below hb)).at_ (List.getElem?_eq_getElem hki)
      obtain ⟨u, v, rfl, rfl⟩ := hty.shape
      have HO := Lib.hid ho'
      have HR := Lib.hid hr
      have hsz := hb.size
      have hlt2 := lt_of_heap hB
      have HB := Lib.hid hB
      clear hB ho' hr hl
      go_wp2_with fail
      refine wp_region_held' (fun w' => w'.cell? ⟨w.heap.size + 2, 1, none⟩ = some ov ∧ w'.cell? ⟨wr.heap.size, 0, none⟩ = some (sv u) ∧ w'.cell? ⟨wr.heap.size, 1, none⟩ = some (.slice v.1 v.2.1 v.2.2)) [] [0, 1, 2] [3, 4] [5, 6, 7] (by kernel_rfl) (by kernel_rfl) ?s0 ?h0
      case s0 => exact ⟨(cellAlloc hlt2).trans c1, by simp, by simp⟩
      case h0 =>
        simp only [opsAt, List.filterMap_cons, List.filterMap_nil, List.getElem?_toArray, List.getElem?_cons_succ, List.getElem?_cons_zero]
        refine wpFloat_nil ?_
        refine wpLoad_step ?v0 rfl (fun w' hS => ?y0) ?k0
        case y0 => go_simp; rfl
        case k0 =>
        go_simp
        refine wpLoad_step ?v1 rfl (fun w' hS => ?y1) ?k1
        case y1 =>
          obtain ⟨h1, h2, h3⟩ := hS
          go_simp
          rfl
        case k1 =>
        go_simp
        refine wpLoad_step ?v2 rfl (fun w' hS => ?y2) ?k2
        case y2 =>
          obtain ⟨h1, h2, h3⟩ := hS
          go_simp
          rfl
        case k2 =>
        go_simp
        refine wpLoad_nil ?_
        refine wpKeep_step rfl ?_
        go_simp
        refine (ih ks[k] (List.getElem_mem hki) _ _ _ (hty.now hsz (((Below.refl _ _).alloc (Nat.le_refl _) _).drew))).mono ?_
        rintro e w1 ⟨u1, v1, rfl, hT1, hb1⟩
        obtain ⟨u1, v1, rfl, rfl⟩ := hT1.shape
        obtain ⟨hc, hf⟩ := belowCell hb1
        have hzw : wr.heap.size + 1 ≤ w1.heap.size := by have := hb1.size; simpa using this
        have HT1 := Lib.hid hT1
        clear hT1
        have d1 : w1.cell? ⟨w.heap.size + 2, 1, none⟩ = some ov := (hc _ _ (by simp; omega)).trans ((cellAlloc hlt2).trans c1)
        have d2 : w1.cell? ⟨wr.heap.size, 0, none⟩ = some (sv u) := by rw [hc _ _ (by simp)]; simp
        have d3 : w1.cell? ⟨wr.heap.size, 1, none⟩ = some (.slice v.1 v.2.1 v.2.2) := by rw [hc _ _ (by simp)]; simp
        refine ⟨⟨d1, d2, d3⟩, ?_⟩
        refine wpKeep_step rfl ?_
        go_simp
        refine ⟨⟨(cellAlloc (by omega)).trans d1, (cellAlloc (by omega)).trans d2, (cellAlloc (by omega)).trans d3⟩, ?_⟩
        refine wpKeep_nil ?_
        have hbW : Below wr.heap.size wr (w1.alloc (.cells #[sv u1, .slice v1.1 v1.2.1 v1.2.2] 35)) := (((((Below.refl _ _).alloc (Nat.le_refl _) _).drew).trans (hb1.mono (by simp)))).alloc (by omega) _
        have hO2 := HO.out.kept (grownOfBelow hbW) (.inl rfl)
        have hlk : (ks.take k).length = k := by rw [List.length_take]; omega
        have hown2 := hO2.own
        rw [hlk] at hown2
        have HO2 := Lib.hid hO2
        have HLK := Lib.hid hlk
        clear hO2 hlk
        refine (wpList_append_lies _ rfl _ _ 33 rfl (w.heap.size + 2 + 1) 35 i0 _ 2 40 Try.underlying33 hi hz0 hz1 hz2 rfl (by omega) ov k (flat2 vs') rfl hown2 ⟨w1.heap.size, 0, none⟩ 1 1 [sv u1, .slice v1.1 v1.2.1 v1.2.2] rfl rfl ?c1 ?c2 (by omega) ?c3 ?c4 ?c5 _ rfl ?_)
        case c1 => exact World.news_of_block (cs := #[sv u1, .slice v1.1 v1.2.1 v1.2.2]) (alloc1 w1 _)
        case c2 => simp [Value.oneCell']
        case c3 => unfold maxLen; omega
        case c4 => omega
        case c5 => simp; omega
        intro g cap w3 hown3 hgrow hat _
        have hk1 : ks[k]? = some ks[k] := List.getElem?_eq_getElem hki
        have hb2 := (hgrow.block (w.heap.size + 2) (by simp; omega) (fun e => by have := (hown2.lt _ e.symm).1; omega)).trans HO2.out.blk
        have d1 : w3.cell? ⟨w.heap.size + 2, 1, none⟩ = some ov := by rw [Lib.cell_of_heap hb2]; rfl
        have f2 : w3.frozen? ⟨w.heap.size + 2, 1, none⟩ = false := Lib.frozen_of_heap hb2 1
        have HN : Hid (OutIs (w.heap.size + 2) n (ks.take k ++ [ks[k]]) (w3.setCell ⟨w.heap.size + 2, 1, none⟩ (.slice (some ⟨g, 0, none⟩) (k + 1) cap))) := by
          have := Lib.hid (HO2.out.push (t := ks[k]) (u := sv u1) (v := .slice v1.1 v1.2.1 v1.2.2) (w' := w3) (g := g) (cap := cap) ?_ (by rw [HLK.out]; exact hown3) hgrow hat)
          · rw [HLK.out] at this
            exact this
          · refine (HT1.out.keep (keptGrown (World.grownBy_alloc w1 _ none) fun x hx => ⟨hx.2, by simp⟩)).more fun x hx => ⟨?_, ?_, ?_⟩
            · have := hx.1; simp at this; omega
            · have := hx.2; simp; omega
            · intro e
              have := (HO.out.own.lt x e.symm).2
              have h5 := hx.1
              simp at h5
              omega
        have hb3 : Below w.heap.size w w3 := (hb.trans (hbW.mono hsz)).grown hgrow (by simp; omega) (fun x e => by have := (hown2.lt _ e).1; omega)
        have hr3 : w3.heap[w.heap.size + 1]? = some (.cells #[.string ⟨#[]⟩, .slice none 0 0] 35 (0, 0)) := by
          rw [hgrow.block (w.heap.size + 1) (by simp; omega) (fun e => by have := (hown2.lt _ e.symm).1; omega), hbW.block _ (by omega)]
          exact HR.out
        have HR3 := Lib.hid hr3
        clear hb2 hr3
        go_wp2
        refine NoPanic.normal ?_
        go_wp2
        go_roundw
        case rel =>
          refine ⟨k + 1, by omega, by go_num, ?_, ?_, ?_⟩
          · have := HN.out
            rw [List.take_add_one, hk1]
            exact this
          · rw [Below.heap_setCell _ _ _ _ (by simp)]
            exact HR3.out
          · exact hb3.setCell (by simp; omega) _
        case measure => simp [intOf]; omega
    · obtain ⟨ov, rfl⟩ := ho'.shape
      have r0 : wr.cell? ⟨w.heap.size + 1, 0, none⟩ = some (.string ⟨#[]⟩) := by rw [Lib.cell_of_heap hr]; rfl
      have r1 : wr.cell? ⟨w.heap.size + 1, 1, none⟩ = some (.slice none 0 0) := by rw [Lib.cell_of_heap hr]; rfl
      have g0 : wr.frozen? ⟨w.heap.size + 1, 0, none⟩ = false := Lib.frozen_of_heap hr 0
      have g1 : wr.frozen? ⟨w.heap.size + 1, 1, none⟩ = false := Lib.frozen_of_heap hr 1
      have HO := Lib.hid ho'
      have HR := Lib.hid hr
      clear hB ho' hr hl
      go_wp2_with fail
      have hR2 : ((wr.setCell ⟨w.heap.size + 1, 0, none⟩ (.string (bs n))).setCell ⟨w.heap.size + 1, 1, none⟩ (.slice ov.1 ov.2.1 ov.2.2)).heap[w.heap.size + 1]? = some (.cells #[sv n, .slice ov.1 ov.2.1 ov.2.2] 35 (0, 0)) := setCell_heap (setCell_heap HR.out)
      have q0 : ((wr.setCell ⟨w.heap.size + 1, 0, none⟩ (.string (bs n))).setCell ⟨w.heap.size + 1, 1, none⟩ (.slice ov.1 ov.2.1 ov.2.2)).cell? ⟨w.heap.size + 1, 0, none⟩ = some (sv n) := by rw [Lib.cell_of_heap hR2]; rfl
      have q1 : ((wr.setCell ⟨w.heap.size + 1, 0, none⟩ (.string (bs n))).setCell ⟨w.heap.size + 1, 1, none⟩ (.slice ov.1 ov.2.1 ov.2.2)).cell? ⟨w.heap.size + 1, 1, none⟩ = some (.slice ov.1 ov.2.1 ov.2.2) := by rw [Lib.cell_of_heap hR2]; rfl
      refine bodyPost_ret (v := .agg #[sv n, .slice ov.1 ov.2.1 ov.2.2]) ?_ rfl ?_
      · clear HO HR hT hb hR2 ih
        simp [results, Try.results48, go_sem, q0, q1]
      · obtain rfl : k = m := by omega
        have hx : ks.take k = ks := List.take_of_length_le (by rw [← HM.out]; exact Nat.le_refl _)
        have hd := HO.out
        rw [hx] at hd
        have hD := hd.done hn (by rw [← HM.out]; exact hz)
        have hlt3 := lt_of_heap hd.blk
        refine ⟨_, _, rfl, ?_, (hb.setCell (by simp) _).setCell (by simp) _⟩
        refine (hD.keep (Kept.trans (keptGrown (row := some (w.heap.size + 1)) grownSet fun x hx => ⟨hx.2, ?_⟩) (keptGrown (row := some (w.heap.size + 1)) grownSet fun x hx => ⟨by rw [sizeSet]; exact hx.2, ?_⟩))).more fun x hx => ⟨?_, ?_⟩
        · intro e; injection e; omega
        · intro e; injection e; omega
        · have := hx.1; omega
        · rw [sizeSet, sizeSet]; exact hx.2
end Go.Proofs.Ytiijlecidepneaa
