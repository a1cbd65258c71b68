/-
  A row of headers out of which some are struck in place, and the builtin clear on its rest.
  Conditions: those of each theorem.
  The walk of slices.DeleteFunc over a row of headers of one's own.
  Conditions: those of each theorem.
  Goals and supers in memory, and what a goal leads to.
  Conditions: those of each theorem.
-/
import Derived.Test.YtiijlecidepneaaPut
namespace Go.Proofs.Ytiijlecidepneaa
section
open Go.RowKit
theorem flat5_setAt : ∀ (k : Nat) (qs : List HV) (q : HV), k < qs.length → ((((((flat5 qs).set (k * 5) q.d).set (k * 5 + 1) q.p).set (k * 5 + 2) q.t).set (k * 5 + 3) q.n).set (k * 5 + 4) q.a) = flat5 (qs.set k q)
  | _, [], _, h => by simp at h
  | 0, a :: r, q, _ => rfl
  | k + 1, a :: r, q, h => by
    have := flat5_setAt k r q (by simpa using h)
    have e0 : (k + 1) * 5 = k * 5 + 5 := by omega
    have e1 : k * 5 + 5 + 1 = k * 5 + 1 + 5 := by omega
    have e2 : k * 5 + 5 + 2 = k * 5 + 2 + 5 := by omega
    have e3 : k * 5 + 5 + 3 = k * 5 + 3 + 5 := by omega
    have e4 : k * 5 + 5 + 4 = k * 5 + 4 + 5 := by omega
    rw [e0, e1, e2, e3, e4]
    simp only [flat5, HV.cells, List.flatMap_cons, List.cons_append, List.nil_append, List.set_cons_succ] at this ⊢
    rw [this]

/-- The world behind the store of a header at place k of the row g. -/
def putH (w : World) (g k : Nat) (q : HV) : World :=
  ((((w.setCell ⟨g, k * 5, none⟩ q.d).setCell ⟨g, k * 5 + 1, none⟩ q.p).setCell ⟨g, k * 5 + 2, none⟩ q.t).setCell ⟨g, k * 5 + 3, none⟩ q.n).setCell ⟨g, k * 5 + 4, none⟩ q.a

theorem grownAgain {w w1 w2 : World} {g : Nat} (h : w.grownBy w1 (some g)) (h' : w1.grownBy w2 (some g)) : w.grownBy w2 (some g) :=
  ⟨h'.os.trans h.os, h'.tape.trans h.tape, h'.output.trans h.output, Nat.le_trans h.size h'.size, fun y hy hne => (h'.block y (Nat.lt_of_lt_of_le hy h.size) hne).trans (h.block y hy hne)⟩
theorem putH_grown (w : World) (g k : Nat) (q : HV) : w.grownBy (putH w g k q) (some g) := by
  unfold putH
  exact grownAgain (grownAgain (grownAgain (grownAgain grownSet grownSet) grownSet) grownSet) grownSet

theorem putH_own {w : World} {base g n c k : Nat} {qs : List HV} {q : HV} (h : w.ownsRow base 47 5 (.slice (some ⟨g, 0, none⟩) n c) n (flat5 qs)) (hl : qs.length = n) (hk : k < n) :
    (putH w g k q).ownsRow base 47 5 (.slice (some ⟨g, 0, none⟩) n c) n (flat5 (qs.set k q)) := by
  rw [← flat5_setAt k qs q (by omega)]
  unfold putH
  generalize flat5 qs = xs at h
  exact (((((h.stored (k * 5) q.d).1.stored (k * 5 + 1) q.p).1.stored (k * 5 + 2) q.t).1.stored (k * 5 + 3) q.n).1.stored (k * 5 + 4) q.a).1

/-- Headers with their values, of those that are left. -/
def left (tr : List UInt8) (l : List (Hdr × HV)) : List (Hdr × HV) := l.filter fun x => decide (x.1.trait = tr)

/-- The row of n headers at block g: the first j have been looked at, those that are left stand in front. -/
structure DelAt (g n c base j : Nat) (tr : List UInt8) (l : List (Hdr × HV)) (qs : List HV) (w : World) : Prop where
  own : w.ownsRow base 47 5 (.slice (some ⟨g, 0, none⟩) n c) n (flat5 qs)
  len : qs.length = n
  src : l.length = n
  front : qs.take (left tr (l.take j)).length = (left tr (l.take j)).map (·.2)
  back : qs.drop j = (l.drop j).map (·.2)

theorem left_le (tr : List UInt8) (l : List (Hdr × HV)) (j : Nat) (hj : j ≤ l.length) : (left tr (l.take j)).length ≤ j := by
  have := List.length_filter_le (fun x : Hdr × HV => decide (x.1.trait = tr)) (l.take j)
  rw [List.length_take] at this
  unfold left
  omega

theorem DelAt.at_ {g n c base j : Nat} {tr : List UInt8} {l : List (Hdr × HV)} {qs : List HV} {w : World} (h : DelAt g n c base j tr l qs w) (hj : j < n) : qs[j]? = some (l[j]'(by rw [h.src]; exact hj)).2 := by
  have e := congrArg (fun x : List HV => x[0]?) h.back
  simp only [List.getElem?_drop, Nat.add_zero, List.getElem?_map] at e
  rw [e, List.getElem?_eq_getElem (by rw [h.src]; exact hj)]
  rfl

theorem DelAt.skip {g n c base j : Nat} {tr : List UInt8} {l : List (Hdr × HV)} {qs : List HV} {w : World} (h : DelAt g n c base j tr l qs w) (hj : j < n) (hne : ¬ (l[j]'(by rw [h.src]; exact hj)).1.trait = tr) : DelAt g n c base (j + 1) tr l qs w := by
  have hjl : j < l.length := by rw [h.src]; exact hj
  have e : left tr (l.take (j + 1)) = left tr (l.take j) := by
    unfold left
    rw [List.take_succ_eq_append_getElem hjl, List.filter_append]
    simp [hne]
  refine ⟨h.own, h.len, h.src, by rw [e]; exact h.front, ?_⟩
  have := congrArg (List.drop 1) h.back
  rwa [List.drop_drop, ← List.map_drop, List.drop_drop] at this

theorem DelAt.take {g n c base j : Nat} {tr : List UInt8} {l : List (Hdr × HV)} {qs : List HV} {w : World} (h : DelAt g n c base j tr l qs w) (hj : j < n) (heq : (l[j]'(by rw [h.src]; exact hj)).1.trait = tr) :
    DelAt g n c base (j + 1) tr l (qs.set (left tr (l.take j)).length (l[j]'(by rw [h.src]; exact hj)).2) (putH w g (left tr (l.take j)).length (l[j]'(by rw [h.src]; exact hj)).2) := by
  have hjl : j < l.length := by rw [h.src]; exact hj
  have hle := left_le tr l j (by omega)
  have e : left tr (l.take (j + 1)) = left tr (l.take j) ++ [l[j]] := by
    unfold left
    rw [List.take_succ_eq_append_getElem hjl, List.filter_append]
    simp [heq]
  refine ⟨putH_own h.own h.len (by omega), by simp [h.len], h.src, ?_, ?_⟩
  · rw [e, List.length_append, List.map_append, List.length_singleton, List.take_succ_eq_append_getElem (by simp [h.len]; omega), List.take_set_of_le (Nat.le_refl _), h.front]
    simp
  · rw [List.drop_set_of_lt (by omega)]
    have := congrArg (List.drop 1) h.back
    rwa [List.drop_drop, ← List.map_drop, List.drop_drop] at this
end

section
open Go.RowKit
theorem run_clear_wide {P : Program} (w : World) (t e ty : TypeId) (z : Value) (ht : P.underlying t = some (.slice e)) (hv : ∀ w, (zeroValue e).run P w = .ok z w) (b o n c : Nat) (hn : 0 < n)
    (hc : ∀ j, j < (Builtin.zeroCells z.cells n).toList.length → (w.cell? ⟨b, o + j, none⟩).isSome = true) (hf : ∀ j, j < (Builtin.zeroCells z.cells n).toList.length → w.frozen? ⟨b, o + j, none⟩ = false) (h1 : ∀ v ∈ (Builtin.zeroCells z.cells n).toList, v.oneCell' = true) :
    (Builtin.clear_ #[t] ty #[.slice (some ⟨b, o, none⟩) n c]).run P w = .ok (.tuple #[]) (w.setCells b o (Builtin.zeroCells z.cells n).toList) := by
  have hst := run_storeCells_cells (P := P) b o (Builtin.zeroCells z.cells n).toList 0 w (by simpa using hc) (by simpa using hf) h1
  simp only [Nat.add_zero] at hst
  obtain ⟨m, rfl⟩ : ∃ m, n = m + 1 := ⟨n - 1, by omega⟩
  simp [Builtin.clear_, run_underlying ht, hv, hst]

abbrev zeroH : Value := .agg #[.string ⟨#[]⟩, .slice none 0 0, .string ⟨#[]⟩, .string ⟨#[]⟩, .slice none 0 0]
theorem zeroH_len (n : Nat) : (Builtin.zeroCells zeroH.cells n).toList.length = n * 5 := by
  rw [Array.length_toList, size_zeroCells]
  rfl
theorem zeroH_one (n : Nat) : ∀ v ∈ (Builtin.zeroCells zeroH.cells n).toList, v.oneCell' = true := by
  intro v hv
  simp only [Builtin.zeroCells, Array.toList_map, List.mem_map] at hv
  obtain ⟨i, _, rfl⟩ := hv
  have h5 : i % zeroH.cells.size < 5 := Nat.mod_lt _ (by decide)
  generalize i % zeroH.cells.size = r at h5
  match r, h5 with
  | 0, _ => rfl
  | 1, _ => rfl
  | 2, _ => rfl
  | 3, _ => rfl
  | 4, _ => rfl

theorem grownSets (g : Nat) : ∀ (zs : List Value) (o : Nat) (w : World), w.grownBy (w.setCells g o zs) (some g)
  | [], _, _ => ⟨rfl, rfl, rfl, Nat.le_refl _, fun _ _ _ => rfl⟩
  | z :: r, o, w => grownAgain grownSet (grownSets g r (o + 1) (w.setCell ⟨g, o, none⟩ z))

theorem dIdx_cases (tr : List UInt8) : ∀ (hs : List Hdr) (k : Nat), (dIdx hs tr k = -1 ∧ ∀ h ∈ hs, h.trait = tr) ∨ ∃ j, j < hs.length ∧ dIdx hs tr k = ((k + j : Nat) : Int) ∧ (∀ h ∈ hs.take j, h.trait = tr) ∧ ∃ h, hs[j]? = some h ∧ ¬ h.trait = tr
  | [], k => .inl ⟨rfl, fun h hh => by simp at hh⟩
  | a :: r, k => by
    by_cases h : a.trait = tr
    · rw [dIdx, if_pos h]
      rcases dIdx_cases tr r (k + 1) with ⟨h1, h2⟩ | ⟨j, h1, h2, h3, h4, h5, h6⟩
      · exact .inl ⟨h1, fun x hx => by exact (List.mem_cons.1 hx).elim (fun e => by rw [e]; exact h) (h2 x)⟩
      · refine .inr ⟨j + 1, by simp; omega, by rw [h2]; congr 1; omega, fun x hx => ?_, h4, by simpa using h5, h6⟩
        rw [List.take_succ_cons] at hx
        rcases List.mem_cons.1 hx with rfl | hx
        · exact h
        · exact h3 x hx
    · exact .inr ⟨0, by simp, by rw [dIdx, if_neg h]; rfl, fun x hx => by simp at hx, a, rfl, h⟩

theorem left_all (tr : List UInt8) (l : List (Hdr × HV)) (h : ∀ x ∈ l, x.1.trait = tr) : left tr l = l := by
  unfold left
  exact List.filter_eq_self.2 fun x hx => by simpa using h x hx

def DelOk (g : Nat) (tr : List UInt8) (l : List (Hdr × HV)) (w : World) (e : Ending) (w' : World) : Prop :=
  ∃ c', e = .returned (.slice (some ⟨g, 0, none⟩) (left tr l).length c') ∧ Row w' (fun y => y = g) (some ⟨g, 0, none⟩) (flat5 ((left tr l).map (·.2))) ∧ Kp (fun y => y = g) w w'

theorem hdsOf {w : World} {base g n c : Nat} {l : List (Hdr × HV)} (hn : l.length = n) (hn6 : n ≤ 4000000) (hsm : ∀ x ∈ l, x.1.type.size ≤ 4000000) (hown : w.ownsRow base 47 5 (.slice (some ⟨g, 0, none⟩) n c) n (flat5 (l.map (·.2))))
    (hd : ∀ x ∈ l, HdIs w (fun y => y < w.heap.size ∧ y ≠ g) x.1 x.2) : Hds w (Lt w.heap.size) (some ⟨g, 0, none⟩) (l.map (·.1)) (l.map (·.2)) := by
  refine ⟨by simp, Row.ofOwn hown fun _ _ _ h2 => h2, fun i h q hi hq => ?_, fun h hh => ?_, by simp; omega⟩
  · rw [List.getElem?_map] at hi hq
    obtain ⟨x, hx, rfl⟩ := Option.map_eq_some_iff.1 hi
    rw [hx] at hq
    cases hq
    exact (hd x (List.mem_of_getElem? hx)).more fun y hy => hy.1
  · obtain ⟨x, hx, rfl⟩ := List.mem_map.1 hh
    exact hsm x hx

set_option maxHeartbeats 2000000 in
set_option maxRecDepth 100000 in
theorem deleteFunc_any (l : List (Hdr × HV)) (g n c gb base : Nat) (tr : List UInt8) (w : World) (hn : l.length = n) (hnc : n ≤ c ∧ c ≤ maxLen) (hn6 : n ≤ 4000000) (hsm : ∀ x ∈ l, x.1.type.size ≤ 4000000)
    (hown : w.ownsRow base 47 5 (.slice (some ⟨g, 0, none⟩) n c) n (flat5 (l.map (·.2)))) (hd : ∀ x ∈ l, HdIs w (fun y => y < w.heap.size ∧ y ≠ g) x.1 x.2) (hg : w.cell? ⟨gb, 0, none⟩ = some (sv tr)) (hne : gb ≠ g) :
    Calls Try.prog 44 #[.slice (some ⟨g, 0, none⟩) n c, del gb] w (DelOk g tr l w) := by
  have hhd := hdsOf hn hn6 hsm hown hd
  have hix := indexFuncH (l.map (·.1)) (some ⟨g, 0, none⟩) c gb _ w hhd tr hg
  rw [List.length_map, hn] at hix
  rcases dIdx_cases tr (l.map (·.1)) 0 with ⟨h1, h2⟩ | ⟨j, hj, h1, h3, h0, h4, h5⟩
  · rw [h1] at hix
    have hl : left tr l = l := left_all tr l fun x hx => h2 _ (List.mem_map.2 ⟨x, hx, rfl⟩)
    have HIX := Lib.hid hix
    have HL := Lib.hid hl
    have HN := Lib.hid hn
    have HO := Lib.hid hown
    clear hix h1 h2 hl hn hown hhd hd
    go_enter Try.func44, Try.ntmps44
    go_wp2_with fail
    refine HIX.out.mono ?_
    rintro e w1 ⟨rfl, hb1⟩
    go_wp2
    go_ret
    refine ⟨c, ?_, ?_, Kp.ofBelow hb1⟩
    · rw [HL.out, HN.out]
      rfl
    · rw [HL.out]
      exact Row.ofOwn (HO.out.kept (grownOfBelow hb1) (ownNone _)) fun y hy _ _ => by injection hy with hy; injection hy with hy; exact hy.symm
  · rw [Nat.zero_add] at h1
    rw [h1] at hix
    have HIX := Lib.hid hix
    rw [List.length_map, hn] at hj
    have hjl : j < l.length := by omega
    have hlj : left tr (l.take j) = l.take j := left_all tr _ fun x hx => h3 _ (by rw [← List.map_take]; exact List.mem_map.2 ⟨x, hx, rfl⟩)
    have hnej : ¬ (l[j]).1.trait = tr := by
      rw [List.getElem?_map, List.getElem?_eq_getElem hjl] at h4
      cases h4
      exact h5
    have hD0 : DelAt g n c base j tr l (l.map (·.2)) w := ⟨hown, by simp [hn], hn, by rw [hlj, List.length_take, List.map_take]; congr 1; omega, by rw [List.map_drop]⟩
    have hD1 := hD0.skip hj hnej
    have hjj : (left tr (l.take (j + 1))).length = j := by
      have e : left tr (l.take (j + 1)) = left tr (l.take j) := by
        unfold left
        rw [List.take_succ_eq_append_getElem hjl, List.filter_append]
        simp [hnej]
      rw [e, hlj, List.length_take]
      omega
    have HD1 := Lib.hid hD1
    have HJJ := Lib.hid hjj
    have HN := Lib.hid hn
    have hz : ((j : Int) == -1) = false := by simp
    clear hix h1 h3 h4 h5 hn hown hhd hlj hD0 hD1 hjj
    go_enter Try.func44, Try.ntmps44
    go_wp2_with fail
    refine HIX.out.mono ?_
    rintro e w1 ⟨rfl, hb1⟩
    go_wp2_with fail
    go_loopw [5, 6] (fun i jj wr => ∃ (k i0 : Nat), k ≤ n ∧ j < k ∧ jj = .int .i64 k ∧ i = .int .i64 i0 ∧ i0 = (left tr (l.take k)).length ∧ i0 < k ∧ ∃ qs : List HV, DelAt g n c base k tr l qs wr ∧ Kp (fun y => y = g) w wr) (fun _ jj _ => n - (intOf jj).toNat)
    case atStart =>
      exact ⟨j + 1, j, by omega, by omega, by go_num, rfl, HJJ.out.symm, by omega, _, ⟨HD1.out.own.kept (grownOfBelow hb1) (ownNone _), HD1.out.len, HD1.out.src, HD1.out.front, HD1.out.back⟩, Kp.ofBelow hb1⟩
    case round =>
      obtain ⟨k, i0, hk, hjk, rfl, rfl, hi0, hik, qs, hD, hK⟩ := hrel
      have HI0 := Lib.hid hi0
      clear hi0
      by_cases hlt : k < n
      · have hkl : k < l.length := by rw [HN.out]; exact hlt
        have hxk := hd l[k] (List.getElem_mem hkl)
        obtain ⟨s, P, m, a, hq⟩ := hxk.shape
        have hqk := hD.at_ hlt
        rw [hq] at hqk
        obtain ⟨e0, e1, e2, e3, e4⟩ := flat5_at _ _ _ hqk
        have hcell : ∀ o u, (flat5 qs)[k * 5 + o]? = some u → o < 5 → wr.cell? ⟨g, k * 5 + o, none⟩ = some u := fun o u hu ho => by
          rw [hD.own.cellAt _ (by omega)]; exact hu
        have c0 := hcell 0 _ e0 (by omega)
        have c1 := hcell 1 _ e1 (by omega)
        have c2 := hcell 2 _ e2 (by omega)
        have c3 := hcell 3 _ e3 (by omega)
        have c4 := hcell 4 _ e4 (by omega)
        dsimp only [Nat.add_zero] at c0 c1 c2 c3 c4
        have HD := Lib.hid hD
        have HQ := Lib.hid hq
        clear hcell e0 e1 e2 e3 e4 hqk hD hq hxk
        have hgl : g < wr.heap.size := (HD.out.own.lt g rfl).2
        have hgbl := World.block_lt_of_cell? w _ hg
        have hgr : wr.cell? ⟨gb, 0, none⟩ = some (sv tr) := (World.cell?_of_block (hK.block gb hgbl (fun e => hne e))).trans hg
        have hgr2 : (wr.alloc (.cells #[.string (bs s), .slice P.1 P.2.1 P.2.2, .string (bs l[k].1.trait), .string (bs m), .slice a.1 a.2.1 a.2.2] 47)).cell? ⟨gb, 0, none⟩ = some (sv tr) := (cellAlloc (World.block_lt_of_cell? wr _ hgr)).trans hgr
        go_wp2_with fail
        refine (del_any l[k].1.trait s m P a gb tr _ hgr2).mono ?_
        rintro e w2 ⟨r, rfl, hr, hb2⟩
        have hbW : Below wr.heap.size wr w2 := ((Below.refl wr.heap.size wr).alloc (Nat.le_refl _) _).trans (hb2.mono (by simp))
        have hx2 := (hb2.block wr.heap.size (by simp)).trans (alloc1 wr _)
        have b0 : w2.cell? ⟨wr.heap.size, 0, none⟩ = some (sv s) := by rw [Lib.cell_of_heap hx2]; rfl
        have b1 : w2.cell? ⟨wr.heap.size, 1, none⟩ = some (.slice P.1 P.2.1 P.2.2) := by rw [Lib.cell_of_heap hx2]; rfl
        have b2 : w2.cell? ⟨wr.heap.size, 2, none⟩ = some (sv l[k].1.trait) := by rw [Lib.cell_of_heap hx2]; rfl
        have b3 : w2.cell? ⟨wr.heap.size, 3, none⟩ = some (sv m) := by rw [Lib.cell_of_heap hx2]; rfl
        have b4 : w2.cell? ⟨wr.heap.size, 4, none⟩ = some (.slice a.1 a.2.1 a.2.2) := by rw [Lib.cell_of_heap hx2]; rfl
        have hD2 : DelAt g n c base k tr l qs w2 := ⟨HD.out.own.kept (grownOfBelow hbW) (ownNone _), HD.out.len, HD.out.src, HD.out.front, HD.out.back⟩
        have hK2 : Kp (fun y => y = g) w w2 := hK.below hbW
        have hI : ∃ y, (flat5 qs)[i0 * 5]? = some y := ⟨_, List.getElem?_eq_getElem (by rw [flat5_length, HD.out.len]; omega)⟩
        have hcells : ∀ o, o < 5 → ∃ y, w2.cell? ⟨g, i0 * 5 + o, none⟩ = some y := fun o ho => ⟨_, by rw [hD2.own.cellAt _ (by omega)]; exact List.getElem?_eq_getElem (by rw [flat5_length, HD.out.len]; omega)⟩
        obtain ⟨y0, p0⟩ := hcells 0 (by omega)
        obtain ⟨y1, p1⟩ := hcells 1 (by omega)
        obtain ⟨y2, p2⟩ := hcells 2 (by omega)
        obtain ⟨y3, p3⟩ := hcells 3 (by omega)
        obtain ⟨y4, p4⟩ := hcells 4 (by omega)
        dsimp only [Nat.add_zero] at p0
        have z0 := hD2.own.frozenAt (i0 * 5)
        have z1 := hD2.own.frozenAt (i0 * 5 + 1)
        have z2 := hD2.own.frozenAt (i0 * 5 + 2)
        have z3 := hD2.own.frozenAt (i0 * 5 + 3)
        have z4 := hD2.own.frozenAt (i0 * 5 + 4)
        have HR := Lib.hid hr
        have HD2 := Lib.hid hD2
        clear hr hD2 hcells hI hx2 c0 c1 c2 c3 c4 hgr hgr2
        cases r with
        | true =>
          have hnk : ¬ (l[k]).1.trait = tr := HR.out.1 rfl
          have hlk : left tr (l.take (k + 1)) = left tr (l.take k) := by
            unfold left
            rw [List.take_succ_eq_append_getElem hkl, List.filter_append]
            simp [hnk]
          have HLK := Lib.hid hlk
          have HD3 := Lib.hid (HD2.out.skip hlt hnk)
          clear hlk hnk
          go_wp2_with fail
          go_roundw
          case rel => exact ⟨k + 1, i0, by omega, by omega, by go_num, rfl, by rw [HLK.out]; exact HI0.out, by omega, qs, HD3.out, hK2⟩
          case measure => simp [intOf]; omega
        | false =>
          have heq : (l[k]).1.trait = tr := by
            by_cases h : (l[k]).1.trait = tr
            · exact h
            · have := HR.out.2 h; cases this
          have hlk : left tr (l.take (k + 1)) = left tr (l.take k) ++ [l[k]] := by
            unfold left
            rw [List.take_succ_eq_append_getElem hkl, List.filter_append]
            simp [heq]
          have hD3 := HD2.out.take hlt heq
          rw [← HI0.out, HQ.out] at hD3
          have hK3 : Kp (fun y => y = g) w (putH w2 g i0 ⟨sv s, .slice P.1 P.2.1 P.2.2, sv l[k].1.trait, sv m, .slice a.1 a.2.1 a.2.2⟩) := hK2.grown (putH_grown _ _ _ _) (fun r hr _ => by injection hr with hr; exact hr.symm)
          have HLK := Lib.hid hlk
          have HD3 := Lib.hid hD3
          have HK3 := Lib.hid hK3
          clear hlk heq hD3 hK3
          go_wp2_with fail
          go_roundw
          case rel => exact ⟨k + 1, i0 + 1, by omega, by omega, by go_num, by go_num, by rw [HLK.out, List.length_append, ← HI0.out]; rfl, by omega, _, HD3.out, HK3.out⟩
          case measure => simp [intOf]; omega
      · have hkn : k = n := by omega
        have HKN := Lib.hid hkn
        have HD := Lib.hid hD
        have hg0 : ¬ k < n := hlt
        have hi1 : i0 < n := by omega
        have hi2 : i0 ≤ n := by omega
        have hi3 : n ≤ c := hnc.1
        have hi4 : ¬ i0 = c := by omega
        clear hkn hD
        go_wp2_with fail
        rw [run_clear_wide wr 51 47 0 zeroH Try.underlying51 (fun w => by kernel_rfl) g (i0 * 5) (n - i0) (c - i0) (by omega) (fun o ho => by
          rw [zeroH_len] at ho
          rw [HD.out.own.cellAt _ (by omega), List.getElem?_eq_getElem (by rw [flat5_length, HD.out.len]; omega)]
          rfl) (fun o _ => HD.out.own.frozenAt _) (zeroH_one _)]
        simp only [Result.andThen]
        rw [Oper.upon_value]
        have hlt' : left tr (l.take k) = left tr l := by rw [HKN.out, List.take_of_length_le (by rw [HN.out]; exact Nat.le_refl _)]
        have hfr := HD.out.front
        have hi0' := HI0.out
        rw [hlt'] at hfr hi0'
        rw [← hi0'] at hfr
        have HI1 := Lib.hid hi0'
        have HFR := Lib.hid hfr
        clear hfr hi0' hlt'
        have hgs := grownSets g (Builtin.zeroCells zeroH.cells (n - i0)).toList (i0 * 5) wr
        have hKf : Kp (fun y => y = g) w (wr.setCells g (i0 * 5) (Builtin.zeroCells zeroH.cells (n - i0)).toList) := hK.grown hgs (fun r hr _ => by injection hr with hr; exact hr.symm)
        have hrowf : Row (wr.setCells g (i0 * 5) (Builtin.zeroCells zeroH.cells (n - i0)).toList) (fun y => y = g) (some ⟨g, 0, none⟩) (flat5 ((left tr l).map (·.2))) := by
          refine .inr ⟨_, rfl, rfl, fun o u hu => ?_⟩
          have hlt := (List.getElem?_eq_some_iff.1 hu).1
          rw [flat5_length, List.length_map, ← HI1.out] at hlt
          have ha : (⟨g, 0, none⟩ : Addr).add o = ⟨g, o, none⟩ := by unfold Addr.add; split <;> simp_all
          rw [ha, World.cell?_setCells_out _ _ _ _ _ (fun _ _ => .inl hlt), HD.out.own.cellAt _ (by omega)]
          rw [← HFR.out] at hu
          rw [← List.take_append_drop i0 qs, flat5_append, List.getElem?_append_left (by rw [flat5_length, List.length_take]; have := HD.out.len; omega)]
          exact hu
        have HKF := Lib.hid hKf
        have HROWF := Lib.hid hrowf
        clear hKf hrowf hgs
        generalize wr.setCells g (i0 * 5) (Builtin.zeroCells zeroH.cells (n - i0)).toList = W9 at *
        go_wp2_with fail
        go_ret
        refine ⟨c, ?_, HROWF.out, HKF.out⟩
        rw [← HI1.out]
        rfl
end

section
open Go.RowKit
abbrev Goal := List UInt8 × Ty
abbrev GV := Value × Value × Value
def flat3 (gs : List GV) : List Value := gs.flatMap fun q => [q.1, q.2.1, q.2.2]
theorem flat3_length (gs : List GV) : (flat3 gs).length = gs.length * 3 := by
  induction gs with
  | nil => rfl
  | cons v r ih => simp only [flat3, List.flatMap_cons, List.length_append, List.length_cons, List.length_nil] at ih ⊢; omega
theorem flat3_at : ∀ (gs : List GV) (i : Nat) (q : GV), gs[i]? = some q → (flat3 gs)[i * 3]? = some q.1 ∧ (flat3 gs)[i * 3 + 1]? = some q.2.1 ∧ (flat3 gs)[i * 3 + 2]? = some q.2.2
  | [], i, q, h => by simp at h
  | v :: r, 0, q, h => by
    simp at h
    subst h
    simp [flat3]
  | v :: r, i + 1, q, h => by
    have := flat3_at r i q (by simpa using h)
    have e : (i + 1) * 3 = i * 3 + 3 := by omega
    rw [e]
    simpa [flat3] using this
theorem flat3_append (a b : List GV) : flat3 (a ++ b) = flat3 a ++ flat3 b := by simp [flat3]

structure GlIs (w : World) (S : Nat → Prop) (g : Goal) (q : GV) : Prop where
  t : q.1 = sv g.1
  ty : TyIs w S g.2 q.2.1 q.2.2
theorem GlIs.keep {w w' : World} {S : Nat → Prop} {g : Goal} {q : GV} (H : GlIs w S g q) (hk : Kept S w w') : GlIs w' S g q := ⟨H.t, H.ty.keep hk⟩
theorem GlIs.more {w : World} {S S' : Nat → Prop} {g : Goal} {q : GV} (H : GlIs w S g q) (hS : ∀ b, S b → S' b) : GlIs w S' g q := ⟨H.t, H.ty.more hS⟩

def boundGoals : List (List UInt8 × List UInt8) → List Ty → List Goal
  | p :: ps, t :: ts => if p.2 = [] then boundGoals ps ts else (p.2, t) :: boundGoals ps ts
  | _, _ => []
def superGoals (s : List (List UInt8 × List UInt8)) (g : Goal) : List Goal := (s.filter fun x => decide (x.1 = g.1)).map fun x => (x.2, g.2)
def mineOf (l : List Hdr) (tr : List UInt8) : List Hdr := l.filter fun h => decide (h.trait = tr)
def leadsOf (l : List Hdr) (s : List (List UInt8 × List UInt8)) (g : Goal) : List Goal × Bool :=
  if (cutD g.2.name).2 = true then ([], decide ((cutD g.2.name).1 = g.1))
  else if g.2.name = errName then ([], true)
  else match selOf (mineOf l g.1) g.2 0 with
    | none => ([], false)
    | some (k, a) => (boundGoals (((mineOf l g.1)[k]?.map (·.params)).getD []) a ++ superGoals s g, true)
end
end Go.Proofs.Ytiijlecidepneaa
