/-
  The walk of slices.DeleteFunc over a row of headers of one's own.
  Conditions: those of each theorem.
-/
import Derived.Test.YtkoddmgbpjmohaaDel
namespace Go.Proofs.Ytkoddmgbpjmohaa
open Go.RowKit

theorem run_clear_wide {P : Program} (w : World) (t e ty : TypeId) (z : Value) (ht : P.underlying t = some (.slice e)) (hv : ∀ w, (zeroValue e).run P w = .ok z w) (b o n c : Nat) (hn : 0 < n)
    (hc : ∀ j, j < (Builtin.zeroCells z.cells n).toList.length → (w.cell? ⟨b, o + j, none⟩).isSome = true) (hf : ∀ j, j < (Builtin.zeroCells z.cells n).toList.length → w.frozen? ⟨b, o + j, none⟩ = false) (h1 : ∀ v ∈ (Builtin.zeroCells z.cells n).toList, v.oneCell' = true) :
    (Builtin.clear_ #[t] ty #[.slice (some ⟨b, o, none⟩) n c]).run P w = .ok (.tuple #[]) (w.setCells b o (Builtin.zeroCells z.cells n).toList) := by
  have hst := run_storeCells_cells (P := P) b o (Builtin.zeroCells z.cells n).toList 0 w (by simpa using hc) (by simpa using hf) h1
  simp only [Nat.add_zero] at hst
  obtain ⟨m, rfl⟩ : ∃ m, n = m + 1 := ⟨n - 1, by omega⟩
  simp [Builtin.clear_, run_underlying ht, hv, hst]

abbrev zeroH : Value := .agg #[.string ⟨#[]⟩, .slice none 0 0, .string ⟨#[]⟩, .string ⟨#[]⟩, .slice none 0 0]
theorem zeroH_len (n : Nat) : (Builtin.zeroCells zeroH.cells n).toList.length = n * 5 := by
  rw [Array.length_toList, size_zeroCells]
  rfl
theorem zeroH_one (n : Nat) : ∀ v ∈ (Builtin.zeroCells zeroH.cells n).toList, v.oneCell' = true := by
  intro v hv
  simp only [Builtin.zeroCells, Array.toList_map, List.mem_map] at hv
  obtain ⟨i, _, rfl⟩ := hv
  have h5 : i % zeroH.cells.size < 5 := Nat.mod_lt _ (by decide)
  generalize i % zeroH.cells.size = r at h5
  match r, h5 with
  | 0, _ => rfl
  | 1, _ => rfl
  | 2, _ => rfl
  | 3, _ => rfl
  | 4, _ => rfl

theorem grownSets (g : Nat) : ∀ (zs : List Value) (o : Nat) (w : World), w.grownBy (w.setCells g o zs) (some g)
  | [], _, _ => ⟨rfl, rfl, rfl, Nat.le_refl _, fun _ _ _ => rfl⟩
  | z :: r, o, w => grownAgain grownSet (grownSets g r (o + 1) (w.setCell ⟨g, o, none⟩ z))

theorem dIdx_cases (tr : List UInt8) : ∀ (hs : List Hdr) (k : Nat), (dIdx hs tr k = -1 ∧ ∀ h ∈ hs, h.trait = tr) ∨ ∃ j, j < hs.length ∧ dIdx hs tr k = ((k + j : Nat) : Int) ∧ (∀ h ∈ hs.take j, h.trait = tr) ∧ ∃ h, hs[j]? = some h ∧ ¬ h.trait = tr
  | [], k => .inl ⟨rfl, fun h hh => by simp at hh⟩
  | a :: r, k => by
    by_cases h : a.trait = tr
    · rw [dIdx, if_pos h]
      rcases dIdx_cases tr r (k + 1) with ⟨h1, h2⟩ | ⟨j, h1, h2, h3, h4, h5, h6⟩
      · exact .inl ⟨h1, fun x hx => by exact (List.mem_cons.1 hx).elim (fun e => by rw [e]; exact h) (h2 x)⟩
      · refine .inr ⟨j + 1, by simp; omega, by rw [h2]; congr 1; omega, fun x hx => ?_, h4, by simpa using h5, h6⟩
        rw [List.take_succ_cons] at hx
        rcases List.mem_cons.1 hx with rfl | hx
        · exact h
        · exact h3 x hx
    · exact .inr ⟨0, by simp, by rw [dIdx, if_neg h]; rfl, fun x hx => by simp at hx, a, rfl, h⟩

theorem left_all (tr : List UInt8) (l : List (Hdr × HV)) (h : ∀ x ∈ l, x.1.trait = tr) : left tr l = l := by
  unfold left
  exact List.filter_eq_self.2 fun x hx => by simpa using h x hx

def DelOk (g : Nat) (tr : List UInt8) (l : List (Hdr × HV)) (w : World) (e : Ending) (w' : World) : Prop :=
  ∃ c', e = .returned (.slice (some ⟨g, 0, none⟩) (left tr l).length c') ∧ Row w' (fun y => y = g) (some ⟨g, 0, none⟩) (flat5 ((left tr l).map (·.2))) ∧ Kp (fun y => y = g) w w'

theorem hdsOf {w : World} {base g n c : Nat} {l : List (Hdr × HV)} (hn : l.length = n) (hn6 : n ≤ 1000000) (hsm : ∀ x ∈ l, x.1.type.size ≤ 1000000) (hown : w.ownsRow base 37 5 (.slice (some ⟨g, 0, none⟩) n c) n (flat5 (l.map (·.2))))
    (hd : ∀ x ∈ l, HdIs w (fun y => y < w.heap.size ∧ y ≠ g) x.1 x.2) : Hds w (Lt w.heap.size) (some ⟨g, 0, none⟩) (l.map (·.1)) (l.map (·.2)) := by
  refine ⟨by simp, Row.ofOwn hown fun _ _ _ h2 => h2, fun i h q hi hq => ?_, fun h hh => ?_, by simp; omega⟩
  · rw [List.getElem?_map] at hi hq
    obtain ⟨x, hx, rfl⟩ := Option.map_eq_some_iff.1 hi
    rw [hx] at hq
    cases hq
    exact (hd x (List.mem_of_getElem? hx)).more fun y hy => hy.1
  · obtain ⟨x, hx, rfl⟩ := List.mem_map.1 hh
    exact hsm x hx

set_option maxHeartbeats 2000000 in
set_option maxRecDepth 100000 in
theorem deleteFunc_any (l : List (Hdr × HV)) (g n c gb base : Nat) (tr : List UInt8) (w : World) (hn : l.length = n) (hnc : n ≤ c ∧ c ≤ maxLen) (hn6 : n ≤ 1000000) (hsm : ∀ x ∈ l, x.1.type.size ≤ 1000000)
    (hown : w.ownsRow base 37 5 (.slice (some ⟨g, 0, none⟩) n c) n (flat5 (l.map (·.2)))) (hd : ∀ x ∈ l, HdIs w (fun y => y < w.heap.size ∧ y ≠ g) x.1 x.2) (hg : w.cell? ⟨gb, 0, none⟩ = some (sv tr)) (hne : gb ≠ g) :
    Calls Try.prog 33 #[.slice (some ⟨g, 0, none⟩) n c, del gb] w (DelOk g tr l w) := by
  have hhd := hdsOf hn hn6 hsm hown hd
  have hix := indexFuncH (l.map (·.1)) (some ⟨g, 0, none⟩) c gb _ w hhd tr hg
  rw [List.length_map, hn] at hix
  rcases dIdx_cases tr (l.map (·.1)) 0 with ⟨h1, h2⟩ | ⟨j, hj, h1, h3, h0, h4, h5⟩
  · rw [h1] at hix
    have hl : left tr l = l := left_all tr l fun x hx => h2 _ (List.mem_map.2 ⟨x, hx, rfl⟩)
    have HIX := Lib.hid hix
    have HL := Lib.hid hl
    have HN := Lib.hid hn
    have HO := Lib.hid hown
    clear hix h1 h2 hl hn hown hhd hd
    go_enter Try.func33, Try.ntmps33
    go_wp2_with fail
    refine HIX.out.mono ?_
    rintro e w1 ⟨rfl, hb1⟩
    go_wp2
    go_ret
    refine ⟨c, ?_, ?_, Kp.ofBelow hb1⟩
    · rw [HL.out, HN.out]
      rfl
    · rw [HL.out]
      exact Row.ofOwn (HO.out.kept (grownOfBelow hb1) (ownNone _)) fun y hy _ _ => by injection hy with hy; injection hy with hy; exact hy.symm
  · rw [Nat.zero_add] at h1
    rw [h1] at hix
    have HIX := Lib.hid hix
    rw [List.length_map, hn] at hj
    have hjl : j < l.length := by omega
    have hlj : left tr (l.take j) = l.take j := left_all tr _ fun x hx => h3 _ (by rw [← List.map_take]; exact List.mem_map.2 ⟨x, hx, rfl⟩)
    have hnej : ¬ (l[j]).1.trait = tr := by
      rw [List.getElem?_map, List.getElem?_eq_getElem hjl] at h4
      cases h4
      exact h5
    have hD0 : DelAt g n c base j tr l (l.map (·.2)) w := ⟨hown, by simp [hn], hn, by rw [hlj, List.length_take, List.map_take]; congr 1; omega, by rw [List.map_drop]⟩
    have hD1 := hD0.skip hj hnej
    have hjj : (left tr (l.take (j + 1))).length = j := by
      have e : left tr (l.take (j + 1)) = left tr (l.take j) := by
        unfold left
        rw [List.take_succ_eq_append_getElem hjl, List.filter_append]
        simp [hnej]
      rw [e, hlj, List.length_take]
      omega
    have HD1 := Lib.hid hD1
    have HJJ := Lib.hid hjj
    have HN := Lib.hid hn
    have hz : ((j : Int) == -1) = false := by simp
    clear hix h1 h3 h4 h5 hn hown hhd hlj hD0 hD1 hjj
    go_enter Try.func33, Try.ntmps33
    go_wp2_with fail
    refine HIX.out.mono ?_
    rintro e w1 ⟨rfl, hb1⟩
    go_wp2_with fail
    go_loopw [5, 6] (fun i jj wr => ∃ (k i0 : Nat), k ≤ n ∧ j < k ∧ jj = .int .i64 k ∧ i = .int .i64 i0 ∧ i0 = (left tr (l.take k)).length ∧ i0 < k ∧ ∃ qs : List HV, DelAt g n c base k tr l qs wr ∧ Kp (fun y => y = g) w wr) (fun _ jj _ => n - (intOf jj).toNat)
    case atStart =>
      exact ⟨j + 1, j, by omega, by omega, by go_num, rfl, HJJ.out.symm, by omega, _, ⟨HD1.out.own.kept (grownOfBelow hb1) (ownNone _), HD1.out.len, HD1.out.src, HD1.out.front, HD1.out.back⟩, Kp.ofBelow hb1⟩
    case round =>
      obtain ⟨k, i0, hk, hjk, rfl, rfl, hi0, hik, qs, hD, hK⟩ := hrel
      have HI0 := Lib.hid hi0
      clear hi0
      by_cases hlt : k < n
      · have hkl : k < l.length := by rw [HN.out]; exact hlt
        have hxk := hd l[k] (List.getElem_mem hkl)
        obtain ⟨s, P, m, a, hq⟩ := hxk.shape
        have hqk := hD.at_ hlt
        rw [hq] at hqk
        obtain ⟨e0, e1, e2, e3, e4⟩ := flat5_at _ _ _ hqk
        have hcell : ∀ o u, (flat5 qs)[k * 5 + o]? = some u → o < 5 → wr.cell? ⟨g, k * 5 + o, none⟩ = some u := fun o u hu ho => by
          rw [hD.own.cellAt _ (by omega)]; exact hu
        have c0 := hcell 0 _ e0 (by omega)
        have c1 := hcell 1 _ e1 (by omega)
        have c2 := hcell 2 _ e2 (by omega)
        have c3 := hcell 3 _ e3 (by omega)
        have c4 := hcell 4 _ e4 (by omega)
        dsimp only [Nat.add_zero] at c0 c1 c2 c3 c4
        have HD := Lib.hid hD
        have HQ := Lib.hid hq
        clear hcell e0 e1 e2 e3 e4 hqk hD hq hxk
        have hgl : g < wr.heap.size := (HD.out.own.lt g rfl).2
        have hgbl := World.block_lt_of_cell? w _ hg
        have hgr : wr.cell? ⟨gb, 0, none⟩ = some (sv tr) := (World.cell?_of_block (hK.block gb hgbl (fun e => hne e))).trans hg
        have hgr2 : (wr.alloc (.cells #[.string (bs s), .slice P.1 P.2.1 P.2.2, .string (bs l[k].1.trait), .string (bs m), .slice a.1 a.2.1 a.2.2] 37)).cell? ⟨gb, 0, none⟩ = some (sv tr) := (cellAlloc (World.block_lt_of_cell? wr _ hgr)).trans hgr
        go_wp2_with fail
        refine (del_any l[k].1.trait s m P a gb tr _ hgr2).mono ?_
        rintro e w2 ⟨r, rfl, hr, hb2⟩
        have hbW : Below wr.heap.size wr w2 := ((Below.refl wr.heap.size wr).alloc (Nat.le_refl _) _).trans (hb2.mono (by simp))
        have hx2 := (hb2.block wr.heap.size (by simp)).trans (alloc1 wr _)
        have b0 : w2.cell? ⟨wr.heap.size, 0, none⟩ = some (sv s) := by rw [Lib.cell_of_heap hx2]; rfl
        have b1 : w2.cell? ⟨wr.heap.size, 1, none⟩ = some (.slice P.1 P.2.1 P.2.2) := by rw [Lib.cell_of_heap hx2]; rfl
        have b2 : w2.cell? ⟨wr.heap.size, 2, none⟩ = some (sv l[k].1.trait) := by rw [Lib.cell_of_heap hx2]; rfl
        have b3 : w2.cell? ⟨wr.heap.size, 3, none⟩ = some (sv m) := by rw [Lib.cell_of_heap hx2]; rfl
        have b4 : w2.cell? ⟨wr.heap.size, 4, none⟩ = some (.slice a.1 a.2.1 a.2.2) := by rw [Lib.cell_of_heap hx2]; rfl
        have hD2 : DelAt g n c base k tr l qs w2 := ⟨HD.out.own.kept (grownOfBelow hbW) (ownNone _), HD.out.len, HD.out.src, HD.out.front, HD.out.back⟩
        have hK2 : Kp (fun y => y = g) w w2 := hK.below hbW
        have hI : ∃ y, (flat5 qs)[i0 * 5]? = some y := ⟨_, List.getElem?_eq_getElem (by rw [flat5_length, HD.out.len]; omega)⟩
        have hcells : ∀ o, o < 5 → ∃ y, w2.cell? ⟨g, i0 * 5 + o, none⟩ = some y := fun o ho => ⟨_, by rw [hD2.own.cellAt _ (by omega)]; exact List.getElem?_eq_getElem (by rw [flat5_length, HD.out.len]; omega)⟩
        obtain ⟨y0, p0⟩ := hcells 0 (by omega)
        obtain ⟨y1, p1⟩ := hcells 1 (by omega)
        obtain ⟨y2, p2⟩ := hcells 2 (by omega)
        obtain ⟨y3, p3⟩ := hcells 3 (by omega)
        obtain ⟨y4, p4⟩ := hcells 4 (by omega)
        dsimp only [Nat.add_zero] at p0
        have z0 := hD2.own.frozenAt (i0 * 5)
        have z1 := hD2.own.frozenAt (i0 * 5 + 1)
        have z2 := hD2.own.frozenAt (i0 * 5 + 2)
        have z3 := hD2.own.frozenAt (i0 * 5 + 3)
        have z4 := hD2.own.frozenAt (i0 * 5 + 4)
        have HR := Lib.hid hr
        have HD2 := Lib.hid hD2
        clear hr hD2 hcells hI hx2 c0 c1 c2 c3 c4 hgr hgr2
        cases r with
        | true =>
          have hnk : ¬ (l[k]).1.trait = tr := HR.out.1 rfl
          have hlk : left tr (l.take (k + 1)) = left tr (l.take k) := by
            unfold left
            rw [List.take_succ_eq_append_getElem hkl, List.filter_append]
            simp [hnk]
          have HLK := Lib.hid hlk
          have HD3 := Lib.hid (HD2.out.skip hlt hnk)
          clear hlk hnk
          go_wp2_with fail
          go_roundw
          case rel => exact ⟨k + 1, i0, by omega, by omega, by go_num, rfl, by rw [HLK.out]; exact HI0.out, by omega, qs, HD3.out, hK2⟩
          case measure => simp [intOf]; omega
        | false =>
          have heq : (l[k]).1.trait = tr := by
            by_cases h : (l[k]).1.trait = tr
            · exact h
            · have := HR.out.2 h; cases this
          have hlk : left tr (l.take (k + 1)) = left tr (l.take k) ++ [l[k]] := by
            unfold left
            rw [List.take_succ_eq_append_getElem hkl, List.filter_append]
            simp [heq]
          have hD3 := HD2.out.take hlt heq
          rw [← HI0.out, HQ.out] at hD3
          have hK3 : Kp (fun y => y = g) w (putH w2 g i0 ⟨sv s, .slice P.1 P.2.1 P.2.2, sv l[k].1.trait, sv m, .slice a.1 a.2.1 a.2.2⟩) := hK2.grown (putH_grown _ _ _ _) (fun r hr _ => by injection hr with hr; exact hr.symm)
          have HLK := Lib.hid hlk
          have HD3 := Lib.hid hD3
          have HK3 := Lib.hid hK3
          clear hlk heq hD3 hK3
          go_wp2_with fail
          go_roundw
          case rel => exact ⟨k + 1, i0 + 1, by omega, by omega, by go_num, by go_num, by rw [HLK.out, List.length_append, ← HI0.out]; rfl, by omega, _, HD3.out, HK3.out⟩
          case measure => simp [intOf]; omega
      · have hkn : k = n := by omega
        have HKN := Lib.hid hkn
        have HD := Lib.hid hD
        have hg0 : ¬ k < n := hlt
        have hi1 : i0 < n := by omega
        have hi2 : i0 ≤ n := by omega
        have hi3 : n ≤ c := hnc.1
        have hi4 : ¬ i0 = c := by omega
        clear hkn hD
        go_wp2_with fail
        rw [run_clear_wide wr 41 37 0 zeroH Try.underlying41 (fun w => by kernel_rfl) g (i0 * 5) (n - i0) (c - i0) (by omega) (fun o ho => by
          rw [zeroH_len] at ho
          rw [HD.out.own.cellAt _ (by omega), List.getElem?_eq_getElem (by rw [flat5_length, HD.out.len]; omega)]
          rfl) (fun o _ => HD.out.own.frozenAt _) (zeroH_one _)]
        simp only [Result.andThen]
        rw [Oper.upon_value]
        have hlt' : left tr (l.take k) = left tr l := by rw [HKN.out, List.take_of_length_le (by rw [HN.out]; exact Nat.le_refl _)]
        have hfr := HD.out.front
        have hi0' := HI0.out
        rw [hlt'] at hfr hi0'
        rw [← hi0'] at hfr
        have HI1 := Lib.hid hi0'
        have HFR := Lib.hid hfr
        clear hfr hi0' hlt'
        have hgs := grownSets g (Builtin.zeroCells zeroH.cells (n - i0)).toList (i0 * 5) wr
        have hKf : Kp (fun y => y = g) w (wr.setCells g (i0 * 5) (Builtin.zeroCells zeroH.cells (n - i0)).toList) := hK.grown hgs (fun r hr _ => by injection hr with hr; exact hr.symm)
        have hrowf : Row (wr.setCells g (i0 * 5) (Builtin.zeroCells zeroH.cells (n - i0)).toList) (fun y => y = g) (some ⟨g, 0, none⟩) (flat5 ((left tr l).map (·.2))) := by
          refine .inr ⟨_, rfl, rfl, fun o u hu => ?_⟩
          have hlt := (List.getElem?_eq_some_iff.1 hu).1
          rw [flat5_length, List.length_map, ← HI1.out] at hlt
          have ha : (⟨g, 0, none⟩ : Addr).add o = ⟨g, o, none⟩ := by unfold Addr.add; split <;> simp_all
          rw [ha, World.cell?_setCells_out _ _ _ _ _ (fun _ _ => .inl hlt), HD.out.own.cellAt _ (by omega)]
          rw [← HFR.out] at hu
          rw [← List.take_append_drop i0 qs, flat5_append, List.getElem?_append_left (by rw [flat5_length, List.length_take]; have := HD.out.len; omega)]
          exact hu
        have HKF := Lib.hid hKf
        have HROWF := Lib.hid hrowf
        clear hKf hrowf hgs
        generalize wr.setCells g (i0 * 5) (Builtin.zeroCells zeroH.cells (n - i0)).toList = W9 at *
        go_wp2_with fail
        go_ret
        refine ⟨c, ?_, HROWF.out, HKF.out⟩
        rw [← HI1.out]
        rfl
end Go.Proofs.Ytkoddmgbpjmohaa
