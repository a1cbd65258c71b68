/-
  The walk of identity.Moves.
  Conditions: the arguments read as identities.
-/
import Derived.Test.YtmnhgkhidepojaaIdD
namespace Go.Proofs.Ytmnhgkhidepojaa
open Go.RowKit

def seekL (L : List (Int × Key)) (i : Int) : Option Key := (L.find? fun p => decide (p.1 = i)).map (·.2)
def seekX (xs : List Idn) (i : Int) : Option Key := (xs.find? fun y => decide (y.id = i)).map (·.key)
def movedB (old : List Idn) (y : Idn) : Bool := match seekX old y.id with | some k => decide (k ≠ y.key) | none => false
def mvs (old now : List Idn) : List Idn := now.filter (movedB old)

theorem seekL_some {L : List (Int × Key)} {i : Int} {k : Key} (h : seekL L i = some k) : (i, k) ∈ L := by
  unfold seekL at h
  obtain ⟨p, hp, rfl⟩ := Option.map_eq_some_iff.1 h
  have h1 := List.find?_some hp
  have h2 := List.mem_of_find?_eq_some hp
  simp at h1
  rw [← h1]
  exact h2
theorem seekL_none {L : List (Int × Key)} {i : Int} (h : seekL L i = none) : ∀ p ∈ L, p.1 ≠ i := by
  unfold seekL at h
  rw [Option.map_eq_none_iff, List.find?_eq_none] at h
  intro p hp
  simpa using h p hp
theorem seekX_snoc (xs : List Idn) (y : Idn) (i : Int) : seekX (xs ++ [y]) i = (seekX xs i).or (if y.id = i then some y.key else none) := by
  unfold seekX
  rw [List.find?_append]
  cases hf : xs.find? fun y => decide (y.id = i) with
  | some z => rfl
  | none =>
    by_cases h : y.id = i
    · simp [h]
    · simp [h]
theorem seekL_snoc (L : List (Int × Key)) (p : Int × Key) (i : Int) : seekL (L ++ [p]) i = (seekL L i).or (if p.1 = i then some p.2 else none) := by
  unfold seekL
  rw [List.find?_append]
  cases hf : L.find? fun y => decide (y.1 = i) with
  | some z => rfl
  | none =>
    by_cases h : p.1 = i
    · simp [h]
    · simp [h]
def wasV (p : Int × Key) : Value × Value := (.int .i64 p.1, nmV p.2)

set_option maxHeartbeats 1600000 in
set_option maxRecDepth 100000 in
theorem moves_any (n1 n2 : Int) (old now : List Idn) (A B : Option Addr) (c d : Nat) (w : World) (hl : old.length ≤ 1000) (hl2 : now.length ≤ 1000) (h : Row w (Lt w.heap.size) A (flt idC old)) (h2 : Row w (Lt w.heap.size) B (flt idC now)) :
    Calls Try.prog 19 #[.agg #[.int .i64 n1, .slice A old.length c], .agg #[.int .i64 n2, .slice B now.length d]] w (OwnIds w (mvs old now)) := by
  obtain ⟨m, hm⟩ : ∃ m, m = old.length := ⟨_, rfl⟩
  obtain ⟨m2, hm2⟩ : ∃ m, m = now.length := ⟨_, rfl⟩
  rw [← hm] at hl ⊢
  rw [← hm2] at hl2 ⊢
  have HM := Lib.hid hm
  have HM2 := Lib.hid hm2
  have HR := Lib.hid h
  have HR2 := Lib.hid h2
  clear hm hm2 h h2
  have hbx : Below w.heap.size w (((w.alloc (.cells #[.int .i64 n1, .slice A m c] 29)).alloc (.cells #[.int .i64 n2, .slice B m2 d] 29)).alloc (.map #[] 0)) := (((Below.refl _ _).alloc (Nat.le_refl _) _).alloc (by simp) _).alloc (by simp; omega) _
  have hy0 : (((w.alloc (.cells #[.int .i64 n1, .slice A m c] 29)).alloc (.cells #[.int .i64 n2, .slice B m2 d] 29)).alloc (.map #[] 0)).heap[w.heap.size + 1]? = some (.cells #[.int .i64 n2, .slice B m2 d] 29 (0, 0)) := (alloc3 _ _ _ _).2.1
  have hmp : MapAt (((w.alloc (.cells #[.int .i64 n1, .slice A m c] 29)).alloc (.cells #[.int .i64 n2, .slice B m2 d] 29)).alloc (.map #[] 0)) (w.heap.size + 2) [] := by
    have := MapAt.new ((w.alloc (.cells #[.int .i64 n1, .slice A m c] 29)).alloc (.cells #[.int .i64 n2, .slice B m2 d] 29))
    simpa using this
  have HBX := Lib.hid hbx
  have HY0 := Lib.hid hy0
  have HMP := Lib.hid hmp
  clear hbx hy0 hmp
  have hmm := @run_makeMap Try.prog
  go_enter Try.func19, Try.ntmps19
  go_wp2_with fail
  clear hmm
  obtain ⟨w0, hw0⟩ : ∃ w0, w0 = (((w.alloc (.cells #[.int .i64 n1, .slice A m c] 29)).alloc (.cells #[.int .i64 n2, .slice B m2 d] 29)).alloc (.map #[] 0)) := ⟨_, rfl⟩
  rw [← hw0] at HBX HY0 HMP ⊢
  clear hw0
  go_loopw [19] (fun i wr => ∃ (k : Nat) (L : List (Int × Key)), k ≤ m ∧ i = .int .i64 k ∧ Below w.heap.size w wr ∧ wr.heap[w.heap.size + 1]? = some (.cells #[.int .i64 n2, .slice B m2 d] 29 (0, 0)) ∧
    MapAt wr (w.heap.size + 2) (L.map wasV) ∧ ∀ i, seekL L i = seekX (old.take k) i) (fun i _ => m - (intOf i).toNat)
  case atStart => exact ⟨0, [], by omega, rfl, HBX.out, HY0.out, HMP.out, fun i => rfl⟩
  case round =>
    obtain ⟨k, L, hkm, rfl, hB, hX, hMp, hP⟩ := hrel
    have hsz := hB.size
    have hlx := lt_of_heap hX
    have hlm := hMp.lt
    have hkeys : ∀ p ∈ L.map wasV, KInt wr p.1 := fun p hp => by
      obtain ⟨z, _, rfl⟩ := List.mem_map.1 hp
      exact ⟨_, rfl⟩
    by_cases hlt : k < m
    · obtain ⟨y, hy⟩ : ∃ y, old[k]? = some y := ⟨_, List.getElem?_eq_getElem (by rw [← HM.out]; exact hlt)⟩
      obtain ⟨ad, rfl, hS, a0, a1, a2, a3⟩ := id_at (HR.out.keep (kept_below hB)) hy
      have htk : old.take (k + 1) = old.take k ++ [y] := by rw [List.take_add_one, hy]; rfl
      have hy1 := alloc1 wr (.cells #[.int .i64 y.id, sv y.it.md, sv y.it.nm, sv y.it.sh] 39)
      have hby : Below wr.heap.size wr (wr.alloc (.cells #[.int .i64 y.id, sv y.it.md, sv y.it.nm, sv y.it.sh] 39)) := (Below.refl _ _).alloc (Nat.le_refl _) _
      have hm1 := hMp.same (hby.block _ hlm)
      cases hsk : seekL L y.id with
      | some kk =>
        have hlk : (Instr.lookup 64 (.map (some (w.heap.size + 2))) (.int .i64 y.id) true).run Try.prog (wr.alloc (.cells #[.int .i64 y.id, sv y.it.md, sv y.it.nm, sv y.it.sh] 39)) = .ok (.tuple #[nmV kk, .bool true]) _ :=
          run_look2_yes (K := KInt) Try.underlying64 (keyInt Try.underlying3) hm1 ⟨_, rfl⟩ hkeys (List.mem_map.2 ⟨_, seekL_some hsk, rfl⟩)
        rw [show nmV kk = .agg #[sv kk.1, sv kk.2] from rfl] at hlk
        have HB := Lib.hid ((hB.trans (hby.mono hsz)).alloc (by simp; omega) (.cells #[sv kk.1, sv kk.2] 58))
        have HX := Lib.hid ((heap_alloc_old _ (.cells #[sv kk.1, sv kk.2] 58) (by simp; omega)).trans ((hby.block _ hlx).trans hX))
        have HMp := Lib.hid (hm1.same (heap_alloc_old _ (.cells #[sv kk.1, sv kk.2] 58) (by simp; omega)))
        have HP : Hid (∀ i, seekL L i = seekX (old.take (k + 1)) i) := Lib.hid fun i => by
          rw [htk, seekX_snoc, ← hP i]
          by_cases e : y.id = i
          · rw [← e, hsk]; rfl
          · rw [if_neg e]; cases seekL L i <;> rfl
        clear hB hX hMp hP hy hy1 hby hm1 hsk hkeys htk
        go_wp2
        go_roundw
        case rel => exact ⟨k + 1, L, by omega, by go_num, HB.out, HX.out, HMp.out, HP.out⟩
        case measure => simp [intOf]; omega
      | none =>
        have hlk : (Instr.lookup 64 (.map (some (w.heap.size + 2))) (.int .i64 y.id) true).run Try.prog (wr.alloc (.cells #[.int .i64 y.id, sv y.it.md, sv y.it.nm, sv y.it.sh] 39)) = .ok (.tuple #[.agg #[.string ⟨#[]⟩, .string ⟨#[]⟩], .bool false]) _ :=
          run_look2_no (K := KInt) Try.underlying64 (keyInt Try.underlying3) hm1 ⟨_, rfl⟩ hkeys (by kernel_rfl) (fun p hp e => by
            obtain ⟨z, hz, rfl⟩ := List.mem_map.1 hp
            exact seekL_none hsk z hz (by injection e))
        have HB := Lib.hid ((hB.trans (hby.mono hsz)).alloc (by simp; omega) (.cells #[.string ⟨#[]⟩, .string ⟨#[]⟩] 58))
        have HX := Lib.hid ((heap_alloc_old _ (.cells #[.string ⟨#[]⟩, .string ⟨#[]⟩] 58) (by simp; omega)).trans ((hby.block _ hlx).trans hX))
        have HMp := Lib.hid (hm1.same (heap_alloc_old _ (.cells #[.string ⟨#[]⟩, .string ⟨#[]⟩] 58) (by simp; omega)))
        have HY1 := Lib.hid ((heap_alloc_old _ (.cells #[.string ⟨#[]⟩, .string ⟨#[]⟩] 58) (by simp)).trans hy1)
        have HSK := Lib.hid hsk
        have HTK := Lib.hid htk
        have HP := Lib.hid hP
        clear hB hX hMp hP hy hy1 hby hm1 hsk hkeys htk
        go_wp2_with fail
        obtain ⟨w2, hw2⟩ : ∃ w2, w2 = (wr.alloc (.cells #[.int .i64 y.id, sv y.it.md, sv y.it.nm, sv y.it.sh] 39)).alloc (.cells #[.string ⟨#[]⟩, .string ⟨#[]⟩] 58) := ⟨_, rfl⟩
        have HS2 := Lib.hid (show w2.heap.size = wr.heap.size + 2 by rw [hw2]; simp)
        rw [← hw2] at HB HX HMp HY1 ⊢
        clear hw2 hlk
        have r0 : w2.cell? ⟨wr.heap.size, 0, none⟩ = some (.int .i64 y.id) := (Lib.cell_of_heap HY1.out _).trans rfl
        have r1 : w2.cell? ⟨wr.heap.size, 1, none⟩ = some (sv y.it.md) := (Lib.cell_of_heap HY1.out _).trans rfl
        have r2 : w2.cell? ⟨wr.heap.size, 2, none⟩ = some (sv y.it.nm) := (Lib.cell_of_heap HY1.out _).trans rfl
        have r3 : w2.cell? ⟨wr.heap.size, 3, none⟩ = some (sv y.it.sh) := (Lib.cell_of_heap HY1.out _).trans rfl
        refine wp_region_held' (fun w' => w'.cell? ⟨wr.heap.size, 0, none⟩ = some (.int .i64 y.id) ∧ w'.cell? ⟨wr.heap.size, 1, none⟩ = some (sv y.it.md) ∧ w'.cell? ⟨wr.heap.size, 2, none⟩ = some (sv y.it.nm) ∧ w'.cell? ⟨wr.heap.size, 3, none⟩ = some (sv y.it.sh)) [] [0, 1, 2, 3, 4] [5] [6] (by kernel_rfl) (by kernel_rfl) ?s0 ?h0
        case s0 => exact ⟨r0, r1, r2, r3⟩
        case h0 =>
          simp only [opsAt, List.filterMap_cons, List.filterMap_nil, List.getElem?_toArray, List.getElem?_cons_succ, List.getElem?_cons_zero]
          refine wpFloat_nil ?_
          refine wpLoad_step ?va0 rfl (fun w' hS => ?ya0) ?ka0
          case ya0 =>
            obtain ⟨g0, g1, g2, g3⟩ := hS
            go_simp
            try rfl
          case ka0 =>
          go_simp
          refine wpLoad_step ?va1 rfl (fun w' hS => ?ya1) ?ka1
          case ya1 =>
            obtain ⟨g0, g1, g2, g3⟩ := hS
            go_simp
            try rfl
          case ka1 =>
          go_simp
          refine wpLoad_step ?va2 rfl (fun w' hS => ?ya2) ?ka2
          case ya2 =>
            obtain ⟨g0, g1, g2, g3⟩ := hS
            go_simp
            try rfl
          case ka2 =>
          go_simp
          refine wpLoad_step ?va3 rfl (fun w' hS => ?ya3) ?ka3
          case ya3 =>
            obtain ⟨g0, g1, g2, g3⟩ := hS
            go_simp
            try rfl
          case ka3 =>
          go_simp
          refine wpLoad_step ?va4 rfl (fun w' hS => ?ya4) ?ka4
          case ya4 =>
            obtain ⟨g0, g1, g2, g3⟩ := hS
            go_simp
            try rfl
          case ka4 =>
          go_simp
          refine wpLoad_nil ?_
          refine wpKeep_step rfl ?_
          go_simp
          refine (ofk_any _ _ _ w2.drew).mono ?_
          rintro e w4 ⟨rfl, hb4⟩
          have hsz2 := HS2.out
          have hsz4 : w2.heap.size ≤ w4.heap.size := hb4.size
          have hd : Below w2.heap.size w2 w4 := (Below.refl _ w2).drew.trans hb4
          have hm4 := HMp.out.same (hd.block _ (by omega))
          have hx4 := (hd.block _ (by omega)).trans HX.out
          have hbw4 : Below w.heap.size w w4 := HB.out.trans (hd.mono (by omega))
          refine ⟨⟨(hd.cell (block_lt_of_cell r0)).trans r0, (hd.cell (block_lt_of_cell r1)).trans r1, (hd.cell (block_lt_of_cell r2)).trans r2, (hd.cell (block_lt_of_cell r3)).trans r3⟩, ?_⟩
          obtain ⟨w5, hput, hm5, hk5⟩ := run_put_new (P := Try.prog) (K := KInt) (k := .int .i64 y.id) (nmV y.key) Try.underlying64 (keyInt Try.underlying3) hm4 ⟨_, rfl⟩ (fun p hp => by
            obtain ⟨z, _, rfl⟩ := List.mem_map.1 hp
            exact ⟨_, rfl⟩) (fun p hp e => by
            obtain ⟨z, hz, rfl⟩ := List.mem_map.1 hp
            exact seekL_none HSK.out z hz (by injection e))
          have hput' : (Instr.mapUpdate 64 (.map (some (w.heap.size + 2))) (.int .i64 y.id) (.agg #[sv y.it.md, sv y.it.nm])).run Try.prog w4 = .ok () w5 := hput
          have HM5 := Lib.hid hm5
          have HX5 := Lib.hid (hk5.heap hx4 (by omega))
          have HB5 : Hid (Below w.heap.size w w5) := Lib.hid ⟨hk5.os.trans hbw4.os, hk5.tape.trans hbw4.tape, hk5.output.trans hbw4.output, Nat.le_trans hbw4.size hk5.size, fun b hb => (hk5.block b (by omega) (by omega)).trans (hbw4.block b hb)⟩
          clear hm4 hx4 hbw4 hb4 hput hm5 hk5 r0 r1 r2 r3 hd hsz2
          refine wpKeep_nil ?_
          go_wp2
          refine NoPanic.normal ?_
          go_wp2
          go_roundw
          case rel =>
            refine ⟨k + 1, L ++ [(y.id, y.key)], by omega, by go_num, HB5.out, HX5.out, ?_, fun i => ?_⟩
            · rw [List.map_append]
              exact HM5.out
            · rw [HTK.out, seekX_snoc, seekL_snoc, HP.out i]
          case measure => simp [intOf]; omega
    · have hx : old.take k = old := List.take_of_length_le (by rw [← HM.out]; omega)
      rw [hx] at hP
      have c1 : wr.cell? ⟨w.heap.size + 1, 1, none⟩ = some (.slice B m2 d) := (Lib.cell_of_heap hX _).trans rfl
      have HP := Lib.hid hP
      have HB1 := Lib.hid hB
      have HMp := Lib.hid hMp
      obtain ⟨wo, hwo⟩ : ∃ wo : World, wo = wr := ⟨_, rfl⟩
      rw [← hwo] at HB1 HMp
      have HWO := Lib.hid hwo
      clear hx hP hB hX hMp hkeys hwo
      go_wp2_with fail
      clear c1
      obtain ⟨i0, hi, hz0, hz1, hz2⟩ := info_parts infoId
      go_loopw [10, 42] (fun ov i wr => ∃ k : Nat, k ≤ m2 ∧ i = .int .i64 k ∧ Below w.heap.size w wr ∧ MapAt wr (w.heap.size + 2) (L.map wasV) ∧ wr.ownsRow (w.heap.size + 3) 39 4 ov (mvs old (now.take k)).length (flt idC (mvs old (now.take k)))) (fun _ i _ => m2 - (intOf i).toNat)
      case atStart =>
        rw [← HWO.out]
        exact ⟨0, by omega, rfl, HB1.out, HMp.out, World.ownsRow_nil _ _ _ _⟩
      case round =>
        clear HB1 HMp HWO
        obtain ⟨k2, hkm2, rfl, hB, hMp, hO⟩ := hrel
        have hsz1 := hB.size
        have hlm1 := hMp.lt
        have hkeys : ∀ p ∈ L.map wasV, KInt wr p.1 := fun p hp => by
          obtain ⟨z, _, rfl⟩ := List.mem_map.1 hp
          exact ⟨_, rfl⟩
        obtain ⟨OA, oc, hov, hoc⟩ := own_slice hO
        by_cases hlt2 : k2 < m2
        · obtain ⟨y, hy⟩ : ∃ y, now[k2]? = some y := ⟨_, List.getElem?_eq_getElem (by rw [← HM2.out]; exact hlt2)⟩
          obtain ⟨ad, rfl, hS, a0, a1, a2, a3⟩ := id_at (HR2.out.keep (kept_below hB)) hy
          have htk : mvs old (now.take (k2 + 1)) = mvs old (now.take k2) ++ (if movedB old y = true then [y] else []) := by
            rw [List.take_add_one, hy, mvs, List.filter_append]
            congr 1
            by_cases e : movedB old y = true <;> simp [e]
          have hy1 := alloc1 wr (.cells #[.int .i64 y.id, sv y.it.md, sv y.it.nm, sv y.it.sh] 39)
          have hby : Below wr.heap.size wr (wr.alloc (.cells #[.int .i64 y.id, sv y.it.md, sv y.it.nm, sv y.it.sh] 39)) := (Below.refl _ _).alloc (Nat.le_refl _) _
          have hm1 := hMp.same (hby.block _ hlm1)
          obtain ⟨q, hq⟩ : ∃ q, q = (mvs old (now.take k2)).length := ⟨_, rfl⟩
          rw [← hq] at hO hov
          have HQ := Lib.hid hq
          have HQL : Hid (q ≤ k2) := Lib.hid (by rw [hq, mvs]; exact Nat.le_trans (List.length_filter_le _ _) (by rw [List.length_take]; omega))
          clear hq
          subst hov
          cases hsk : seekL L y.id with
          | none =>
            have hlk : (Instr.lookup 64 (.map (some (w.heap.size + 2))) (.int .i64 y.id) true).run Try.prog (wr.alloc (.cells #[.int .i64 y.id, sv y.it.md, sv y.it.nm, sv y.it.sh] 39)) = .ok (.tuple #[.agg #[.string ⟨#[]⟩, .string ⟨#[]⟩], .bool false]) _ :=
              run_look2_no (K := KInt) Try.underlying64 (keyInt Try.underlying3) hm1 ⟨_, rfl⟩ hkeys (by kernel_rfl) (fun p hp e => by
                obtain ⟨z, hz, rfl⟩ := List.mem_map.1 hp
                exact seekL_none hsk z hz (by injection e))
            have hmv : movedB old y = false := by unfold movedB; rw [← HP.out, hsk]
            rw [hmv] at htk
            simp only [Bool.false_eq_true, if_false, List.append_nil] at htk
            have hb2 := hby.alloc (by simp) (.cells #[.string ⟨#[]⟩, .string ⟨#[]⟩] 58)
            obtain ⟨w2, hw2⟩ : ∃ w2, w2 = (wr.alloc (.cells #[.int .i64 y.id, sv y.it.md, sv y.it.nm, sv y.it.sh] 39)).alloc (.cells #[.string ⟨#[]⟩, .string ⟨#[]⟩] 58) := ⟨_, rfl⟩
            rw [← hw2] at hb2
            have HB2 := Lib.hid (hB.trans (hb2.mono hsz1))
            have HMp2 := Lib.hid (hMp.same (hb2.block _ hlm1))
            have HO2 := Lib.hid ((Kp.ofBelow hb2 : Kp (fun _ => False) wr w2).own hO (fun _ _ e => e.elim))
            have HTK := Lib.hid htk
            have HW2 := Lib.hid hw2
            clear hm1 hMp hB hO hy hy1 hsk hkeys htk hby hb2 hw2 hoc hmv
            go_wp2_with fail
            rw [← HW2.out]
            clear hlk
            refine wp_region_held' (fun w' => True) [] [0, 1, 2, 3, 4, 5, 6] [] [7] (by kernel_rfl) (by kernel_rfl) ?s1 ?h1
            case s1 => trivial
            case h1 =>
              simp only [opsAt, List.filterMap_cons, List.filterMap_nil, List.getElem?_toArray, List.getElem?_cons_succ, List.getElem?_cons_zero]
              refine wpFloat_nil ?_
              refine wpLoad_step ?vb0 rfl (fun w' hS => ?yb0) ?kb0
              case yb0 =>
                obtain _ := hS
                go_simp
                try rfl
              case kb0 =>
              go_simp
              refine wpLoad_step ?vb1 rfl (fun w' hS => ?yb1) ?kb1
              case yb1 =>
                obtain _ := hS
                go_simp
                try rfl
              case kb1 =>
              go_simp
              refine wpLoad_skip rfl ?_
              go_simp
              refine wpLoad_skip rfl ?_
              go_simp
              refine wpLoad_skip rfl ?_
              go_simp
              refine wpLoad_skip rfl ?_
              go_simp
              refine wpLoad_skip rfl ?_
              go_simp
              refine wpLoad_nil ?_
              refine wpKeep_nil ?_
              go_wp2
              refine NoPanic.normal ?_
              go_wp2
              go_roundw
              case rel =>
                refine ⟨k2 + 1, by omega, by go_num, HB2.out.drew, HMp2.out.same rfl, ?_⟩
                rw [HTK.out, ← HQ.out]
                exact (Kp.refl (fun _ => False) w2).drew.own HO2.out (fun _ _ e => e.elim)
              case measure => simp [intOf]; omega
          | some kk =>
            have hlk : (Instr.lookup 64 (.map (some (w.heap.size + 2))) (.int .i64 y.id) true).run Try.prog (wr.alloc (.cells #[.int .i64 y.id, sv y.it.md, sv y.it.nm, sv y.it.sh] 39)) = .ok (.tuple #[.agg #[sv kk.1, sv kk.2], .bool true]) _ :=
              run_look2_yes (K := KInt) (v := nmV kk) Try.underlying64 (keyInt Try.underlying3) hm1 ⟨_, rfl⟩ hkeys (List.mem_map.2 ⟨_, seekL_some hsk, rfl⟩)
            have hmv : movedB old y = decide (kk ≠ y.key) := by unfold movedB; rw [← HP.out, hsk]
            have hb2 := hby.alloc (by simp) (.cells #[sv kk.1, sv kk.2] 58)
            obtain ⟨w2, hw2⟩ : ∃ w2, w2 = (wr.alloc (.cells #[.int .i64 y.id, sv y.it.md, sv y.it.nm, sv y.it.sh] 39)).alloc (.cells #[sv kk.1, sv kk.2] 58) := ⟨_, rfl⟩
            have hbs := alloc2 wr (.cells #[.int .i64 y.id, sv y.it.md, sv y.it.nm, sv y.it.sh] 39) (.cells #[sv kk.1, sv kk.2] 58)
            rw [← hw2] at hb2 hbs
            have r0 : w2.cell? ⟨wr.heap.size, 0, none⟩ = some (.int .i64 y.id) := (Lib.cell_of_heap hbs.1 _).trans rfl
            have r1 : w2.cell? ⟨wr.heap.size, 1, none⟩ = some (sv y.it.md) := (Lib.cell_of_heap hbs.1 _).trans rfl
            have r2 : w2.cell? ⟨wr.heap.size, 2, none⟩ = some (sv y.it.nm) := (Lib.cell_of_heap hbs.1 _).trans rfl
            have r3 : w2.cell? ⟨wr.heap.size, 3, none⟩ = some (sv y.it.sh) := (Lib.cell_of_heap hbs.1 _).trans rfl
            have n0 : w2.cell? ⟨wr.heap.size + 1, 0, none⟩ = some (sv kk.1) := (Lib.cell_of_heap hbs.2 _).trans rfl
            have n1 : w2.cell? ⟨wr.heap.size + 1, 1, none⟩ = some (sv kk.2) := (Lib.cell_of_heap hbs.2 _).trans rfl
            have HS2 := Lib.hid (show w2.heap.size = wr.heap.size + 2 by rw [hw2]; simp)
            have HB2 := Lib.hid (hB.trans (hb2.mono hsz1))
            have HMp2 := Lib.hid (hMp.same (hb2.block _ hlm1))
            have HO2 := Lib.hid ((Kp.ofBelow hb2 : Kp (fun _ => False) wr w2).own hO (fun _ _ e => e.elim))
            have HTK := Lib.hid htk
            have HMV := Lib.hid hmv
            have HW2 := Lib.hid hw2
            clear hm1 hMp hB hO hy hy1 hsk hkeys htk hby hb2 hw2 hoc hmv hbs
            go_wp2_with fail
            rw [← HW2.out]
            clear hlk
            refine wp_region_held' (fun w' => w'.cell? ⟨wr.heap.size, 0, none⟩ = some (.int .i64 y.id) ∧ w'.cell? ⟨wr.heap.size, 1, none⟩ = some (sv y.it.md) ∧ w'.cell? ⟨wr.heap.size, 2, none⟩ = some (sv y.it.nm) ∧ w'.cell? ⟨wr.heap.size, 3, none⟩ = some (sv y.it.sh) ∧
              w'.cell? ⟨wr.heap.size + 1, 0, none⟩ = some (sv kk.1) ∧ w'.cell? ⟨wr.heap.size + 1, 1, none⟩ = some (sv kk.2)) [] [0, 1, 2, 3, 4] [5] [6, 7] (by kernel_rfl) (by kernel_rfl) ?s2 ?h2
            case s2 => exact ⟨r0, r1, r2, r3, n0, n1⟩
            case h2 =>
              simp only [opsAt, List.filterMap_cons, List.filterMap_nil, List.getElem?_toArray, List.getElem?_cons_succ, List.getElem?_cons_zero]
              refine wpFloat_nil ?_
              refine wpLoad_step ?vc0 rfl (fun w' hS => ?yc0) ?kc0
              case yc0 =>
                obtain ⟨g0, g1, g2, g3, g4, g5⟩ := hS
                go_simp
                try rfl
              case kc0 =>
              go_simp
              refine wpLoad_step ?vc1 rfl (fun w' hS => ?yc1) ?kc1
              case yc1 =>
                obtain ⟨g0, g1, g2, g3, g4, g5⟩ := hS
                go_simp
                try rfl
              case kc1 =>
              go_simp
              refine wpLoad_step ?vc2 rfl (fun w' hS => ?yc2) ?kc2
              case yc2 =>
                obtain ⟨g0, g1, g2, g3, g4, g5⟩ := hS
                go_simp
                try rfl
              case kc2 =>
              go_simp
              refine wpLoad_step ?vc3 rfl (fun w' hS => ?yc3) ?kc3
              case yc3 =>
                obtain ⟨g0, g1, g2, g3, g4, g5⟩ := hS
                go_simp
                try rfl
              case kc3 =>
              go_simp
              refine wpLoad_step ?vc4 rfl (fun w' hS => ?yc4) ?kc4
              case yc4 =>
                obtain ⟨g0, g1, g2, g3, g4, g5⟩ := hS
                go_simp
                try rfl
              case kc4 =>
              go_simp
              refine wpLoad_nil ?_
              refine wpKeep_step rfl ?_
              go_simp
              refine (ofk_any _ _ _ w2.drew).mono ?_
              rintro e w4 ⟨rfl, hb4⟩
              have hsz2 := HS2.out
              have hsz4 : w2.heap.size ≤ w4.heap.size := hb4.size
              have hd : Below w2.heap.size w2 w4 := (Below.refl _ w2).drew.trans hb4
              have q0 := (hd.cell (block_lt_of_cell r0)).trans r0
              have q1 := (hd.cell (block_lt_of_cell r1)).trans r1
              have q2 := (hd.cell (block_lt_of_cell r2)).trans r2
              have q3 := (hd.cell (block_lt_of_cell r3)).trans r3
              refine ⟨⟨q0, q1, q2, q3, (hd.cell (block_lt_of_cell n0)).trans n0, (hd.cell (block_lt_of_cell n1)).trans n1⟩, ?_⟩
              have HM4 := Lib.hid (HMp2.out.same (hd.block _ (by omega)))
              have HB4 := Lib.hid (HB2.out.trans (hd.mono (by omega)))
              have HO4 := Lib.hid ((Kp.ofBelow hd : Kp (fun _ => False) w2 w4).own HO2.out (fun _ _ e => e.elim))
              have HSZ4 := Lib.hid hsz4
              clear r0 r1 r2 r3 n0 n1 hb4 hd hsz2 hsz4
              refine wpKeep_nil ?_
              by_cases h1 : kk.1 = y.it.md
              · have h1' : (bs kk.1).toList = (bs y.it.md).toList := by rw [h1]
                by_cases h2 : kk.2 = y.it.nm
                · have h2' : (bs kk.2).toList = (bs y.it.nm).toList := by rw [h2]
                  have hmv : movedB old y = false := by rw [HMV.out, decide_eq_false_iff_not]; exact fun h => h (Prod.ext h1 h2)
                  clear h1 h2
                  go_wp2
                  refine NoPanic.normal ?_
                  go_wp2
                  go_roundw
                  case rel =>
                    refine ⟨k2 + 1, by omega, by go_num, HB4.out, HM4.out, ?_⟩
                    rw [HTK.out, hmv]
                    simp only [Bool.false_eq_true, if_false, List.append_nil]
                    rw [← HQ.out]
                    exact HO4.out
                  case measure => simp [intOf]; omega
                · have h2' : ¬ (bs kk.2).toList = (bs y.it.nm).toList := fun e => h2 (by rwa [bs_toList, bs_toList] at e)
                  have hmv : movedB old y = true := by rw [HMV.out, decide_eq_true_eq]; exact fun e => h2 (congrArg Prod.snd e)
                  clear h1 h2
                  go_wp2
                  refine NoPanic.normal ?_
                  go_wp2_with (at_builtin; refine wpList_append_lies _ rfl _ _ 27 rfl (w.heap.size + 3) 39 i0 _ 4 56 Try.underlying27 hi hz0 hz1 hz2 rfl (by omega) _ q (flt idC (mvs old (now.take k2))) rfl (HO4.out.alloc _) ⟨w4.heap.size, 0, none⟩ 1 1 (idC y) rfl rfl ?d1a ?d2a (by omega) ?d3a ?d4a ?d5a _ rfl ?_)
                  case d1a => exact World.news_of_block (cs := #[.int .i64 y.id, sv y.it.md, sv y.it.nm, sv y.it.sh]) (alloc1 w4 _)
                  case d2a => exact idC_one y
                  case d3a => have := HQL.out; unfold maxLen; omega
                  case d4a => have := HQL.out; omega
                  case d5a => simp; have := HSZ4.out; have := HS2.out; omega
                  intro g cap w5 hown5 hgrow hat _
                  have hmb : ∀ r, (Value.slice OA q oc).ownBlock = some r → w.heap.size + 3 ≤ r := fun r hr => (HO4.out.lt r hr).1
                  have hl4 : w.heap.size + 2 < w4.heap.size := by have := HSZ4.out; have := HS2.out; omega
                  have HB5 := Lib.hid ((HB4.out.alloc (by omega) (.cells #[.int .i64 y.id, sv y.it.md, sv y.it.nm, sv y.it.sh] 39)).grown hgrow (by simp; omega) (fun r hr => by have := hmb r hr; omega))
                  have HM5 := Lib.hid (HM4.out.same ((hgrow.block _ (by simp; omega) (fun e => by have := hmb _ e.symm; omega)).trans (heap_alloc_old _ _ hl4)))
                  have HO5 := Lib.hid hown5
                  clear hown5 hgrow hat hmb
                  go_wp2
                  go_roundw
                  case rel =>
                    refine ⟨k2 + 1, by omega, by go_num, HB5.out, HM5.out, ?_⟩
                    rw [HTK.out, hmv]
                    simp only [if_true]
                    rw [flt_append, flt_one, List.length_append, ← HQ.out]
                    exact HO5.out
                  case measure => simp [intOf]; omega
              · have h1' : ¬ (bs kk.1).toList = (bs y.it.md).toList := fun e => h1 (by rwa [bs_toList, bs_toList] at e)
                have hmv : movedB old y = true := by rw [HMV.out, decide_eq_true_eq]; exact fun e => h1 (congrArg Prod.fst e)
                clear h1
                go_wp2
                refine NoPanic.normal ?_
                go_wp2_with (at_builtin; refine wpList_append_lies _ rfl _ _ 27 rfl (w.heap.size + 3) 39 i0 _ 4 56 Try.underlying27 hi hz0 hz1 hz2 rfl (by omega) _ q (flt idC (mvs old (now.take k2))) rfl (HO4.out.alloc _) ⟨w4.heap.size, 0, none⟩ 1 1 (idC y) rfl rfl ?d1b ?d2b (by omega) ?d3b ?d4b ?d5b _ rfl ?_)
                case d1b => exact World.news_of_block (cs := #[.int .i64 y.id, sv y.it.md, sv y.it.nm, sv y.it.sh]) (alloc1 w4 _)
                case d2b => exact idC_one y
                case d3b => have := HQL.out; unfold maxLen; omega
                case d4b => have := HQL.out; omega
                case d5b => simp; have := HSZ4.out; have := HS2.out; omega
                intro g cap w5 hown5 hgrow hat _
                have hmb : ∀ r, (Value.slice OA q oc).ownBlock = some r → w.heap.size + 3 ≤ r := fun r hr => (HO4.out.lt r hr).1
                have hl4 : w.heap.size + 2 < w4.heap.size := by have := HSZ4.out; have := HS2.out; omega
                have HB5 := Lib.hid ((HB4.out.alloc (by omega) (.cells #[.int .i64 y.id, sv y.it.md, sv y.it.nm, sv y.it.sh] 39)).grown hgrow (by simp; omega) (fun r hr => by have := hmb r hr; omega))
                have HM5 := Lib.hid (HM4.out.same ((hgrow.block _ (by simp; omega) (fun e => by have := hmb _ e.symm; omega)).trans (heap_alloc_old _ _ hl4)))
                have HO5 := Lib.hid hown5
                clear hown5 hgrow hat hmb
                go_wp2
                go_roundw
                case rel =>
                  refine ⟨k2 + 1, by omega, by go_num, HB5.out, HM5.out, ?_⟩
                  rw [HTK.out, hmv]
                  simp only [if_true]
                  rw [flt_append, flt_one, List.length_append, ← HQ.out]
                  exact HO5.out
                case measure => simp [intOf]; omega
        · have hx2 : now.take k2 = now := List.take_of_length_le (by rw [← HM2.out]; omega)
          rw [hx2] at hO hov
          have HO := Lib.hid hO
          have HB := Lib.hid hB
          have HOC := Lib.hid hoc
          obtain ⟨q, hq⟩ : ∃ q, q = (mvs old now).length := ⟨_, rfl⟩
          rw [← hq] at hov
          have HQ := Lib.hid hq
          subst hov
          clear hB hMp hO hkeys hx2 hoc hq
          go_wp2
          go_ret
          refine ⟨OA, oc, by rw [← HQ.out]; rfl, HOC.out, ?_, HB.out⟩
          have ho := HO.out
          rw [← HQ.out] at ho ⊢
          exact ownMono ho (by omega)
end Go.Proofs.Ytmnhgkhidepojaa
