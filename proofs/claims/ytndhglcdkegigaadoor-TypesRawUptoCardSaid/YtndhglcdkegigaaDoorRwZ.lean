/-
  TypesRaw: what the functions return for any types of at most 300 nodes (the second form): the given statement and its tied card, proved.
  Conditions: the arguments hold at most 1048576 values and letters (the second form); the given row's own: the listed package-level variables start as the program's text lays them (the card ties them).
-/
import Derived.Test.YtndhglcdkegigaaDoorRwA
import Derived.Test.YtndhglcdkegigaaDoorCards
import Derived.Test.YtndhglcdkegigaaDoorTie
import Derived.ProofKit
import Derived.OpenShut
import Derived.LaidMore
import Derived.Deep.DeepHandedRow
import Derived.Deep.DeepWitnessRowRef
import Derived.SevenTiedAt
namespace Go.Proofs.YtndhglcdkegigaaDoor
open Go.ChangeShapes Go.WideShapes Go.ChangeAt Go.RowKit
open Go.ChangeMaps (open_string shut_string)

theorem own : ownKnob Tryd.prog.godebug = none := by kernel_rfl
theorem laidOut : laidOutB Tryd.prog = true := by kernel_rfl
theorem cellsI : Tryd.prog.cellsOf 3 = 1 := by kernel_rfl
theorem reachEq : reachBytes = 140737488351232 := rfl
theorem bs_data' (s : ByteArray) : sv s.data.toList = .string s := by rw [sv, bs_of]
theorem lt_cell {w : World} {a : Addr} {v : Value} (h : w.cell? a = some v) : a.block < w.heap.size := by
  rcases Nat.lt_or_ge a.block w.heap.size with h1 | h1
  · exact h1
  · unfold World.cell? at h
    rw [Array.getElem?_eq_none h1] at h
    simp at h

/-- Ints that came in. -/
theorem ints_in {H : Type} {enc : TypeId × Value → H} {W : World} {a0 : Option Addr} {len cap fuel : Nat} {x : DataW H × List MemPlace} (hf : DataW.trod enc Tryd.prog W 0 (fun _ => true) true fuel 22 (Value.slice a0 len cap).cells.toList = some x) :
    ∃ xs : List Int, xs.length = len ∧ Row W (Lt W.heap.size) a0 (xs.map (Value.int .i64)) ∧ ∀ z ∈ xs, -9223372036854775808 ≤ z ∧ z ≤ 9223372036854775807 := by
  rcases open_ints Tryd.underlying22 Tryd.underlying3 cellsI hf with ⟨hcs, hx⟩ | ⟨a, len', cap', zs, hcs, _, hl, hm, hz, hx, hcell, hws⟩
  · simp [Value.cells] at hcs
    obtain ⟨rfl, rfl, rfl⟩ := hcs
    exact ⟨[], rfl, Row.nil _ _ _, fun x hx => by simp at hx⟩
  · simp [Value.cells] at hcs
    obtain ⟨rfl, rfl, rfl⟩ := hcs
    simp only [if_true] at hz
    refine ⟨zs.take len, by rw [List.length_take]; omega, ?_, fun x hx => bounds_i64 (hws x (List.mem_of_mem_take hx))⟩
    rcases Nat.eq_zero_or_pos len with h | h
    · left
      simp [h]
    · have h0c := hcell 0 (by omega)
      refine .inr ⟨a, rfl, ?_, fun j u hu => ?_⟩
      · have := lt_cell h0c
        rwa [blkAdd] at this
      · rw [List.getElem?_map] at hu
        obtain ⟨x, hx1, hx2⟩ := Option.map_eq_some_iff.1 hu
        rw [← hx2]
        have hjl : j < len := by
          have := (List.getElem?_eq_some_iff.1 hx1).1
          rw [List.length_take] at this
          omega
        rw [hcell j (by omega)]
        rw [List.getElem?_take_of_lt hjl] at hx1
        rw [List.getD, hx1]
        rfl

theorem cellsS : Tryd.prog.cellsOf 9 = 1 := by kernel_rfl
/-- Strings that came in. -/
theorem strs_in {H : Type} {enc : TypeId × Value → H} {W : World} {a0 : Option Addr} {len cap fuel : Nat} {x : DataW H × List MemPlace} (hf : DataW.trod enc Tryd.prog W 0 (fun _ => true) true fuel 35 (Value.slice a0 len cap).cells.toList = some x) :
    ∃ ss : List (List UInt8), ss.length = len ∧ Row W (Lt W.heap.size) a0 (ss.map sv) ∧ len ≤ Rows.uptoBulk x.1 := by
  rcases open_strings Tryd.underlying35 Tryd.underlying9 cellsS hf with ⟨hcs, hx⟩ | ⟨a, len', cap', zs, hcs, _, hl, hm, hz, hx, hcell, hws⟩
  · simp [Value.cells] at hcs
    obtain ⟨rfl, rfl, rfl⟩ := hcs
    exact ⟨[], rfl, Row.nil _ _ _, Nat.zero_le _⟩
  · simp [Value.cells] at hcs
    obtain ⟨rfl, rfl, rfl⟩ := hcs
    simp only [if_true] at hz
    refine ⟨(zs.take len).map fun x => x.data.toList, by rw [List.length_map, List.length_take]; omega, ?_, ?_⟩
    · rcases Nat.eq_zero_or_pos len with h | h
      · left
        simp [h]
      · have h0c := hcell 0 (by omega)
        refine .inr ⟨a, rfl, ?_, fun j u hu => ?_⟩
        · have := lt_cell h0c
          rwa [blkAdd] at this
        · rw [List.map_map, List.getElem?_map] at hu
          obtain ⟨x, hx1, hx2⟩ := Option.map_eq_some_iff.1 hu
          rw [← hx2]
          have hjl : j < len := by
            have := (List.getElem?_eq_some_iff.1 hx1).1
            rw [List.length_take] at this
            omega
          have e := hcell j (by omega)
          rw [List.getElem?_take_of_lt hjl] at hx1
          rw [e, List.getD, hx1]
          simp [bs_of]
    · have e : x.1 = .slice (strs (zs.take len)) (strs (zs.drop len)) := congrArg Prod.fst hx
      have h1 := bulk_len (strs (zs.take len) : List (DataW H))
      have h2 : (strs (zs.take len) : List (DataW H)).length = len := by simp [strs]; omega
      rw [e, Rows.uptoBulk]
      omega


set_option maxRecDepth 100000 in
/-- The walk, for whatever reads as the arguments. -/
theorem contract (H : Type) (enc : TypeId × Value → H) (W : World) (base : Nat) (args : Array Value) (ds gs : List (DataW H)) (before : List MemPlace)
    (hval : ∀ (j : Nat) t v, Tryd.f4.params[j]? = some t → args[j]? = some v → Value.okWide Tryd.prog W .any base t v)
    (hW : DataW.Whole enc Tryd.prog Tryd.f4.params.toList Rows.typesRawSpec.vars false W args.toList ds gs before)
    (hk : Rows.uptoSmall H (ds ++ gs) = true) :
    Calls Tryd.prog 4 args W fun e W' => ∃ v, e = .returned v ∧ Rows.typesRawSpec.post enc Tryd.prog Tryd.f4 false true false false W args v W' := by
  have hW' := hW
  obtain ⟨p, q, hA0, hV, rfl, hfz, hnd⟩ := hW
  have hA : DataW.TrodAll enc Tryd.prog W 0 (fun _ => true) true Tryd.f4.params.toList args.toList ds p := hA0
  rw [Tryd.params4] at hA hval
  obtain ⟨v0, v1, v2, d0, d1, d2, p0, p1, p2, hargs, rfl, rfl, h0, h1, h2⟩ := trodAll_three hA
  obtain rfl : args = #[v0, v1, v2] := by cases args; simp_all
  obtain ⟨rfl, rfl⟩ := trodVars_none hV
  have hlt : ∀ x ∈ p0 ++ (p1 ++ p2), x.block < W.heap.size := fun x hx => hW'.lt x (by simpa using hx)
  have h0k := h0
  have h1k := h1
  have h2k := h2
  obtain ⟨cs0, rfl, _⟩ := okWide_struct Tryd.underlying30 (hval 0 30 v0 rfl rfl)
  obtain ⟨cs1, rfl, _⟩ := okWide_struct Tryd.underlying30 (hval 1 30 v1 rfl rfl)
  obtain ⟨a2, len2, cap2, rfl⟩ := okWide_slice Tryd.underlying35 (hval 2 35 v2 rfl rfl)
  have fin : ∀ (e : Ending) (W' : World), (e = .returned (.bool true) ∧ Below W.heap.size W W') → ∃ v, e = .returned v ∧ Rows.typesRawSpec.post enc Tryd.prog Tryd.f4 false true false false W #[.agg cs0, .agg cs1, .slice a2 len2 cap2] v W' := by
    rintro e W' ⟨rfl, hb⟩
    refine ⟨_, rfl, _, _, _, [], p0 ++ (p1 ++ ((p2 ++ []))), [], hW', ?_, ?_, rfl, hb.frame _, (fun h => by cases h)⟩
    · exact trodAll_mk1 (shut_bool Tryd.underlying4 _)
    · exact (trodAll_cons_mk (Below.trod laidOut (by kernel_rfl) (of_decide_eq_true (by kernel_rfl)) h0k hb (fun x hx => hlt x (by simp [hx]))) (trodAll_cons_mk (Below.trod laidOut (by kernel_rfl) (of_decide_eq_true (by kernel_rfl)) h1k hb (fun x hx => hlt x (by simp [hx]))) (trodAll_cons_mk (Below.trod laidOut (by kernel_rfl) (of_decide_eq_true (by kernel_rfl)) h2k hb (fun x hx => hlt x (by simp [hx]))) trodAll_mk0)))
  have hbulk : ∀ d ∈ [d0, d1, d2], Rows.uptoBulk d ≤ 1048576 := fun d hd => by
    have h1 := bulk_mem hd
    have h2 : Rows.uptoBulkAll [d0, d1, d2] ≤ 1048576 := by simpa [Rows.uptoSmall] using hk
    omega
  obtain ⟨fuel0, hf0⟩ := h0
  have hbk0 := hbulk d0 (by simp)
  obtain ⟨t0, u0, x0, hcs0, hty0, hwt0⟩ := raw_ty enc W fuel0 _ _ hf0 (Nat.le_trans hbk0 (by omega))
  obtain ⟨u0, x0, rfl, rfl⟩ := hty0.shape
  obtain rfl : cs0 = #[sv u0, .slice x0.1 x0.2.1 x0.2.2] := by apply Array.ext'; exact hcs0
  have hw0 := Nat.le_trans hwt0 hbk0
  obtain ⟨fuel1, hf1⟩ := h1
  have hbk1 := hbulk d1 (by simp)
  obtain ⟨t1, u1, x1, hcs1, hty1, hwt1⟩ := raw_ty enc W fuel1 _ _ hf1 (Nat.le_trans hbk1 (by omega))
  obtain ⟨u1, x1, rfl, rfl⟩ := hty1.shape
  obtain rfl : cs1 = #[sv u1, .slice x1.1 x1.2.1 x1.2.2] := by apply Array.ext'; exact hcs1
  have hw1 := Nat.le_trans hwt1 hbk1
  obtain ⟨fuel2, hf2⟩ := h2
  obtain ⟨xs2, hxl2, hrow2, hbl2⟩ := strs_in hf2
  subst hxl2
  have hbk2 : xs2.length ≤ 1048576 := Nat.le_trans hbl2 (hbulk d2 (by simp))
  have hw := law_all t0 u0 x0 t1 u1 x1 xs2 a2 cap2 W hty0 hw0 hty1 hw1 hrow2 hbk2
  exact hw.mono fin

def wargs : Array Value := #[.agg #[.string ⟨#[]⟩, .slice none 0 0], .agg #[.string ⟨#[]⟩, .slice none 0 0], .slice none 0 0]
theorem laid_met (os : Os) : laidMetH Tryd.prog Rows.typesRawUptoRow.laid ((World.doorLaid Tryd.prog 62 os).forCall (fun _ _ => 0) ⟨#[], wargs, []⟩).memory :=
  laidMetH_of_parts3 (fuel := 8) (laidMet_of_run' 8 (by kernel_rfl) (by kernel_rfl)) (by kernel_rfl) (by kernel_rfl)
theorem reads (os : Os) {H : Type} (enc : TypeId × Value → H) : ∃ places, DataW.whole enc Tryd.prog ((World.doorLaid Tryd.prog 62 os).forCall (fun _ _ => 0) ⟨#[], wargs, []⟩).memory Tryd.f4.params.toList Rows.typesRawSpec.vars false wargs.toList 8 = some ([.agg [.lit (.string []), .nil], .agg [.lit (.string []), .nil], .nil], [], places) :=
  ⟨[], by kernel_rfl⟩

set_option maxRecDepth 100000 in
theorem lifted (os : Os) (started : os.Started) (H : Type) (enc : TypeId × Value → H) (F : Stop.Interp) :
    ReturnsInHanded {} Tryd.checked os 4 .any ((Rows.OpenSpec.upto Rows.typesRawSpec).preRow enc Tryd.prog Tryd.f4 Rows.typesRawUptoRow.domain false Rows.typesRawUptoRow.laid) (((Rows.OpenSpec.upto Rows.typesRawSpec).at F).post enc Tryd.prog Tryd.f4 false true false false) := by
  obtain ⟨places, hx⟩ := reads os enc
  refine returnsInHanded_of_row (C := Tryd.checked) (s := (Rows.OpenSpec.upto Rows.typesRawSpec)) own started (by kernel_rfl) Tryd.func4
    (witness_row_atRef (enc := enc) (C := Tryd.checked) false (World.doorLaid Tryd.prog 62 os) wargs rfl (by kernel_rfl) (by kernel_rfl) (by kernel_rfl)
      (OpenSpec.preRow_of_cond 8 hx (by kernel_rfl) (fun k hk => by cases hk; kernel_rfl) (by kernel_rfl) (laid_met os))) ?_
  intro W base args ds gs before hval hW _ hk _ _ _ _
  exact contract H enc W base args ds gs before hval hW (hk _ rfl)

theorem said : Rows.TypesRawUptoSaid :=
  OpenClaim.holds_of_cond 4 Tryd.f4 rfl rfl rfl rfl rfl rfl rfl ⟨rfl, rfl, rfl, rfl, rfl⟩ rfl rfl rfl rfl rfl (by kernel_rfl) Tryd.func4 (by kernel_rfl)
    (of_decide_eq_true (by kernel_rfl)) (by unfold Func.isWrapper; first | (rw [if_pos (by decide +kernel)]; kernel_rfl) | (rw [if_neg (by decide +kernel)]; exact ⟨rfl, rfl⟩))
    (fun os started H enc _ F => by rw [OpenClaim.pre_eq_preRow]; exact lifted os started H enc F)

theorem plain (f : FuncId) (fn : Func) (hf : Tryd.pinned.checked.prog.funcNamed "recompile/recompilelaw09.TypesRaw" = some f) (hfn : Tryd.pinned.checked.prog.funcs[f]? = some fn) :
    true = Tryd.pinned.checked.prog.looks [] ∧ ∀ (j : Nat) t, fn.params[j]? = some t → Tryd.pinned.checked.prog.wantsStandIn t = false := by
  obtain rfl : f = 4 := Option.some.inj ((show Tryd.prog.funcNamed "recompile/recompilelaw09.TypesRaw" = some 4 by kernel_rfl).symm.trans hf) |>.symm
  obtain rfl : fn = Tryd.f4 := (Option.some.inj (Tryd.func4.symm.trans hfn)).symm
  refine ⟨by kernel_rfl, fun j t ht => ?_⟩
  rw [Tryd.params4] at ht
  have hm := Array.mem_of_getElem? ht
  simp at hm
  rcases hm with rfl | rfl
  · exact (show Tryd.prog.wantsStandIn 30 = false by kernel_rfl)
  · exact (show Tryd.prog.wantsStandIn 35 = false by kernel_rfl)

theorem card : Rows.TypesRawUptoCardSaid :=
  Claim7.holds_tied_plain_at .later [] _ _ _ _ said (fun _ h => by cases h) (by kernel_rfl) (fun _ h => by cases h) typesRawUpto_row_tie rfl ⟨rfl, rfl⟩ (by kernel_rfl) rfl plain (by kernel_rfl)
end Go.Proofs.YtndhglcdkegigaaDoor
