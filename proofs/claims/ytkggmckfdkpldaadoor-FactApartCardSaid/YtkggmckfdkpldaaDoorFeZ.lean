/-
  FactApart: the given statement and its tied card, proved.
  Conditions: the given row's own: the listed package-level variables start as the program's text lays them (the card ties them).
-/
import Derived.Test.YtkggmckfdkpldaaDoorFeL
import Derived.Test.YtkggmckfdkpldaaDoorCards
import Derived.Test.YtkggmckfdkpldaaDoorTie
import Derived.ProofKit
import Derived.OpenShut
import Derived.LaidMore
import Derived.Deep.DeepHandedRow
import Derived.Deep.DeepWitnessRowRef
import Derived.Lib.LaidTab
import Derived.Stop.LaidErr
import Derived.Stop.Joined
import Derived.Shelf.Vars
import Derived.SevenTiedAt
namespace Go.Proofs.YtkggmckfdkpldaaDoor
open Go.ChangeShapes Go.WideShapes Go.ChangeAt Go.RowKit Go.Shelf
open Go.ChangeMaps (open_string shut_string)

theorem own : ownKnob Tryd.prog.godebug = none := by kernel_rfl
theorem laidOut : laidOutB Tryd.prog = true := by kernel_rfl
theorem cellsI : Tryd.prog.cellsOf 3 = 1 := by kernel_rfl
theorem reachEq : reachBytes = 140737488351232 := rfl
theorem bs_data' (s : ByteArray) : sv s.data.toList = .string s := by rw [sv, bs_of]
theorem lt_cell {w : World} {a : Addr} {v : Value} (h : w.cell? a = some v) : a.block < w.heap.size := by
  rcases Nat.lt_or_ge a.block w.heap.size with h1 | h1
  · exact h1
  · unfold World.cell? at h
    rw [Array.getElem?_eq_none h1] at h
    simp at h

theorem cellsS : Tryd.prog.cellsOf 9 = 1 := by kernel_rfl
theorem cellsQ : Tryd.prog.cellsOf 122 = 1 := by kernel_rfl
theorem bytesS : Tryd.prog.bytesOf 9 = 16 := by kernel_rfl
theorem tabType : (Tryd.prog.globals[1]?).map (·.type) = some 136 := by kernel_rfl
theorem cellsTab : Tryd.prog.cellsOf 136 = 20 := by kernel_rfl
theorem synType : (Tryd.prog.globals[2]?).map (·.type) = some 96 := by kernel_rfl
theorem rngType : (Tryd.prog.globals[3]?).map (·.type) = some 96 := by kernel_rfl
theorem cellsE : Tryd.prog.cellsOf 153 = 1 := by kernel_rfl

theorem star : "*" ++ "errors.errorString" = "*errors.errorString" := by decide
theorem rowES (u : TypeId) (h : Tryd.prog.typeName? 3 u = some "*errors.errorString") : u = 151 :=
  typeName_ptr_named (nm := "errors.errorString") (by rw [star]; kernel_rfl) (by kernel_rfl) (by decide) u (by rw [star]; exact h)

/-- What the row's list gives. -/
theorem env_of {W : World} (h0 : laidMetH Tryd.prog Rows.factApartRow.laid W) (hsh : W.ShapedOpen Tryd.prog) : Env W := by
  have h : laidMet Tryd.prog Rows.factApartRow.laid W := by
    rw [MakeChecks.laidMetH_plain _ _ _ (by kernel_rfl)] at h0
    exact h0
  have h3 := h.tail.tail
  obtain ⟨m, hm⟩ := cell_of_shapedOpen_int (P := Tryd.prog) (g := 0) (t := 3) (zero := #[.int .i64 0]) hsh (of_decide_eq_true (by kernel_rfl)) (by kernel_rfl) rfl (by kernel_rfl) (by kernel_rfl) Tryd.underlying3
  have htab : Lib.TabIs Tryd.prog W "internal/strconv.uint64pow10" .u64 Lib.pow10Tab :=
    Lib.tabIs_of_head gTab tabType Tryd.underlying136 Tryd.underlying122 cellsQ cellsTab h3
  obtain ⟨a0, s0, hv0, _, _, _⟩ := laid_sentinel h3.tail gRng rngType Tryd.underlying96 rowES Tryd.underlying151 Tryd.underlying153 rfl rfl Tryd.underlying9 cellsE cellsS
  obtain ⟨a1, s1, hv1, _, _, _⟩ := laid_sentinel h3.tail.tail gSyn synType Tryd.underlying96 rowES Tryd.underlying151 Tryd.underlying153 rfl rfl Tryd.underlying9 cellsE cellsS
  exact ⟨⟨m, hm⟩, htab, ⟨_, _, hv1⟩, ⟨_, _, hv0⟩⟩

/-- Ints that came in. -/
theorem ints_in {H : Type} {enc : TypeId × Value → H} {W : World} {a0 : Option Addr} {len cap fuel : Nat} {x : DataW H × List MemPlace} (hf : DataW.trod enc Tryd.prog W 0 (fun _ => true) true fuel 22 (Value.slice a0 len cap).cells.toList = some x) :
    ∃ xs : List Int, xs.length = len ∧ Row W (Lt W.heap.size) a0 (xs.map (Value.int .i64)) ∧ ∀ z ∈ xs, -9223372036854775808 ≤ z ∧ z ≤ 9223372036854775807 := by
  rcases open_ints Tryd.underlying22 Tryd.underlying3 cellsI hf with ⟨hcs, hx⟩ | ⟨a, len', cap', zs, hcs, _, hl, hm, hz, hx, hcell, hws⟩
  · simp [Value.cells] at hcs
    obtain ⟨rfl, rfl, rfl⟩ := hcs
    exact ⟨[], rfl, Row.nil _ _ _, fun x hx => by simp at hx⟩
  · simp [Value.cells] at hcs
    obtain ⟨rfl, rfl, rfl⟩ := hcs
    simp only [if_true] at hz
    refine ⟨zs.take len, by rw [List.length_take]; omega, ?_, fun x hx => bounds_i64 (hws x (List.mem_of_mem_take hx))⟩
    rcases Nat.eq_zero_or_pos len with h | h
    · left
      simp [h]
    · have h0c := hcell 0 (by omega)
      refine .inr ⟨a, rfl, ?_, fun j u hu => ?_⟩
      · have := lt_cell h0c
        rwa [blkAdd] at this
      · rw [List.getElem?_map] at hu
        obtain ⟨x, hx1, hx2⟩ := Option.map_eq_some_iff.1 hu
        rw [← hx2]
        have hjl : j < len := by
          have := (List.getElem?_eq_some_iff.1 hx1).1
          rw [List.length_take] at this
          omega
        rw [hcell j (by omega)]
        rw [List.getElem?_take_of_lt hjl] at hx1
        rw [List.getD, hx1]
        rfl


set_option maxRecDepth 100000 in
/-- The walk, for whatever reads as the arguments. -/
theorem contract (H : Type) (enc : TypeId × Value → H) (W : World) (base : Nat) (args : Array Value) (ds gs : List (DataW H)) (before : List MemPlace)
    (hval : ∀ (j : Nat) t v, Tryd.f3.params[j]? = some t → args[j]? = some v → Value.okWide Tryd.prog W .any base t v)
    (hW : DataW.Whole enc Tryd.prog Tryd.f3.params.toList Rows.factApartSpec.vars false W args.toList ds gs before) (he : Env W) :
    Calls Tryd.prog 3 args W fun e W' => ∃ v, e = .returned v ∧ Rows.factApartSpec.post enc Tryd.prog Tryd.f3 false true false false W args v W' := by
  have hW' := hW
  obtain ⟨p, q, hA0, hV, rfl, hfz, hnd⟩ := hW
  have hA : DataW.TrodAll enc Tryd.prog W 0 (fun _ => true) true Tryd.f3.params.toList args.toList ds p := hA0
  rw [Tryd.params3] at hA hval
  obtain ⟨v0, v1, d0, d1, p0, p1, hargs, rfl, rfl, h0, h1⟩ := trodAll_two hA
  obtain rfl : args = #[v0, v1] := by cases args; simp_all
  obtain ⟨rfl, rfl⟩ := trodVars_none hV
  have hlt : ∀ x ∈ p0 ++ p1, x.block < W.heap.size := fun x hx => hW'.lt x (by simpa using hx)
  have h0k := h0
  have h1k := h1
  obtain ⟨a0, len0, cap0, rfl⟩ := okWide_slice Tryd.underlying22 (hval 0 22 v0 rfl rfl)
  obtain ⟨a1, len1, cap1, rfl⟩ := okWide_slice Tryd.underlying22 (hval 1 22 v1 rfl rfl)
  have fin : ∀ (e : Ending) (W' : World), (e = .returned (.bool true) ∧ Below W.heap.size W W') → ∃ v, e = .returned v ∧ Rows.factApartSpec.post enc Tryd.prog Tryd.f3 false true false false W #[.slice a0 len0 cap0, .slice a1 len1 cap1] v W' := by
    rintro e W' ⟨rfl, hb⟩
    refine ⟨_, rfl, _, _, _, [], p0 ++ ((p1 ++ [])), [], hW', ?_, ?_, rfl, hb.frame _, (fun h => by cases h)⟩
    · exact trodAll_mk1 (shut_bool Tryd.underlying4 _)
    · exact (trodAll_cons_mk (Below.trod laidOut (by kernel_rfl) (of_decide_eq_true (by kernel_rfl)) h0k hb (fun x hx => hlt x (by simp [hx]))) (trodAll_cons_mk (Below.trod laidOut (by kernel_rfl) (of_decide_eq_true (by kernel_rfl)) h1k hb (fun x hx => hlt x (by simp [hx]))) trodAll_mk0))
  obtain ⟨fuel0, hf0⟩ := h0
  obtain ⟨xs0, hxl0, hrow0, hfit0⟩ := ints_in hf0
  subst hxl0
  obtain ⟨fuel1, hf1⟩ := h1
  obtain ⟨xs1, hxl1, hrow1, hfit1⟩ := ints_in hf1
  subst hxl1
  have hw := apart_any xs0 xs1 a0 a1 cap0 cap1 W he hrow0 hfit0 hrow1 hfit1
  exact hw.mono fin

def wargs : Array Value := #[.slice none 0 0, .slice none 0 0]
theorem laid_met (os : Os) : laidMetH Tryd.prog Rows.factApartRow.laid ((World.doorLaid Tryd.prog 62 os).forCall (fun _ _ => 0) ⟨#[], wargs, []⟩).memory :=
  laidMetH_of_parts3 (fuel := 8) (laidMet_of_run' 8 (by kernel_rfl) (by kernel_rfl)) (by kernel_rfl) (by kernel_rfl)
theorem reads (os : Os) {H : Type} (enc : TypeId × Value → H) : ∃ places, DataW.whole enc Tryd.prog ((World.doorLaid Tryd.prog 62 os).forCall (fun _ _ => 0) ⟨#[], wargs, []⟩).memory Tryd.f3.params.toList Rows.factApartSpec.vars false wargs.toList 8 = some ([.nil, .nil], [], places) :=
  ⟨[], by kernel_rfl⟩

set_option maxRecDepth 100000 in
theorem lifted (os : Os) (started : os.Started) (H : Type) (enc : TypeId × Value → H) (F : Stop.Interp) :
    ReturnsInHanded {} Tryd.checked os 3 .any ((OpenSpec.ofChange Rows.factApartSpec).preRow enc Tryd.prog Tryd.f3 Rows.factApartRow.domain false Rows.factApartRow.laid) (((OpenSpec.ofChange Rows.factApartSpec).at F).post enc Tryd.prog Tryd.f3 false true false false) := by
  obtain ⟨places, hx⟩ := reads os enc
  refine returnsInHanded_of_row (C := Tryd.checked) (s := (OpenSpec.ofChange Rows.factApartSpec)) own started (by kernel_rfl) Tryd.func3
    (witness_row_atRef (enc := enc) (C := Tryd.checked) false (World.doorLaid Tryd.prog 62 os) wargs rfl (by kernel_rfl) (by kernel_rfl) (by kernel_rfl)
      (OpenSpec.preRow_of_cond 8 hx (by kernel_rfl) (fun k hk => by cases hk) (by kernel_rfl) (laid_met os))) ?_
  intro W base args ds gs before hval hW _ _ _ hL hsh _
  exact contract H enc W base args ds gs before hval hW (env_of hL hsh)

theorem said : Rows.FactApartSaid :=
  OpenClaim.holds_of_cond 3 Tryd.f3 rfl rfl rfl rfl rfl rfl rfl ⟨rfl, rfl, rfl, rfl, rfl⟩ rfl rfl rfl rfl rfl (by kernel_rfl) Tryd.func3 (by kernel_rfl)
    (of_decide_eq_true (by kernel_rfl)) (by unfold Func.isWrapper; first | (rw [if_pos (by decide +kernel)]; kernel_rfl) | (rw [if_neg (by decide +kernel)]; exact ⟨rfl, rfl⟩))
    (fun os started H enc _ F => by rw [OpenClaim.pre_eq_preRow]; exact lifted os started H enc F)

theorem plain (f : FuncId) (fn : Func) (hf : Tryd.pinned.checked.prog.funcNamed "recompile/recompilelaw10.FactApart" = some f) (hfn : Tryd.pinned.checked.prog.funcs[f]? = some fn) :
    true = Tryd.pinned.checked.prog.looks [] ∧ ∀ (j : Nat) t, fn.params[j]? = some t → Tryd.pinned.checked.prog.wantsStandIn t = false := by
  obtain rfl : f = 3 := Option.some.inj ((show Tryd.prog.funcNamed "recompile/recompilelaw10.FactApart" = some 3 by kernel_rfl).symm.trans hf) |>.symm
  obtain rfl : fn = Tryd.f3 := (Option.some.inj (Tryd.func3.symm.trans hfn)).symm
  refine ⟨by kernel_rfl, fun j t ht => ?_⟩
  rw [Tryd.params3] at ht
  have hm := Array.mem_of_getElem? ht
  simp at hm
  rcases hm with rfl
  · exact (show Tryd.prog.wantsStandIn 22 = false by kernel_rfl)

theorem card : Rows.FactApartCardSaid :=
  Claim7.holds_tied_plain_at .later [] _ _ _ _ said (fun _ h => by cases h) (by kernel_rfl) (fun _ h => by cases h) factApart_row_tie rfl ⟨rfl, rfl⟩ (by kernel_rfl) rfl plain (by kernel_rfl)
end Go.Proofs.YtkggmckfdkpldaaDoor
