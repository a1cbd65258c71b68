/-
  FactPacks: the pack of any strings, and which strings are packs: the given statement and its tied card, proved.
  Conditions: the given row's own: the listed package-level variables start as the program's text lays them (the card ties them).
-/
import Derived.Test.YthhjokdjacfkiaaDoorLaw
import Derived.Test.YthhjokdjacfkiaaDoorCards
import Derived.Test.YthhjokdjacfkiaaDoorTie
import Derived.ProofKit
import Derived.OpenShut
import Derived.LaidMore
import Derived.Deep.DeepHandedRow
import Derived.Deep.DeepWitnessRowRef
import Derived.Lib.LaidTab
import Derived.Stop.LaidErr
import Derived.Stop.Joined
import Derived.Shelf.Vars
import Derived.SevenTiedAt
namespace Go.Proofs.YthhjokdjacfkiaaDoor
open Go.ChangeShapes Go.WideShapes Go.ChangeAt Go.RowKit Go.Shelf
open Go.ChangeMaps (open_string shut_string)

theorem own : ownKnob Tryd.prog.godebug = none := by kernel_rfl
theorem laidOut : laidOutB Tryd.prog = true := by kernel_rfl
theorem cellsS : Tryd.prog.cellsOf 9 = 1 := by kernel_rfl
theorem cellsQ : Tryd.prog.cellsOf 52 = 1 := by kernel_rfl
theorem bytesS : Tryd.prog.bytesOf 9 = 16 := by kernel_rfl
theorem reachEq : reachBytes = 140737488351232 := rfl
theorem tabType : (Tryd.prog.globals[1]?).map (·.type) = some 66 := by kernel_rfl
theorem cellsTab : Tryd.prog.cellsOf 66 = 20 := by kernel_rfl
theorem synType : (Tryd.prog.globals[2]?).map (·.type) = some 36 := by kernel_rfl
theorem rngType : (Tryd.prog.globals[3]?).map (·.type) = some 36 := by kernel_rfl
theorem cellsE : Tryd.prog.cellsOf 84 = 1 := by kernel_rfl

theorem star : "*" ++ "errors.errorString" = "*errors.errorString" := by decide
theorem rowES (u : TypeId) (h : Tryd.prog.typeName? 3 u = some "*errors.errorString") : u = 82 :=
  typeName_ptr_named (nm := "errors.errorString") (by rw [star]; kernel_rfl) (by kernel_rfl) (by decide) u (by rw [star]; exact h)

/-- What the row's list gives. -/
theorem env_of {W : World} (h0 : laidMetH Tryd.prog Rows.factPacksRow.laid W) (hsh : W.ShapedOpen Tryd.prog) : Env W := by
  have h : laidMet Tryd.prog Rows.factPacksRow.laid W := by
    rw [MakeChecks.laidMetH_plain _ _ _ (by kernel_rfl)] at h0
    exact h0
  have h3 := h.tail.tail
  obtain ⟨m, hm⟩ := cell_of_shapedOpen_int (P := Tryd.prog) (g := 0) (t := 3) (zero := #[.int .i64 0]) hsh (of_decide_eq_true (by kernel_rfl)) (by kernel_rfl) rfl (by kernel_rfl) (by kernel_rfl) Tryd.underlying3
  have htab : Lib.TabIs Tryd.prog W "internal/strconv.uint64pow10" .u64 Lib.pow10Tab :=
    Lib.tabIs_of_head gTab tabType Tryd.underlying66 Tryd.underlying52 cellsQ cellsTab h3
  obtain ⟨a0, s0, hv0, _, _, _⟩ := laid_sentinel h3.tail gRng rngType Tryd.underlying36 rowES Tryd.underlying82 Tryd.underlying84 rfl rfl Tryd.underlying9 cellsE cellsS
  obtain ⟨a1, s1, hv1, _, _, _⟩ := laid_sentinel h3.tail.tail gSyn synType Tryd.underlying36 rowES Tryd.underlying82 Tryd.underlying84 rfl rfl Tryd.underlying9 cellsE cellsS
  exact ⟨⟨m, hm⟩, htab, ⟨_, _, hv1⟩, ⟨_, _, hv0⟩⟩

theorem weightsAll_mem {H : Type} {P : Program} {e : TypeId} : ∀ {l : List (DataW H)} {d : DataW H}, d ∈ l → ∀ n ∈ d.weights P e, n ∈ DataW.weightsAll P e l
  | d' :: r, d, hd, n, hn => by
    simp only [DataW.weightsAll, List.mem_append]
    rcases List.mem_cons.1 hd with rfl | h
    · exact Or.inl hn
    · exact Or.inr (weightsAll_mem h n hn)
theorem sized_strs {H : Type} {P : Program} {ts : List TypeId} {ds : List (DataW H)} (h : (DataW.weightsEach P ts ds).all (· ≤ reachBytes) = true) {j : Nat} {t e : TypeId} {elems spare : List (DataW H)} {b : List UInt8}
    (ht : ts[j]? = some t) (hd : ds[j]? = some (.slice elems spare)) (hu : P.underlying t = some (.slice e)) (hx : DataW.lit (.string b) ∈ elems) : b.length ≤ reachBytes := by
  refine of_decide_eq_true (List.all_eq_true.1 h _ (DataW.weights_mem_each ht hd _ ?_))
  simp only [DataW.weights, hu, List.mem_cons, List.mem_append]
  exact Or.inr (Or.inl (weightsAll_mem hx _ (by simp [DataW.weights])))

theorem bs_data' (s : ByteArray) : sv s.data.toList = .string s := by rw [sv, bs_of]

/-- The walk, for whatever reads as the arguments. -/
theorem contract (H : Type) (enc : TypeId × Value → H) (W : World) (base : Nat) (args : Array Value) (ds gs : List (DataW H)) (before : List MemPlace)
    (hval : ∀ (j : Nat) t v, Tryd.f3.params[j]? = some t → args[j]? = some v → Value.okWide Tryd.prog W .any base t v)
    (hW : DataW.Whole enc Tryd.prog Tryd.f3.params.toList Rows.factPacksSpec.vars false W args.toList ds gs before)
    (hsz : (DataW.weightsEach Tryd.prog (Tryd.f3.params.toList ++ Rows.factPacksSpec.plain.varTypes Tryd.prog) (ds ++ gs)).all (· ≤ reachBytes) = true)
    (he : Env W) :
    Calls Tryd.prog 3 args W fun e W' => ∃ v, e = .returned v ∧ Rows.factPacksSpec.post enc Tryd.prog Tryd.f3 false true false false W args v W' := by
  have hW' := hW
  obtain ⟨p, q, hA0, hV, rfl, hfz, hnd⟩ := hW
  have hA : DataW.TrodAll enc Tryd.prog W 0 (fun _ => true) true Tryd.f3.params.toList args.toList ds p := hA0
  rw [Tryd.params3] at hA hval hsz
  obtain ⟨v0, v1, v2, d0, d1, d2, p0, p1, p2, hargs, rfl, rfl, h0, h1, h2⟩ := trodAll_three hA
  obtain rfl : args = #[v0, v1, v2] := by cases args; simp_all
  obtain ⟨rfl, rfl⟩ := trodVars_none hV
  have hlt : ∀ x ∈ p0 ++ (p1 ++ p2), x.block < W.heap.size := fun x hx => hW'.lt x (by simpa using hx)
  have h0k := h0
  have h1k := h1
  have h2k := h2
  obtain ⟨a0, len, cap, rfl⟩ := okWide_slice Tryd.underlying22 (hval 0 22 v0 rfl rfl)
  obtain ⟨s, rfl, rfl, rfl, ws⟩ := open_string Tryd.underlying9 (hval 1 9 v1 rfl rfl) h1
  obtain ⟨n, rfl, rfl, rfl, wn⟩ := open_int Tryd.underlying3 (hval 2 3 v2 rfl rfl) h2
  have fin : ∀ (e : Ending) (W' : World), (e = .returned (.bool true) ∧ Below W.heap.size W W') → ∃ v, e = .returned v ∧ Rows.factPacksSpec.post enc Tryd.prog Tryd.f3 false true false false W #[.slice a0 len cap, .string s, .int .i64 n] v W' := by
    rintro e W' ⟨rfl, hb⟩
    refine ⟨_, rfl, _, _, _, [], p0 ++ ([] ++ ([] ++ [])), [], hW', ?_, ?_, rfl, hb.frame _, (fun h => by cases h)⟩
    · exact trodAll_mk1 (shut_bool Tryd.underlying4 _)
    · exact trodAll_cons_mk (Below.trod laidOut (by kernel_rfl) (of_decide_eq_true (by kernel_rfl)) h0k hb (fun x hx => hlt x (by simp [hx])))
        (trodAll_cons_mk (Below.trod laidOut (by kernel_rfl) (of_decide_eq_true (by kernel_rfl)) h1k hb (fun x hx => by cases hx))
          (trodAll_cons_mk (Below.trod laidOut (by kernel_rfl) (of_decide_eq_true (by kernel_rfl)) h2k hb (fun x hx => by cases hx)) trodAll_mk0))
  have hs1 : s.data.toList.length ≤ 140737488355328 := by
    have := sized_string hsz (j := 1) (t := 9) rfl rfl
    rw [reachEq] at this
    omega
  obtain ⟨hn0, hn1⟩ := bounds_i64 wn
  obtain ⟨fuel, hf⟩ := h0
  rcases open_strings Tryd.underlying22 Tryd.underlying9 cellsS hf with ⟨hcs, hx⟩ | ⟨a, len', cap', ss, hcs, _, hl, hm, hz, hx, hcell, hws⟩
  · simp [Value.cells] at hcs
    obtain ⟨rfl, rfl, rfl⟩ := hcs
    have hw := law_any none 0 0 0 [] s.data.toList n W he ⟨rfl, Row.nil _ _ _⟩ (Nat.zero_le _) (by omega) (fun a ha => by cases ha) hs1 hn0 hn1
    rw [bs_data'] at hw
    exact hw.mono fin
  · simp [Value.cells] at hcs
    obtain ⟨rfl, rfl, rfl⟩ := hcs
    simp only [if_true] at hz
    have hd : d0 = .slice (strs (ss.take len)) (strs (ss.drop len)) := congrArg Prod.fst hx
    have hlen : len ≤ 140737488355328 := by
      have := sized_slice hsz (j := 0) (t := 22) (e := 9) rfl (by rw [hd]; rfl) Tryd.underlying22
      rw [reachEq, bytesS] at this
      simp [strs] at this
      omega
    have hS : Strs W W.heap.size (some a) len ((ss.take len).map fun x => x.data.toList) := by
      refine ⟨by rw [List.length_map, List.length_take]; omega, ?_⟩
      rcases Nat.eq_zero_or_pos len with h | h
      · left
        simp [h]
      · have h0c := hcell 0 (by omega)
        refine .inr ⟨a, rfl, ?_, fun j u hu => ?_⟩
        · have := Lib.lt_of_cell h0c
          rwa [blkAdd] at this
        · rw [List.map_map, List.getElem?_map] at hu
          obtain ⟨x, hx1, hx2⟩ := Option.map_eq_some_iff.1 hu
          rw [← hx2]
          have hjl : j < len := by
            have := (List.getElem?_eq_some_iff.1 hx1).1
            rw [List.length_take] at this
            omega
          have e := hcell j (by omega)
          rw [List.getElem?_take_of_lt hjl] at hx1
          rw [e, List.getD, hx1]
          simp [bs_of]
    have hsl : ∀ x ∈ (ss.take len).map (fun x => x.data.toList), x.length ≤ 140737488355328 := by
      intro x hx
      have := sized_strs (b := x) hsz (j := 0) (t := 22) (e := 9) rfl (by rw [hd]; rfl) Tryd.underlying22 (by
        obtain ⟨y, hy, rfl⟩ := List.mem_map.1 hx
        exact List.mem_map.2 ⟨y, hy, rfl⟩)
      rw [reachEq] at this
      omega
    have hw := law_any (some a) len cap W.heap.size _ s.data.toList n W he hS (Nat.le_refl _) hlen hsl hs1 hn0 hn1
    rw [bs_data'] at hw
    exact hw.mono fin

def wargs : Array Value := #[.slice none 0 0, .string ⟨#[]⟩, .int .i64 0]
theorem laid_met (os : Os) : laidMetH Tryd.prog Rows.factPacksRow.laid ((World.doorLaid Tryd.prog 62 os).forCall (fun _ _ => 0) ⟨#[], wargs, []⟩).memory :=
  laidMetH_of_parts3 (fuel := 8) (laidMet_of_run' 8 (by kernel_rfl) (by kernel_rfl)) (by kernel_rfl) (by kernel_rfl)
theorem reads (os : Os) {H : Type} (enc : TypeId × Value → H) : ∃ places, DataW.whole enc Tryd.prog ((World.doorLaid Tryd.prog 62 os).forCall (fun _ _ => 0) ⟨#[], wargs, []⟩).memory Tryd.f3.params.toList Rows.factPacksSpec.vars false wargs.toList 8 = some ([.nil, .lit (.string []), .lit (.int .i64 0)], [], places) :=
  ⟨[], by kernel_rfl⟩

set_option maxRecDepth 100000 in
theorem lifted (os : Os) (started : os.Started) (H : Type) (enc : TypeId × Value → H) (F : Stop.Interp) :
    ReturnsInHanded {} Tryd.checked os 3 .any ((OpenSpec.ofChange Rows.factPacksSpec).preRow enc Tryd.prog Tryd.f3 Rows.factPacksRow.domain false Rows.factPacksRow.laid) (((OpenSpec.ofChange Rows.factPacksSpec).at F).post enc Tryd.prog Tryd.f3 false true false false) := by
  obtain ⟨places, hx⟩ := reads os enc
  refine returnsInHanded_of_row (C := Tryd.checked) (s := OpenSpec.ofChange Rows.factPacksSpec) own started (by kernel_rfl) Tryd.func3
    (witness_row_atRef (enc := enc) (C := Tryd.checked) false (World.doorLaid Tryd.prog 62 os) wargs rfl (by kernel_rfl) (by kernel_rfl) (by kernel_rfl)
      (OpenSpec.preRow_of_cond 8 hx (by kernel_rfl) (fun k hk => by cases hk) (by kernel_rfl) (laid_met os))) ?_
  intro W base args ds gs before hval hW _ _ hsz hL hsh _
  exact contract H enc W base args ds gs before hval hW hsz (env_of hL hsh)

theorem said : Rows.FactPacksSaid :=
  OpenClaim.holds_of_cond 3 Tryd.f3 rfl rfl rfl rfl rfl rfl rfl ⟨rfl, rfl, rfl, rfl, rfl⟩ rfl rfl rfl rfl rfl (by kernel_rfl) Tryd.func3 (by kernel_rfl)
    (of_decide_eq_true (by kernel_rfl)) (by unfold Func.isWrapper; first | (rw [if_pos (by decide +kernel)]; kernel_rfl) | (rw [if_neg (by decide +kernel)]; exact ⟨rfl, rfl⟩))
    (fun os started H enc _ F => by rw [OpenClaim.pre_eq_preRow]; exact lifted os started H enc F)

theorem plain (f : FuncId) (fn : Func) (hf : Tryd.pinned.checked.prog.funcNamed "recompile/recompilelaw10.FactPacks" = some f) (hfn : Tryd.pinned.checked.prog.funcs[f]? = some fn) :
    true = Tryd.pinned.checked.prog.looks [] ∧ ∀ (j : Nat) t, fn.params[j]? = some t → Tryd.pinned.checked.prog.wantsStandIn t = false := by
  obtain rfl : f = 3 := Option.some.inj ((show Tryd.prog.funcNamed "recompile/recompilelaw10.FactPacks" = some 3 by kernel_rfl).symm.trans hf) |>.symm
  obtain rfl : fn = Tryd.f3 := (Option.some.inj (Tryd.func3.symm.trans hfn)).symm
  refine ⟨by kernel_rfl, fun j t ht => ?_⟩
  rw [Tryd.params3] at ht
  have hm := Array.mem_of_getElem? ht
  simp at hm
  rcases hm with rfl | rfl | rfl
  · exact (show Tryd.prog.wantsStandIn 22 = false by kernel_rfl)
  · exact (show Tryd.prog.wantsStandIn 9 = false by kernel_rfl)
  · exact (show Tryd.prog.wantsStandIn 3 = false by kernel_rfl)

theorem card : Rows.FactPacksCardSaid :=
  Claim7.holds_tied_plain_at .later [] _ _ _ _ said (fun _ h => by cases h) (by kernel_rfl) (fun _ h => by cases h) factPacks_row_tie rfl ⟨rfl, rfl⟩ (by kernel_rfl) rfl plain (by kernel_rfl)
end Go.Proofs.YthhjokdjacfkiaaDoor
