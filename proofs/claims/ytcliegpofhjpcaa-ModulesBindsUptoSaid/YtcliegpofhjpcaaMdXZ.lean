/-
  ModulesBinds: what Step, All and Lookup return for any faces and binds, and for made ones (the second form): the given statement, proved.
  Conditions: the arguments hold at most 1048576 values and letters (the second form); none beyond the given row's own.
-/
import Derived.Test.YtcliegpofhjpcaaMdX
import Derived.Test.YtcliegpofhjpcaaBin
import Derived.ProofKit
import Derived.OpenShut
import Derived.JoinedCond
namespace Go.Proofs.Ytcliegpofhjpcaa
open Go.ChangeShapes Go.WideShapes Go.ChangeAt Go.RowKit

theorem own : ownKnob Try.prog.godebug = none := by kernel_rfl
theorem laidOut : laidOutB Try.prog = true := by kernel_rfl

theorem two_of {α : Type} : ∀ {l : List α}, l.length = 2 → ∃ u v, l = [u, v]
  | [u, v], _ => ⟨u, v, rfl⟩
theorem three_of {α : Type} : ∀ {l : List α}, l.length = 3 → ∃ u v x, l = [u, v, x]
  | [u, v, x], _ => ⟨u, v, x, rfl⟩
theorem sum_len {α : Type} (l : List (List α)) : l.length ≤ (l.map fun s => s.length + 1).sum := by
  induction l with
  | nil => simp
  | cons a r ih => simp only [List.length_cons, List.map_cons, List.sum_cons]; omega
theorem sum_mem1 {α : Type} (b : α → Nat) {l : List α} {s : α} (h : s ∈ l) : b s ≤ (l.map b).sum := by
  induction l with
  | nil => cases h
  | cons a r ih =>
    simp only [List.map_cons, List.sum_cons]
    rcases List.mem_cons.1 h with rfl | h
    · omega
    · have := ih h; omega
/-- How large a face is. -/
def fcB (f : Face) : Nat := f.md.length + (f.own.map fun s => s.length + 1).sum + (f.pub.map fun s => s.length + 1).sum
/-- A face that came in. -/
theorem face_in {H : Type} {enc : TypeId × Value → H} {W : World} {n : Nat} {cs : List Value} {y : DataW H × List MemPlace} (h : DataW.trod enc Try.prog W 0 (fun _ => true) true n 37 cs = some y) :
    ∃ z : FV × Face, cs = fvC z.1 ∧ (z.1.md = z.2.md ∧ StrsV W (Lt W.heap.size) z.1.ov z.2.own ∧ StrsV W (Lt W.heap.size) z.1.pv z.2.pub) ∧ fcB z.2 ≤ Rows.uptoBulk y.1 := by
  obtain ⟨xs, n, rfl, rfl, hcl, hxl, hf⟩ := DataW.trod_struct Try.underlying37 h
  rw [show Try.prog.cellsOf 37 = 3 by kernel_rfl] at hcl
  obtain ⟨u, v, x, rfl⟩ := three_of hcl
  obtain ⟨y0, y1, y2, rfl⟩ := three_of (hxl.trans rfl)
  have h0 := hf 0 _ rfl
  have h1 := hf 1 _ rfl
  have h2 := hf 2 _ rfl
  change DataW.trod enc Try.prog W 0 (fun _ => true) true n 9 (([u, v, x].drop 0).take (Try.prog.cellsOf 9)) = [y0, y1, y2][0]? at h0
  change DataW.trod enc Try.prog W 0 (fun _ => true) true n 35 (([u, v, x].drop 1).take (Try.prog.cellsOf 35)) = [y0, y1, y2][1]? at h1
  change DataW.trod enc Try.prog W 0 (fun _ => true) true n 35 (([u, v, x].drop 2).take (Try.prog.cellsOf 35)) = [y0, y1, y2][2]? at h2
  rw [show Try.prog.cellsOf 9 = 1 by kernel_rfl] at h0
  rw [show Try.prog.cellsOf 35 = 1 by kernel_rfl] at h1 h2
  obtain ⟨s, e0, _, hs⟩ := str_in (y := y0) h0
  obtain ⟨a1, c1, s1, e1, hr1, hb1⟩ := strs_in (y := y1) h1
  obtain ⟨a2, c2, s2, e2, hr2, hb2⟩ := strs_in (y := y2) h2
  obtain rfl : u = sv s := by simpa using e0
  obtain rfl : v = .slice a1 s1.length c1 := by simpa using e1
  obtain rfl : x = .slice a2 s2.length c2 := by simpa using e2
  refine ⟨(⟨s, .slice a1 s1.length c1, .slice a2 s2.length c2⟩, ⟨s, s1, s2⟩), rfl, ⟨rfl, ⟨a1, c1, rfl, hr1⟩, ⟨a2, c2, rfl, hr2⟩⟩, ?_⟩
  simp only [List.map_cons, List.map_nil, Rows.uptoBulk, Rows.uptoBulkAll, fcB]
  omega
/-- Faces that came in. -/
theorem faces_in {H : Type} {enc : TypeId × Value → H} {W : World} {a0 : Option Addr} {len cap fuel : Nat} {x : DataW H × List MemPlace} (h : DataW.trod enc Try.prog W 0 (fun _ => true) true fuel 22 [Value.slice a0 len cap] = some x) :
    ∃ l : List Face, l.length = len ∧ FcsV W (Lt W.heap.size) (.slice a0 l.length cap) l ∧ (l.map fcB).sum ≤ Rows.uptoBulk x.1 := by
  obtain ⟨xs, hl, _, _, hr, hR, hb⟩ := slice_in (fun z : FV × Face => fvC z.1) (s := 3) (fun _ => rfl) (fun z => fcB z.2) (fun z => z.1.md = z.2.md ∧ StrsV W (Lt W.heap.size) z.1.ov z.2.own ∧ StrsV W (Lt W.heap.size) z.1.pv z.2.pub) Try.underlying22 (by kernel_rfl) (by decide) h fun n cs y hy => face_in hy
  refine ⟨xs.map (·.2), by simp [hl], ⟨a0, cap, xs.map (·.1), by simp, by simp, ?_, fun i u f hu hf => ?_⟩, ?_⟩
  · have e : flt fvC (xs.map (·.1)) = flt (fun z : FV × Face => fvC z.1) xs := by simp [flt, List.flatMap_map]
    rw [e]
    exact hr
  · rw [List.getElem?_map] at hu hf
    obtain ⟨z, hz, rfl⟩ := Option.map_eq_some_iff.1 hu
    rw [hz] at hf
    obtain rfl := Option.some.inj hf
    exact hR z (List.mem_of_getElem? hz)
  · have e : (xs.map (·.2)).map fcB = xs.map fun z => fcB z.2 := by simp
    rw [e]
    omega
/-- Lists of binds that came in. -/
theorem bind_in {H : Type} {enc : TypeId × Value → H} {W : World} {n : Nat} {cs : List Value} {y : DataW H × List MemPlace} (h : DataW.trod enc Try.prog W 0 (fun _ => true) true n 42 cs = some y) :
    ∃ z : Key, cs = bdC z ∧ True ∧ 1 ≤ Rows.uptoBulk y.1 := by
  obtain ⟨xs, n, rfl, rfl, hcl, hxl, hf⟩ := DataW.trod_struct Try.underlying42 h
  rw [show Try.prog.cellsOf 42 = 2 by kernel_rfl] at hcl
  obtain ⟨u, v, rfl⟩ := two_of hcl
  obtain ⟨y0, y1, rfl⟩ := two_of (hxl.trans rfl)
  have h0 := hf 0 _ rfl
  have h1 := hf 1 _ rfl
  change DataW.trod enc Try.prog W 0 (fun _ => true) true n 9 (([u, v].drop 0).take (Try.prog.cellsOf 9)) = [y0, y1][0]? at h0
  change DataW.trod enc Try.prog W 0 (fun _ => true) true n 9 (([u, v].drop 1).take (Try.prog.cellsOf 9)) = [y0, y1][1]? at h1
  rw [show Try.prog.cellsOf 9 = 1 by kernel_rfl] at h0 h1
  obtain ⟨s, e0, _, _⟩ := str_in (y := y0) h0
  obtain ⟨s1, e1, _, _⟩ := str_in (y := y1) h1
  obtain rfl : u = sv s := by simpa using e0
  obtain rfl : v = sv s1 := by simpa using e1
  exact ⟨(s, s1), rfl, trivial, bulk_pos _⟩
theorem bds_in {H : Type} {enc : TypeId × Value → H} {W : World} {n : Nat} {cs : List Value} {y : DataW H × List MemPlace} (h : DataW.trod enc Try.prog W 0 (fun _ => true) true n 33 cs = some y) :
    ∃ z : Value × List Key, cs = [z.1] ∧ BdsV W (Lt W.heap.size) z.1 z.2 ∧ z.2.length ≤ Rows.uptoBulk y.1 := by
  have hc : ∃ a0 len cap, cs = [.slice a0 len cap] := by
    rcases DataW.trod_slice Try.underlying33 h with ⟨e1, _⟩ | ⟨a, len', cap', _, _, _, _, e1, _⟩
    · exact ⟨_, _, _, e1⟩
    · exact ⟨_, _, _, e1⟩
  obtain ⟨a0, len, cap, rfl⟩ := hc
  obtain ⟨xs, rfl, _, _, hr, _, hb⟩ := slice_in bdC (s := 2) bdC_len (fun _ => 1) (fun _ => True) Try.underlying33 (by kernel_rfl) (by decide) h fun n cs y hy => bind_in hy
  refine ⟨(.slice a0 xs.length cap, xs), rfl, ⟨a0, cap, rfl, hr⟩, ?_⟩
  have e : ∀ xs : List Key, (xs.map fun _ => 1).sum = xs.length := fun xs => by
    induction xs with
    | nil => rfl
    | cons a r ih => simp only [List.map_cons, List.sum_cons, List.length_cons, ih]; omega
  rw [e] at hb
  show xs.length ≤ _
  omega
theorem bdss_in {H : Type} {enc : TypeId × Value → H} {W : World} {a0 : Option Addr} {len cap fuel : Nat} {x : DataW H × List MemPlace} (h : DataW.trod enc Try.prog W 0 (fun _ => true) true fuel 23 [Value.slice a0 len cap] = some x) :
    ∃ l : List (List Key), l.length = len ∧ BdssV W (Lt W.heap.size) (.slice a0 l.length cap) l ∧ (l.map (·.length)).sum ≤ Rows.uptoBulk x.1 := by
  obtain ⟨xs, hl, _, _, hr, hR, hb⟩ := slice_in (fun z : Value × List Key => [z.1]) (s := 1) (fun _ => rfl) (fun z => z.2.length) (fun z => BdsV W (Lt W.heap.size) z.1 z.2) Try.underlying23 (by kernel_rfl) (by decide) h fun n cs y hy => bds_in hy
  refine ⟨xs.map (·.2), by simp [hl], ⟨a0, cap, xs.map (·.1), by simp, by simp, ?_, fun i u f hu hf => ?_⟩, ?_⟩
  · have e : ∀ xs : List (Value × List Key), flt (fun z : Value × List Key => [z.1]) xs = xs.map (·.1) := fun xs => by
      induction xs with
      | nil => rfl
      | cons a r ih => rw [flt_cons, ih]; rfl
    rw [← e]
    exact hr
  · rw [List.getElem?_map] at hu hf
    obtain ⟨z, hz, rfl⟩ := Option.map_eq_some_iff.1 hu
    rw [hz] at hf
    obtain rfl := Option.some.inj hf
    exact hR z (List.mem_of_getElem? hz)
  · have e : (xs.map (·.2)).map (·.length) = xs.map fun z => z.2.length := by simp
    rw [e]
    omega
theorem univ_sum : ∀ l : List Face, (univ l).length ≤ (l.map fcB).sum
  | [] => by simp [univ]
  | f :: l => by
    have h1 := univ_sum l
    have h2 : (ownS f.own).length ≤ f.own.length := List.length_filter_le _ _
    have h3 := sum_len f.own
    simp only [univ, List.flatMap_cons, List.length_append, List.length_map, List.map_cons, List.sum_cons, fcB] at h1 ⊢
    omega
theorem fit_in {l : List Face} (h : (l.map fcB).sum ≤ 1048576) (hl : l.length ≤ 12) : Fit l := by
  have hf : ∀ f ∈ l, fcB f ≤ 1048576 := fun f hf => Nat.le_trans (sum_mem1 fcB hf) h
  refine ⟨by omega, fun f hm => ?_, fun f hm => ⟨?_, fun n hn => ?_⟩, fun f hm => ?_, ?_⟩
  · have := hf f hm; unfold fcB at this; omega
  · have := hf f hm; have := sum_len f.own; unfold fcB at *; omega
  · have := hf f hm; have := sum_mem1 (fun s : List UInt8 => s.length + 1) hn; unfold fcB at *; omega
  · have := hf f hm; have := sum_len f.pub; unfold fcB at *; omega
  · have := univ_sum l; omega

set_option maxRecDepth 100000 in
/-- The walk, for whatever reads as the arguments. -/
theorem contract (H : Type) (enc : TypeId × Value → H) (W : World) (base : Nat) (args : Array Value) (ds gs : List (DataW H)) (before : List MemPlace)
    (hval : ∀ (j : Nat) t v, Try.f3.params[j]? = some t → args[j]? = some v → Value.okWide Try.prog W .any base t v)
    (hW : DataW.Whole enc Try.prog Try.f3.params.toList Rows.modulesBindsSpec.vars false W args.toList ds gs before)
    (hk : Rows.uptoSmall H (ds ++ gs) = true) :
    Calls Try.prog 3 args W fun e W' => ∃ v, e = .returned v ∧ Rows.modulesBindsSpec.post enc Try.prog Try.f3 false true false false W args v W' := by
  have hW' := hW
  obtain ⟨p, q, hA0, hV, rfl, hfz, hnd⟩ := hW
  have hA : DataW.TrodAll enc Try.prog W 0 (fun _ => true) true Try.f3.params.toList args.toList ds p := hA0
  rw [Try.params3] at hA hval
  obtain ⟨v0, v1, v2, d0, d1, d2, p0, p1, p2, hargs, rfl, rfl, h0, h1, h2⟩ := trodAll_three hA
  obtain rfl : args = #[v0, v1, v2] := by cases args; simp_all
  obtain ⟨rfl, rfl⟩ := trodVars_none hV
  have hlt : ∀ x ∈ p0 ++ (p1 ++ p2), x.block < W.heap.size := fun x hx => hW'.lt x (by simpa using hx)
  have h0k := h0
  have h1k := h1
  have h2k := h2
  obtain ⟨a0, len0, cap0, rfl⟩ := okWide_slice Try.underlying22 (hval 0 22 v0 rfl rfl)
  obtain ⟨a1, len1, cap1, rfl⟩ := okWide_slice Try.underlying23 (hval 1 23 v1 rfl rfl)
  obtain ⟨a2, len2, cap2, rfl⟩ := okWide_slice Try.underlying24 (hval 2 24 v2 rfl rfl)
  have fin : ∀ (e : Ending) (W' : World), (e = .returned (.bool true) ∧ Below W.heap.size W W') → ∃ v, e = .returned v ∧ Rows.modulesBindsSpec.post enc Try.prog Try.f3 false true false false W #[.slice a0 len0 cap0, .slice a1 len1 cap1, .slice a2 len2 cap2] v W' := by
    rintro e W' ⟨rfl, hb⟩
    refine ⟨_, rfl, _, _, _, [], p0 ++ (p1 ++ ((p2 ++ []))), [], hW', ?_, ?_, rfl, hb.frame _, (fun h => by cases h)⟩
    · exact trodAll_mk1 (shut_bool Try.underlying4 _)
    · exact (trodAll_cons_mk (Below.trod laidOut (by kernel_rfl) (of_decide_eq_true (by kernel_rfl)) h0k hb (fun x hx => hlt x (by simp [hx]))) (trodAll_cons_mk (Below.trod laidOut (by kernel_rfl) (of_decide_eq_true (by kernel_rfl)) h1k hb (fun x hx => hlt x (by simp [hx]))) (trodAll_cons_mk (Below.trod laidOut (by kernel_rfl) (of_decide_eq_true (by kernel_rfl)) h2k hb (fun x hx => hlt x (by simp [hx]))) trodAll_mk0)))
  have hbulk : ∀ d ∈ [d0, d1, d2], Rows.uptoBulk d ≤ 1048576 := fun d hd => by
    have h1 := bulk_mem hd
    have h2 : Rows.uptoBulkAll [d0, d1, d2] ≤ 1048576 := by simpa [Rows.uptoSmall] using hk
    omega
  obtain ⟨fuel0, hf0⟩ := h0
  obtain ⟨l0, rfl, hF, hb0⟩ := faces_in hf0
  obtain ⟨fuel1, hf1⟩ := h1
  obtain ⟨bl, rfl, hB, hb1⟩ := bdss_in hf1
  obtain ⟨fuel2, hf2⟩ := h2
  obtain ⟨a2', cap2', xs, e2, hR, hfit⟩ := intsIn hf2
  have e2 : (Value.slice a2 len2 cap2) = .slice a2' xs.length cap2' := by simpa [Value.cells] using e2
  obtain ⟨rfl, rfl, rfl⟩ := Value.slice.inj e2
  have hb0 := Nat.le_trans hb0 (hbulk d0 (by simp))
  have hb1 := Nat.le_trans hb1 (hbulk d1 (by simp))
  refine (law_all l0 bl xs a0 a1 a2 cap0 cap1 cap2 W hF hB hR hfit (fit_in hb0) (fun f hf => ?_) (by omega)).mono fin
  have h3 := Nat.le_trans (sum_mem1 fcB hf) hb0
  have h4 := sum_len f.own
  unfold fcB at h3
  omega

set_option maxRecDepth 100000 in
theorem lifted (os : Os) (started : os.Started) (H : Type) (enc : TypeId × Value → H) (F : Stop.Interp) :
    ReturnsInHanded {} Try.checked os 3 .any ((Rows.OpenSpec.upto Rows.modulesBindsSpec).pre6 enc Try.prog Try.f3 Rows.modulesBindsUptoRow.domain false) (((Rows.OpenSpec.upto Rows.modulesBindsSpec).at F).post enc Try.prog Try.f3 false true false false) := by
  refine returnsInHanded_of_cond (C := Try.checked) (s := Rows.OpenSpec.upto Rows.modulesBindsSpec) (k := Rows.uptoSmall) rfl own started (by kernel_rfl) Try.func3
    (OpenSpec.witness (enc := enc) (C := Try.checked) rfl false ⟨#[], #[.slice none 0 0, .slice none 0 0, .slice none 0 0], []⟩ 8 (by kernel_rfl) (by kernel_rfl) (by kernel_rfl) (x := ([.nil, .nil, .nil], [], [])) (by kernel_rfl) (by kernel_rfl) (by kernel_rfl)) ?_
  intro W base args ds gs before hval hW _ hk _
  exact contract H enc W base args ds gs before hval hW hk

theorem said : Rows.ModulesBindsUptoSaid :=
  OpenClaim.holds_of_cond 3 Try.f3 rfl rfl rfl rfl rfl rfl rfl ⟨rfl, rfl, rfl, rfl, rfl⟩ rfl rfl rfl rfl rfl (by kernel_rfl) Try.func3 (by kernel_rfl)
    (of_decide_eq_true (by kernel_rfl)) (by unfold Func.isWrapper; first | (rw [if_pos (by decide +kernel)]; kernel_rfl) | (rw [if_neg (by decide +kernel)]; exact ⟨rfl, rfl⟩))
    (fun os started H enc _ F => lifted os started H enc F)
end Go.Proofs.Ytcliegpofhjpcaa
