/-
  DeltaActs: the given statement, proved.
  Conditions: none beyond the given row's own.
-/
import Derived.Test.YtlgdminpkkhejaaDtEc
import Derived.Test.YtlgdminpkkhejaaBin
import Derived.ProofKit
import Derived.OpenShut
import Derived.SizedLaws
namespace Go.Proofs.Ytlgdminpkkhejaa
open Go.ChangeShapes Go.WideShapes Go.ChangeAt Go.RowKit

theorem own : ownKnob Try.prog.godebug = none := by kernel_rfl
theorem laidOut : laidOutB Try.prog = true := by kernel_rfl
theorem cellsI : Try.prog.cellsOf 3 = 1 := by kernel_rfl
theorem lt_cell {w : World} {a : Addr} {v : Value} (h : w.cell? a = some v) : a.block < w.heap.size := by
  rcases Nat.lt_or_ge a.block w.heap.size with h1 | h1
  · exact h1
  · unfold World.cell? at h
    rw [Array.getElem?_eq_none h1] at h
    simp at h

/-- Ints that came in. -/
theorem ints_in {H : Type} {enc : TypeId × Value → H} {W : World} {a0 : Option Addr} {len cap fuel : Nat} {x : DataW H × List MemPlace} (hf : DataW.trod enc Try.prog W 0 (fun _ => true) true fuel 26 (Value.slice a0 len cap).cells.toList = some x) :
    ∃ xs : List Int, xs.length = len ∧ Row W (Lt W.heap.size) a0 (xs.map (Value.int .i64)) ∧ ∀ z ∈ xs, -9223372036854775808 ≤ z ∧ z ≤ 9223372036854775807 := by
  rcases open_ints Try.underlying26 Try.underlying3 cellsI hf with ⟨hcs, hx⟩ | ⟨a, len', cap', zs, hcs, _, hl, hm, hz, hx, hcell, hws⟩
  · simp [Value.cells] at hcs
    obtain ⟨rfl, rfl, rfl⟩ := hcs
    exact ⟨[], rfl, Row.nil _ _ _, fun x hx => by simp at hx⟩
  · simp [Value.cells] at hcs
    obtain ⟨rfl, rfl, rfl⟩ := hcs
    simp only [if_true] at hz
    refine ⟨zs.take len, by rw [List.length_take]; omega, ?_, fun x hx => bounds_i64 (hws x (List.mem_of_mem_take hx))⟩
    rcases Nat.eq_zero_or_pos len with h | h
    · left
      simp [h]
    · have h0c := hcell 0 (by omega)
      refine .inr ⟨a, rfl, ?_, fun j u hu => ?_⟩
      · have := lt_cell h0c
        rwa [blkAdd] at this
      · rw [List.getElem?_map] at hu
        obtain ⟨x, hx1, hx2⟩ := Option.map_eq_some_iff.1 hu
        rw [← hx2]
        have hjl : j < len := by
          have := (List.getElem?_eq_some_iff.1 hx1).1
          rw [List.length_take] at this
          omega
        rw [hcell j (by omega)]
        rw [List.getElem?_take_of_lt hjl] at hx1
        rw [List.getD, hx1]
        rfl

theorem three_of {α : Type} : ∀ {l : List α}, l.length = 3 → ∃ u v x, l = [u, v, x]
  | [u, v, x], _ => ⟨u, v, x, rfl⟩
theorem five_of {α : Type} : ∀ {l : List α}, l.length = 5 → ∃ a b c d e, l = [a, b, c, d, e]
  | [a, b, c, d, e], _ => ⟨a, b, c, d, e, rfl⟩
/-- A message that came in. -/
theorem msg_in {H : Type} {enc : TypeId × Value → H} {W : World} {n : Nat} {cs : List Value} {y : DataW H × List MemPlace} (h : DataW.trod enc Try.prog W 0 (fun _ => true) true n 40 cs = some y) :
    ∃ z : Msg, cs = msC z ∧ True ∧ 1 ≤ Rows.uptoBulk y.1 := by
  obtain ⟨xs, n, rfl, rfl, hcl, hxl, hf⟩ := DataW.trod_struct Try.underlying40 h
  rw [show Try.prog.cellsOf 40 = 3 by kernel_rfl] at hcl
  obtain ⟨u, v, x, rfl⟩ := three_of hcl
  obtain ⟨y0, y1, y2, rfl⟩ := three_of (hxl.trans rfl)
  have h0 := hf 0 _ rfl
  have h1 := hf 1 _ rfl
  have h2 := hf 2 _ rfl
  change DataW.trod enc Try.prog W 0 (fun _ => true) true n 3 (([u, v, x].drop 0).take (Try.prog.cellsOf 3)) = [y0, y1, y2][0]? at h0
  change DataW.trod enc Try.prog W 0 (fun _ => true) true n 3 (([u, v, x].drop 1).take (Try.prog.cellsOf 3)) = [y0, y1, y2][1]? at h1
  change DataW.trod enc Try.prog W 0 (fun _ => true) true n 9 (([u, v, x].drop 2).take (Try.prog.cellsOf 9)) = [y0, y1, y2][2]? at h2
  rw [show Try.prog.cellsOf 3 = 1 by kernel_rfl] at h0 h1
  rw [show Try.prog.cellsOf 9 = 1 by kernel_rfl] at h2
  obtain ⟨n0, e0, _⟩ := DataW.trod_int (x := y0) Try.underlying3 h0
  obtain ⟨n1, e1, _⟩ := DataW.trod_int (x := y1) Try.underlying3 h1
  obtain ⟨s, e2, _, _⟩ := str_in (y := y2) h2
  obtain rfl : u = .int .i64 n0 := by simpa using e0
  obtain rfl : v = .int .i64 n1 := by simpa using e1
  obtain rfl : x = sv s := by simpa using e2
  exact ⟨(n0, n1, s), rfl, trivial, bulk_pos _⟩
/-- A move that came in. -/
theorem move_in {H : Type} {enc : TypeId × Value → H} {W : World} {n : Nat} {cs : List Value} {y : DataW H × List MemPlace} (h : DataW.trod enc Try.prog W 0 (fun _ => true) true n 42 cs = some y) :
    ∃ z : Mv, cs = mvC z ∧ True ∧ 1 ≤ Rows.uptoBulk y.1 := by
  obtain ⟨xs, n, rfl, rfl, hcl, hxl, hf⟩ := DataW.trod_struct Try.underlying42 h
  rw [show Try.prog.cellsOf 42 = 5 by kernel_rfl] at hcl
  obtain ⟨a, b, c, d, e, rfl⟩ := five_of hcl
  obtain ⟨y0, y1, y2, rfl⟩ := three_of (hxl.trans rfl)
  have h0 := hf 0 _ rfl
  have h1 := hf 1 _ rfl
  have h2 := hf 2 _ rfl
  change DataW.trod enc Try.prog W 0 (fun _ => true) true n 3 (([a, b, c, d, e].drop 0).take (Try.prog.cellsOf 3)) = [y0, y1, y2][0]? at h0
  change DataW.trod enc Try.prog W 0 (fun _ => true) true n 3 (([a, b, c, d, e].drop 1).take (Try.prog.cellsOf 3)) = [y0, y1, y2][1]? at h1
  change DataW.trod enc Try.prog W 0 (fun _ => true) true n 40 (([a, b, c, d, e].drop 2).take (Try.prog.cellsOf 40)) = [y0, y1, y2][2]? at h2
  rw [show Try.prog.cellsOf 3 = 1 by kernel_rfl] at h0 h1
  rw [show Try.prog.cellsOf 40 = 3 by kernel_rfl] at h2
  obtain ⟨n0, e0, _⟩ := DataW.trod_int (x := y0) Try.underlying3 h0
  obtain ⟨n1, e1, _⟩ := DataW.trod_int (x := y1) Try.underlying3 h1
  obtain ⟨z, e2, _, _⟩ := msg_in (y := y2) h2
  obtain rfl : a = .int .i64 n0 := by simpa using e0
  obtain rfl : b = .int .i64 n1 := by simpa using e1
  have e2 : [c, d, e] = msC z := e2
  exact ⟨(n0, n1, z), by show _ = _ :: _ :: msC z; rw [← e2], trivial, bulk_pos _⟩
/-- Messages that came in. -/
theorem msgs_in {H : Type} {enc : TypeId × Value → H} {W : World} {n : Nat} {cs : List Value} {x : DataW H × List MemPlace} (h : DataW.trod enc Try.prog W 0 (fun _ => true) true n 22 cs = some x) (hw : ∀ n ∈ DataW.weights Try.prog 22 x.1, n ≤ reachBytes) :
    ∃ (a0 : Option Addr) (cap : Nat) (l : List Msg), cs = [.slice a0 l.length cap] ∧ (a0 = none → cap = 0) ∧ l.length ≤ cap ∧ Row W (Lt W.heap.size) a0 (flt msC l) ∧ l.length ≤ 140737488355328 := by
  have hc : ∃ a0 len cap, cs = [.slice a0 len cap] ∧ (a0 = none → cap = 0) ∧ len ≤ 140737488355328 := by
    rcases DataW.trod_slice Try.underlying22 h with ⟨e1, _⟩ | ⟨a, len', cap', elems, spare, m, _, e1, e2, _, _, _, hlen, _, _, _⟩
    · exact ⟨_, _, _, e1, (fun _ => rfl), Nat.zero_le _⟩
    · refine ⟨_, _, _, e1, (fun e => by cases e), ?_⟩
      have h1 := hw ((elems.length + spare.length) * Try.prog.bytesOf 40) (by rw [e2]; simp [DataW.weights, Try.underlying22])
      rw [show Try.prog.bytesOf 40 = 32 by kernel_rfl] at h1
      have h2 : reachBytes = 140737488351232 := rfl
      omega
  obtain ⟨a0, len, cap, rfl, hn, hle⟩ := hc
  obtain ⟨xs, rfl, hc, _, hr, _, _⟩ := slice_in msC (s := 3) msC_len (fun _ => 1) (fun _ => True) Try.underlying22 (by kernel_rfl) (by decide) h fun n cs y hy => msg_in hy
  exact ⟨a0, cap, xs, rfl, hn, hc, hr, hle⟩
/-- Moves that came in. -/
theorem moves_in {H : Type} {enc : TypeId × Value → H} {W : World} {n : Nat} {cs : List Value} {x : DataW H × List MemPlace} (h : DataW.trod enc Try.prog W 0 (fun _ => true) true n 23 cs = some x) (hw : ∀ n ∈ DataW.weights Try.prog 23 x.1, n ≤ reachBytes) :
    ∃ (a0 : Option Addr) (cap : Nat) (l : List Mv), cs = [.slice a0 l.length cap] ∧ l.length ≤ cap ∧ Row W (Lt W.heap.size) a0 (flt mvC l) ∧ l.length ≤ 140737488355328 := by
  have hc : ∃ a0 len cap, cs = [.slice a0 len cap] ∧ len ≤ 140737488355328 := by
    rcases DataW.trod_slice Try.underlying23 h with ⟨e1, _⟩ | ⟨a, len', cap', elems, spare, m, _, e1, e2, _, _, _, hlen, _, _, _⟩
    · exact ⟨_, _, _, e1, Nat.zero_le _⟩
    · refine ⟨_, _, _, e1, ?_⟩
      have h1 := hw ((elems.length + spare.length) * Try.prog.bytesOf 42) (by rw [e2]; simp [DataW.weights, Try.underlying23])
      rw [show Try.prog.bytesOf 42 = 48 by kernel_rfl] at h1
      have h2 : reachBytes = 140737488351232 := rfl
      omega
  obtain ⟨a0, len, cap, rfl, hle⟩ := hc
  obtain ⟨xs, rfl, hc, _, hr, _, _⟩ := slice_in mvC (s := 5) mvC_len (fun _ => 1) (fun _ => True) Try.underlying23 (by kernel_rfl) (by decide) h fun n cs y hy => move_in hy
  exact ⟨a0, cap, xs, rfl, hc, hr, hle⟩
/-- A difference that came in. -/
theorem delta_in {H : Type} {enc : TypeId × Value → H} {W : World} {n : Nat} {cs : List Value} {y : DataW H × List MemPlace} (h : DataW.trod enc Try.prog W 0 (fun _ => true) true n 25 cs = some y) (hw : ∀ n ∈ DataW.weights Try.prog 25 y.1, n ≤ reachBytes) :
    ∃ (d : Dl) (u v x : Value), cs = [u, v, x] ∧ DlV W (Lt W.heap.size) (.agg #[u, v, x]) d ∧ d.gone.length ≤ 140737488355328 ∧ d.come.length ≤ 140737488355328 ∧ d.moved.length ≤ 140737488355328 := by
  obtain ⟨xs, n, rfl, rfl, hcl, hxl, hf⟩ := DataW.trod_struct Try.underlying25 h
  rw [show Try.prog.cellsOf 25 = 3 by kernel_rfl] at hcl
  obtain ⟨u, v, x, rfl⟩ := three_of hcl
  obtain ⟨y0, y1, y2, rfl⟩ := three_of (hxl.trans rfl)
  have h0 := hf 0 _ rfl
  have h1 := hf 1 _ rfl
  have h2 := hf 2 _ rfl
  change DataW.trod enc Try.prog W 0 (fun _ => true) true n 22 (([u, v, x].drop 0).take (Try.prog.cellsOf 22)) = [y0, y1, y2][0]? at h0
  change DataW.trod enc Try.prog W 0 (fun _ => true) true n 22 (([u, v, x].drop 1).take (Try.prog.cellsOf 22)) = [y0, y1, y2][1]? at h1
  change DataW.trod enc Try.prog W 0 (fun _ => true) true n 23 (([u, v, x].drop 2).take (Try.prog.cellsOf 23)) = [y0, y1, y2][2]? at h2
  rw [show Try.prog.cellsOf 22 = 1 by kernel_rfl] at h0 h1
  rw [show Try.prog.cellsOf 23 = 1 by kernel_rfl] at h2
  have hws : ∀ n, (n ∈ DataW.weights Try.prog 22 y0.1 ∨ n ∈ DataW.weights Try.prog 22 y1.1 ∨ n ∈ DataW.weights Try.prog 23 y2.1) → n ≤ reachBytes := fun n hn => hw n (by
    simp only [DataW.weights, Try.underlying25]
    show n ∈ DataW.weightsEach Try.prog [22, 22, 23] [y0.1, y1.1, y2.1]
    simp only [DataW.weightsEach, List.mem_append]
    rcases hn with h | h | h
    · exact .inl h
    · exact .inr (.inl h)
    · exact .inr (.inr (.inl h)))
  obtain ⟨A1, c1, l1, e1, n1, k1, r1, b1⟩ := msgs_in (x := y0) h0 fun n hn => hws n (.inl hn)
  obtain ⟨A2, c2, l2, e2, n2, k2, r2, b2⟩ := msgs_in (x := y1) h1 fun n hn => hws n (.inr (.inl hn))
  obtain ⟨A3, c3, l3, e3, k3, r3, b3⟩ := moves_in (x := y2) h2 fun n hn => hws n (.inr (.inr hn))
  obtain rfl : u = .slice A1 l1.length c1 := by simpa using e1
  obtain rfl : v = .slice A2 l2.length c2 := by simpa using e2
  obtain rfl : x = .slice A3 l3.length c3 := by simpa using e3
  exact ⟨⟨l1, l2, l3⟩, _, _, _, rfl, ⟨A1, A2, A3, c1, c2, c3, rfl, n1, n2, k1, k2, k3, r1, r2, r3⟩, b1, b2, b3⟩

theorem trodAll_six {H : Type} {enc : TypeId × Value → H} {P : Program} {w : World} {base : Nat} {spare : Nat → Bool} {held : Bool} {t0 t1 t2 t3 t4 t5 : TypeId} {args : Array Value} {ds : List (DataW H)} {ps : List MemPlace} (h : DataW.TrodAll enc P w base spare held [t0, t1, t2, t3, t4, t5] args.toList ds ps) :
    ∃ v0 v1 v2 v3 v4 v5 d0 d1 d2 d3 d4 d5 p0 p1 p2 p3 p4 p5, args = #[v0, v1, v2, v3, v4, v5] ∧ ds = [d0, d1, d2, d3, d4, d5] ∧ ps = p0 ++ p1 ++ p2 ++ p3 ++ p4 ++ p5 ∧ DataW.Trod enc P w base spare held t0 v0 d0 p0 ∧ DataW.Trod enc P w base spare held t1 v1 d1 p1 ∧ DataW.Trod enc P w base spare held t2 v2 d2 p2 ∧ DataW.Trod enc P w base spare held t3 v3 d3 p3 ∧ DataW.Trod enc P w base spare held t4 v4 d4 p4 ∧ DataW.Trod enc P w base spare held t5 v5 d5 p5 := by
  obtain ⟨v0, vs0, d0, ds0, p0, q0, hargs, rfl, rfl, h0, r0⟩ := trodAll_cons h
  obtain ⟨v1, vs1, d1, ds1, p1, q1, rfl, rfl, rfl, h1, r1⟩ := trodAll_cons r0
  obtain ⟨v2, vs2, d2, ds2, p2, q2, rfl, rfl, rfl, h2, r2⟩ := trodAll_cons r1
  obtain ⟨v3, vs3, d3, ds3, p3, q3, rfl, rfl, rfl, h3, r3⟩ := trodAll_cons r2
  obtain ⟨v4, vs4, d4, ds4, p4, q4, rfl, rfl, rfl, h4, r4⟩ := trodAll_cons r3
  obtain ⟨v5, vs5, d5, ds5, p5, q5, rfl, rfl, rfl, h5, r5⟩ := trodAll_cons r4
  obtain ⟨rfl, rfl, rfl⟩ := trodAll_nil r5
  exact ⟨v0, v1, v2, v3, v4, v5, d0, d1, d2, d3, d4, d5, p0, p1, p2, p3, p4, p5, by cases args; simp_all, rfl, by simp, h0, h1, h2, h3, h4, h5⟩

set_option maxRecDepth 100000 in
theorem lifted (os : Os) (started : os.Started) (H : Type) (enc : TypeId × Value → H) :
    ReturnsInHanded {} Try.checked os 3 .any (Rows.deltaActsSpec.pre6 enc Try.prog Try.f3 Rows.deltaActsRow.domain false) (Rows.deltaActsSpec.post enc Try.prog Try.f3 false true false false) := by
  refine returnsInHanded_of_change_sized (C := Try.checked) own started (by kernel_rfl) Try.func3
    (ChangeSpec.witness6 (enc := enc) (C := Try.checked) false ⟨#[], #[.slice none 0 0, .slice none 0 0, .agg #[.slice none 0 0, .slice none 0 0, .slice none 0 0], .slice none 0 0, .int .i64 0, .int .i64 0], []⟩ 8 (by kernel_rfl) (by kernel_rfl) (by kernel_rfl) (by kernel_rfl)) ?_
  intro W base args ds gs before hval0 hW hcnd hsz _
  have hval : ∀ (j : Nat) t v, Try.f3.params[j]? = some t → args[j]? = some v → Value.okWide Try.prog W .any base t v := hval0
  have hW' := hW
  obtain ⟨p, q, hA0, hV, rfl, hfz, hnd⟩ := hW
  have hA : DataW.TrodAll enc Try.prog W 0 (fun _ => true) true Try.f3.params.toList args.toList ds p := hA0
  rw [Try.params3] at hA hval
  obtain ⟨v0, v1, v2, v3, v4, v5, d0, d1, d2, d3, d4, d5, p0, p1, p2, p3, p4, p5, hargs, rfl, rfl, h0, h1, h2, h3, h4, h5⟩ := trodAll_six hA
  obtain rfl : args = #[v0, v1, v2, v3, v4, v5] := by cases args; simp_all
  obtain ⟨rfl, rfl⟩ := trodVars_none hV
  have h0k := h0
  have h1k := h1
  have h2k := h2
  have h3k := h3
  have h4k := h4
  have h5k := h5
  obtain ⟨a0, len0, cap0, rfl⟩ := okWide_slice Try.underlying22 (hval 0 22 v0 rfl rfl)
  obtain ⟨a1, len1, cap1, rfl⟩ := okWide_slice Try.underlying22 (hval 1 22 v1 rfl rfl)
  obtain ⟨cs2, rfl, _⟩ := okWide_struct Try.underlying25 (hval 2 25 v2 rfl rfl)
  obtain ⟨a3, len3, cap3, rfl⟩ := okWide_slice Try.underlying26 (hval 3 26 v3 rfl rfl)
  obtain ⟨n4, rfl, rfl, rfl, wn4⟩ := open_int Try.underlying3 (hval 4 3 v4 rfl rfl) h4
  obtain ⟨n5, rfl, rfl, rfl, wn5⟩ := open_int Try.underlying3 (hval 5 3 v5 rfl rfl) h5
  have hlt : ∀ x ∈ p0 ++ (p1 ++ (p2 ++ p3)), x.block < W.heap.size := fun x hx => hW'.lt x (by simpa using hx)
  have fin : ∀ (e : Ending) (W' : World), (e = .returned (.bool true) ∧ Below W.heap.size W W') → ∃ v, e = .returned v ∧ Rows.deltaActsSpec.post enc Try.prog Try.f3 false true false false W #[.slice a0 len0 cap0, .slice a1 len1 cap1, .agg cs2, .slice a3 len3 cap3, .int .i64 n4, .int .i64 n5] v W' := by
    rintro e W' ⟨rfl, hb⟩
    refine ⟨_, rfl, _, _, _, [], p0 ++ (p1 ++ (p2 ++ (p3 ++ ([] ++ ([] ++ []))))), [], hW', ?_, ?_, rfl, hb.frame _, (fun h => by cases h)⟩
    · exact trodAll_mk1 (shut_bool Try.underlying4 _)
    · exact (trodAll_cons_mk (Below.trod laidOut (by kernel_rfl) (of_decide_eq_true (by kernel_rfl)) h0k hb (fun x hx => hlt x (by simp [hx]))) (trodAll_cons_mk (Below.trod laidOut (by kernel_rfl) (of_decide_eq_true (by kernel_rfl)) h1k hb (fun x hx => hlt x (by simp [hx]))) (trodAll_cons_mk (Below.trod laidOut (by kernel_rfl) (of_decide_eq_true (by kernel_rfl)) h2k hb (fun x hx => hlt x (by simp [hx]))) (trodAll_cons_mk (Below.trod laidOut (by kernel_rfl) (of_decide_eq_true (by kernel_rfl)) h3k hb (fun x hx => hlt x (by simp [hx]))) (trodAll_cons_mk (Below.trod laidOut (by kernel_rfl) (of_decide_eq_true (by kernel_rfl)) h4k hb (fun x hx => by cases hx)) (trodAll_cons_mk (Below.trod laidOut (by kernel_rfl) (of_decide_eq_true (by kernel_rfl)) h5k hb (fun x hx => by cases hx)) trodAll_mk0))))))
  have hwt : ∀ (j : Nat) (t : TypeId) (d : DataW H), [22, 22, 25][j]? = some t → [d0, d1, d2][j]? = some d → ∀ n ∈ DataW.weights Try.prog t d, n ≤ reachBytes := fun j t d ht hd n hn => by
    have hj : j < 3 := (List.getElem?_eq_some_iff.1 ht).1
    have h1 := List.all_eq_true.1 hsz n (DataW.weights_mem_each (j := j) (t := t) (d := d) ?_ ?_ n hn)
    · simpa using h1
    · rw [Try.params3, List.getElem?_append_left (by simp; omega)]
      obtain rfl | rfl | rfl : j = 0 ∨ j = 1 ∨ j = 2 := by omega
      · exact ht
      · exact ht
      · exact ht
    · obtain rfl | rfl | rfl : j = 0 ∨ j = 1 ∨ j = 2 := by omega
      · exact hd
      · exact hd
      · exact hd
  obtain ⟨fuel0, hf0⟩ := h0
  obtain ⟨A0, c0, raw, e0, hn0, hc0, hr0, _⟩ := msgs_in hf0 (hwt 0 _ _ rfl rfl)
  have e0 : (Value.slice a0 len0 cap0) = .slice A0 raw.length c0 := by simpa [Value.cells] using e0
  obtain ⟨rfl, rfl, rfl⟩ := Value.slice.inj e0
  obtain ⟨fuel1, hf1⟩ := h1
  obtain ⟨A1, c1, more, e1, hn1, hc1, hr1, _⟩ := msgs_in hf1 (hwt 1 _ _ rfl rfl)
  have e1 : (Value.slice a1 len1 cap1) = .slice A1 more.length c1 := by simpa [Value.cells] using e1
  obtain ⟨rfl, rfl, rfl⟩ := Value.slice.inj e1
  obtain ⟨fuel2, hf2⟩ := h2
  obtain ⟨x, u, v, z, e2, hD, hx1, hx2, hx3⟩ := delta_in hf2 (hwt 2 _ _ rfl rfl)
  obtain rfl : cs2 = #[u, v, z] := by apply Array.ext'; exact e2
  obtain ⟨fuel3, hf3⟩ := h3
  obtain ⟨xs3, hxl3, hrow3, hfit3⟩ := ints_in hf3
  subst hxl3
  exact (law_acts raw more x _ _ _ xs3 a3 cap3 n4 n5 W ⟨_, _, rfl, hn0, hc0, hr0⟩ ⟨_, _, rfl, hn1, hc1, hr1⟩ hD ⟨hx1, hx2, hx3⟩ hrow3 hfit3 (bounds_i64 wn4) (bounds_i64 wn5)).mono fin

theorem said : Rows.DeltaActsSaid :=
  OpenClaim.holds_of_wide 3 Try.f3 rfl rfl rfl rfl rfl rfl rfl ⟨rfl, rfl, rfl, rfl, rfl⟩ rfl rfl rfl rfl rfl (by kernel_rfl) Try.func3 (by kernel_rfl)
    (of_decide_eq_true (by kernel_rfl)) (by unfold Func.isWrapper; first | (rw [if_pos (by decide +kernel)]; kernel_rfl) | (rw [if_neg (by decide +kernel)]; exact ⟨rfl, rfl⟩))
    (fun os started H enc _ => lifted os started H enc)
end Go.Proofs.Ytlgdminpkkhejaa
