/-
  How a code that came in is read, and how long its string is.
  Conditions: it holds at most 1048576 values and letters.
-/
import Derived.Test.YtkggmckfdkpldaaDoorFdM
import Derived.Test.YtkggmckfdkpldaaDoorBin
namespace Go.Proofs.YtkggmckfdkpldaaDoor
open Go.ChangeShapes Go.WideShapes Go.RowKit

theorem le_sum : ∀ {l : List Nat} {a : Nat}, a ∈ l → a ≤ l.sum
  | b :: l, a, h => by
    rw [List.sum_cons]
    rcases List.mem_cons.1 h with rfl | h
    · omega
    · have := le_sum h
      omega
def opB (o : OpF) : Nat := o.list.length + o.sym.length + 1
theorem pack_sum {k : Nat} : ∀ {l : List (List UInt8)} {c : List Nat}, l.length = c.length → (∀ (i : Nat) a b, l[i]? = some a → c[i]? = some b → a.length ≤ k * b ∧ k * b ≤ 1000000000 ∧ 1 ≤ b) → (pack l).length ≤ (k + 22) * c.sum
  | [], _, _, _ => by simp [pack]
  | _ :: _, [], h, _ => by simp at h
  | a :: l, b :: c, h, he => by
    obtain ⟨h1, h2, h3⟩ := he 0 a b rfl rfl
    have h4 := pack_sum (l := l) (c := c) (by simpa using h) fun i a b ha hb => he (i + 1) a b (by simpa using ha) (by simpa using hb)
    have h5 := Lib.itoa_length_le (a.length : Int) (by omega) (by omega)
    rw [Lib.itoa_nonneg] at h5
    rw [pack_cons, List.length_append, pk_length, List.sum_cons, Nat.mul_add, Nat.add_mul k 22 b]
    omega
theorem opS_cost {o : OpF} (h : o.fits) (hb : opB o ≤ 1048576) : (opS o).length ≤ 400 * opB o := by
  unfold opB at hb
  have h5 := nums_small (k := o.list.length) (Nat.le_refl _) h.2.2.2.2
  have i0 := itoa_le h.1
  have i1 := itoa_le h.2.1
  have i2 := itoa_le h.2.2.1
  have i3 := itoa_le h.2.2.2.1
  have key : ∀ a : List UInt8, a.length ≤ 1000000000 → (pk a).length ≤ a.length + 22 := fun a ha => by
    have h5 := Lib.itoa_length_le (a.length : Int) (by omega) (by omega)
    rw [Lib.itoa_nonneg] at h5
    rw [pk_length]
    omega
  have k0 := key (Lib.itoa o.kind) (by omega)
  have k1 := key (Lib.itoa o.a) (by omega)
  have k2 := key (Lib.itoa o.b) (by omega)
  have k3 := key (Lib.itoa o.c) (by omega)
  have k4 := key (numsS o.list) (by omega)
  have k5 := key o.sym (by omega)
  unfold opS opB
  simp only [pack_cons, List.length_append]
  have k6 : (pack []).length = 0 := by simp [pack]
  omega
theorem cd_cost {x : CdF} (h : x.fits) (hb : (x.ops.map opB).sum ≤ 1048576) : (cdS x).length ≤ 1000000000 := by
  have each : ∀ o ∈ x.ops, opB o ≤ 1048576 := fun o ho => Nat.le_trans (by
    have := List.mem_map_of_mem (f := opB) ho
    exact le_sum this) hb
  have h1 := pack_sum (k := 400) (l := x.ops.map opS) (c := x.ops.map opB) (by simp) fun i a b ha hb => by
    rw [List.getElem?_map] at ha hb
    obtain ⟨o, ho, rfl⟩ := Option.map_eq_some_iff.1 ha
    rw [ho] at hb
    obtain rfl := Option.some.inj hb
    have hm := List.mem_of_getElem? ho
    have := each o hm
    exact ⟨opS_cost (h.2.2 o hm) this, by omega, by unfold opB; omega⟩
  have h2 := pack_le (b := 500000000) (by decide) (l := [Lib.itoa x.params, Lib.itoa x.regs]) fun a ha => by
    simp only [List.mem_cons, List.not_mem_nil, or_false] at ha
    rcases ha with rfl | rfl
    · have := itoa_le h.1; omega
    · have := itoa_le h.2.1; omega
  have i0 := itoa_le h.1
  have i1 := itoa_le h.2.1
  have key : ∀ a : List UInt8, a.length ≤ 1000000000 → (pk a).length ≤ a.length + 22 := fun a ha => by
    have h5 := Lib.itoa_length_le (a.length : Int) (by omega) (by omega)
    rw [Lib.itoa_nonneg] at h5
    rw [pk_length]
    omega
  have k0 := key (Lib.itoa x.params) (by omega)
  have k1 := key (Lib.itoa x.regs) (by omega)
  have k2 := key (pack (x.ops.map opS)) (by omega)
  unfold cdS
  simp only [pack_cons, List.length_append]
  have k6 : (pack []).length = 0 := by simp [pack]
  omega
theorem six_of {α : Type} : ∀ {l : List α}, l.length = 6 → ∃ a b c d e f, l = [a, b, c, d, e, f]
  | [a, b, c, d, e, f], _ => ⟨a, b, c, d, e, f, rfl⟩
theorem three_of {α : Type} : ∀ {l : List α}, l.length = 3 → ∃ u v x, l = [u, v, x]
  | [u, v, x], _ => ⟨u, v, x, rfl⟩
theorem ints_b {H : Type} {enc : TypeId × Value → H} {W : World} {n : Nat} {cs : List Value} {y : DataW H × List MemPlace} (h : DataW.trod enc Tryd.prog W 0 (fun _ => true) true n 22 cs = some y) :
    ∃ (a0 : Option Addr) (cap : Nat) (xs : List Int), cs = [.slice a0 xs.length cap] ∧ Row W (Lt W.heap.size) a0 (xs.map (Value.int .i64)) ∧ (∀ z ∈ xs, I64f z) ∧ xs.length + 1 ≤ Rows.uptoBulk y.1 := by
  have hc : ∃ a0 len cap, cs = [.slice a0 len cap] := by
    rcases DataW.trod_slice Tryd.underlying22 h with ⟨e1, _⟩ | ⟨a, len', cap', _, _, _, _, e1, _⟩
    · exact ⟨_, _, _, e1⟩
    · exact ⟨_, _, _, e1⟩
  obtain ⟨a0, len, cap, rfl⟩ := hc
  obtain ⟨xs, rfl, _, _, hr, hR, hb⟩ := slice_in (fun z : Int => [Value.int .i64 z]) (s := 1) (fun _ => rfl) (fun _ => 1) (fun z => I64f z) Tryd.underlying22 (by kernel_rfl) (by decide) h fun n cs y hy => by
    obtain ⟨z, e1, _, h2⟩ := DataW.trod_int Tryd.underlying3 hy
    exact ⟨z, e1, bounds_i64 h2, bulk_pos _⟩
  have hf : ∀ xs : List Int, flt (fun z : Int => [Value.int .i64 z]) xs = xs.map (Value.int .i64) := fun xs => by
    induction xs with
    | nil => rfl
    | cons a r ih => rw [flt_cons, ih]; rfl
  have hs : ∀ xs : List Int, (xs.map fun _ => 1).sum = xs.length := fun xs => by
    induction xs with
    | nil => rfl
    | cons a r ih => simp [ih]; omega
  rw [hf] at hr
  rw [hs] at hb
  exact ⟨a0, cap, xs, rfl, hr, hR, hb⟩
/-- An operation that came in. -/
theorem op_in {H : Type} {enc : TypeId × Value → H} {W : World} {n : Nat} {cs : List Value} {y : DataW H × List MemPlace} (h : DataW.trod enc Tryd.prog W 0 (fun _ => true) true n 60 cs = some y) :
    ∃ z : OV, cs = ovC z ∧ (z.o.fits ∧ IntsV W (Lt W.heap.size) z.lv z.o.list) ∧ opB z.o ≤ Rows.uptoBulk y.1 := by
  obtain ⟨xs, n, rfl, rfl, hcl, hxl, hf⟩ := DataW.trod_struct Tryd.underlying60 h
  rw [show Tryd.prog.cellsOf 60 = 6 by kernel_rfl] at hcl
  obtain ⟨u0, u1, u2, u3, u4, u5, rfl⟩ := six_of hcl
  obtain ⟨y0, y1, y2, y3, y4, y5, rfl⟩ := six_of (hxl.trans rfl)
  have h0 := hf 0 _ rfl
  have h1 := hf 1 _ rfl
  have h2 := hf 2 _ rfl
  have h3 := hf 3 _ rfl
  have h4 := hf 4 _ rfl
  have h5 := hf 5 _ rfl
  change DataW.trod enc Tryd.prog W 0 (fun _ => true) true n 3 (([u0, u1, u2, u3, u4, u5].drop 0).take (Tryd.prog.cellsOf 3)) = [y0, y1, y2, y3, y4, y5][0]? at h0
  change DataW.trod enc Tryd.prog W 0 (fun _ => true) true n 3 (([u0, u1, u2, u3, u4, u5].drop 1).take (Tryd.prog.cellsOf 3)) = [y0, y1, y2, y3, y4, y5][1]? at h1
  change DataW.trod enc Tryd.prog W 0 (fun _ => true) true n 3 (([u0, u1, u2, u3, u4, u5].drop 2).take (Tryd.prog.cellsOf 3)) = [y0, y1, y2, y3, y4, y5][2]? at h2
  change DataW.trod enc Tryd.prog W 0 (fun _ => true) true n 3 (([u0, u1, u2, u3, u4, u5].drop 3).take (Tryd.prog.cellsOf 3)) = [y0, y1, y2, y3, y4, y5][3]? at h3
  change DataW.trod enc Tryd.prog W 0 (fun _ => true) true n 22 (([u0, u1, u2, u3, u4, u5].drop 4).take (Tryd.prog.cellsOf 22)) = [y0, y1, y2, y3, y4, y5][4]? at h4
  change DataW.trod enc Tryd.prog W 0 (fun _ => true) true n 9 (([u0, u1, u2, u3, u4, u5].drop 5).take (Tryd.prog.cellsOf 9)) = [y0, y1, y2, y3, y4, y5][5]? at h5
  rw [show Tryd.prog.cellsOf 3 = 1 by kernel_rfl] at h0 h1 h2 h3
  rw [show Tryd.prog.cellsOf 22 = 1 by kernel_rfl] at h4
  rw [show Tryd.prog.cellsOf 9 = 1 by kernel_rfl] at h5
  obtain ⟨n0, e0, _, b0⟩ := DataW.trod_int (x := y0) Tryd.underlying3 h0
  obtain ⟨n1, e1, _, b1⟩ := DataW.trod_int (x := y1) Tryd.underlying3 h1
  obtain ⟨n2, e2, _, b2⟩ := DataW.trod_int (x := y2) Tryd.underlying3 h2
  obtain ⟨n3, e3, _, b3⟩ := DataW.trod_int (x := y3) Tryd.underlying3 h3
  obtain ⟨a4, c4, l4, e4, r4, f4, b4⟩ := ints_b (y := y4) h4
  obtain ⟨s5, e5, _, b5⟩ := str_in (y := y5) h5
  obtain rfl : u0 = .int .i64 n0 := by simpa using e0
  obtain rfl : u1 = .int .i64 n1 := by simpa using e1
  obtain rfl : u2 = .int .i64 n2 := by simpa using e2
  obtain rfl : u3 = .int .i64 n3 := by simpa using e3
  obtain rfl : u4 = .slice a4 l4.length c4 := by simpa using e4
  obtain rfl : u5 = sv s5 := by simpa using e5
  refine ⟨⟨⟨n0, n1, n2, n3, l4, s5⟩, .slice a4 l4.length c4⟩, rfl, ⟨⟨bounds_i64 b0, bounds_i64 b1, bounds_i64 b2, bounds_i64 b3, f4⟩, a4, c4, rfl, r4⟩, ?_⟩
  unfold opB
  simp only [List.map_cons, List.map_nil, Rows.uptoBulk, Rows.uptoBulkAll]
  omega
/-- A code that came in. -/
theorem code_in {H : Type} {enc : TypeId × Value → H} {W : World} {n : Nat} {cs : List Value} {y : DataW H × List MemPlace} (h : DataW.trod enc Tryd.prog W 0 (fun _ => true) true n 37 cs = some y) (hb : Rows.uptoBulk y.1 ≤ 1048576) :
    ∃ (x : CdF) (A : Option Addr) (m c : Nat), cs = [iv x.params, iv x.regs, .slice A m c] ∧ Good W x (.slice A m c) := by
  obtain ⟨xs, n, rfl, rfl, hcl, hxl, hf⟩ := DataW.trod_struct Tryd.underlying37 h
  rw [show Tryd.prog.cellsOf 37 = 3 by kernel_rfl] at hcl
  obtain ⟨u0, u1, u2, rfl⟩ := three_of hcl
  obtain ⟨y0, y1, y2, rfl⟩ := three_of (hxl.trans rfl)
  have h0 := hf 0 _ rfl
  have h1 := hf 1 _ rfl
  have h2 := hf 2 _ rfl
  change DataW.trod enc Tryd.prog W 0 (fun _ => true) true n 3 (([u0, u1, u2].drop 0).take (Tryd.prog.cellsOf 3)) = [y0, y1, y2][0]? at h0
  change DataW.trod enc Tryd.prog W 0 (fun _ => true) true n 3 (([u0, u1, u2].drop 1).take (Tryd.prog.cellsOf 3)) = [y0, y1, y2][1]? at h1
  change DataW.trod enc Tryd.prog W 0 (fun _ => true) true n 35 (([u0, u1, u2].drop 2).take (Tryd.prog.cellsOf 35)) = [y0, y1, y2][2]? at h2
  rw [show Tryd.prog.cellsOf 3 = 1 by kernel_rfl] at h0 h1
  rw [show Tryd.prog.cellsOf 35 = 1 by kernel_rfl] at h2
  obtain ⟨n0, e0, _, b0⟩ := DataW.trod_int (x := y0) Tryd.underlying3 h0
  obtain ⟨n1, e1, _, b1⟩ := DataW.trod_int (x := y1) Tryd.underlying3 h1
  obtain rfl : u0 = .int .i64 n0 := by simpa using e0
  obtain rfl : u1 = .int .i64 n1 := by simpa using e1
  change DataW.trod enc Tryd.prog W 0 (fun _ => true) true n 35 [u2] = some y2 at h2
  have hc : ∃ a0 len cap, u2 = .slice a0 len cap := by
    rcases DataW.trod_slice Tryd.underlying35 h2 with ⟨e1, _⟩ | ⟨a, len', cap', _, _, _, _, e1, _⟩
    · exact ⟨_, _, _, by simpa using e1⟩
    · exact ⟨_, _, _, by simpa using e1⟩
  obtain ⟨a0, len, cap, rfl⟩ := hc
  obtain ⟨us, hl, _, _, hr, hR, hsum⟩ := slice_in (fun z : OV => ovC z) (s := 6) (fun _ => rfl) (fun z => opB z.o) (fun z => z.o.fits ∧ IntsV W (Lt W.heap.size) z.lv z.o.list) Tryd.underlying35 (by kernel_rfl) (by decide) h2 fun n cs y hy => op_in hy
  subst hl
  have hbb : Rows.uptoBulk y2.1 ≤ 1048576 := by
    refine Nat.le_trans ?_ hb
    simp only [List.map_cons, List.map_nil, Rows.uptoBulk, Rows.uptoBulkAll]
    omega
  have hfit : (⟨n0, n1, us.map OV.o⟩ : CdF).fits := ⟨bounds_i64 b0, bounds_i64 b1, fun o ho => by
    obtain ⟨u, hu, rfl⟩ := List.mem_map.1 ho
    exact (hR u hu).1⟩
  have hs2 : ((us.map OV.o).map opB).sum ≤ 1048576 := by
    rw [List.map_map]
    have : (us.map (opB ∘ OV.o)).sum = (us.map fun z => opB z.o).sum := rfl
    omega
  have heach : ∀ o ∈ us.map OV.o, opB o ≤ 1048576 := fun o ho => Nat.le_trans (le_sum (List.mem_map_of_mem (f := opB) ho)) hs2
  refine ⟨⟨n0, n1, us.map OV.o⟩, a0, us.length, cap, rfl, ⟨⟨a0, cap, us, rfl, rfl, hr, fun u hu => (hR u hu).2⟩, hfit, cd_cost hfit hs2, ?_, fun o ho => ?_⟩⟩
  · have h1 : ∀ l : List OpF, l.length ≤ (l.map opB).sum := fun l => by
      induction l with
      | nil => simp
      | cons a r ih => simp only [List.length_cons, List.map_cons, List.sum_cons]; unfold opB at *; omega
    have := h1 (us.map OV.o)
    simp only
    omega
  · have := heach o ho
    unfold opB at this
    omega
end Go.Proofs.YtkggmckfdkpldaaDoor
