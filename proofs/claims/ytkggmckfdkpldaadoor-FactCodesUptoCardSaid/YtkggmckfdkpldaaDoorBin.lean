/-
  How slices that came in are read: as rows of cells, element by element. No condition beyond those of each theorem.
-/
import Derived.Test.YtkggmckfdkpldaaDoorBm
import Derived.ProofKit
import Derived.OpenShut
import Derived.DataElems
namespace Go.Proofs.YtkggmckfdkpldaaDoor
open Go.ChangeShapes Go.WideShapes Go.RowKit

theorem listOf {α : Type} {P : Nat → α → Prop} : ∀ n, (∀ i, i < n → ∃ y, P i y) → ∃ l : List α, l.length = n ∧ ∀ i y, l[i]? = some y → P i y
  | 0, _ => ⟨[], rfl, by simp⟩
  | n + 1, h => by
    obtain ⟨l, hl, hp⟩ := listOf n fun i hi => h i (by omega)
    obtain ⟨y, hy⟩ := h n (by omega)
    refine ⟨l ++ [y], by simp [hl], fun i z hz => ?_⟩
    rcases Nat.lt_or_ge i n with hi | hi
    · rw [List.getElem?_append_left (by omega)] at hz
      exact hp i z hz
    · have : i < n + 1 := by have := (List.getElem?_eq_some_iff.1 hz).1; simp at this; omega
      obtain rfl : i = n := by omega
      rw [List.getElem?_append_right (by omega)] at hz
      simp [hl] at hz
      subst hz
      exact hy
theorem bulk_mem {H : Type} : ∀ {l : List (DataW H)} {d : DataW H}, d ∈ l → Rows.uptoBulk d ≤ Rows.uptoBulkAll l
  | a :: r, d, h => by
    rw [Rows.uptoBulkAll]
    rcases List.mem_cons.1 h with rfl | h
    · omega
    · have := bulk_mem h
      omega
theorem bulk_pos {H : Type} (d : DataW H) : 1 ≤ Rows.uptoBulk d := by
  cases d with
  | lit x => cases x <;> simp [Rows.uptoBulk]
  | _ => simp [Rows.uptoBulk]
theorem bulk_len {H : Type} : ∀ (l : List (DataW H)), l.length ≤ Rows.uptoBulkAll l
  | [] => by simp [Rows.uptoBulkAll]
  | a :: r => by
    have := bulk_len r
    have := bulk_pos a
    rw [Rows.uptoBulkAll]
    simp only [List.length_cons]
    omega
theorem bulk_sum {H α : Type} (b : α → Nat) : ∀ (l : List α) (ds : List (DataW H)), l.length = ds.length → (∀ (i : Nat) (x : α) (d : DataW H), l[i]? = some x → ds[i]? = some d → b x ≤ Rows.uptoBulk d) → (l.map b).sum ≤ Rows.uptoBulkAll ds
  | [], _, _, _ => by simp
  | _ :: _, [], h, _ => by simp at h
  | t :: r, d :: q, h, he => by
    have h1 := he 0 t d rfl rfl
    have h2 := bulk_sum b r q (by simpa using h) fun i t d ht hd => he (i + 1) t d (by simpa using ht) (by simpa using hd)
    rw [Rows.uptoBulkAll]
    simp only [List.map_cons, List.sum_cons]
    omega
theorem cell_in {w : World} {a : Addr} {v : Value} (h : w.cell? a = some v) : a.block < w.heap.size := by
  rcases Nat.lt_or_ge a.block w.heap.size with h1 | h1
  · exact h1
  · unfold World.cell? at h
    rw [Array.getElem?_eq_none h1] at h
    simp at h

/-- A slice that came in: a row of what its elements read as. -/
theorem slice_in {H α : Type} {enc : TypeId × Value → H} {W : World} {t e : TypeId} {s : Nat} (f : α → List Value) (hf : ∀ x, (f x).length = s) (b : α → Nat) (R : α → Prop)
    (ht : Tryd.prog.underlying t = some (.slice e)) (hs : Tryd.prog.cellsOf e = s) (hs0 : 0 < s) {a0 : Option Addr} {len cap fuel : Nat} {x : DataW H × List MemPlace}
    (h : DataW.trod enc Tryd.prog W 0 (fun _ => true) true fuel t [Value.slice a0 len cap] = some x)
    (hel : ∀ n cs y, DataW.trod enc Tryd.prog W 0 (fun _ => true) true n e cs = some y → ∃ z : α, cs = f z ∧ R z ∧ b z ≤ Rows.uptoBulk y.1) :
    ∃ xs : List α, xs.length = len ∧ len ≤ cap ∧ cap ≤ maxLen ∧ Row W (Lt W.heap.size) a0 (flt f xs) ∧ (∀ z ∈ xs, R z) ∧ (xs.map b).sum + 1 ≤ Rows.uptoBulk x.1 := by
  rcases DataW.trod_slice ht h with ⟨e1, rfl⟩ | ⟨a, len', cap', elems, rest, m, rfl, e1, rfl, _, hlc, hcm, hlen, hel', _, _⟩
  · obtain ⟨rfl, rfl, rfl⟩ : a0 = none ∧ len = 0 ∧ cap = 0 := by simpa using e1
    exact ⟨[], rfl, Nat.le_refl _, Nat.zero_le _, Row.nil _ _ _, by simp, by simp [Rows.uptoBulk]⟩
  · obtain ⟨rfl, rfl, rfl⟩ : a0 = some a ∧ len = len' ∧ cap = cap' := by simpa using e1
    have each : ∀ i, i < len → ∃ z : α, R z ∧ (∀ j, j < s → W.cell? ((a.add (i * s)).add j) = (f z)[j]?) ∧ ∃ y, elems[i]? = some y ∧ b z ≤ Rows.uptoBulk y.1 := by
      intro i hi
      have hel2 := hel' i hi
      have hy : elems[i]? = some (elems[i]'(by omega)) := List.getElem?_eq_getElem _
      rw [hy, hs, Option.bind_eq_some_iff] at hel2
      obtain ⟨cs', hcs, hr⟩ := hel2
      obtain ⟨_, hl2, hcell⟩ := World.cells?_some hcs
      obtain ⟨z, rfl, hR, hb⟩ := hel m cs' _ hr
      exact ⟨z, hR, hcell, _, hy, hb⟩
    obtain ⟨l, hl, hP⟩ := listOf len each
    refine ⟨l, hl, hlc, hcm, ?_, fun z hz => ?_, ?_⟩
    · rcases Nat.eq_zero_or_pos len with h0 | h0
      · left
        have : l = [] := List.eq_nil_of_length_eq_zero (by omega)
        rw [this]
        rfl
      · have key : ∀ j u, (flt f l)[j]? = some u → W.cell? (a.add j) = some u := fun j u hu => by
          have hj := (List.getElem?_eq_some_iff.1 hu).1
          rw [flt_length hf, hl] at hj
          have hi : j / s < l.length := by rw [hl]; exact Nat.div_lt_of_lt_mul (by rwa [Nat.mul_comm])
          have hm : j % s < s := Nat.mod_lt _ hs0
          have hx : l[j / s]? = some l[j / s] := List.getElem?_eq_getElem hi
          obtain ⟨_, hc, _⟩ := hP _ _ hx
          have hv : (f l[j / s])[j % s]? = some ((f l[j / s])[j % s]'(by rw [hf]; exact hm)) := List.getElem?_eq_getElem _
          have h1 := flt_at hf hx hv
          have e2 : j / s * s + j % s = j := Nat.div_add_mod' j s
          rw [e2, hu] at h1
          have h2 := hc _ hm
          rw [hv, addAdd, e2] at h2
          rw [h2, h1]
        refine .inr ⟨a, rfl, ?_, key⟩
        have h00 : (flt f l)[0]? = some ((flt f l)[0]'(by rw [flt_length hf, hl]; exact Nat.mul_pos h0 hs0)) := List.getElem?_eq_getElem _
        have := cell_in (key 0 _ h00)
        rwa [blkAdd] at this
    · obtain ⟨i, hi⟩ := List.getElem?_of_mem hz
      exact (hP i z hi).1
    · have h1 := bulk_sum b l (elems.map (·.1)) (by rw [List.length_map, hl, hlen]) fun i z d hz hd => by
        obtain ⟨_, _, y, hy, hb⟩ := hP i z hz
        rw [List.getElem?_map, hy] at hd
        obtain rfl := Option.some.inj hd
        exact hb
      rw [Rows.uptoBulk]
      omega

theorem cellsStr : Tryd.prog.cellsOf 9 = 1 := by kernel_rfl
/-- A string that came in. -/
theorem str_in {H : Type} {enc : TypeId × Value → H} {W : World} {n : Nat} {cs : List Value} {y : DataW H × List MemPlace} (h : DataW.trod enc Tryd.prog W 0 (fun _ => true) true n 9 cs = some y) :
    ∃ s : List UInt8, cs = [sv s] ∧ s.length ≤ maxLen ∧ s.length + 1 ≤ Rows.uptoBulk y.1 := by
  obtain ⟨s, rfl, rfl, hs⟩ := DataW.trod_string Tryd.underlying9 h
  exact ⟨s.data.toList, by rw [sv_of], by rw [Array.length_toList]; exact hs, by simp [Rows.uptoBulk]⟩
theorem flt_sv (ss : List (List UInt8)) : flt (fun s => [sv s]) ss = ss.map sv := by
  induction ss with
  | nil => rfl
  | cons a r ih => rw [flt_cons, ih]; rfl
/-- Strings that came in. -/
theorem strs_in {H : Type} {enc : TypeId × Value → H} {W : World} {n : Nat} {cs : List Value} {y : DataW H × List MemPlace} (h : DataW.trod enc Tryd.prog W 0 (fun _ => true) true n 28 cs = some y) :
    ∃ (a0 : Option Addr) (cap : Nat) (ss : List (List UInt8)), cs = [.slice a0 ss.length cap] ∧ Row W (Lt W.heap.size) a0 (ss.map sv) ∧ (ss.map fun s => s.length + 1).sum + 1 ≤ Rows.uptoBulk y.1 := by
  have hc : ∃ a0 len cap, cs = [.slice a0 len cap] := by
    rcases DataW.trod_slice Tryd.underlying28 h with ⟨e1, _⟩ | ⟨a, len', cap', _, _, _, _, e1, _⟩
    · exact ⟨_, _, _, e1⟩
    · exact ⟨_, _, _, e1⟩
  obtain ⟨a0, len, cap, rfl⟩ := hc
  obtain ⟨ss, rfl, _, _, hr, _, hb⟩ := slice_in (fun s : List UInt8 => [sv s]) (s := 1) (fun _ => rfl) (fun s => s.length + 1) (fun _ => True) Tryd.underlying28 cellsStr (by decide) h fun n cs y hy => by
    obtain ⟨s, e1, _, h2⟩ := str_in hy
    exact ⟨s, e1, trivial, h2⟩
  rw [flt_sv] at hr
  exact ⟨a0, cap, ss, rfl, hr, hb⟩
/-- Ints that came in. -/
theorem intsIn {H : Type} {enc : TypeId × Value → H} {W : World} {n : Nat} {cs : List Value} {y : DataW H × List MemPlace} (h : DataW.trod enc Tryd.prog W 0 (fun _ => true) true n 22 cs = some y) :
    ∃ (a0 : Option Addr) (cap : Nat) (xs : List Int), cs = [.slice a0 xs.length cap] ∧ Row W (Lt W.heap.size) a0 (xs.map (Value.int .i64)) ∧ ∀ z ∈ xs, -9223372036854775808 ≤ z ∧ z ≤ 9223372036854775807 := by
  have hc : ∃ a0 len cap, cs = [.slice a0 len cap] := by
    rcases DataW.trod_slice Tryd.underlying22 h with ⟨e1, _⟩ | ⟨a, len', cap', _, _, _, _, e1, _⟩
    · exact ⟨_, _, _, e1⟩
    · exact ⟨_, _, _, e1⟩
  obtain ⟨a0, len, cap, rfl⟩ := hc
  obtain ⟨xs, rfl, _, _, hr, hR, _⟩ := slice_in (fun z : Int => [Value.int .i64 z]) (s := 1) (fun _ => rfl) (fun _ => 0) (fun z => -9223372036854775808 ≤ z ∧ z ≤ 9223372036854775807) Tryd.underlying22 (by kernel_rfl) (by decide) h fun n cs y hy => by
    obtain ⟨z, e1, _, h2⟩ := DataW.trod_int Tryd.underlying3 hy
    exact ⟨z, e1, bounds_i64 h2, Nat.zero_le _⟩
  have hf : ∀ xs : List Int, flt (fun z : Int => [Value.int .i64 z]) xs = xs.map (Value.int .i64) := fun xs => by
    induction xs with
    | nil => rfl
    | cons a r ih => rw [flt_cons, ih]; rfl
  rw [hf] at hr
  exact ⟨a0, cap, xs, rfl, hr, hR⟩
end Go.Proofs.YtkggmckfdkpldaaDoor
