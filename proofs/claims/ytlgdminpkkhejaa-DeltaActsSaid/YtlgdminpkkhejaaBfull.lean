/-
  append to a slice that has no room (its length is its capacity): a new row, or nothing happens.
  Conditions: those of each theorem.
-/
import Derived.Test.YtlgdminpkkhejaaBrow
import Derived.Deep.AppendSrc
namespace Go.Proofs.Ytlgdminpkkhejaa
open Go.RowKit

section
variable {P : Program} {w : World}
/-- A slice whose row lies in memory. -/
def FullRes (n m : Nat) (xs : List Value) (w : World) (v : Value) (w' : World) : Prop :=
  ∃ (A : Option Addr) (c : Nat), v = .slice A (n + m) c ∧ (A = none → c = 0) ∧ n + m ≤ c ∧ Row w' (Lt w'.heap.size) A xs ∧ Below w.heap.size w w'
theorem src_row {size : Nat} {t e' : TypeId} (hk : P.underlying t = some (.slice e')) {S : Nat → Prop} {B : Option Addr} {m c : Nat} {news : List Value} (hl : news.length = m * size) (hr : Row w S B news) (h1 : ∀ u ∈ news, u.oneCell' = true) (hB : B = none → m = 0) : Src P size t (.slice B m c) m news w := by
  rcases B with _ | ad
  · obtain rfl := hB rfl
    obtain rfl : news = [] := List.eq_nil_of_length_eq_zero (by simpa using hl)
    exact Src.ofNil w hk c
  · exact Src.ofSlice w hk ad m c news hl (fun j u hu => by
      obtain ⟨ad', e, _, hc⟩ := hr.at_ hu
      cases e
      exact hc) h1
theorem wp_append_full {o : Oper} {a : Act} {K : Act → World → Prop} {Q : Exit → Act → World → Prop} (s x : Operand) (t : TypeId)
    (ho : o.op = .call { callee := .builtin .append, args := #[s, x], argTypes := #[t, t] })
    (e : TypeId) (i : TypeInfo) (z : Value) (size bytes : Nat) (ht : P.underlying t = some (.slice e)) (hi : P.info? e = some i) (hz : i.zero = some z)
    (hsize : i.size = size) (hby : i.bytes = bytes) (hsz : 0 < size)
    (A : Option Addr) (n : Nat) (xs : List Value) (hs : a.eval s = .slice A n n) (hxl : xs.length = n * size) (hA : A = none → n = 0) (hrx : Row w (Lt w.heap.size) A xs)
    (B : Option Addr) (m c : Nat) (news : List Value) (hx : a.eval x = .slice B m c) (hl : news.length = m * size) (hB : B = none → m = 0) (hr : Row w (Lt w.heap.size) B news) (h1 : ∀ u ∈ news, u.oneCell' = true)
    (h63 : n + m ≤ maxLen) (hbytes : (n + m) * bytes ≤ 140737488355328)
    (h : ∀ v' w', FullRes n m (xs ++ news) w v' w' → K (a.put o.dst v') w') : o.wp P a w K Q := by
  have hrun : ∃ v' w', (Builtin.append_ #[t, t] o.type #[.slice A n n, .slice B m c]).run P w = .ok v' w' ∧ FullRes n m (xs ++ news) w v' w' := by
    subst hsize
    have hsrc : Src P i.size t (.slice B m c) m news w := src_row ht hl hr h1 hB
    rcases Nat.eq_zero_or_pos m with hm | hm
    · subst hm
      obtain rfl : news = [] := List.eq_nil_of_length_eq_zero (by simpa using hl)
      have hrun : (Builtin.append_ #[t, t] o.type #[.slice A n n, .slice B 0 c]).run P w = .ok (.slice A n n) w := by
        rcases hsrc.kind with ⟨e', hk⟩ | hk <;> cases A <;> simp [Builtin.append_, run_underlying ht, run_underlying hk, sizeOf, typeInfo, hi, hsrc.len, hsrc.cells, storeCells]
      exact ⟨_, _, hrun, A, n, rfl, hA, Nat.le_refl _, by rw [List.append_nil]; exact hrx, Below.refl _ _⟩
    · have hold : (Builtin.firstCells i.size n (.slice A n n)).run P w.drew = .ok xs.toArray w.drew := by
        rcases A with _ | ad
        · obtain rfl := hA rfl
          obtain rfl : xs = [] := List.eq_nil_of_length_eq_zero (by simpa using hxl)
          exact run_firstCells_none _ _ _ _ _
        · exact run_firstCells_some _ _ _ _ _ _ _ hxl fun j u hu => by
            obtain ⟨ad', e, _, hc⟩ := hrx.at_ hu
            cases e
            exact hc
      have hrun := run_append_grow_src (P := P) w t t o.type e i z ht hi hz A n n xs hold (.slice B m c) m news hsrc (by omega) (by simp only [maxLen] at h63; omega) (growslice_fits (by omega) (by rw [hby]; exact hbytes))
      refine ⟨_, _, hrun, some ⟨w.heap.size, 0, none⟩, _, rfl, (fun e => by cases e), grownCap_ge _ _ _ _, .inr ⟨_, rfl, ?_, fun j u hu => ?_⟩, ((Below.refl _ _).drew).alloc (Nat.le_refl _) _⟩
      · show w.heap.size < _
        simp
      · refine World.news_of_block (B := w.heap.size) (cs := (xs ++ news).toArray ++ Builtin.zeroCells z.cells (grownCap w (n + m) n e - (n + m))) (alloc1 w.drew _) j u ?_
        rw [Array.toList_append, List.getElem?_append_left (by simpa using (List.getElem?_eq_some_iff.1 hu).1)]
        exact hu
  obtain ⟨v', w', hrun, h2⟩ := hrun
  unfold Oper.wp execOp
  simp only [ho, resolve, invoke, builtin, Sem.run_bind, Sem.run_pure, Result.andThen_ok, List.map_toArray, List.map_cons, List.map_nil, hs, hx, hrun]
  exact h v' w' h2
theorem wpList_append_full {ops : Array Oper} {rest : List Oper} {o : Oper} {a : Act} {Q : Exit → Act → World → Prop} (hgd : o.guard = none) (s x : Operand) (t : TypeId)
    (ho : o.op = .call { callee := .builtin .append, args := #[s, x], argTypes := #[t, t] })
    (e : TypeId) (i : TypeInfo) (z : Value) (size bytes : Nat) (ht : P.underlying t = some (.slice e)) (hi : P.info? e = some i) (hz : i.zero = some z)
    (hsize : i.size = size) (hby : i.bytes = bytes) (hsz : 0 < size)
    (A : Option Addr) (n : Nat) (xs : List Value) (hs : a.eval s = .slice A n n) (hxl : xs.length = n * size) (hA : A = none → n = 0) (hrx : Row w (Lt w.heap.size) A xs)
    (B : Option Addr) (m c : Nat) (news : List Value) (hx : a.eval x = .slice B m c) (hl : news.length = m * size) (hB : B = none → m = 0) (hr : Row w (Lt w.heap.size) B news) (h1 : ∀ u ∈ news, u.oneCell' = true)
    (h63 : n + m ≤ maxLen) (hbytes : (n + m) * bytes ≤ 140737488355328)
    (h : ∀ v' w', FullRes n m (xs ++ news) w v' w' → wpList P ops Q rest (a.put o.dst v') w') : wpList P ops Q (o :: rest) a w :=
  wpList_plain hgd fun _ hK => wp_append_full s x t ho e i z size bytes ht hi hz hsize hby hsz A n xs hs hxl hA hrx B m c news hx hl hB hr h1 h63 hbytes fun v' w' h2 => hK _ _ (h v' w' h2)
end
end Go.Proofs.Ytlgdminpkkhejaa
