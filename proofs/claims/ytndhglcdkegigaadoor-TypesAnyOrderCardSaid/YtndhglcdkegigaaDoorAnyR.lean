/-
  append of a row that came in (nil, empty or not) onto a row of the call's own.
  Conditions: those of each theorem.
  Equations in whatever order (plain): all are kept or not, and what the solutions make has one size.
  Conditions: those of each theorem.
  Rows of equations: their back, their front, both in the other order; what a solution gives to Nodes.
  Conditions: those of each theorem.
-/
import Derived.Test.YtndhglcdkegigaaDoorMem
import Derived.Maps.AppendAt
import Derived.Test.YtndhglcdkegigaaDoorApp
import Derived.Test.YtndhglcdkegigaaDoorCEq
namespace Go.Proofs.YtndhglcdkegigaaDoor
section
open Go.RowKit
section
variable {P : Program} {w : World}
theorem run_append_void (base : Nat) (t ty e : TypeId) (i : TypeInfo) (size : Nat) (ht : P.underlying t = some (.slice e)) (hi : P.info? e = some i)
    (v : Value) (n : Nat) (xs : List Value) (hown : w.ownsRow base e size v n xs) (c : Nat) : (Builtin.append_ #[t, t] ty #[v, .slice none 0 c]).run P w = .ok v w := by
  rcases hown.2 with ⟨rfl, rfl⟩ | ⟨g, cap, cur, rfl, _, _, hnc, _⟩
  · simp [Builtin.append_, run_underlying ht, sizeOf, typeInfo, hi, Builtin.lenOf, Builtin.firstCells]
  · simp [Builtin.append_, run_underlying ht, sizeOf, typeInfo, hi, Builtin.lenOf, Builtin.firstCells, hnc, storeCells]

theorem wp_append_row {o : Oper} {a : Act} {K : Act → World → Prop} {Q : Exit → Act → World → Prop} (s x : Operand) (t : TypeId)
    (ho : o.op = .call { callee := .builtin .append, args := #[s, x], argTypes := #[t, t] })
    (base : Nat) (e : TypeId) (i : TypeInfo) (z : Value) (size bytes : Nat) (ht : P.underlying t = some (.slice e)) (hi : P.info? e = some i) (hz : i.zero = some z)
    (hsize : i.size = size) (hby : i.bytes = bytes) (hzs : z.cells.size = size) (hsz : 0 < size)
    (v : Value) (n : Nat) (xs : List Value) (hs : a.eval s = v) (hown : w.ownsRow base e size v n xs)
    (S : Nat → Prop) (A : Option Addr) (m c : Nat) (news : List Value) (hx : a.eval x = .slice A m c) (hl : news.length = m * size) (hr : Row w S A news) (h1 : ∀ u ∈ news, u.oneCell' = true)
    (h63 : n + m ≤ maxLen) (hbytes : (n + m) * bytes ≤ 140737488355328) (hbase : base ≤ w.heap.size)
    (h : ∀ v' w', w'.ownsRow base e size v' (n + m) (xs ++ news) → w.grownBy w' v.ownBlock → (v'.ownBlock = v.ownBlock ∨ v'.ownBlock = some w.heap.size) → K (a.put o.dst v') w') : o.wp P a w K Q := by
  have hrun : ∃ v' w', (Builtin.append_ #[t, t] o.type #[v, .slice A m c]).run P w = .ok v' w' ∧ w'.ownsRow base e size v' (n + m) (xs ++ news) ∧ w.grownBy w' v.ownBlock ∧ (v'.ownBlock = v.ownBlock ∨ v'.ownBlock = some w.heap.size) := by
    rcases A with _ | ad
    · have hn : news = [] := by
        rcases hr with h0 | ⟨ad, h, _⟩
        · exact h0
        · cases h
      subst hn
      have hm : m = 0 := by
        rcases Nat.eq_zero_or_pos m with h0 | h0
        · exact h0
        · have := Nat.mul_pos h0 hsz
          simp at hl
          omega
      subst hm
      exact ⟨v, w, run_append_void base t o.type e i size ht hi v n xs hown c, by simpa using hown, World.grownBy.refl w _, .inl rfl⟩
    · obtain ⟨v', w', hrun, h2, h3, _, h5⟩ := run_append_own_at (P := P) w base t o.type e i z size bytes ht hi hz hsize hby hzs hsz v n xs hown ad m c news hl (fun j u hu => by
        obtain ⟨ad', e, _, hc⟩ := hr.at_ hu
        cases e
        exact hc) h1 h63 hbytes hbase
      exact ⟨v', w', hrun, h2, h3, h5⟩
  obtain ⟨v', w', hrun, h2, h3, h4⟩ := hrun
  unfold Oper.wp execOp
  simp only [ho, resolve, invoke, builtin, Sem.run_bind, Sem.run_pure, Result.andThen_ok, List.map_toArray, List.map_cons, List.map_nil, hs, hx, hrun]
  exact h v' w' h2 h3 h4

theorem wpList_append_row {ops : Array Oper} {rest : List Oper} {o : Oper} {a : Act} {Q : Exit → Act → World → Prop} (hgd : o.guard = none) (s x : Operand) (t : TypeId)
    (ho : o.op = .call { callee := .builtin .append, args := #[s, x], argTypes := #[t, t] })
    (base : Nat) (e : TypeId) (i : TypeInfo) (z : Value) (size bytes : Nat) (ht : P.underlying t = some (.slice e)) (hi : P.info? e = some i) (hz : i.zero = some z)
    (hsize : i.size = size) (hby : i.bytes = bytes) (hzs : z.cells.size = size) (hsz : 0 < size)
    (v : Value) (n : Nat) (xs : List Value) (hs : a.eval s = v) (hown : w.ownsRow base e size v n xs)
    (S : Nat → Prop) (A : Option Addr) (m c : Nat) (news : List Value) (hx : a.eval x = .slice A m c) (hl : news.length = m * size) (hr : Row w S A news) (h1 : ∀ u ∈ news, u.oneCell' = true)
    (h63 : n + m ≤ maxLen) (hbytes : (n + m) * bytes ≤ 140737488355328) (hbase : base ≤ w.heap.size)
    (h : ∀ v' w', w'.ownsRow base e size v' (n + m) (xs ++ news) → w.grownBy w' v.ownBlock → (v'.ownBlock = v.ownBlock ∨ v'.ownBlock = some w.heap.size) → wpList P ops Q rest (a.put o.dst v') w') : wpList P ops Q (o :: rest) a w :=
  wpList_plain hgd fun _ hK => wp_append_row s x t ho base e i z size bytes ht hi hz hsize hby hzs hsz v n xs hs hown S A m c news hx hl hr h1 h63 hbytes hbase fun v' w' h2 h3 h4 => hK _ _ (h v' w' h2 h3 h4)
end
end

section
open Go.RowKit
theorem drops_nil : ∀ (rs : List Bool) (s : Nat), drops rs s = [] ↔ ∀ r ∈ rs, r = true
  | [], s => by simp [drops]
  | r :: rs, s => by
    have := drops_nil rs (s + 1)
    cases r with
    | true => simpa [drops] using this
    | false => simp [drops]
theorem Chain.full {E : List (Ty × Ty)} {rs : List Bool} {G : Gv} (h : Chain E rs G) : ∀ θ : Nat → Ty, (∀ x ∈ E, sub θ x.1 = sub θ x.2) → (∀ r ∈ rs, r = true) ∧ Sat θ (solOf G) := by
  induction h with
  | nil => exact fun θ _ => ⟨fun r hr => (by cases hr), fun k u hk => (by cases hk)⟩
  | @snoc E rs G G' t u r h hs ih =>
    intro θ hE
    obtain ⟨h1, h2⟩ := ih θ fun x hx => hE x (List.mem_append.2 (.inl hx))
    obtain ⟨h3, h4⟩ := hs.full θ h2 (hE (t, u) (by simp))
    refine ⟨fun b hb => ?_, h4⟩
    rcases List.mem_append.1 hb with hb | hb
    · exact h1 b hb
    · rw [List.mem_singleton.1 hb]
      exact h3
theorem SoundE.all {E : List (Ty × Ty)} {rs : List Bool} {G : Gv} (h : SoundE E rs G) (hl : rs.length = E.length) (hr : ∀ r ∈ rs, r = true) {θ : Nat → Ty} (hθ : Sat θ (solOf G)) : ∀ x ∈ E, sub θ x.1 = sub θ x.2 := by
  intro x hx
  obtain ⟨i, hi⟩ := List.mem_iff_getElem?.1 hx
  have hlt := (List.getElem?_eq_some_iff.1 hi).1
  have e : rs[i]? = some rs[i] := List.getElem?_eq_getElem (by omega)
  exact h i x hi (by rw [e, hr _ (List.getElem_mem _)]) θ hθ
theorem order_kept {E M : List (Ty × Ty)} {rs rs' : List Bool} {G G' : Gv} (hc : Chain E rs G) (hc' : Chain M rs' G') (hs : SoundE E rs G) (hm : ∀ x ∈ M, x ∈ E) (h0 : ∀ r ∈ rs, r = true) : (∀ r ∈ rs', r = true) ∧ ∀ θ, Sat θ (solOf G) → Sat θ (solOf G') := by
  have key : ∀ θ, Sat θ (solOf G) → (∀ r ∈ rs', r = true) ∧ Sat θ (solOf G') := fun θ hθ => hc'.full θ fun x hx => hs.all hc.len h0 hθ x (hm x hx)
  obtain ⟨ρ, hr⟩ := hc.rank
  obtain ⟨θ, hθ⟩ := appl_ex hr
  exact ⟨(key θ hθ.sat).1, fun θ hθ => (key θ hθ).2⟩
/-- All are kept in the one order if they are in the other; then what the solutions make has one size. -/
theorem any_order {E M : List (Ty × Ty)} {rs rs' : List Bool} {G G' : Gv} (hc : Chain E rs G) (hc' : Chain M rs' G') (hs : SoundE E rs G) (hs' : SoundE M rs' G') (hm : ∀ x, x ∈ E ↔ x ∈ M) :
    ((drops rs 0).length = 0 ↔ (drops rs' 0).length = 0) ∧ ((drops rs 0).length = 0 → ∀ θ φ : Nat → Ty, Appl (solOf G) θ → Appl (solOf G') φ → ∀ t, (sub θ t).size = (sub φ t).size) := by
  have e1 : ∀ rs : List Bool, (drops rs 0).length = 0 ↔ ∀ r ∈ rs, r = true := fun rs => by rw [List.length_eq_zero_iff]; exact drops_nil rs 0
  rw [e1, e1]
  have k1 := order_kept hc hc' hs (fun x hx => (hm x).2 hx)
  have k2 := order_kept hc' hc hs' (fun x hx => (hm x).1 hx)
  refine ⟨⟨fun h => (k1 h).1, fun h => (k2 h).1⟩, fun h θ φ hθ hφ t => ?_⟩
  obtain ⟨h1, h2⟩ := k1 h
  obtain ⟨_, h3⟩ := k2 h1
  obtain ⟨ρ, hr⟩ := hc.rank
  obtain ⟨π, hp⟩ := hc'.rank
  exact appl_size hr hp hθ hφ (h3 φ hφ.sat) (h2 θ hθ.sat) t
end

section
open Go.RowKit
theorem flat4_drop : ∀ (k : Nat) (vs : List EV), (flat4 vs).drop (k * 4) = flat4 (vs.drop k)
  | 0, vs => by simp
  | k + 1, [] => by simp [flat4]
  | k + 1, v :: r => by
    have := flat4_drop k r
    have e : (k + 1) * 4 = k * 4 + 4 := by omega
    rw [e]
    simpa [flat4] using this
theorem flat4_take : ∀ (k : Nat) (vs : List EV), (flat4 vs).take (k * 4) = flat4 (vs.take k)
  | 0, vs => by simp [flat4]
  | k + 1, [] => by simp [flat4]
  | k + 1, v :: r => by
    have := flat4_take k r
    have e : (k + 1) * 4 = k * 4 + 4 := by omega
    rw [e]
    simpa [flat4] using this
theorem EqRow.tail {w : World} {A : Option Addr} {E : List Eqn} {vs : List EV} (h : EqRow w A E vs) (k c : Nat) (hc : E.length ≤ c) : EqRow w (if c = k then A else A.map (·.add (k * 4))) (E.drop k) (vs.drop k) := by
  refine ⟨by simp [h.len], ?_, fun i x p hx hp => ?_⟩
  · rw [← flat4_drop]
    refine h.row.sub _ fun ad hA hk => ?_
    rw [flat4_length, h.len] at hk
    rw [if_neg (by omega), hA]
    rfl
  · rw [List.getElem?_drop] at hx hp
    exact h.each _ x p hx hp
theorem EqRow.front {w : World} {A : Option Addr} {E : List Eqn} {vs : List EV} (h : EqRow w A E vs) (k : Nat) : EqRow w A (E.take k) (vs.take k) := by
  refine ⟨by simp [h.len], ?_, fun i x p hx hp => ?_⟩
  · rw [← flat4_take]
    exact h.row.front _
  · rw [List.getElem?_take] at hx hp
    split at hx
    · rename_i hi
      rw [if_pos hi] at hp
      exact h.each _ x p hx hp
    · cases hx
theorem flat4_one {w : World} {A : Option Addr} {E : List Eqn} {vs : List EV} (h : EqRow w A E vs) : ∀ u ∈ flat4 vs, u.oneCell' = true := by
  intro u hu
  obtain ⟨p, hp, hu⟩ := List.mem_flatMap.1 hu
  obtain ⟨i, hi⟩ := List.mem_iff_getElem?.1 hp
  have hlt := (List.getElem?_eq_some_iff.1 hi).1
  obtain ⟨n, m, a, b, rfl⟩ := (h.each i _ p (List.getElem?_eq_getElem (by rw [← h.len]; exact hlt)) hi).shape
  simp at hu
  rcases hu with rfl | rfl | rfl | rfl <;> rfl
/-- Both parts in the other order, in a row of their own. -/
theorem EqRow.turned {w w' : World} {A : Option Addr} {E : List Eqn} {vs : List EV} {v : Value} {k m : Nat} (h : EqRow w A E vs) (hb : Below w.heap.size w w') (hown : w'.ownsRow w.heap.size 47 4 v m (flat4 (vs.drop k) ++ flat4 (vs.take k))) :
    ∃ MA mc, v = .slice MA m mc ∧ EqRow w' MA (E.drop k ++ E.take k) (vs.drop k ++ vs.take k) := by
  have hsh : ∃ MA mc, v = .slice MA m mc := by
    rcases hown.2 with ⟨hv, h0⟩ | ⟨g, cap, cur, hv, _⟩
    · exact ⟨none, 0, by rw [hv, h0]⟩
    · exact ⟨_, cap, hv⟩
  obtain ⟨MA, mc, rfl⟩ := hsh
  refine ⟨MA, mc, rfl, ?_⟩
  have h' := h.below hb
  rw [← flat4_append] at hown
  refine ⟨by simp [h.len], Row.ofOwn hown fun g hg h3 h4 => ⟨h4, ?_⟩, fun i x p hx hp => ?_⟩
  · subst hg
    obtain ⟨cs, hcs⟩ := row_block hown (g := g) rfl
    exact ⟨cs, _, hcs⟩
  · have hdl : (E.drop k).length = (vs.drop k).length := by simp [h.len]
    rcases Nat.lt_or_ge i (E.drop k).length with hi | hi
    · rw [List.getElem?_append_left hi] at hx
      rw [List.getElem?_append_left (by omega)] at hp
      rw [List.getElem?_drop] at hx hp
      exact h'.each _ x p hx hp
    · rw [List.getElem?_append_right hi] at hx
      rw [List.getElem?_append_right (by omega), ← hdl] at hp
      exact (h'.front k).each _ x p hx hp

theorem solLen_100 {G : Gv} (h : ∀ g ∈ G, g.1 < 100) : solLen G ≤ 100 := by
  rcases solLen_at G with h0 | ⟨g, hg, h1⟩
  · omega
  · have := h g hg
    omega
/-- What a solution gives to Nodes and Apply. -/
structure SolUse (G : Gv) (ρ : Ty → Nat) (θ : Nat → Ty) : Prop where
  rank : Rank (solv (solL G)) ρ
  appl : Appl (solv (solL G)) θ
  app2 : Appl (solOf G) θ
  len : (solL G).length = solLen G
  le : solLen G ≤ 100
theorem sol_use {E : List (Ty × Ty)} {rs : List Bool} {G : Gv} (hch : Chain E rs G) {Q : Ty → Prop} (hQ : DownN Q) (h : ∀ g ∈ G, Q g.2.2 ∧ g.1 < 100) : ∃ ρ θ, SolUse G ρ θ ∧ ∀ m u, solv (solL G) m = some u → Q u := by
  obtain ⟨ρ, hrk⟩ := hch.rank
  have hsol : solv (solL G) = solOf G := solv_solL fun g hg => hQ.full _ (h g hg).1
  obtain ⟨θ, hθ⟩ := appl_ex hrk
  refine ⟨ρ, θ, ⟨by rw [hsol]; exact hrk, by rw [hsol]; exact hθ, hθ, by simp [solL], solLen_100 fun g hg => (h g hg).2⟩, fun m u hu => ?_⟩
  rw [hsol] at hu
  obtain ⟨q, hq⟩ := find_mem hu
  exact (h _ hq).1
theorem cty_tyV (i : Nat) (h : i < 4) : CTy (tyV i) := by
  refine .mk _ _ ?_ (by simp) fun a ha => (by cases ha)
  have : i = 0 ∨ i = 1 ∨ i = 2 ∨ i = 3 := by omega
  rcases this with rfl | rfl | rfl | rfl <;> simp [vname, Lib.decDigits_one, cnames]
theorem tyV_at {w : World} (n : Nat) (h : n < 100) : TyIs w (Lt w.heap.size) (tyV n) (sv (vname n)) (.slice none 0 0) := by
  refine (Tys.nil w _ none).close ?_ (Nat.zero_le _) ⟨Nat.le_refl _, Nat.zero_le _⟩
  have := dec_len h
  simp only [vname, List.length_cons]
  omega
end
end Go.Proofs.YtndhglcdkegigaaDoor
