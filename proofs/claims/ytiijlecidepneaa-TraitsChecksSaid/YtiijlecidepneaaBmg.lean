/-
  Maps as lists of keys and values: look-up, store, delete, with keys that are ints, pointers, or pairs of pointers.
  Conditions: what a pointer that is a key points at lies in a block of plain cells.
  Maps as lists of keys and values: look-up, store, delete, with keys that are ints, pointers, or pairs of pointers.
  Conditions: what a pointer that is a key points at lies in a block of plain cells.
  A loop over a map, in whatever order: entries that came so far.
  Conditions: those of each theorem.
  Maps in memory as functions: what a key has; look-up, store, delete, and loops over them.
  Conditions: the keys are of a kind that has a law (KeyLaw).
-/
import Derived.Test.YtiijlecidepneaaMSt
import Derived.MapKept
import Derived.LaidEqlPtr
import Derived.Carry
import Derived.Laws.StructEq
import Derived.Test.YtiijlecidepneaaBm
import Derived.Maps.RangeRun
namespace Go.Proofs.Ytiijlecidepneaa
section
open Go.RowKit Go.MapKept
section
variable {P : Program}

noncomputable def seek (k : Value) : List MapEntry → Nat → Option (Nat × Value)
  | [], _ => none
  | e :: es, i => open Classical in if k = e.key then some (i, e.val) else seek k es (i + 1)
theorem seek_none {k : Value} : ∀ {es : List MapEntry} {i : Nat}, (∀ e ∈ es, e.key ≠ k) → seek k es i = none
  | [], _, _ => rfl
  | e :: es, i, h => by
    unfold seek
    rw [if_neg (fun h' => h e (by simp) h'.symm)]
    exact seek_none fun x hx => h x (by simp [hx])
theorem seek_some {k : Value} : ∀ {es : List MapEntry} {i : Nat}, (∃ e ∈ es, e.key = k) → ∃ j e, es[j]? = some e ∧ e.key = k ∧ seek k es i = some (i + j, e.val)
  | [], _, h => by obtain ⟨e, he, _⟩ := h; cases he
  | e :: es, i, h => by
    unfold seek
    by_cases hk : k = e.key
    · rw [if_pos hk]
      exact ⟨0, e, rfl, hk.symm, rfl⟩
    · rw [if_neg hk]
      obtain ⟨x, hx, hxk⟩ := h
      rcases List.mem_cons.1 hx with rfl | hx
      · exact absurd hxk.symm hk
      · obtain ⟨j, e', h1, h2, h3⟩ := seek_some (i := i + 1) ⟨x, hx, hxk⟩
        exact ⟨j + 1, e', by simpa using h1, h2, by rw [h3]; congr 2; omega⟩

/-- What is asked of the keys of a map. -/
structure KeyLaw (P : Program) (kt : TypeId) (K : World → Value → Prop) : Prop where
  check : ∀ w e k, K w k → (Instr.checkKey e 10000 kt k).run P w = .ok () w
  find : ∀ w k (es : List MapEntry), K w k → (∀ x ∈ es, K w x.key) → (Instr.findKey kt k es).run P w = .ok (seek k es 0) w
  same : ∀ w k, K w k → Instr.sameBits 10000 k k = true

theorem find_asking {kt : TypeId} {d : TypeDesc} {K : World → Value → Prop} (hd : P.underlying kt = some d) {w : World} {k : Value}
    (hn : ∀ k', K w k' → Instr.sameNow d k k' = none) (he : ∀ k', K w k' → (Op.equal kt k k').run P w = .ok (open Classical in decide (k = k')) w) (es : List MapEntry) (hes : ∀ x ∈ es, K w x.key) :
    (Instr.findKey kt k es).run P w = .ok (seek k es 0) w := by
  have ask : ∀ (l : List MapEntry) (i : Nat), (∀ x ∈ l, K w x.key) → (Instr.findAsking kt k l i).run P w = .ok (seek k l i) w := by
    intro l
    induction l with
    | nil => intro i _; rfl
    | cons e r ih =>
      intro i h
      unfold Instr.findAsking seek
      simp only [Sem.run_bind, he e.key (h e (by simp)), Result.andThen_ok]
      by_cases hk : k = e.key
      · simp [hk]
      · simp only [hk, decide_false, Bool.false_eq_true, if_false]
        exact ih (i + 1) fun x hx => h x (by simp [hx])
  unfold Instr.findKey
  simp only [Sem.run_bind, run_underlying hd, Result.andThen_ok]
  cases es with
  | nil => rfl
  | cons e r =>
    have : Instr.findNow d k (e :: r) 0 = none := by
      unfold Instr.findNow
      rw [hn e.key (hes e (by simp))]
    rw [this]
    exact ask _ 0 hes

/-! ### Keys -/

def KInt (_ : World) (v : Value) : Prop := ∃ z : Int, v = .int .i64 z
def PlainB (w : World) (b : Nat) : Prop := ∃ cs T, w.heap[b]? = some (.cells cs T (0, 0))
def KPtr (w : World) (v : Value) : Prop := ∃ a : Addr, v = .pointer (some a) ∧ PlainB w a.block
def KPair (w : World) (v : Value) : Prop := ∃ a b : Addr, v = .agg #[.pointer (some a), .pointer (some b)] ∧ PlainB w a.block ∧ PlainB w b.block

theorem keyInt {kt : TypeId} (hk : P.underlying kt = some (.int .i64)) : KeyLaw P kt KInt := by
  have key : ∀ w k, KInt w k → IsKey (.int .i64) k := by
    rintro w k ⟨z, rfl⟩
    rfl
  refine ⟨fun w e k h => run_checkKey hk (key w k h) e 9999, fun w k es h hes => ?_, fun w k h => sameBits_self (key w k h) 10000⟩
  obtain ⟨z, rfl⟩ := h
  have now : ∀ (l : List MapEntry) (i : Nat), (∀ x ∈ l, KInt w x.key) → Instr.findNow (.int .i64) (.int .i64 z) l i = some (seek (.int .i64 z) l i) := by
    intro l
    induction l with
    | nil => intro i _; rfl
    | cons e r ih =>
      intro i h
      obtain ⟨y, hy⟩ := h e (by simp)
      unfold Instr.findNow seek
      rw [hy]
      simp only [Instr.sameNow, if_true]
      by_cases hzy : z = y
      · subst hzy
        simp
      · have h1 : (z == y) = false := by simpa using hzy
        have h2 : ¬ (Value.int .i64 z = Value.int .i64 y) := fun h => hzy (by injection h)
        simp only [h1, h2, if_false]
        exact ih (i + 1) fun x hx => h x (by simp [hx])
  exact run_findKey hk (now es 0 hes)

theorem keyPtr {kt te : TypeId} {j : TypeInfo} (hk : P.underlying kt = some (.pointer te)) (hte : P.info? te = some j) (hsz : j.size ≠ 0) : KeyLaw P kt KPtr := by
  have hc : ∀ (n : Nat) (e : Bool) (a : Addr) (w : World), (Instr.checkKey e (n + 1) kt (.pointer (some a))).run P w = .ok () w := by
    intro n e a w
    unfold Instr.checkKey
    simp only [Sem.run_bind, run_underlying hk, Result.andThen_ok]
    rfl
  have hs : ∀ (n : Nat) (a : Addr), Instr.sameBits n (.pointer (some a)) (.pointer (some a)) = true := by
    intro n a
    cases n <;> simp [Instr.sameBits]
  refine ⟨fun w e k h => ?_, fun w k es h hes => find_asking hk ?_ ?_ es hes, fun w k h => ?_⟩
  · obtain ⟨a, rfl, _⟩ := h
    exact hc 9999 e a w
  · intro k' _
    obtain ⟨a, rfl, _⟩ := h
    rfl
  · obtain ⟨a, rfl, ca, ta, ha⟩ := h
    rintro k' ⟨b, rfl, cb, tb, hb⟩
    by_cases hab : a = b
    · subst hab
      have h : ∀ d : Nat, (Op.equalIn (d + 1) kt (.pointer (some a)) (.pointer (some a))).run P w = .ok true w := fun d => by
        simp [Op.equalIn, run_underlying hk, sizeOf, typeInfo, hte, run_sameAddr_same]
      simp [Op.equal, Op.maxDepth, h 9999]
    · have h2 : ¬ (Value.pointer (some a) = Value.pointer (some b)) := fun h => hab (by injection h with h; injection h)
      have h : ∀ d : Nat, (Op.equalIn (d + 1) kt (.pointer (some a)) (.pointer (some b))).run P w = .ok false w := fun d => by
        simp [Op.equalIn, run_underlying hk, sizeOf, typeInfo, hte, hsz, run_sameAddr_other w hab ha hb]
      simp only [Op.equal, Op.maxDepth, h 9999, h2, decide_false]
  · obtain ⟨a, rfl, _⟩ := h
    exact hs 10000 a

theorem run_part {t : TypeId} {cs : Array Value} {off : Nat} {v : Value} {w : World} (h : (isAgg t).run P w = .ok false w) (hv : cs[off]? = some v) : (part t cs off).run P w = .ok v w := by
  unfold part
  simp [h, hv]

theorem keyPair {kt pt te : TypeId} {j : TypeInfo} {f0 f1 : Field} (hk : P.underlying kt = some (.struct #[f0, f1])) (h0 : f0.type = pt ∧ f0.offset = 0 ∧ f0.name ≠ "_") (h1 : f1.type = pt ∧ f1.offset = 1 ∧ f1.name ≠ "_")
    (hp : P.underlying pt = some (.pointer te)) (hte : P.info? te = some j) (hsz : j.size ≠ 0) (hagg : ∀ w, (isAgg pt).run P w = .ok false w) (hst : P.stoodInHeld kt = false) : KeyLaw P kt KPair := by
  have L := keyPtr (P := P) hp hte hsz
  have hfs : P.fieldsOf kt = #[f0, f1] := by simp only [Program.fieldsOf, hk]
  have hkf : P.underlying kt = some (.struct (P.fieldsOf kt)) := by rw [hfs]; exact hk
  have p0 : ∀ (a b : Addr) (w : World), (part f0.type #[.pointer (some a), .pointer (some b)] f0.offset).run P w = .ok (.pointer (some a)) w := fun a b w => by
    rw [h0.1, h0.2.1]
    exact run_part (hagg w) rfl
  have p1t : ∀ (a b : Addr) (w : World), (part pt #[.pointer (some a), .pointer (some b)] f1.offset).run P w = .ok (.pointer (some b)) w := fun a b w => by
    rw [h1.2.1]
    exact run_part (hagg w) rfl
  have hc0 : ∀ (n : Nat) (e : Bool) (a : Addr) (w : World), (Instr.checkKey e (n + 1) pt (.pointer (some a))).run P w = .ok () w := by
    intro n e a w
    unfold Instr.checkKey
    simp only [Sem.run_bind, run_underlying hp, Result.andThen_ok]
    rfl
  have hc : ∀ (n : Nat) (e : Bool) (a b : Addr) (w : World), (Instr.checkKey e (n + 2) kt (.agg #[.pointer (some a), .pointer (some b)])).run P w = .ok () w := by
    intro n e a b w
    unfold Instr.checkKey
    simp only [Sem.run_bind, run_underlying hk, Result.andThen_ok]
    rw [← Array.forIn_toList]
    simp only [List.forIn_cons, List.forIn_nil, h0.2.2, h1.2.2, ne_eq, not_false_eq_true, if_true, Sem.run_bind, p0, Result.andThen_ok]
    rw [h0.1, h1.1]
    simp only [hc0, p1t, Result.andThen_ok, Sem.run_pure, Sem.run_bind]
  have hs : ∀ (n : Nat) (a : Addr), Instr.sameBits n (.pointer (some a)) (.pointer (some a)) = true := by
    intro n a
    cases n <;> simp [Instr.sameBits]
  have hs2 : ∀ (n : Nat) (a b : Addr), Instr.sameBits (n + 1) (.agg #[.pointer (some a), .pointer (some b)]) (.agg #[.pointer (some a), .pointer (some b)]) = true := by
    intro n a b
    simp [Instr.sameBits, hs]
  refine ⟨fun w e k h => ?_, fun w k es h hes => find_asking hk ?_ ?_ es hes, fun w k h => ?_⟩
  · obtain ⟨a, b, rfl, _⟩ := h
    exact hc 9998 e a b w
  · intro k' _
    obtain ⟨a, b, rfl, _⟩ := h
    rfl
  · obtain ⟨a, b, rfl, ⟨ca, ta, ha⟩, cb, tb, hb⟩ := h
    rintro k' ⟨a', b', rfl, ⟨ca', ta', ha'⟩, cb', tb', hb'⟩
    have heq : ∀ (d : Nat) (x y : Addr) (cx cy : Array Value) (tx ty : TypeId), w.heap[x.block]? = some (.cells cx tx (0, 0)) → w.heap[y.block]? = some (.cells cy ty (0, 0)) →
        (Op.equalIn (d + 1) pt (.pointer (some x)) (.pointer (some y))).run P w = .ok (decide (x = y)) w := by
      intro d x y cx cy tx ty hx hy
      by_cases hxy : x = y
      · subst hxy
        simp [Op.equalIn, run_underlying hp, sizeOf, typeInfo, hte, run_sameAddr_same]
      · simp [Op.equalIn, run_underlying hp, sizeOf, typeInfo, hte, hsz, run_sameAddr_other w hxy hx hy, hxy]
    have h : ∀ d : Nat, (Op.equalIn (d + 2) kt (.agg #[.pointer (some a), .pointer (some b)]) (.agg #[.pointer (some a'), .pointer (some b')])).run P w = .ok (decide (a = a') && decide (b = b')) w := fun d => by
      rw [run_equalIn_struct w (d + 1) kt _ _ hkf hst, hfs]
      simp only [Op.eqFields, h0.2.2, h1.2.2, ne_eq, not_false_eq_true, if_true, Sem.run_bind, p0, Result.andThen_ok]
      rw [h0.1, h1.1, heq d a a' _ _ _ _ ha ha']
      by_cases hab : a = a'
      · simp only [hab, decide_true, Result.andThen_ok, Bool.not_true, Bool.false_eq_true, if_false, Sem.run_bind, p1t, heq d b b' _ _ _ _ hb hb', Bool.true_and]
        by_cases hbb : b = b'
        · simp [hbb]
        · simp [hbb]
      · simp [hab, p1t]
    have h2 : (Value.agg #[.pointer (some a), .pointer (some b)] = Value.agg #[.pointer (some a'), .pointer (some b')]) ↔ (a = a' ∧ b = b') := by simp
    simp only [Op.equal, Op.maxDepth, h 9998, h2, Bool.decide_and]
  · obtain ⟨a, b, rfl, _⟩ := h
    exact hs2 9999 a b

/-! ### Maps in memory -/

/-- Block b is a map that holds l: keys and values, in the order in which they came. -/
def MapAt (w : World) (b : Nat) (l : List (Value × Value)) : Prop :=
  ∃ es clock, w.heap[b]? = some (.map es clock) ∧ es.toList.map (fun e => (e.key, e.val)) = l ∧ Stamped es clock
theorem MapAt.lt {w : World} {b : Nat} {l : List (Value × Value)} (h : MapAt w b l) : b < w.heap.size := by
  obtain ⟨es, clock, hb, _⟩ := h
  exact lt_of_heap hb
theorem MapAt.same {w w' : World} {b : Nat} {l : List (Value × Value)} (h : MapAt w b l) (hb : w'.heap[b]? = w.heap[b]?) : MapAt w' b l := by
  obtain ⟨es, clock, h1, h2, h3⟩ := h
  exact ⟨es, clock, hb.trans h1, h2, h3⟩
theorem MapAt.nodup {w : World} {b : Nat} {l : List (Value × Value)} (h : MapAt w b l) : (l.map (·.1)).Nodup := by
  obtain ⟨es, clock, _, rfl, h3⟩ := h
  have := h3.2.2
  rw [List.map_map]
  exact this
theorem MapAt.new (w : World) : MapAt (w.alloc (.map #[] 0)) w.heap.size [] := ⟨#[], 0, alloc1 w _, rfl, stamped_empty 0⟩

theorem run_look_yes {T kt et : TypeId} {K : World → Value → Prop} {w : World} {b : Nat} {l : List (Value × Value)} {k v : Value} (hT : P.underlying T = some (.map kt et)) (L : KeyLaw P kt K) (h : MapAt w b l) (hk : K w k) (hl : ∀ p ∈ l, K w p.1) (hm : (k, v) ∈ l) :
    (Instr.lookup T (.map (some b)) k false).run P w = .ok v w := by
  have hnd := h.nodup
  obtain ⟨es, clock, hb, rfl, hs⟩ := h
  obtain ⟨e, he, hev⟩ := List.mem_map.1 hm
  obtain ⟨j, x, h1, h2, h3⟩ := seek_some (i := 0) ⟨e, he, (Prod.mk.inj hev).1⟩
  have hf := L.find w k es.toList hk fun x hx => hl _ (List.mem_map_of_mem (f := fun e => (e.key, e.val)) hx)
  have hxe : x.val = v := by
    have hx := List.mem_of_getElem? h1
    have := hs.2.2
    obtain ⟨j', hj'⟩ := List.mem_iff_getElem?.1 he
    have hkk : x.key = e.key := h2.trans (Prod.mk.inj hev).1.symm
    have e1 : (es.toList.map (·.key))[j]? = some x.key := by rw [List.getElem?_map, h1]; rfl
    have e2 : (es.toList.map (·.key))[j']? = some x.key := by rw [List.getElem?_map, hj', hkk]; rfl
    have hjj : j = j' := (List.getElem?_inj (List.getElem?_eq_some_iff.1 e1).1 this).1 (e1.trans e2.symm)
    subst hjj
    rw [h1] at hj'
    cases hj'
    exact (Prod.mk.inj hev).2
  unfold Instr.lookup
  simp only [Sem.run_bind, run_underlying hT, Result.andThen_ok, MapKept.run_getObj_map hb, Sem.run_pure, L.check w _ k hk, hf, h3, hxe]
  rfl
theorem run_look_no {T kt et : TypeId} {K : World → Value → Prop} {w : World} {b : Nat} {l : List (Value × Value)} {k z : Value} (hT : P.underlying T = some (.map kt et)) (L : KeyLaw P kt K) (h : MapAt w b l) (hk : K w k) (hl : ∀ p ∈ l, K w p.1) (hz : (zeroValue et).run P w = .ok z w) (hm : ∀ p ∈ l, p.1 ≠ k) :
    (Instr.lookup T (.map (some b)) k false).run P w = .ok z w := by
  obtain ⟨es, clock, hb, rfl, hs⟩ := h
  have hf := L.find w k es.toList hk fun x hx => hl _ (List.mem_map_of_mem (f := fun e => (e.key, e.val)) hx)
  have h3 : seek k es.toList 0 = none := seek_none fun e he => hm _ (List.mem_map_of_mem (f := fun e => (e.key, e.val)) he)
  unfold Instr.lookup
  simp only [Sem.run_bind, run_underlying hT, Result.andThen_ok, MapKept.run_getObj_map hb, Sem.run_pure, L.check w _ k hk, hf, h3, hz]
  rfl

theorem kp_set {w : World} {b : Nat} (o : Obj) : Kp (fun y => y = b) w { w with heap := w.heap.setIfInBounds b o } :=
  ⟨rfl, rfl, rfl, by simp, fun x hx hM => by
    show (w.heap.setIfInBounds b o)[x]? = _
    rw [Array.getElem?_setIfInBounds_ne (fun e => hM e.symm)]⟩

theorem run_put_new {T kt et : TypeId} {K : World → Value → Prop} {w : World} {b : Nat} {l : List (Value × Value)} {k : Value} (v : Value) (hT : P.underlying T = some (.map kt et)) (L : KeyLaw P kt K) (h : MapAt w b l) (hk : K w k) (hl : ∀ p ∈ l, K w p.1) (hm : ∀ p ∈ l, p.1 ≠ k) :
    ∃ w', (Instr.mapUpdate T (.map (some b)) k v).run P w = .ok () w' ∧ MapAt w' b (l ++ [(k, v)]) ∧ Kp (fun y => y = b) w w' := by
  obtain ⟨es, clock, hb, rfl, hs⟩ := h
  have hf := L.find w k es.toList hk fun x hx => hl _ (List.mem_map_of_mem (f := fun e => (e.key, e.val)) hx)
  have h3 : seek k es.toList 0 = none := seek_none fun e he => hm _ (List.mem_map_of_mem (f := fun e => (e.key, e.val)) he)
  refine ⟨{ w with heap := w.heap.setIfInBounds b (.map (es.push { key := k, val := v, born := clock }) (clock + 1)) }, ?_, ⟨_, _, (heap_set hb).1, by simp, stamped_push hs fun e he => hm _ (List.mem_map_of_mem (f := fun e => (e.key, e.val)) he)⟩, kp_set _⟩
  unfold Instr.mapUpdate
  simp only [Sem.run_bind, run_underlying hT, Result.andThen_ok, MapKept.run_getObj_map hb, L.check w _ k hk, hf, h3, MapKept.run_setObj_map _ hb]

theorem run_put_same {T kt et : TypeId} {K : World → Value → Prop} {w : World} {b : Nat} {l : List (Value × Value)} {k v : Value} (hT : P.underlying T = some (.map kt et)) (L : KeyLaw P kt K) (h : MapAt w b l) (hk : K w k) (hl : ∀ p ∈ l, K w p.1) (hm : (k, v) ∈ l) :
    ∃ w', (Instr.mapUpdate T (.map (some b)) k v).run P w = .ok () w' ∧ MapAt w' b l ∧ Kp (fun y => y = b) w w' := by
  obtain ⟨es, clock, hb, rfl, hs⟩ := h
  obtain ⟨e, he, hev⟩ := List.mem_map.1 hm
  obtain ⟨j, x, h1, h2, h3⟩ := seek_some (i := 0) ⟨e, he, (Prod.mk.inj hev).1⟩
  have hf := L.find w k es.toList hk fun x hx => hl _ (List.mem_map_of_mem (f := fun e => (e.key, e.val)) hx)
  have hxe : x.val = v := by
    obtain ⟨j', hj'⟩ := List.mem_iff_getElem?.1 he
    have hkk : x.key = e.key := h2.trans (Prod.mk.inj hev).1.symm
    have e1 : (es.toList.map (·.key))[j]? = some x.key := by rw [List.getElem?_map, h1]; rfl
    have e2 : (es.toList.map (·.key))[j']? = some x.key := by rw [List.getElem?_map, hj', hkk]; rfl
    have hjj : j = j' := (List.getElem?_inj (List.getElem?_eq_some_iff.1 e1).1 hs.2.2).1 (e1.trans e2.symm)
    subst hjj
    rw [h1] at hj'
    cases hj'
    exact (Prod.mk.inj hev).2
  have hej : es[j]? = some x := by rw [← h1]; simp
  have hkey : (((es[0 + j]?).map (·.key)).getD k) = k := by
    rw [Nat.zero_add, hej]
    exact h2
  refine ⟨{ w with heap := w.heap.setIfInBounds b (.map (es.modify (0 + j) fun e => { e with key := k, val := v }) clock) }, ?_, ⟨_, _, (heap_set hb).1, ?_, ?_⟩, kp_set _⟩
  · unfold Instr.mapUpdate Instr.keyThatStays
    simp only [Sem.run_bind, run_underlying hT, Result.andThen_ok, MapKept.run_getObj_map hb, L.check w _ k hk, hf, h3, hkey, L.same w k hk, if_true, Sem.run_pure, MapKept.run_setObj_map _ hb]
  · rw [Nat.zero_add]
    apply List.ext_getElem?
    intro i
    simp only [List.getElem?_map, Array.getElem?_toList, Array.getElem?_modify]
    by_cases hij : j = i
    · subst hij
      simp [hej, h2, hxe]
    · simp [hij]
  · exact stamped_modify hs _ _ (fun _ _ => rfl) (fun e _ he => by
      rw [Nat.zero_add, hej] at he
      cases he
      exact h2.symm)

open Classical in
theorem erase_filter {k : Value} : ∀ (l : List MapEntry) (j : Nat) (x : MapEntry), l[j]? = some x → x.key = k → (l.map (·.key)).Nodup →
    (l.eraseIdx j).map (fun e => (e.key, e.val)) = (l.map fun e => (e.key, e.val)).filter fun p => decide (p.1 ≠ k)
  | [], j, x, h, _, _ => by simp at h
  | e :: r, 0, x, h, hx, hn => by
    simp at h
    subst h
    have hn' := (List.nodup_cons.1 hn).1
    rw [List.eraseIdx_cons_zero, List.map_cons, List.filter_cons, if_neg (by simp [hx])]
    symm
    rw [List.filter_eq_self]
    intro p hp
    obtain ⟨y, hy, rfl⟩ := List.mem_map.1 hp
    simp only [decide_eq_true_eq]
    intro hh
    exact hn' (List.mem_map.2 ⟨y, hy, hh.trans hx.symm⟩)
  | e :: r, j + 1, x, h, hx, hn => by
    have hn' := List.nodup_cons.1 hn
    have hxr : x ∈ r := List.mem_of_getElem? (i := j) (by simpa using h)
    have hek : e.key ≠ k := fun hh => hn'.1 (List.mem_map.2 ⟨x, hxr, hx.trans hh.symm⟩)
    rw [List.eraseIdx_cons_succ, List.map_cons, List.map_cons, List.filter_cons, if_pos (by simpa using hek), erase_filter r j x (by simpa using h) hx hn'.2]

theorem run_del {T kt et kt' ty : TypeId} {K : World → Value → Prop} {w : World} {b : Nat} {l : List (Value × Value)} {k : Value} (hT : P.underlying T = some (.map kt et)) (L : KeyLaw P kt K) (h : MapAt w b l) (hk : K w k) (hl : ∀ p ∈ l, K w p.1) :
    ∃ w', (Builtin.delete_ #[T, kt'] ty #[.map (some b), k]).run P w = .ok (.tuple #[]) w' ∧ MapAt w' b (open Classical in l.filter fun p => decide (p.1 ≠ k)) ∧ Kp (fun y => y = b) w w' := by
  obtain ⟨es, clock, hb, rfl, hs⟩ := h
  have hf := L.find w k es.toList hk fun x hx => hl _ (List.mem_map_of_mem (f := fun e => (e.key, e.val)) hx)
  by_cases hex : ∃ e ∈ es.toList, e.key = k
  · obtain ⟨j, x, h1, h2, h3⟩ := seek_some (i := 0) hex
    refine ⟨{ w with heap := w.heap.setIfInBounds b (.map (es.eraseIdxIfInBounds (0 + j)) clock) }, ?_, ⟨_, _, (heap_set hb).1, ?_, stamped_erase hs _⟩, kp_set _⟩
    · unfold Builtin.delete_
      simp only [Sem.run_bind, List.getElem?_toArray, List.getElem?_cons_zero, List.getElem?_cons_succ, run_underlying hT, Result.andThen_ok, MapKept.run_getObj_map hb, L.check w _ k hk, hf, h3, MapKept.run_setObj_map _ hb, Sem.run_pure]
    · rw [Array.toList_eraseIdxIfInBounds, Nat.zero_add]
      exact erase_filter es.toList j x h1 h2 hs.2.2
  · have h3 : seek k es.toList 0 = none := seek_none fun e he hh => hex ⟨e, he, hh⟩
    refine ⟨{ w with heap := w.heap.setIfInBounds b (.map es clock) }, ?_, ⟨_, _, (heap_set hb).1, ?_, hs⟩, kp_set _⟩
    · unfold Builtin.delete_
      simp only [Sem.run_bind, List.getElem?_toArray, List.getElem?_cons_zero, List.getElem?_cons_succ, run_underlying hT, Result.andThen_ok, MapKept.run_getObj_map hb, L.check w _ k hk, hf, h3, MapKept.run_setObj_map _ hb, Sem.run_pure]
    · symm
      rw [List.filter_eq_self]
      intro p hp
      obtain ⟨e, he, rfl⟩ := List.mem_map.1 hp
      simpa using fun hh => hex ⟨e, he, hh⟩
end
end

section
open Go.RowKit Go.MapKept
section
variable {P : Program}

/-! ### Keys -/

/-! ### Maps in memory -/

theorem run_look2_yes {T kt et : TypeId} {K : World → Value → Prop} {w : World} {b : Nat} {l : List (Value × Value)} {k v : Value} (hT : P.underlying T = some (.map kt et)) (L : KeyLaw P kt K) (h : MapAt w b l) (hk : K w k) (hl : ∀ p ∈ l, K w p.1) (hm : (k, v) ∈ l) :
    (Instr.lookup T (.map (some b)) k true).run P w = .ok (.tuple #[v, .bool true]) w := by
  have hnd := h.nodup
  obtain ⟨es, clock, hb, rfl, hs⟩ := h
  obtain ⟨e, he, hev⟩ := List.mem_map.1 hm
  obtain ⟨j, x, h1, h2, h3⟩ := seek_some (i := 0) ⟨e, he, (Prod.mk.inj hev).1⟩
  have hf := L.find w k es.toList hk fun x hx => hl _ (List.mem_map_of_mem (f := fun e => (e.key, e.val)) hx)
  have hxe : x.val = v := by
    have hx := List.mem_of_getElem? h1
    have := hs.2.2
    obtain ⟨j', hj'⟩ := List.mem_iff_getElem?.1 he
    have hkk : x.key = e.key := h2.trans (Prod.mk.inj hev).1.symm
    have e1 : (es.toList.map (·.key))[j]? = some x.key := by rw [List.getElem?_map, h1]; rfl
    have e2 : (es.toList.map (·.key))[j']? = some x.key := by rw [List.getElem?_map, hj', hkk]; rfl
    have hjj : j = j' := (List.getElem?_inj (List.getElem?_eq_some_iff.1 e1).1 this).1 (e1.trans e2.symm)
    subst hjj
    rw [h1] at hj'
    cases hj'
    exact (Prod.mk.inj hev).2
  unfold Instr.lookup
  simp only [Sem.run_bind, run_underlying hT, Result.andThen_ok, MapKept.run_getObj_map hb, Sem.run_pure, L.check w _ k hk, hf, h3, hxe]
  rfl
theorem run_look2_no {T kt et : TypeId} {K : World → Value → Prop} {w : World} {b : Nat} {l : List (Value × Value)} {k z : Value} (hT : P.underlying T = some (.map kt et)) (L : KeyLaw P kt K) (h : MapAt w b l) (hk : K w k) (hl : ∀ p ∈ l, K w p.1) (hz : (zeroValue et).run P w = .ok z w) (hm : ∀ p ∈ l, p.1 ≠ k) :
    (Instr.lookup T (.map (some b)) k true).run P w = .ok (.tuple #[z, .bool false]) w := by
  obtain ⟨es, clock, hb, rfl, hs⟩ := h
  have hf := L.find w k es.toList hk fun x hx => hl _ (List.mem_map_of_mem (f := fun e => (e.key, e.val)) hx)
  have h3 : seek k es.toList 0 = none := seek_none fun e he => hm _ (List.mem_map_of_mem (f := fun e => (e.key, e.val)) he)
  unfold Instr.lookup
  simp only [Sem.run_bind, run_underlying hT, Result.andThen_ok, MapKept.run_getObj_map hb, Sem.run_pure, L.check w _ k hk, hf, h3, hz]
  rfl

open Classical in
end
end

section
open Go.RowKit Go.MapKept
section
variable {P : Program}

/-- Iterator r over the map b, which holds l; what came so far. -/
def RangeAt (w : World) (b r : Nat) (l done : List (Value × Value)) : Prop :=
  ∃ es clock since seen c0, w.heap[b]? = some (.map es clock) ∧ es.toList.map (fun e => (e.key, e.val)) = l ∧ Stamped es clock ∧ w.heap[r]? = some (.mapIter (some b) since seen c0) ∧ (∀ x ∈ es.toList, x.born < since) ∧ since ≤ c0 ∧ since ≤ clock ∧
    (∀ x ∈ es.toList, seen.contains x.born = true → (x.key, x.val) ∈ done) ∧ (∀ p ∈ done, p ∈ l)
theorem RangeAt.map {w : World} {b r : Nat} {l done : List (Value × Value)} (h : RangeAt w b r l done) : MapAt w b l := by
  obtain ⟨es, clock, since, seen, c0, h1, h2, h3, _⟩ := h
  exact ⟨es, clock, h1, h2, h3⟩
theorem RangeAt.mem {w : World} {b r : Nat} {l done : List (Value × Value)} (h : RangeAt w b r l done) : ∀ p ∈ done, p ∈ l := by
  obtain ⟨es, clock, since, seen, c0, h1, h2, h3, h4, h5, h6, h7, h8, h9⟩ := h
  exact h9
theorem RangeAt.ne {w : World} {b r : Nat} {l done : List (Value × Value)} (h : RangeAt w b r l done) : r ≠ b := by
  obtain ⟨es, clock, since, seen, c0, h1, h2, h3, h4, _⟩ := h
  intro e
  rw [e, h1] at h4
  cases h4
theorem RangeAt.lt {w : World} {b r : Nat} {l done : List (Value × Value)} (h : RangeAt w b r l done) : r < w.heap.size := by
  obtain ⟨es, clock, since, seen, c0, h1, h2, h3, h4, _⟩ := h
  exact lt_of_heap h4
theorem RangeAt.not_cells {w : World} {b r : Nat} {l done : List (Value × Value)} (h : RangeAt w b r l done) {cs : Array Value} {T : TypeId} {fr : Nat × Nat} : w.heap[r]? ≠ some (.cells cs T fr) := by
  obtain ⟨es, clock, since, seen, c0, h1, h2, h3, h4, _⟩ := h
  rw [h4]
  intro e
  cases e
theorem RangeAt.same {w w' : World} {b r : Nat} {l done : List (Value × Value)} (h : RangeAt w b r l done) (hb : w'.heap[b]? = w.heap[b]?) (hr : w'.heap[r]? = w.heap[r]?) : RangeAt w' b r l done := by
  obtain ⟨es, clock, since, seen, c0, h1, h2, h3, h4, h5⟩ := h
  exact ⟨es, clock, since, seen, c0, hb.trans h1, h2, h3, hr.trans h4, h5⟩

/-- How many are still to come, read off the world. -/
def rangeLeft (w : World) (b r : Nat) : Nat :=
  match w.heap[b]?, w.heap[r]? with
  | some (.map es _), some (.mapIter _ _ seen _) => (leftOf es seen).size
  | _, _ => 0
theorem rangeLeft_same {w w' : World} {b r : Nat} (hb : w'.heap[b]? = w.heap[b]?) (hr : w'.heap[r]? = w.heap[r]?) : rangeLeft w' b r = rangeLeft w b r := by
  unfold rangeLeft
  rw [hb, hr]

theorem run_range_start {w : World} {b : Nat} {l : List (Value × Value)} {t k e : TypeId} (h : MapAt w b l) (ht : P.underlying t = some (.map k e)) :
    ∃ w', (Instr.range t (.map (some b))).run P w = .ok (.pointer (some ⟨w.heap.size, 0, none⟩)) w' ∧ RangeAt w' b w.heap.size l [] ∧ Below w.heap.size w w' := by
  obtain ⟨es, clock, hb, hl, hs⟩ := h
  refine ⟨_, run_range_map w t k e b es clock ht hb, ⟨es, clock, clock, #[], clock, (((Below.refl w.heap.size w).alloc (Nat.le_refl _) _).block b (lt_of_heap hb)).trans hb, hl, hs, alloc1 w _, hs.1, Nat.le_refl _, Nat.le_refl _, fun x _ hx => by simp at hx, fun p hp => by cases hp⟩, (Below.refl _ _).alloc (Nat.le_refl _) _⟩

theorem run_range_next {w : World} {b r : Nat} {l done : List (Value × Value)} (h : RangeAt w b r l done) (ty : TypeId) :
    ((∀ p ∈ l, p ∈ done) ∧ (Instr.next (.pointer (some ⟨r, 0, none⟩)) false ty).run P w = .ok (.tuple #[.bool false]) w) ∨
    ∃ k v w', (k, v) ∈ l ∧ (Instr.next (.pointer (some ⟨r, 0, none⟩)) false ty).run P w = .ok (.tuple #[.bool true, k, v]) w' ∧ RangeAt w' b r l ((k, v) :: done) ∧ Kp (fun y => y = r) w w' ∧ rangeLeft w' b r < rangeLeft w b r ∧
      (Instr.entry (.pointer (some ⟨r, 0, none⟩))).run P w' = .ok (.tuple #[k, v]) w' := by
  have hne := h.ne
  obtain ⟨es, clock, since, seen, c0, hb, rfl, hs, hr, hold, hsc, hsk, hseen, hdone⟩ := h
  rcases run_next_at (P := P) w ty r b since c0 seen es clock hr hb hold hsc with ⟨h0, hrun⟩ | ⟨e, he, w1, hal, hrun⟩
  · refine .inl ⟨fun p hp => ?_, hrun⟩
    obtain ⟨x, hx, rfl⟩ := List.mem_map.1 hp
    exact hseen x hx (all_seen es seen h0 x hx)
  · obtain ⟨hem, hes⟩ := mem_left he
    have hr1 : w1.heap[r]? = some (.mapIter (some b) since seen c0) := by rcases hal with rfl | rfl <;> exact hr
    have hb1 : w1.heap[b]? = some (.map es clock) := by rcases hal with rfl | rfl <;> exact hb
    have hset := heap_set (o' := .mapIter (some b) since (seen.push e.born) clock) hr1
    have hb' : (Go.ChangeMaps.setBlock w1 r (.mapIter (some b) since (seen.push e.born) clock)).heap[b]? = some (.map es clock) := (hset.2 b (fun e1 => hne e1.symm)).trans hb1
    refine .inr ⟨e.key, e.val, _, List.mem_map_of_mem (f := fun e : MapEntry => (e.key, e.val)) hem, hrun, ⟨es, clock, since, seen.push e.born, clock, hb', rfl, hs, hset.1, hold, hsk, hsk, fun x hx hc => ?_, fun p hp => ?_⟩, ?_, ?_, run_entry_at _ r b since seen es clock e hset.1 hb' hem hs.2.1⟩
    · rw [contains_push] at hc
      rcases Bool.or_eq_true_iff.1 hc with hc | hc
      · exact List.mem_cons_of_mem _ (hseen x hx hc)
      · obtain rfl := born_inj hs.2.1 hx hem (by simpa using hc)
        exact List.mem_cons_self
    · rcases List.mem_cons.1 hp with rfl | hp
      · exact List.mem_map_of_mem (f := fun e : MapEntry => (e.key, e.val)) hem
      · exact hdone p hp
    · rcases hal with rfl | rfl
      · exact ⟨rfl, rfl, rfl, by simp [Go.ChangeMaps.setBlock], fun i _ hi => hset.2 i (fun e1 => hi e1)⟩
      · exact ⟨rfl, rfl, rfl, by simp [Go.ChangeMaps.setBlock], fun i _ hi => hset.2 i (fun e1 => hi e1)⟩
    · unfold rangeLeft
      rw [hb', show (Go.ChangeMaps.setBlock w1 r (.mapIter (some b) since (seen.push e.born) clock)).heap[r]? = _ from hset.1, hb, hr]
      exact left_shrinks es seen e he
end
end

section
open Go.RowKit Go.MapKept
section
variable {P : Program}
theorem run_put_over {T kt et : TypeId} {K : World → Value → Prop} {w : World} {b : Nat} {l1 l2 : List (Value × Value)} {k v0 : Value} (v : Value) (hT : P.underlying T = some (.map kt et)) (L : KeyLaw P kt K) (h : MapAt w b (l1 ++ (k, v0) :: l2)) (hk : K w k) (hl : ∀ p ∈ l1 ++ (k, v0) :: l2, K w p.1) :
    ∃ w', (Instr.mapUpdate T (.map (some b)) k v).run P w = .ok () w' ∧ MapAt w' b (l1 ++ (k, v) :: l2) ∧ Kp (fun y => y = b) w w' := by
  obtain ⟨es, clock, hb, hes, hs⟩ := h
  obtain ⟨e, he, hev⟩ : ∃ e, es.toList[l1.length]? = some e ∧ (e.key, e.val) = (k, v0) := by
    have : (es.toList.map fun e => (e.key, e.val))[l1.length]? = some (k, v0) := by rw [hes, List.getElem?_append_right (Nat.le_refl _)]; simp
    rw [List.getElem?_map] at this
    exact Option.map_eq_some_iff.1 this
  obtain ⟨j, x, h1, h2, h3⟩ := seek_some (i := 0) ⟨e, List.mem_of_getElem? he, (Prod.mk.inj hev).1⟩
  have hf := L.find w k es.toList hk fun x hx => hl (x.key, x.val) (by rw [← hes]; exact List.mem_map_of_mem (f := fun e : MapEntry => (e.key, e.val)) hx)
  have hjj : j = l1.length := by
    have hkk : x.key = e.key := h2.trans (Prod.mk.inj hev).1.symm
    have e1 : (es.toList.map (·.key))[j]? = some x.key := by rw [List.getElem?_map, h1]; rfl
    have e2 : (es.toList.map (·.key))[l1.length]? = some x.key := by rw [List.getElem?_map, he, hkk]; rfl
    exact (List.getElem?_inj (List.getElem?_eq_some_iff.1 e1).1 hs.2.2).1 (e1.trans e2.symm)
  have hej : es[j]? = some x := by rw [← h1]; simp
  have hkey : (((es[0 + j]?).map (·.key)).getD k) = k := by
    rw [Nat.zero_add, hej]
    exact h2
  refine ⟨{ w with heap := w.heap.setIfInBounds b (.map (es.modify (0 + j) fun e => { e with key := k, val := v }) clock) }, ?_, ⟨_, _, (heap_set hb).1, ?_, ?_⟩, kp_set _⟩
  · unfold Instr.mapUpdate Instr.keyThatStays
    simp only [Sem.run_bind, run_underlying hT, Result.andThen_ok, MapKept.run_getObj_map hb, L.check w _ k hk, hf, h3, hkey, L.same w k hk, if_true, Sem.run_pure, MapKept.run_setObj_map _ hb]
  · rw [Nat.zero_add]
    have e1 : ((es.modify j fun e => { e with key := k, val := v }).toList.map fun e => (e.key, e.val)) = (es.toList.map fun e => (e.key, e.val)).set j (k, v) := by
      apply List.ext_getElem?
      intro i
      rw [List.getElem?_set]
      simp only [List.getElem?_map, Array.getElem?_toList, Array.getElem?_modify, List.length_map, Array.length_toList]
      by_cases hij : j = i
      · subst hij
        have := (Array.getElem?_eq_some_iff.1 hej).1
        simp [this]
      · simp [hij]
    rw [e1, hes, hjj, List.set_append_right _ _ (Nat.le_refl _)]
    simp
  · exact stamped_modify hs _ _ (fun _ _ => rfl) (fun e _ he => by
      rw [Nat.zero_add, hej] at he
      cases he
      exact h2.symm)

theorem nodup_of_map {κ β : Type} {kE : κ → Value} {vE : β → Value} {L : List (κ × β)} {w : World} {b : Nat} (h : MapAt w b (L.map fun p => (kE p.1, vE p.2))) : (L.map (·.1)).Nodup := by
  have := h.nodup
  rw [List.map_map] at this
  have h2 : ((L.map (·.1)).map kE).Nodup := by rw [List.map_map]; exact this
  exact List.Pairwise.of_map kE (fun a b hab e => hab (by rw [e])) h2

section
variable {κ β : Type} [DecidableEq κ]
def glook (L : List (κ × β)) (k : κ) : Option β := (L.find? fun p => decide (p.1 = k)).map (·.2)
theorem glook_some {L : List (κ × β)} {k : κ} {v : β} (h : glook L k = some v) : (k, v) ∈ L := by
  unfold glook at h
  obtain ⟨p, hp, rfl⟩ := Option.map_eq_some_iff.1 h
  have h1 := List.find?_some hp
  have h2 := List.mem_of_find?_eq_some hp
  simp at h1
  rw [← h1]
  exact h2
theorem glook_none {L : List (κ × β)} {k : κ} (h : glook L k = none) : ∀ p ∈ L, p.1 ≠ k := by
  unfold glook at h
  rw [Option.map_eq_none_iff, List.find?_eq_none] at h
  intro p hp
  simpa using h p hp
theorem glook_mem : ∀ {L : List (κ × β)} {k : κ} {v : β}, (L.map (·.1)).Nodup → (k, v) ∈ L → glook L k = some v
  | [], k, v, _, h => by cases h
  | p :: r, k, v, hn, h => by
    have hn' := List.nodup_cons.1 hn
    unfold glook
    by_cases e : p.1 = k
    · rw [List.find?_cons_of_pos (by simpa using e)]
      rcases List.mem_cons.1 h with rfl | h
      · rfl
      · exact absurd (List.mem_map.2 ⟨_, h, e.symm⟩) hn'.1
    · rw [List.find?_cons_of_neg (by simpa using e)]
      rcases List.mem_cons.1 h with rfl | h
      · exact absurd rfl e
      · exact glook_mem hn'.2 h
theorem glook_snoc (L : List (κ × β)) (k : κ) (v : β) (h : glook L k = none) (k' : κ) : glook (L ++ [(k, v)]) k' = if k' = k then some v else glook L k' := by
  unfold glook at h ⊢
  rw [List.find?_append]
  by_cases e : k' = k
  · subst e
    rw [if_pos rfl, Option.map_eq_none_iff.1 h]
    simp
  · rw [if_neg e]
    have : List.find? (fun p => decide (p.1 = k')) [(k, v)] = none := by simp [Ne.symm e]
    rw [this]
    cases List.find? (fun p => decide (p.1 = k')) L <;> rfl
theorem glook_mid {L1 L2 : List (κ × β)} {k : κ} {v0 : β} (v : β) (hn : ((L1 ++ (k, v0) :: L2).map (·.1)).Nodup) (k' : κ) : glook (L1 ++ (k, v) :: L2) k' = if k' = k then some v else glook (L1 ++ (k, v0) :: L2) k' := by
  by_cases e : k' = k
  · subst e
    rw [if_pos rfl]
    exact glook_mem (by simpa using hn) (by simp)
  · rw [if_neg e]
    unfold glook
    rw [List.find?_append, List.find?_append, List.find?_cons_of_neg (by simpa using Ne.symm e), List.find?_cons_of_neg (by simpa using Ne.symm e)]
theorem glook_del (L : List (κ × β)) (k k' : κ) : glook (L.filter fun p => decide (p.1 ≠ k)) k' = if k' = k then none else glook L k' := by
  unfold glook
  by_cases e : k' = k
  · subst e
    rw [if_pos rfl, Option.map_eq_none_iff, List.find?_eq_none]
    intro p hp
    simpa using (List.mem_filter.1 hp).2
  · rw [if_neg e, List.find?_filter]
    congr 2
    funext p
    by_cases h : p.1 = k'
    · have : p.1 ≠ k := fun h' => e (h.symm.trans h')
      simp [h, e]
    · simp [h]

/-- Block b is a map: a key k has G k. -/
def MapG (kE : κ → Value) (vE : β → Value) (w : World) (b : Nat) (G : κ → Option β) : Prop :=
  ∃ L : List (κ × β), MapAt w b (L.map fun p => (kE p.1, vE p.2)) ∧ ∀ k, glook L k = G k
variable {kE : κ → Value} {vE : β → Value}
theorem MapG.lt {w : World} {b : Nat} {G : κ → Option β} (h : MapG kE vE w b G) : b < w.heap.size := by
  obtain ⟨L, h, _⟩ := h
  exact h.lt
theorem MapG.same {w w' : World} {b : Nat} {G : κ → Option β} (h : MapG kE vE w b G) (hb : w'.heap[b]? = w.heap[b]?) : MapG kE vE w' b G := by
  obtain ⟨L, h, h2⟩ := h
  exact ⟨L, h.same hb, h2⟩
theorem MapG.kp {M : Nat → Prop} {w w' : World} {b : Nat} {G : κ → Option β} (h : MapG kE vE w b G) (hk : Kp M w w') (hm : ¬ M b) : MapG kE vE w' b G := h.same (hk.block _ h.lt hm)
theorem MapG.new (w : World) : MapG kE vE (w.alloc (.map #[] 0)) w.heap.size fun _ => none := ⟨[], MapAt.new w, fun _ => rfl⟩
theorem MapG.of_new {w : World} {b : Nat} (h : MapAt w b []) : MapG kE vE w b fun _ => none := ⟨[], h, fun _ => rfl⟩
theorem MapG.ext {w : World} {b : Nat} {G G' : κ → Option β} (h : MapG kE vE w b G) (he : ∀ k, G k = G' k) : MapG kE vE w b G' := by
  obtain ⟨L, h, h2⟩ := h
  exact ⟨L, h, fun k => (h2 k).trans (he k)⟩

variable {K : World → Value → Prop} {T kt et : TypeId}
theorem MapG.yes {w : World} {b : Nat} {G : κ → Option β} {k : κ} {v : β} (h : MapG kE vE w b G) (hT : P.underlying T = some (.map kt et)) (L : KeyLaw P kt K) (hK : ∀ k, K w (kE k)) (hv : G k = some v) :
    (Instr.lookup T (.map (some b)) (kE k) false).run P w = .ok (vE v) w := by
  obtain ⟨l, h1, h2⟩ := h
  exact run_look_yes hT L h1 (hK k) (fun p hp => by obtain ⟨z, _, rfl⟩ := List.mem_map.1 hp; exact hK _) (List.mem_map.2 ⟨(k, v), glook_some ((h2 k).trans hv), rfl⟩)
theorem MapG.yes2 {w : World} {b : Nat} {G : κ → Option β} {k : κ} {v : β} (h : MapG kE vE w b G) (hT : P.underlying T = some (.map kt et)) (L : KeyLaw P kt K) (hK : ∀ k, K w (kE k)) (hv : G k = some v) :
    (Instr.lookup T (.map (some b)) (kE k) true).run P w = .ok (.tuple #[vE v, .bool true]) w := by
  obtain ⟨l, h1, h2⟩ := h
  exact run_look2_yes hT L h1 (hK k) (fun p hp => by obtain ⟨z, _, rfl⟩ := List.mem_map.1 hp; exact hK _) (List.mem_map.2 ⟨(k, v), glook_some ((h2 k).trans hv), rfl⟩)
theorem MapG.no {w : World} {b : Nat} {G : κ → Option β} {k : κ} {z : Value} (h : MapG kE vE w b G) (hi : ∀ a b, kE a = kE b → a = b) (hT : P.underlying T = some (.map kt et)) (L : KeyLaw P kt K) (hK : ∀ k, K w (kE k)) (hz : (zeroValue et).run P w = .ok z w) (hv : G k = none) :
    (Instr.lookup T (.map (some b)) (kE k) false).run P w = .ok z w := by
  obtain ⟨l, h1, h2⟩ := h
  exact run_look_no hT L h1 (hK k) (fun p hp => by obtain ⟨z, _, rfl⟩ := List.mem_map.1 hp; exact hK _) hz (fun p hp e => by
    obtain ⟨q, hq, rfl⟩ := List.mem_map.1 hp
    exact glook_none ((h2 k).trans hv) q hq (hi _ _ e))
theorem MapG.no2 {w : World} {b : Nat} {G : κ → Option β} {k : κ} {z : Value} (h : MapG kE vE w b G) (hi : ∀ a b, kE a = kE b → a = b) (hT : P.underlying T = some (.map kt et)) (L : KeyLaw P kt K) (hK : ∀ k, K w (kE k)) (hz : (zeroValue et).run P w = .ok z w) (hv : G k = none) :
    (Instr.lookup T (.map (some b)) (kE k) true).run P w = .ok (.tuple #[z, .bool false]) w := by
  obtain ⟨l, h1, h2⟩ := h
  exact run_look2_no hT L h1 (hK k) (fun p hp => by obtain ⟨z, _, rfl⟩ := List.mem_map.1 hp; exact hK _) hz (fun p hp e => by
    obtain ⟨q, hq, rfl⟩ := List.mem_map.1 hp
    exact glook_none ((h2 k).trans hv) q hq (hi _ _ e))
theorem MapG.put {w : World} {b : Nat} {G : κ → Option β} (h : MapG kE vE w b G) (hi : ∀ a b, kE a = kE b → a = b) (hT : P.underlying T = some (.map kt et)) (L : KeyLaw P kt K) (hK : ∀ k, K w (kE k)) (k : κ) (v : β) :
    ∃ w', (Instr.mapUpdate T (.map (some b)) (kE k) (vE v)).run P w = .ok () w' ∧ MapG kE vE w' b (fun k' => if k' = k then some v else G k') ∧ Kp (fun y => y = b) w w' := by
  obtain ⟨l, h1, h2⟩ := h
  have hkeys : ∀ p ∈ l.map fun p => (kE p.1, vE p.2), K w p.1 := fun p hp => by obtain ⟨z, _, rfl⟩ := List.mem_map.1 hp; exact hK _
  cases hg : glook l k with
  | none =>
    obtain ⟨w', hr, hm, hk⟩ := run_put_new (vE v) hT L h1 (hK k) hkeys (fun p hp e => by
      obtain ⟨q, hq, rfl⟩ := List.mem_map.1 hp
      exact glook_none hg q hq (hi _ _ e))
    refine ⟨w', hr, ⟨l ++ [(k, v)], by rw [List.map_append]; exact hm, fun k' => ?_⟩, hk⟩
    rw [glook_snoc l k v hg k', h2 k']
  | some v0 =>
    obtain ⟨l1, l2, rfl⟩ := List.append_of_mem (glook_some hg)
    have hn := nodup_of_map h1
    rw [List.map_append, List.map_cons] at h1 hkeys
    obtain ⟨w', hr, hm, hk⟩ := run_put_over (vE v) hT L h1 (hK k) hkeys
    refine ⟨w', hr, ⟨l1 ++ (k, v) :: l2, by rw [List.map_append, List.map_cons]; exact hm, fun k' => ?_⟩, hk⟩
    rw [glook_mid v hn k', h2 k']
theorem MapG.del {kt' ty : TypeId} {w : World} {b : Nat} {G : κ → Option β} (h : MapG kE vE w b G) (hi : ∀ a b, kE a = kE b → a = b) (hT : P.underlying T = some (.map kt et)) (L : KeyLaw P kt K) (hK : ∀ k, K w (kE k)) (k : κ) :
    ∃ w', (Builtin.delete_ #[T, kt'] ty #[.map (some b), kE k]).run P w = .ok (.tuple #[]) w' ∧ MapG kE vE w' b (fun k' => if k' = k then none else G k') ∧ Kp (fun y => y = b) w w' := by
  obtain ⟨l, h1, h2⟩ := h
  have hkeys : ∀ p ∈ l.map fun p => (kE p.1, vE p.2), K w p.1 := fun p hp => by obtain ⟨z, _, rfl⟩ := List.mem_map.1 hp; exact hK _
  obtain ⟨w', hr, hm, hk⟩ := run_del (kt' := kt') (ty := ty) hT L h1 (hK k) hkeys
  refine ⟨w', hr, ⟨l.filter fun p => decide (p.1 ≠ k), ?_, fun k' => ?_⟩, hk⟩
  · have e : ∀ l : List (κ × β), (l.map fun p => (kE p.1, vE p.2)).filter (fun p => open Classical in decide (p.1 ≠ kE k)) = (l.filter fun p => decide (p.1 ≠ k)).map fun p => (kE p.1, vE p.2) := by
      intro l
      induction l with
      | nil => rfl
      | cons p r ih =>
        by_cases hp : p.1 = k
        · rw [List.map_cons, List.filter_cons_of_neg (by simp [hp]), List.filter_cons_of_neg (by simp [hp]), ih]
        · rw [List.map_cons, List.filter_cons_of_pos (by simpa using fun e => hp (hi _ _ e)), List.filter_cons_of_pos (by simpa using hp), ih, List.map_cons]
    rw [← e l]
    exact hm
  · rw [glook_del l k k', h2 k']
end
end
end
end Go.Proofs.Ytiijlecidepneaa
