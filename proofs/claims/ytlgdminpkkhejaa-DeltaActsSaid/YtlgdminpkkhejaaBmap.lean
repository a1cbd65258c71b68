/-
  Maps as lists of keys and values: look-up, store, delete, with keys that are ints, pointers, or pairs of pointers.
  Conditions: what a pointer that is a key points at lies in a block of plain cells.
-/
import Derived.Test.YtlgdminpkkhejaaBm
import Derived.MapKept
import Derived.LaidEqlPtr
import Derived.Carry
import Derived.Laws.StructEq
namespace Go.Proofs.Ytlgdminpkkhejaa
open Go.RowKit Go.MapKept

section
variable {P : Program}

noncomputable def seek (k : Value) : List MapEntry → Nat → Option (Nat × Value)
  | [], _ => none
  | e :: es, i => open Classical in if k = e.key then some (i, e.val) else seek k es (i + 1)
theorem seek_none {k : Value} : ∀ {es : List MapEntry} {i : Nat}, (∀ e ∈ es, e.key ≠ k) → seek k es i = none
  | [], _, _ => rfl
  | e :: es, i, h => by
    unfold seek
    rw [if_neg (fun h' => h e (by simp) h'.symm)]
    exact seek_none fun x hx => h x (by simp [hx])
theorem seek_some {k : Value} : ∀ {es : List MapEntry} {i : Nat}, (∃ e ∈ es, e.key = k) → ∃ j e, es[j]? = some e ∧ e.key = k ∧ seek k es i = some (i + j, e.val)
  | [], _, h => by obtain ⟨e, he, _⟩ := h; cases he
  | e :: es, i, h => by
    unfold seek
    by_cases hk : k = e.key
    · rw [if_pos hk]
      exact ⟨0, e, rfl, hk.symm, rfl⟩
    · rw [if_neg hk]
      obtain ⟨x, hx, hxk⟩ := h
      rcases List.mem_cons.1 hx with rfl | hx
      · exact absurd hxk.symm hk
      · obtain ⟨j, e', h1, h2, h3⟩ := seek_some (i := i + 1) ⟨x, hx, hxk⟩
        exact ⟨j + 1, e', by simpa using h1, h2, by rw [h3]; congr 2; omega⟩

/-- What is asked of the keys of a map. -/
structure KeyLaw (P : Program) (kt : TypeId) (K : World → Value → Prop) : Prop where
  check : ∀ w e k, K w k → (Instr.checkKey e 10000 kt k).run P w = .ok () w
  find : ∀ w k (es : List MapEntry), K w k → (∀ x ∈ es, K w x.key) → (Instr.findKey kt k es).run P w = .ok (seek k es 0) w
  same : ∀ w k, K w k → Instr.sameBits 10000 k k = true

theorem find_asking {kt : TypeId} {d : TypeDesc} {K : World → Value → Prop} (hd : P.underlying kt = some d) {w : World} {k : Value}
    (hn : ∀ k', K w k' → Instr.sameNow d k k' = none) (he : ∀ k', K w k' → (Op.equal kt k k').run P w = .ok (open Classical in decide (k = k')) w) (es : List MapEntry) (hes : ∀ x ∈ es, K w x.key) :
    (Instr.findKey kt k es).run P w = .ok (seek k es 0) w := by
  have ask : ∀ (l : List MapEntry) (i : Nat), (∀ x ∈ l, K w x.key) → (Instr.findAsking kt k l i).run P w = .ok (seek k l i) w := by
    intro l
    induction l with
    | nil => intro i _; rfl
    | cons e r ih =>
      intro i h
      unfold Instr.findAsking seek
      simp only [Sem.run_bind, he e.key (h e (by simp)), Result.andThen_ok]
      by_cases hk : k = e.key
      · simp [hk]
      · simp only [hk, decide_false, Bool.false_eq_true, if_false]
        exact ih (i + 1) fun x hx => h x (by simp [hx])
  unfold Instr.findKey
  simp only [Sem.run_bind, run_underlying hd, Result.andThen_ok]
  cases es with
  | nil => rfl
  | cons e r =>
    have : Instr.findNow d k (e :: r) 0 = none := by
      unfold Instr.findNow
      rw [hn e.key (hes e (by simp))]
    rw [this]
    exact ask _ 0 hes

/-! ### Keys -/

def KInt (_ : World) (v : Value) : Prop := ∃ z : Int, v = .int .i64 z
def PlainB (w : World) (b : Nat) : Prop := ∃ cs T, w.heap[b]? = some (.cells cs T (0, 0))
def KPtr (w : World) (v : Value) : Prop := ∃ a : Addr, v = .pointer (some a) ∧ PlainB w a.block
def KPair (w : World) (v : Value) : Prop := ∃ a b : Addr, v = .agg #[.pointer (some a), .pointer (some b)] ∧ PlainB w a.block ∧ PlainB w b.block

theorem keyInt {kt : TypeId} (hk : P.underlying kt = some (.int .i64)) : KeyLaw P kt KInt := by
  have key : ∀ w k, KInt w k → IsKey (.int .i64) k := by
    rintro w k ⟨z, rfl⟩
    rfl
  refine ⟨fun w e k h => run_checkKey hk (key w k h) e 9999, fun w k es h hes => ?_, fun w k h => sameBits_self (key w k h) 10000⟩
  obtain ⟨z, rfl⟩ := h
  have now : ∀ (l : List MapEntry) (i : Nat), (∀ x ∈ l, KInt w x.key) → Instr.findNow (.int .i64) (.int .i64 z) l i = some (seek (.int .i64 z) l i) := by
    intro l
    induction l with
    | nil => intro i _; rfl
    | cons e r ih =>
      intro i h
      obtain ⟨y, hy⟩ := h e (by simp)
      unfold Instr.findNow seek
      rw [hy]
      simp only [Instr.sameNow, if_true]
      by_cases hzy : z = y
      · subst hzy
        simp
      · have h1 : (z == y) = false := by simpa using hzy
        have h2 : ¬ (Value.int .i64 z = Value.int .i64 y) := fun h => hzy (by injection h)
        simp only [h1, h2, if_false]
        exact ih (i + 1) fun x hx => h x (by simp [hx])
  exact run_findKey hk (now es 0 hes)

theorem keyPtr {kt te : TypeId} {j : TypeInfo} (hk : P.underlying kt = some (.pointer te)) (hte : P.info? te = some j) (hsz : j.size ≠ 0) : KeyLaw P kt KPtr := by
  have hc : ∀ (n : Nat) (e : Bool) (a : Addr) (w : World), (Instr.checkKey e (n + 1) kt (.pointer (some a))).run P w = .ok () w := by
    intro n e a w
    unfold Instr.checkKey
    simp only [Sem.run_bind, run_underlying hk, Result.andThen_ok]
    rfl
  have hs : ∀ (n : Nat) (a : Addr), Instr.sameBits n (.pointer (some a)) (.pointer (some a)) = true := by
    intro n a
    cases n <;> simp [Instr.sameBits]
  refine ⟨fun w e k h => ?_, fun w k es h hes => find_asking hk ?_ ?_ es hes, fun w k h => ?_⟩
  · obtain ⟨a, rfl, _⟩ := h
    exact hc 9999 e a w
  · intro k' _
    obtain ⟨a, rfl, _⟩ := h
    rfl
  · obtain ⟨a, rfl, ca, ta, ha⟩ := h
    rintro k' ⟨b, rfl, cb, tb, hb⟩
    by_cases hab : a = b
    · subst hab
      have h : ∀ d : Nat, (Op.equalIn (d + 1) kt (.pointer (some a)) (.pointer (some a))).run P w = .ok true w := fun d => by
        simp [Op.equalIn, run_underlying hk, sizeOf, typeInfo, hte, run_sameAddr_same]
      simp [Op.equal, Op.maxDepth, h 9999]
    · have h2 : ¬ (Value.pointer (some a) = Value.pointer (some b)) := fun h => hab (by injection h with h; injection h)
      have h : ∀ d : Nat, (Op.equalIn (d + 1) kt (.pointer (some a)) (.pointer (some b))).run P w = .ok false w := fun d => by
        simp [Op.equalIn, run_underlying hk, sizeOf, typeInfo, hte, hsz, run_sameAddr_other w hab ha hb]
      simp only [Op.equal, Op.maxDepth, h 9999, h2, decide_false]
  · obtain ⟨a, rfl, _⟩ := h
    exact hs 10000 a

theorem run_part {t : TypeId} {cs : Array Value} {off : Nat} {v : Value} {w : World} (h : (isAgg t).run P w = .ok false w) (hv : cs[off]? = some v) : (part t cs off).run P w = .ok v w := by
  unfold part
  simp [h, hv]

theorem keyPair {kt pt te : TypeId} {j : TypeInfo} {f0 f1 : Field} (hk : P.underlying kt = some (.struct #[f0, f1])) (h0 : f0.type = pt ∧ f0.offset = 0 ∧ f0.name ≠ "_") (h1 : f1.type = pt ∧ f1.offset = 1 ∧ f1.name ≠ "_")
    (hp : P.underlying pt = some (.pointer te)) (hte : P.info? te = some j) (hsz : j.size ≠ 0) (hagg : ∀ w, (isAgg pt).run P w = .ok false w) (hst : P.stoodInHeld kt = false) : KeyLaw P kt KPair := by
  have L := keyPtr (P := P) hp hte hsz
  have hfs : P.fieldsOf kt = #[f0, f1] := by simp only [Program.fieldsOf, hk]
  have hkf : P.underlying kt = some (.struct (P.fieldsOf kt)) := by rw [hfs]; exact hk
  have p0 : ∀ (a b : Addr) (w : World), (part f0.type #[.pointer (some a), .pointer (some b)] f0.offset).run P w = .ok (.pointer (some a)) w := fun a b w => by
    rw [h0.1, h0.2.1]
    exact run_part (hagg w) rfl
  have p1t : ∀ (a b : Addr) (w : World), (part pt #[.pointer (some a), .pointer (some b)] f1.offset).run P w = .ok (.pointer (some b)) w := fun a b w => by
    rw [h1.2.1]
    exact run_part (hagg w) rfl
  have hc0 : ∀ (n : Nat) (e : Bool) (a : Addr) (w : World), (Instr.checkKey e (n + 1) pt (.pointer (some a))).run P w = .ok () w := by
    intro n e a w
    unfold Instr.checkKey
    simp only [Sem.run_bind, run_underlying hp, Result.andThen_ok]
    rfl
  have hc : ∀ (n : Nat) (e : Bool) (a b : Addr) (w : World), (Instr.checkKey e (n + 2) kt (.agg #[.pointer (some a), .pointer (some b)])).run P w = .ok () w := by
    intro n e a b w
    unfold Instr.checkKey
    simp only [Sem.run_bind, run_underlying hk, Result.andThen_ok]
    rw [← Array.forIn_toList]
    simp only [List.forIn_cons, List.forIn_nil, h0.2.2, h1.2.2, ne_eq, not_false_eq_true, if_true, Sem.run_bind, p0, Result.andThen_ok]
    rw [h0.1, h1.1]
    simp only [hc0, p1t, Result.andThen_ok, Sem.run_pure, Sem.run_bind]
  have hs : ∀ (n : Nat) (a : Addr), Instr.sameBits n (.pointer (some a)) (.pointer (some a)) = true := by
    intro n a
    cases n <;> simp [Instr.sameBits]
  have hs2 : ∀ (n : Nat) (a b : Addr), Instr.sameBits (n + 1) (.agg #[.pointer (some a), .pointer (some b)]) (.agg #[.pointer (some a), .pointer (some b)]) = true := by
    intro n a b
    simp [Instr.sameBits, hs]
  refine ⟨fun w e k h => ?_, fun w k es h hes => find_asking hk ?_ ?_ es hes, fun w k h => ?_⟩
  · obtain ⟨a, b, rfl, _⟩ := h
    exact hc 9998 e a b w
  · intro k' _
    obtain ⟨a, b, rfl, _⟩ := h
    rfl
  · obtain ⟨a, b, rfl, ⟨ca, ta, ha⟩, cb, tb, hb⟩ := h
    rintro k' ⟨a', b', rfl, ⟨ca', ta', ha'⟩, cb', tb', hb'⟩
    have heq : ∀ (d : Nat) (x y : Addr) (cx cy : Array Value) (tx ty : TypeId), w.heap[x.block]? = some (.cells cx tx (0, 0)) → w.heap[y.block]? = some (.cells cy ty (0, 0)) →
        (Op.equalIn (d + 1) pt (.pointer (some x)) (.pointer (some y))).run P w = .ok (decide (x = y)) w := by
      intro d x y cx cy tx ty hx hy
      by_cases hxy : x = y
      · subst hxy
        simp [Op.equalIn, run_underlying hp, sizeOf, typeInfo, hte, run_sameAddr_same]
      · simp [Op.equalIn, run_underlying hp, sizeOf, typeInfo, hte, hsz, run_sameAddr_other w hxy hx hy, hxy]
    have h : ∀ d : Nat, (Op.equalIn (d + 2) kt (.agg #[.pointer (some a), .pointer (some b)]) (.agg #[.pointer (some a'), .pointer (some b')])).run P w = .ok (decide (a = a') && decide (b = b')) w := fun d => by
      rw [run_equalIn_struct w (d + 1) kt _ _ hkf hst, hfs]
      simp only [Op.eqFields, h0.2.2, h1.2.2, ne_eq, not_false_eq_true, if_true, Sem.run_bind, p0, Result.andThen_ok]
      rw [h0.1, h1.1, heq d a a' _ _ _ _ ha ha']
      by_cases hab : a = a'
      · simp only [hab, decide_true, Result.andThen_ok, Bool.not_true, Bool.false_eq_true, if_false, Sem.run_bind, p1t, heq d b b' _ _ _ _ hb hb', Bool.true_and]
        by_cases hbb : b = b'
        · simp [hbb]
        · simp [hbb]
      · simp [hab, p1t]
    have h2 : (Value.agg #[.pointer (some a), .pointer (some b)] = Value.agg #[.pointer (some a'), .pointer (some b')]) ↔ (a = a' ∧ b = b') := by simp
    simp only [Op.equal, Op.maxDepth, h 9998, h2, Bool.decide_and]
  · obtain ⟨a, b, rfl, _⟩ := h
    exact hs2 9999 a b

/-! ### Maps in memory -/

/-- Block b is a map that holds l: keys and values, in the order in which they came. -/
def MapAt (w : World) (b : Nat) (l : List (Value × Value)) : Prop :=
  ∃ es clock, w.heap[b]? = some (.map es clock) ∧ es.toList.map (fun e => (e.key, e.val)) = l ∧ Stamped es clock
theorem MapAt.lt {w : World} {b : Nat} {l : List (Value × Value)} (h : MapAt w b l) : b < w.heap.size := by
  obtain ⟨es, clock, hb, _⟩ := h
  exact lt_of_heap hb
theorem MapAt.same {w w' : World} {b : Nat} {l : List (Value × Value)} (h : MapAt w b l) (hb : w'.heap[b]? = w.heap[b]?) : MapAt w' b l := by
  obtain ⟨es, clock, h1, h2, h3⟩ := h
  exact ⟨es, clock, hb.trans h1, h2, h3⟩
theorem MapAt.nodup {w : World} {b : Nat} {l : List (Value × Value)} (h : MapAt w b l) : (l.map (·.1)).Nodup := by
  obtain ⟨es, clock, _, rfl, h3⟩ := h
  have := h3.2.2
  rw [List.map_map]
  exact this
theorem MapAt.new (w : World) : MapAt (w.alloc (.map #[] 0)) w.heap.size [] := ⟨#[], 0, alloc1 w _, rfl, stamped_empty 0⟩

theorem run_look_yes {T kt et : TypeId} {K : World → Value → Prop} {w : World} {b : Nat} {l : List (Value × Value)} {k v : Value} (hT : P.underlying T = some (.map kt et)) (L : KeyLaw P kt K) (h : MapAt w b l) (hk : K w k) (hl : ∀ p ∈ l, K w p.1) (hm : (k, v) ∈ l) :
    (Instr.lookup T (.map (some b)) k false).run P w = .ok v w := by
  have hnd := h.nodup
  obtain ⟨es, clock, hb, rfl, hs⟩ := h
  obtain ⟨e, he, hev⟩ := List.mem_map.1 hm
  obtain ⟨j, x, h1, h2, h3⟩ := seek_some (i := 0) ⟨e, he, (Prod.mk.inj hev).1⟩
  have hf := L.find w k es.toList hk fun x hx => hl _ (List.mem_map_of_mem (f := fun e => (e.key, e.val)) hx)
  have hxe : x.val = v := by
    have hx := List.mem_of_getElem? h1
    have := hs.2.2
    obtain ⟨j', hj'⟩ := List.mem_iff_getElem?.1 he
    have hkk : x.key = e.key := h2.trans (Prod.mk.inj hev).1.symm
    have e1 : (es.toList.map (·.key))[j]? = some x.key := by rw [List.getElem?_map, h1]; rfl
    have e2 : (es.toList.map (·.key))[j']? = some x.key := by rw [List.getElem?_map, hj', hkk]; rfl
    have hjj : j = j' := (List.getElem?_inj (List.getElem?_eq_some_iff.1 e1).1 this).1 (e1.trans e2.symm)
    subst hjj
    rw [h1] at hj'
    cases hj'
    exact (Prod.mk.inj hev).2
  unfold Instr.lookup
  simp only [Sem.run_bind, run_underlying hT, Result.andThen_ok, MapKept.run_getObj_map hb, Sem.run_pure, L.check w _ k hk, hf, h3, hxe]
  rfl
theorem run_look_no {T kt et : TypeId} {K : World → Value → Prop} {w : World} {b : Nat} {l : List (Value × Value)} {k z : Value} (hT : P.underlying T = some (.map kt et)) (L : KeyLaw P kt K) (h : MapAt w b l) (hk : K w k) (hl : ∀ p ∈ l, K w p.1) (hz : (zeroValue et).run P w = .ok z w) (hm : ∀ p ∈ l, p.1 ≠ k) :
    (Instr.lookup T (.map (some b)) k false).run P w = .ok z w := by
  obtain ⟨es, clock, hb, rfl, hs⟩ := h
  have hf := L.find w k es.toList hk fun x hx => hl _ (List.mem_map_of_mem (f := fun e => (e.key, e.val)) hx)
  have h3 : seek k es.toList 0 = none := seek_none fun e he => hm _ (List.mem_map_of_mem (f := fun e => (e.key, e.val)) he)
  unfold Instr.lookup
  simp only [Sem.run_bind, run_underlying hT, Result.andThen_ok, MapKept.run_getObj_map hb, Sem.run_pure, L.check w _ k hk, hf, h3, hz]
  rfl

theorem run_look2_yes {T kt et : TypeId} {K : World → Value → Prop} {w : World} {b : Nat} {l : List (Value × Value)} {k v : Value} (hT : P.underlying T = some (.map kt et)) (L : KeyLaw P kt K) (h : MapAt w b l) (hk : K w k) (hl : ∀ p ∈ l, K w p.1) (hm : (k, v) ∈ l) :
    (Instr.lookup T (.map (some b)) k true).run P w = .ok (.tuple #[v, .bool true]) w := by
  have hnd := h.nodup
  obtain ⟨es, clock, hb, rfl, hs⟩ := h
  obtain ⟨e, he, hev⟩ := List.mem_map.1 hm
  obtain ⟨j, x, h1, h2, h3⟩ := seek_some (i := 0) ⟨e, he, (Prod.mk.inj hev).1⟩
  have hf := L.find w k es.toList hk fun x hx => hl _ (List.mem_map_of_mem (f := fun e => (e.key, e.val)) hx)
  have hxe : x.val = v := by
    have hx := List.mem_of_getElem? h1
    have := hs.2.2
    obtain ⟨j', hj'⟩ := List.mem_iff_getElem?.1 he
    have hkk : x.key = e.key := h2.trans (Prod.mk.inj hev).1.symm
    have e1 : (es.toList.map (·.key))[j]? = some x.key := by rw [List.getElem?_map, h1]; rfl
    have e2 : (es.toList.map (·.key))[j']? = some x.key := by rw [List.getElem?_map, hj', hkk]; rfl
    have hjj : j = j' := (List.getElem?_inj (List.getElem?_eq_some_iff.1 e1).1 this).1 (e1.trans e2.symm)
    subst hjj
    rw [h1] at hj'
    cases hj'
    exact (Prod.mk.inj hev).2
  unfold Instr.lookup
  simp only [Sem.run_bind, run_underlying hT, Result.andThen_ok, MapKept.run_getObj_map hb, Sem.run_pure, L.check w _ k hk, hf, h3, hxe]
  rfl
theorem run_look2_no {T kt et : TypeId} {K : World → Value → Prop} {w : World} {b : Nat} {l : List (Value × Value)} {k z : Value} (hT : P.underlying T = some (.map kt et)) (L : KeyLaw P kt K) (h : MapAt w b l) (hk : K w k) (hl : ∀ p ∈ l, K w p.1) (hz : (zeroValue et).run P w = .ok z w) (hm : ∀ p ∈ l, p.1 ≠ k) :
    (Instr.lookup T (.map (some b)) k true).run P w = .ok (.tuple #[z, .bool false]) w := by
  obtain ⟨es, clock, hb, rfl, hs⟩ := h
  have hf := L.find w k es.toList hk fun x hx => hl _ (List.mem_map_of_mem (f := fun e => (e.key, e.val)) hx)
  have h3 : seek k es.toList 0 = none := seek_none fun e he => hm _ (List.mem_map_of_mem (f := fun e => (e.key, e.val)) he)
  unfold Instr.lookup
  simp only [Sem.run_bind, run_underlying hT, Result.andThen_ok, MapKept.run_getObj_map hb, Sem.run_pure, L.check w _ k hk, hf, h3, hz]
  rfl

theorem kp_set {w : World} {b : Nat} (o : Obj) : Kp (fun y => y = b) w { w with heap := w.heap.setIfInBounds b o } :=
  ⟨rfl, rfl, rfl, by simp, fun x hx hM => by
    show (w.heap.setIfInBounds b o)[x]? = _
    rw [Array.getElem?_setIfInBounds_ne (fun e => hM e.symm)]⟩

theorem run_put_new {T kt et : TypeId} {K : World → Value → Prop} {w : World} {b : Nat} {l : List (Value × Value)} {k : Value} (v : Value) (hT : P.underlying T = some (.map kt et)) (L : KeyLaw P kt K) (h : MapAt w b l) (hk : K w k) (hl : ∀ p ∈ l, K w p.1) (hm : ∀ p ∈ l, p.1 ≠ k) :
    ∃ w', (Instr.mapUpdate T (.map (some b)) k v).run P w = .ok () w' ∧ MapAt w' b (l ++ [(k, v)]) ∧ Kp (fun y => y = b) w w' := by
  obtain ⟨es, clock, hb, rfl, hs⟩ := h
  have hf := L.find w k es.toList hk fun x hx => hl _ (List.mem_map_of_mem (f := fun e => (e.key, e.val)) hx)
  have h3 : seek k es.toList 0 = none := seek_none fun e he => hm _ (List.mem_map_of_mem (f := fun e => (e.key, e.val)) he)
  refine ⟨{ w with heap := w.heap.setIfInBounds b (.map (es.push { key := k, val := v, born := clock }) (clock + 1)) }, ?_, ⟨_, _, (heap_set hb).1, by simp, stamped_push hs fun e he => hm _ (List.mem_map_of_mem (f := fun e => (e.key, e.val)) he)⟩, kp_set _⟩
  unfold Instr.mapUpdate
  simp only [Sem.run_bind, run_underlying hT, Result.andThen_ok, MapKept.run_getObj_map hb, L.check w _ k hk, hf, h3, MapKept.run_setObj_map _ hb]

theorem run_put_same {T kt et : TypeId} {K : World → Value → Prop} {w : World} {b : Nat} {l : List (Value × Value)} {k v : Value} (hT : P.underlying T = some (.map kt et)) (L : KeyLaw P kt K) (h : MapAt w b l) (hk : K w k) (hl : ∀ p ∈ l, K w p.1) (hm : (k, v) ∈ l) :
    ∃ w', (Instr.mapUpdate T (.map (some b)) k v).run P w = .ok () w' ∧ MapAt w' b l ∧ Kp (fun y => y = b) w w' := by
  obtain ⟨es, clock, hb, rfl, hs⟩ := h
  obtain ⟨e, he, hev⟩ := List.mem_map.1 hm
  obtain ⟨j, x, h1, h2, h3⟩ := seek_some (i := 0) ⟨e, he, (Prod.mk.inj hev).1⟩
  have hf := L.find w k es.toList hk fun x hx => hl _ (List.mem_map_of_mem (f := fun e => (e.key, e.val)) hx)
  have hxe : x.val = v := by
    obtain ⟨j', hj'⟩ := List.mem_iff_getElem?.1 he
    have hkk : x.key = e.key := h2.trans (Prod.mk.inj hev).1.symm
    have e1 : (es.toList.map (·.key))[j]? = some x.key := by rw [List.getElem?_map, h1]; rfl
    have e2 : (es.toList.map (·.key))[j']? = some x.key := by rw [List.getElem?_map, hj', hkk]; rfl
    have hjj : j = j' := (List.getElem?_inj (List.getElem?_eq_some_iff.1 e1).1 hs.2.2).1 (e1.trans e2.symm)
    subst hjj
    rw [h1] at hj'
    cases hj'
    exact (Prod.mk.inj hev).2
  have hej : es[j]? = some x := by rw [← h1]; simp
  have hkey : (((es[0 + j]?).map (·.key)).getD k) = k := by
    rw [Nat.zero_add, hej]
    exact h2
  refine ⟨{ w with heap := w.heap.setIfInBounds b (.map (es.modify (0 + j) fun e => { e with key := k, val := v }) clock) }, ?_, ⟨_, _, (heap_set hb).1, ?_, ?_⟩, kp_set _⟩
  · unfold Instr.mapUpdate Instr.keyThatStays
    simp only [Sem.run_bind, run_underlying hT, Result.andThen_ok, MapKept.run_getObj_map hb, L.check w _ k hk, hf, h3, hkey, L.same w k hk, if_true, Sem.run_pure, MapKept.run_setObj_map _ hb]
  · rw [Nat.zero_add]
    apply List.ext_getElem?
    intro i
    simp only [List.getElem?_map, Array.getElem?_toList, Array.getElem?_modify]
    by_cases hij : j = i
    · subst hij
      simp [hej, h2, hxe]
    · simp [hij]
  · exact stamped_modify hs _ _ (fun _ _ => rfl) (fun e _ he => by
      rw [Nat.zero_add, hej] at he
      cases he
      exact h2.symm)

open Classical in
theorem erase_filter {k : Value} : ∀ (l : List MapEntry) (j : Nat) (x : MapEntry), l[j]? = some x → x.key = k → (l.map (·.key)).Nodup →
    (l.eraseIdx j).map (fun e => (e.key, e.val)) = (l.map fun e => (e.key, e.val)).filter fun p => decide (p.1 ≠ k)
  | [], j, x, h, _, _ => by simp at h
  | e :: r, 0, x, h, hx, hn => by
    simp at h
    subst h
    have hn' := (List.nodup_cons.1 hn).1
    rw [List.eraseIdx_cons_zero, List.map_cons, List.filter_cons, if_neg (by simp [hx])]
    symm
    rw [List.filter_eq_self]
    intro p hp
    obtain ⟨y, hy, rfl⟩ := List.mem_map.1 hp
    simp only [decide_eq_true_eq]
    intro hh
    exact hn' (List.mem_map.2 ⟨y, hy, hh.trans hx.symm⟩)
  | e :: r, j + 1, x, h, hx, hn => by
    have hn' := List.nodup_cons.1 hn
    have hxr : x ∈ r := List.mem_of_getElem? (i := j) (by simpa using h)
    have hek : e.key ≠ k := fun hh => hn'.1 (List.mem_map.2 ⟨x, hxr, hx.trans hh.symm⟩)
    rw [List.eraseIdx_cons_succ, List.map_cons, List.map_cons, List.filter_cons, if_pos (by simpa using hek), erase_filter r j x (by simpa using h) hx hn'.2]

theorem run_del {T kt et kt' ty : TypeId} {K : World → Value → Prop} {w : World} {b : Nat} {l : List (Value × Value)} {k : Value} (hT : P.underlying T = some (.map kt et)) (L : KeyLaw P kt K) (h : MapAt w b l) (hk : K w k) (hl : ∀ p ∈ l, K w p.1) :
    ∃ w', (Builtin.delete_ #[T, kt'] ty #[.map (some b), k]).run P w = .ok (.tuple #[]) w' ∧ MapAt w' b (open Classical in l.filter fun p => decide (p.1 ≠ k)) ∧ Kp (fun y => y = b) w w' := by
  obtain ⟨es, clock, hb, rfl, hs⟩ := h
  have hf := L.find w k es.toList hk fun x hx => hl _ (List.mem_map_of_mem (f := fun e => (e.key, e.val)) hx)
  by_cases hex : ∃ e ∈ es.toList, e.key = k
  · obtain ⟨j, x, h1, h2, h3⟩ := seek_some (i := 0) hex
    refine ⟨{ w with heap := w.heap.setIfInBounds b (.map (es.eraseIdxIfInBounds (0 + j)) clock) }, ?_, ⟨_, _, (heap_set hb).1, ?_, stamped_erase hs _⟩, kp_set _⟩
    · unfold Builtin.delete_
      simp only [Sem.run_bind, List.getElem?_toArray, List.getElem?_cons_zero, List.getElem?_cons_succ, run_underlying hT, Result.andThen_ok, MapKept.run_getObj_map hb, L.check w _ k hk, hf, h3, MapKept.run_setObj_map _ hb, Sem.run_pure]
    · rw [Array.toList_eraseIdxIfInBounds, Nat.zero_add]
      exact erase_filter es.toList j x h1 h2 hs.2.2
  · have h3 : seek k es.toList 0 = none := seek_none fun e he hh => hex ⟨e, he, hh⟩
    refine ⟨{ w with heap := w.heap.setIfInBounds b (.map es clock) }, ?_, ⟨_, _, (heap_set hb).1, ?_, hs⟩, kp_set _⟩
    · unfold Builtin.delete_
      simp only [Sem.run_bind, List.getElem?_toArray, List.getElem?_cons_zero, List.getElem?_cons_succ, run_underlying hT, Result.andThen_ok, MapKept.run_getObj_map hb, L.check w _ k hk, hf, h3, MapKept.run_setObj_map _ hb, Sem.run_pure]
    · symm
      rw [List.filter_eq_self]
      intro p hp
      obtain ⟨e, he, rfl⟩ := List.mem_map.1 hp
      simpa using fun hh => hex ⟨e, he, hh⟩
end
end Go.Proofs.Ytlgdminpkkhejaa
