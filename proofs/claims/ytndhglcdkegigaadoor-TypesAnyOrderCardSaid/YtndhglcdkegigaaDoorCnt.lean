/-
  Counting the nodes of a type with a solution: the walks of unify.Counter's has and Nodes, and of the closure that types.counter makes.
  Conditions: names are good; there is a rank.
-/
import Derived.Test.YtndhglcdkegigaaDoorApp
import Derived.Test.YtndhglcdkegigaaDoorOcc
import Derived.Test.YtndhglcdkegigaaDoorGive
namespace Go.Proofs.YtndhglcdkegigaaDoor
open Go.RowKit Go.MapKept

section
variable {P : Program}
theorem run_look2_yes {T kt et : TypeId} {K : World → Value → Prop} {w : World} {b : Nat} {l : List (Value × Value)} {k v : Value} (hT : P.underlying T = some (.map kt et)) (L : KeyLaw P kt K) (h : MapAt w b l) (hk : K w k) (hl : ∀ p ∈ l, K w p.1) (hm : (k, v) ∈ l) :
    (Instr.lookup T (.map (some b)) k true).run P w = .ok (.tuple #[v, .bool true]) w := by
  obtain ⟨es, clock, hb, rfl, hs⟩ := h
  obtain ⟨e, he, hev⟩ := List.mem_map.1 hm
  obtain ⟨j, x, h1, h2, h3⟩ := seek_some (i := 0) ⟨e, he, (Prod.mk.inj hev).1⟩
  have hf := L.find w k es.toList hk fun x hx => hl _ (List.mem_map_of_mem (f := fun e => (e.key, e.val)) hx)
  have hxe : x.val = v := by
    obtain ⟨j', hj'⟩ := List.mem_iff_getElem?.1 he
    have hkk : x.key = e.key := h2.trans (Prod.mk.inj hev).1.symm
    have e1 : (es.toList.map (·.key))[j]? = some x.key := by rw [List.getElem?_map, h1]; rfl
    have e2 : (es.toList.map (·.key))[j']? = some x.key := by rw [List.getElem?_map, hj', hkk]; rfl
    have hjj : j = j' := (List.getElem?_inj (List.getElem?_eq_some_iff.1 e1).1 hs.2.2).1 (e1.trans e2.symm)
    subst hjj
    rw [h1] at hj'
    cases hj'
    exact (Prod.mk.inj hev).2
  unfold Instr.lookup
  simp only [Sem.run_bind, run_underlying hT, Result.andThen_ok, MapKept.run_getObj_map hb, Sem.run_pure, L.check w _ k hk, hf, h3, hxe]
  rfl
theorem run_look2_no {T kt et : TypeId} {K : World → Value → Prop} {w : World} {b : Nat} {l : List (Value × Value)} {k z : Value} (hT : P.underlying T = some (.map kt et)) (L : KeyLaw P kt K) (h : MapAt w b l) (hk : K w k) (hl : ∀ p ∈ l, K w p.1) (hz : (zeroValue et).run P w = .ok z w) (hm : ∀ p ∈ l, p.1 ≠ k) :
    (Instr.lookup T (.map (some b)) k true).run P w = .ok (.tuple #[z, .bool false]) w := by
  obtain ⟨es, clock, hb, rfl, hs⟩ := h
  have hf := L.find w k es.toList hk fun x hx => hl _ (List.mem_map_of_mem (f := fun e => (e.key, e.val)) hx)
  have h3 : seek k es.toList 0 = none := seek_none fun e he => hm _ (List.mem_map_of_mem (f := fun e => (e.key, e.val)) he)
  unfold Instr.lookup
  simp only [Sem.run_bind, run_underlying hT, Result.andThen_ok, MapKept.run_getObj_map hb, Sem.run_pure, L.check w _ k hk, hf, h3, hz]
  rfl
theorem run_put_over {T kt et : TypeId} {K : World → Value → Prop} {w : World} {b : Nat} {l1 l2 : List (Value × Value)} {k v0 : Value} (v : Value) (hT : P.underlying T = some (.map kt et)) (L : KeyLaw P kt K) (h : MapAt w b (l1 ++ (k, v0) :: l2)) (hk : K w k) (hl : ∀ p ∈ l1 ++ (k, v0) :: l2, K w p.1) :
    ∃ w', (Instr.mapUpdate T (.map (some b)) k v).run P w = .ok () w' ∧ MapAt w' b (l1 ++ (k, v) :: l2) ∧ Kp (fun y => y = b) w w' := by
  obtain ⟨es, clock, hb, hes, hs⟩ := h
  obtain ⟨e, he, hev⟩ : ∃ e, es.toList[l1.length]? = some e ∧ (e.key, e.val) = (k, v0) := by
    have : (es.toList.map fun e => (e.key, e.val))[l1.length]? = some (k, v0) := by rw [hes, List.getElem?_append_right (Nat.le_refl _)]; simp
    rw [List.getElem?_map] at this
    exact Option.map_eq_some_iff.1 this
  obtain ⟨j, x, h1, h2, h3⟩ := seek_some (i := 0) ⟨e, List.mem_of_getElem? he, (Prod.mk.inj hev).1⟩
  have hf := L.find w k es.toList hk fun x hx => hl (x.key, x.val) (by rw [← hes]; exact List.mem_map_of_mem (f := fun e : MapEntry => (e.key, e.val)) hx)
  have hjj : j = l1.length := by
    have hkk : x.key = e.key := h2.trans (Prod.mk.inj hev).1.symm
    have e1 : (es.toList.map (·.key))[j]? = some x.key := by rw [List.getElem?_map, h1]; rfl
    have e2 : (es.toList.map (·.key))[l1.length]? = some x.key := by rw [List.getElem?_map, he, hkk]; rfl
    exact (List.getElem?_inj (List.getElem?_eq_some_iff.1 e1).1 hs.2.2).1 (e1.trans e2.symm)
  have hej : es[j]? = some x := by rw [← h1]; simp
  have hkey : (((es[0 + j]?).map (·.key)).getD k) = k := by
    rw [Nat.zero_add, hej]
    exact h2
  refine ⟨{ w with heap := w.heap.setIfInBounds b (.map (es.modify (0 + j) fun e => { e with key := k, val := v }) clock) }, ?_, ⟨_, _, (heap_set hb).1, ?_, ?_⟩, kp_set _⟩
  · unfold Instr.mapUpdate Instr.keyThatStays
    simp only [Sem.run_bind, run_underlying hT, Result.andThen_ok, MapKept.run_getObj_map hb, L.check w _ k hk, hf, h3, hkey, L.same w k hk, if_true, Sem.run_pure, MapKept.run_setObj_map _ hb]
  · rw [Nat.zero_add]
    have e1 : ((es.modify j fun e => { e with key := k, val := v }).toList.map fun e => (e.key, e.val)) = (es.toList.map fun e => (e.key, e.val)).set j (k, v) := by
      apply List.ext_getElem?
      intro i
      rw [List.getElem?_set]
      simp only [List.getElem?_map, Array.getElem?_toList, Array.getElem?_modify, List.length_map, Array.length_toList]
      by_cases hij : j = i
      · subst hij
        have := (Array.getElem?_eq_some_iff.1 hej).1
        simp [this]
      · simp [hij]
    rw [e1, hes, hjj, List.set_append_right _ _ (Nat.le_refl _)]
    simp
  · exact stamped_modify hs _ _ (fun _ _ => rfl) (fun e _ he => by
      rw [Nat.zero_add, hej] at he
      cases he
      exact h2.symm)
end

/-- The closure that asks a list of types; its variable lies at block gb. -/
abbrev cntV (gb : Nat) : Value := .func (.func 64) #[] #[.pointer (some ⟨gb, 0, none⟩)]
def sizeV (x : Nat × Nat) : Value × Value := (.int .i64 (x.1 : Int), .int .i64 (x.2 : Int))

/-- A counter at cp: the list's box at gb, the map of sizes at mb. -/
structure Ct (w : World) (cp gb mb : Nat) (S : Nat → Prop) (L : List Ty) : Prop where
  cells : w.heap[cp]? = some (.cells #[cntV gb, .map (some mb)] 114 (0, 0))
  box : ∃ LA lc, w.heap[gb]? = some (.cells #[.slice LA L.length lc] 28 (0, 0)) ∧ ∃ vs, Tys w S LA L vs
  few : L.length ≤ 4000000
  lt : ∀ b, S b → b < w.heap.size ∧ b ≠ mb
  ne : cp ≠ mb ∧ gb ≠ mb
theorem Ct.kp {w w' : World} {cp gb mb : Nat} {S : Nat → Prop} {L : List Ty} (h : Ct w cp gb mb S L) (hk : Kp (fun y => y = mb) w w') : Ct w' cp gb mb S L := by
  obtain ⟨LA, lc, hb, vs, hT⟩ := h.box
  exact ⟨hk.heap h.cells h.ne.1, ⟨LA, lc, hk.heap hb h.ne.2, vs, hT.keep (hk.kept h.lt)⟩, h.few, fun b hb => ⟨Nat.lt_of_lt_of_le (h.lt b hb).1 hk.size, (h.lt b hb).2⟩, h.ne⟩
theorem Ct.kept {w w' : World} {cp gb mb : Nat} {S : Nat → Prop} {L : List Ty} (h : Ct w cp gb mb S L) (hk : Kp (fun y => y = mb) w w') : Kept S w w' := hk.kept h.lt

def GotRes (S : Nat → Prop) (o : Option Ty) (w : World) (e : Ending) (w' : World) : Prop :=
  match o with
  | none => e = .returned (.pointer none) ∧ w = w'
  | some u => ∃ p, e = .returned (.pointer (some p)) ∧ PtTy w S p u ∧ w = w'

set_option maxHeartbeats 4000000 in
set_option maxRecDepth 100000 in
theorem got_any (n cp gb mb : Nat) (S : Nat → Prop) (L : List Ty) (w : World) (h : Ct w cp gb mb S L) (hn : n ≤ 4000000) :
    Calls Tryd.prog 64 #[.int .i64 (n : Int), .pointer (some ⟨gb, 0, none⟩)] w (GotRes S (solv L n) w) := by
  obtain ⟨LA, lc, hb, vs, hT⟩ := h.box
  have hfew := h.few
  obtain ⟨m, hm⟩ : ∃ m, m = L.length := ⟨_, rfl⟩
  rw [← hm] at hb hfew
  have HM := Lib.hid hm
  clear hm
  have c0 : w.cell? ⟨gb, 0, none⟩ = some (.slice LA m lc) := (Lib.cell_of_heap hb _).trans rfl
  by_cases hlt : n < m
  · have hnl : n < L.length := by rw [← HM.out]; exact hlt
    obtain ⟨ad, u, v, rfl, hS, e0, e1, hty⟩ := hT.at_ (List.getElem?_eq_getElem hnl)
    obtain ⟨A, c, vs', rfl, rfl, h1, h2, h3, h4, _⟩ := hty.open_
    have hge : decide ((n : Int) ≥ (m : Int)) = false := by simp; omega
    have hik : (0 : Int) ≤ (n : Int) ∧ (n : Int) < (m : Int) := ⟨by omega, by omega⟩
    have hp : PtTy w S (ad.add (n * 2)) L[n] := ⟨_, _, by rw [blkAdd]; exact hS, e0, e1, hty⟩
    have HP := Lib.hid hp
    generalize ht : L[n] = t at *
    have HT := Lib.hid ht
    have HLN : Hid (L[n]? = some t) := Lib.hid (by rw [List.getElem?_eq_getElem hnl, ht])
    clear hty hp ht hT
    by_cases hnm : t.name = []
    · have hb1 : ((bs t.name).toList == []) = true := by rw [Lib.toList_data, bs_data]; simp [hnm]
      obtain ⟨l, hl⟩ : ∃ l, l = t.args.length := ⟨_, rfl⟩
      rw [← hl] at e1 h2 h3
      have HL := Lib.hid hl
      have HNM := Lib.hid hnm
      clear hl hnm
      by_cases hz : l = 0
      · have hz0 : ((l : Int) == 0) = true := by simp [hz]
        have hsn : solv L n = none := by
          unfold solv
          rw [HLN.out]
          obtain ⟨tn, tk⟩ := t
          have a1 := HNM.out
          have a2 := List.eq_nil_of_length_eq_zero (HL.out.symm.trans hz)
          simp only [Ty.name, Ty.args] at a1 a2
          subst a1 a2
          rfl
        rw [hsn]
        clear hsn
        go_enter Tryd.func64, Tryd.ntmps64
        go_wp2
        go_ret
        exact ⟨rfl, rfl⟩
      · have hsn : solv L n = some t := solv_of HLN.out fun e => by
          have := HL.out
          rw [e] at this
          exact hz (by rw [this]; rfl)
        rw [hsn]
        have hz0 : ((l : Int) == 0) = false := by simp; omega
        clear hsn
        go_enter Tryd.func64, Tryd.ntmps64
        go_wp2
        go_ret
        exact ⟨_, rfl, HP.out, rfl⟩
    · have hb1 : ((bs t.name).toList == []) = false := by rw [Lib.toList_data, bs_data]; simp [hnm]
      have hsn : solv L n = some t := solv_of HLN.out fun e => hnm (by rw [e]; rfl)
      rw [hsn]
      clear hsn hnm
      go_enter Tryd.func64, Tryd.ntmps64
      go_wp2
      go_ret
      exact ⟨_, rfl, HP.out, rfl⟩
  · have hge : decide ((n : Int) ≥ (m : Int)) = true := by simp; omega
    have hsn : solv L n = none := by
      unfold solv
      rw [List.getElem?_eq_none (by rw [← HM.out]; omega)]
    rw [hsn]
    have hmn : m ≤ n := by omega
    clear hsn hlt
    go_enter Tryd.func64, Tryd.ntmps64
    go_wp2
    go_ret
    exact ⟨rfl, rfl⟩

/-- What a type is a variable of, with a type. -/
def hasOf (L : List Ty) (t : Ty) : Bool := match varOf t with
  | some k => (solv L k).isSome
  | none => false
def HasRes (L : List Ty) (t : Ty) (w : World) (e : Ending) (w' : World) : Prop := e = .returned (.tuple #[.int .i64 (varI (varOf t)), .bool (hasOf L t)]) ∧ Below w.heap.size w w'
theorem varOf_lt {t : Ty} {k : Nat} (hg : GoodN t.name) (h : varOf t = some k) : k < 100 := by
  obtain ⟨n, ks⟩ := t
  cases ks with
  | cons a r => simp [varOf] at h
  | nil =>
    simp only [varOf] at h
    simp only [Ty.name] at hg
    rcases hg with hg | ⟨j, hj, rfl⟩
    · rw [hg] at h
      cases h
    · rw [vnum_name] at h
      cases h
      exact hj

set_option maxHeartbeats 4000000 in
set_option maxRecDepth 100000 in
theorem has_any (cp gb mb : Nat) (S : Nat → Prop) (L : List Ty) (p : Addr) (t : Ty) (w : World) (h : Ct w cp gb mb S L) (hp : PtTy w S p t) (hg : GoodN t.name) :
    Calls Tryd.prog 65 #[.pointer (some ⟨cp, 0, none⟩), .pointer (some p)] w (HasRes L t w) := by
  obtain ⟨A, c, hS, e0, e1, hl, hc1, hc2, harg⟩ := hp.cells
  have hva := variable_any p t.name A t.args.length c w e0 e1 hg hl
  rw [← varOf_mk, show Ty.mk t.name t.args = t from by cases t; rfl] at hva
  have HVA := Lib.hid hva
  have HG := Lib.hid hg
  clear hva e0 e1 hg harg
  go_enter Tryd.func65, Tryd.ntmps65
  go_wp2_with fail
  refine HVA.out.mono ?_
  rintro e w1 ⟨rfl, hb1⟩
  have h1 := h.kp (Kp.ofBelow hb1)
  have d0 : w1.cell? ⟨cp, 0, none⟩ = some (cntV gb) := (Lib.cell_of_heap h1.cells _).trans rfl
  have HB := Lib.hid hb1
  clear hb1
  cases hv : varOf t with
  | none =>
    have hh : hasOf L t = false := by unfold hasOf; rw [hv]
    have HV := Lib.hid hv
    have HH := Lib.hid hh
    simp only [varI, Option.isSome_none]
    clear hv hh
    go_wp2
    go_ret2
    exact ⟨by rw [HV.out, HH.out]; rfl, HB.out⟩
  | some k =>
    have hk := varOf_lt HG.out hv
    have GO := Lib.hid (got_any k cp gb mb S L w1 h1 (by omega))
    have hh : hasOf L t = (solv L k).isSome := by unfold hasOf; rw [hv]
    have HV := Lib.hid hv
    have HH := Lib.hid hh
    simp only [varI, Option.isSome_some]
    clear hv hh
    go_wp2_with fail
    refine GO.out.mono ?_
    cases hs : solv L k with
    | none =>
      rintro e w2 ⟨rfl, rfl⟩
      have HS := Lib.hid hs
      clear hs
      go_wp2
      refine bodyPost_ret (by first | (simp [results, go_sem]; done) | (simp [results, go_sem]; rfl)) rfl ?_
      exact ⟨by rw [HV.out, HH.out, HS.out]; rfl, HB.out⟩
    | some u =>
      rintro e w2 ⟨q, rfl, _, rfl⟩
      have HS := Lib.hid hs
      clear hs
      go_wp2
      refine bodyPost_ret (by first | (simp [results, go_sem]; done) | (simp [results, go_sem]; rfl)) rfl ?_
      exact ⟨by rw [HV.out, HH.out, HS.out]; rfl, HB.out⟩
end Go.Proofs.YtndhglcdkegigaaDoor
