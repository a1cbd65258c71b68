/-
  Counting the nodes of a type with a solution: the walks of unify.Counter's has and Nodes, and of the closure that types.counter makes.
  Conditions: names are good; there is a rank.
  Counting the nodes of a type with a solution: the walk of (*unify.Counter).Nodes.
  Conditions: names are good, all the way down; there is a rank.
-/
import Derived.Test.YtndhglcdkegigaaDoorApp
import Derived.Test.YtndhglcdkegigaaDoorOcc
import Derived.Test.YtndhglcdkegigaaDoorGive
import Derived.Test.YtndhglcdkegigaaDoorSched
namespace Go.Proofs.YtndhglcdkegigaaDoor
section
open Go.RowKit Go.MapKept
section
variable {P : Program}
theorem run_look2_yes {T kt et : TypeId} {K : World → Value → Prop} {w : World} {b : Nat} {l : List (Value × Value)} {k v : Value} (hT : P.underlying T = some (.map kt et)) (L : KeyLaw P kt K) (h : MapAt w b l) (hk : K w k) (hl : ∀ p ∈ l, K w p.1) (hm : (k, v) ∈ l) :
    (Instr.lookup T (.map (some b)) k true).run P w = .ok (.tuple #[v, .bool true]) w := by
  obtain ⟨es, clock, hb, rfl, hs⟩ := h
  obtain ⟨e, he, hev⟩ := List.mem_map.1 hm
  obtain ⟨j, x, h1, h2, h3⟩ := seek_some (i := 0) ⟨e, he, (Prod.mk.inj hev).1⟩
  have hf := L.find w k es.toList hk fun x hx => hl _ (List.mem_map_of_mem (f := fun e => (e.key, e.val)) hx)
  have hxe : x.val = v := by
    obtain ⟨j', hj'⟩ := List.mem_iff_getElem?.1 he
    have hkk : x.key = e.key := h2.trans (Prod.mk.inj hev).1.symm
    have e1 : (es.toList.map (·.key))[j]? = some x.key := by rw [List.getElem?_map, h1]; rfl
    have e2 : (es.toList.map (·.key))[j']? = some x.key := by rw [List.getElem?_map, hj', hkk]; rfl
    have hjj : j = j' := (List.getElem?_inj (List.getElem?_eq_some_iff.1 e1).1 hs.2.2).1 (e1.trans e2.symm)
    subst hjj
    rw [h1] at hj'
    cases hj'
    exact (Prod.mk.inj hev).2
  unfold Instr.lookup
  simp only [Sem.run_bind, run_underlying hT, Result.andThen_ok, MapKept.run_getObj_map hb, Sem.run_pure, L.check w _ k hk, hf, h3, hxe]
  rfl
theorem run_look2_no {T kt et : TypeId} {K : World → Value → Prop} {w : World} {b : Nat} {l : List (Value × Value)} {k z : Value} (hT : P.underlying T = some (.map kt et)) (L : KeyLaw P kt K) (h : MapAt w b l) (hk : K w k) (hl : ∀ p ∈ l, K w p.1) (hz : (zeroValue et).run P w = .ok z w) (hm : ∀ p ∈ l, p.1 ≠ k) :
    (Instr.lookup T (.map (some b)) k true).run P w = .ok (.tuple #[z, .bool false]) w := by
  obtain ⟨es, clock, hb, rfl, hs⟩ := h
  have hf := L.find w k es.toList hk fun x hx => hl _ (List.mem_map_of_mem (f := fun e => (e.key, e.val)) hx)
  have h3 : seek k es.toList 0 = none := seek_none fun e he => hm _ (List.mem_map_of_mem (f := fun e => (e.key, e.val)) he)
  unfold Instr.lookup
  simp only [Sem.run_bind, run_underlying hT, Result.andThen_ok, MapKept.run_getObj_map hb, Sem.run_pure, L.check w _ k hk, hf, h3, hz]
  rfl
theorem run_put_over {T kt et : TypeId} {K : World → Value → Prop} {w : World} {b : Nat} {l1 l2 : List (Value × Value)} {k v0 : Value} (v : Value) (hT : P.underlying T = some (.map kt et)) (L : KeyLaw P kt K) (h : MapAt w b (l1 ++ (k, v0) :: l2)) (hk : K w k) (hl : ∀ p ∈ l1 ++ (k, v0) :: l2, K w p.1) :
    ∃ w', (Instr.mapUpdate T (.map (some b)) k v).run P w = .ok () w' ∧ MapAt w' b (l1 ++ (k, v) :: l2) ∧ Kp (fun y => y = b) w w' := by
  obtain ⟨es, clock, hb, hes, hs⟩ := h
  obtain ⟨e, he, hev⟩ : ∃ e, es.toList[l1.length]? = some e ∧ (e.key, e.val) = (k, v0) := by
    have : (es.toList.map fun e => (e.key, e.val))[l1.length]? = some (k, v0) := by rw [hes, List.getElem?_append_right (Nat.le_refl _)]; simp
    rw [List.getElem?_map] at this
    exact Option.map_eq_some_iff.1 this
  obtain ⟨j, x, h1, h2, h3⟩ := seek_some (i := 0) ⟨e, List.mem_of_getElem? he, (Prod.mk.inj hev).1⟩
  have hf := L.find w k es.toList hk fun x hx => hl (x.key, x.val) (by rw [← hes]; exact List.mem_map_of_mem (f := fun e : MapEntry => (e.key, e.val)) hx)
  have hjj : j = l1.length := by
    have hkk : x.key = e.key := h2.trans (Prod.mk.inj hev).1.symm
    have e1 : (es.toList.map (·.key))[j]? = some x.key := by rw [List.getElem?_map, h1]; rfl
    have e2 : (es.toList.map (·.key))[l1.length]? = some x.key := by rw [List.getElem?_map, he, hkk]; rfl
    exact (List.getElem?_inj (List.getElem?_eq_some_iff.1 e1).1 hs.2.2).1 (e1.trans e2.symm)
  have hej : es[j]? = some x := by rw [← h1]; simp
  have hkey : (((es[0 + j]?).map (·.key)).getD k) = k := by
    rw [Nat.zero_add, hej]
    exact h2
  refine ⟨{ w with heap := w.heap.setIfInBounds b (.map (es.modify (0 + j) fun e => { e with key := k, val := v }) clock) }, ?_, ⟨_, _, (heap_set hb).1, ?_, ?_⟩, kp_set _⟩
  · unfold Instr.mapUpdate Instr.keyThatStays
    simp only [Sem.run_bind, run_underlying hT, Result.andThen_ok, MapKept.run_getObj_map hb, L.check w _ k hk, hf, h3, hkey, L.same w k hk, if_true, Sem.run_pure, MapKept.run_setObj_map _ hb]
  · rw [Nat.zero_add]
    have e1 : ((es.modify j fun e => { e with key := k, val := v }).toList.map fun e => (e.key, e.val)) = (es.toList.map fun e => (e.key, e.val)).set j (k, v) := by
      apply List.ext_getElem?
      intro i
      rw [List.getElem?_set]
      simp only [List.getElem?_map, Array.getElem?_toList, Array.getElem?_modify, List.length_map, Array.length_toList]
      by_cases hij : j = i
      · subst hij
        have := (Array.getElem?_eq_some_iff.1 hej).1
        simp [this]
      · simp [hij]
    rw [e1, hes, hjj, List.set_append_right _ _ (Nat.le_refl _)]
    simp
  · exact stamped_modify hs _ _ (fun _ _ => rfl) (fun e _ he => by
      rw [Nat.zero_add, hej] at he
      cases he
      exact h2.symm)
end

/-- The closure that asks a list of types; its variable lies at block gb. -/
abbrev cntV (gb : Nat) : Value := .func (.func 64) #[] #[.pointer (some ⟨gb, 0, none⟩)]
def sizeV (x : Nat × Nat) : Value × Value := (.int .i64 (x.1 : Int), .int .i64 (x.2 : Int))

/-- A counter at cp: the list's box at gb, the map of sizes at mb. -/
structure Ct (w : World) (cp gb mb : Nat) (S : Nat → Prop) (L : List Ty) : Prop where
  cells : w.heap[cp]? = some (.cells #[cntV gb, .map (some mb)] 114 (0, 0))
  box : ∃ LA lc, w.heap[gb]? = some (.cells #[.slice LA L.length lc] 28 (0, 0)) ∧ ∃ vs, Tys w S LA L vs
  few : L.length ≤ 4000000
  lt : ∀ b, S b → b < w.heap.size ∧ b ≠ mb
  ne : cp ≠ mb ∧ gb ≠ mb
theorem Ct.kp {w w' : World} {cp gb mb : Nat} {S : Nat → Prop} {L : List Ty} (h : Ct w cp gb mb S L) (hk : Kp (fun y => y = mb) w w') : Ct w' cp gb mb S L := by
  obtain ⟨LA, lc, hb, vs, hT⟩ := h.box
  exact ⟨hk.heap h.cells h.ne.1, ⟨LA, lc, hk.heap hb h.ne.2, vs, hT.keep (hk.kept h.lt)⟩, h.few, fun b hb => ⟨Nat.lt_of_lt_of_le (h.lt b hb).1 hk.size, (h.lt b hb).2⟩, h.ne⟩
theorem Ct.kept {w w' : World} {cp gb mb : Nat} {S : Nat → Prop} {L : List Ty} (h : Ct w cp gb mb S L) (hk : Kp (fun y => y = mb) w w') : Kept S w w' := hk.kept h.lt

def GotRes (S : Nat → Prop) (o : Option Ty) (w : World) (e : Ending) (w' : World) : Prop :=
  match o with
  | none => e = .returned (.pointer none) ∧ w = w'
  | some u => ∃ p, e = .returned (.pointer (some p)) ∧ PtTy w S p u ∧ w = w'

set_option maxHeartbeats 4000000 in
set_option maxRecDepth 100000 in
theorem got_any (n cp gb mb : Nat) (S : Nat → Prop) (L : List Ty) (w : World) (h : Ct w cp gb mb S L) (hn : n ≤ 4000000) :
    Calls Tryd.prog 64 #[.int .i64 (n : Int), .pointer (some ⟨gb, 0, none⟩)] w (GotRes S (solv L n) w) := by
  obtain ⟨LA, lc, hb, vs, hT⟩ := h.box
  have hfew := h.few
  obtain ⟨m, hm⟩ : ∃ m, m = L.length := ⟨_, rfl⟩
  rw [← hm] at hb hfew
  have HM := Lib.hid hm
  clear hm
  have c0 : w.cell? ⟨gb, 0, none⟩ = some (.slice LA m lc) := (Lib.cell_of_heap hb _).trans rfl
  by_cases hlt : n < m
  · have hnl : n < L.length := by rw [← HM.out]; exact hlt
    obtain ⟨ad, u, v, rfl, hS, e0, e1, hty⟩ := hT.at_ (List.getElem?_eq_getElem hnl)
    obtain ⟨A, c, vs', rfl, rfl, h1, h2, h3, h4, _⟩ := hty.open_
    have hge : decide ((n : Int) ≥ (m : Int)) = false := by simp; omega
    have hik : (0 : Int) ≤ (n : Int) ∧ (n : Int) < (m : Int) := ⟨by omega, by omega⟩
    have hp : PtTy w S (ad.add (n * 2)) L[n] := ⟨_, _, by rw [blkAdd]; exact hS, e0, e1, hty⟩
    have HP := Lib.hid hp
    generalize ht : L[n] = t at *
    have HT := Lib.hid ht
    have HLN : Hid (L[n]? = some t) := Lib.hid (by rw [List.getElem?_eq_getElem hnl, ht])
    clear hty hp ht hT
    by_cases hnm : t.name = []
    · have hb1 : ((bs t.name).toList == []) = true := by rw [Lib.toList_data, bs_data]; simp [hnm]
      obtain ⟨l, hl⟩ : ∃ l, l = t.args.length := ⟨_, rfl⟩
      rw [← hl] at e1 h2 h3
      have HL := Lib.hid hl
      have HNM := Lib.hid hnm
      clear hl hnm
      by_cases hz : l = 0
      · have hz0 : ((l : Int) == 0) = true := by simp [hz]
        have hsn : solv L n = none := by
          unfold solv
          rw [HLN.out]
          obtain ⟨tn, tk⟩ := t
          have a1 := HNM.out
          have a2 := List.eq_nil_of_length_eq_zero (HL.out.symm.trans hz)
          simp only [Ty.name, Ty.args] at a1 a2
          subst a1 a2
          rfl
        rw [hsn]
        clear hsn
        go_enter Tryd.func64, Tryd.ntmps64
        go_wp2
        go_ret
        exact ⟨rfl, rfl⟩
      · have hsn : solv L n = some t := solv_of HLN.out fun e => by
          have := HL.out
          rw [e] at this
          exact hz (by rw [this]; rfl)
        rw [hsn]
        have hz0 : ((l : Int) == 0) = false := by simp; omega
        clear hsn
        go_enter Tryd.func64, Tryd.ntmps64
        go_wp2
        go_ret
        exact ⟨_, rfl, HP.out, rfl⟩
    · have hb1 : ((bs t.name).toList == []) = false := by rw [Lib.toList_data, bs_data]; simp [hnm]
      have hsn : solv L n = some t := solv_of HLN.out fun e => hnm (by rw [e]; rfl)
      rw [hsn]
      clear hsn hnm
      go_enter Tryd.func64, Tryd.ntmps64
      go_wp2
      go_ret
      exact ⟨_, rfl, HP.out, rfl⟩
  · have hge : decide ((n : Int) ≥ (m : Int)) = true := by simp; omega
    have hsn : solv L n = none := by
      unfold solv
      rw [List.getElem?_eq_none (by rw [← HM.out]; omega)]
    rw [hsn]
    have hmn : m ≤ n := by omega
    clear hsn hlt
    go_enter Tryd.func64, Tryd.ntmps64
    go_wp2
    go_ret
    exact ⟨rfl, rfl⟩

/-- What a type is a variable of, with a type. -/
def hasOf (L : List Ty) (t : Ty) : Bool := match varOf t with
  | some k => (solv L k).isSome
  | none => false
def HasRes (L : List Ty) (t : Ty) (w : World) (e : Ending) (w' : World) : Prop := e = .returned (.tuple #[.int .i64 (varI (varOf t)), .bool (hasOf L t)]) ∧ Below w.heap.size w w'
theorem varOf_lt {t : Ty} {k : Nat} (hg : GoodN t.name) (h : varOf t = some k) : k < 100 := by
  obtain ⟨n, ks⟩ := t
  cases ks with
  | cons a r => simp [varOf] at h
  | nil =>
    simp only [varOf] at h
    simp only [Ty.name] at hg
    rcases hg with hg | ⟨j, hj, rfl⟩
    · rw [hg] at h
      cases h
    · rw [vnum_name] at h
      cases h
      exact hj

set_option maxHeartbeats 4000000 in
set_option maxRecDepth 100000 in
theorem has_any (cp gb mb : Nat) (S : Nat → Prop) (L : List Ty) (p : Addr) (t : Ty) (w : World) (h : Ct w cp gb mb S L) (hp : PtTy w S p t) (hg : GoodN t.name) :
    Calls Tryd.prog 65 #[.pointer (some ⟨cp, 0, none⟩), .pointer (some p)] w (HasRes L t w) := by
  obtain ⟨A, c, hS, e0, e1, hl, hc1, hc2, harg⟩ := hp.cells
  have hva := variable_any p t.name A t.args.length c w e0 e1 hg hl
  rw [← varOf_mk, show Ty.mk t.name t.args = t from by cases t; rfl] at hva
  have HVA := Lib.hid hva
  have HG := Lib.hid hg
  clear hva e0 e1 hg harg
  go_enter Tryd.func65, Tryd.ntmps65
  go_wp2_with fail
  refine HVA.out.mono ?_
  rintro e w1 ⟨rfl, hb1⟩
  have h1 := h.kp (Kp.ofBelow hb1)
  have d0 : w1.cell? ⟨cp, 0, none⟩ = some (cntV gb) := (Lib.cell_of_heap h1.cells _).trans rfl
  have HB := Lib.hid hb1
  clear hb1
  cases hv : varOf t with
  | none =>
    have hh : hasOf L t = false := by unfold hasOf; rw [hv]
    have HV := Lib.hid hv
    have HH := Lib.hid hh
    simp only [varI, Option.isSome_none]
    clear hv hh
    go_wp2
    go_ret2
    exact ⟨by rw [HV.out, HH.out]; rfl, HB.out⟩
  | some k =>
    have hk := varOf_lt HG.out hv
    have GO := Lib.hid (got_any k cp gb mb S L w1 h1 (by omega))
    have hh : hasOf L t = (solv L k).isSome := by unfold hasOf; rw [hv]
    have HV := Lib.hid hv
    have HH := Lib.hid hh
    simp only [varI, Option.isSome_some]
    clear hv hh
    go_wp2_with fail
    refine GO.out.mono ?_
    cases hs : solv L k with
    | none =>
      rintro e w2 ⟨rfl, rfl⟩
      have HS := Lib.hid hs
      clear hs
      go_wp2
      refine bodyPost_ret (by first | (simp [results, go_sem]; done) | (simp [results, go_sem]; rfl)) rfl ?_
      exact ⟨by rw [HV.out, HH.out, HS.out]; rfl, HB.out⟩
    | some u =>
      rintro e w2 ⟨q, rfl, _, rfl⟩
      have HS := Lib.hid hs
      clear hs
      go_wp2
      refine bodyPost_ret (by first | (simp [results, go_sem]; done) | (simp [results, go_sem]; rfl)) rfl ?_
      exact ⟨by rw [HV.out, HH.out, HS.out]; rfl, HB.out⟩
end

section
open Go.RowKit Go.MapKept
/-- The sizes that are known are right, but for those of variables above. -/
def MemoOk (θ : Nat → Ty) (ρ : Ty → Nat) (t : Ty) (M : List (Nat × Nat)) : Prop := ∀ x ∈ M, x.2 = capS (θ x.1).size ∨ ρ t < ρ (tyV x.1)
def NodRes (θ : Nat → Ty) (t : Ty) (mb : Nat) (M : List (Nat × Nat)) (w : World) (e : Ending) (w' : World) : Prop :=
  ∃ N : List (Nat × Nat), e = .returned (.int .i64 ((capS (sub θ t).size : Nat) : Int)) ∧ MapAt w' mb ((M ++ N).map sizeV) ∧ (∀ x ∈ N, x.2 = capS (θ x.1).size) ∧ Kp (fun y => y = mb) w w'
theorem size_keys {w : World} {M : List (Nat × Nat)} : ∀ p ∈ M.map sizeV, KInt w p.1 := by
  intro p hp
  obtain ⟨g, _, rfl⟩ := List.mem_map.1 hp
  exact ⟨_, rfl⟩
theorem size_ne {M : List (Nat × Nat)} {k : Nat} (h : ∀ x ∈ M, x.1 ≠ k) : ∀ p ∈ M.map sizeV, p.1 ≠ .int .i64 (k : Int) := by
  intro p hp e
  obtain ⟨g, hg, rfl⟩ := List.mem_map.1 hp
  have := Value.int.inj e
  exact h g hg (by omega)

set_option maxHeartbeats 8000000 in
set_option maxRecDepth 100000 in
theorem nodes_any (cp gb mb : Nat) (S : Nat → Prop) (L : List Ty) (Q : Ty → Prop) (hQ : Down Q) (hQL : ∀ n u, solv L n = some u → Q u) (ρ : Ty → Nat) (hr : Rank (solv L) ρ) (θ : Nat → Ty) (hθ : Appl (solv L) θ) :
    ∀ (D : Nat) (t : Ty) (p : Addr) (M : List (Nat × Nat)) (w : World), ρ t ≤ D → Ct w cp gb mb S L → PtTy w S p t → Q t → MapAt w mb (M.map sizeV) → MemoOk θ ρ t M →
    Calls Tryd.prog 47 #[.pointer (some ⟨cp, 0, none⟩), .pointer (some p)] w (NodRes θ t mb M w) := by
  intro D
  induction D using Nat.strongRecOn with | ind D ih => ?_
  intro t p M w hD hct hp hq hm hM
  have IH := Lib.hid ih
  have HAS := Lib.hid (has_any cp gb mb S L p t w hct hp (hQ.name t hq))
  clear ih
  go_enter Tryd.func47, Tryd.ntmps47
  go_wp2_with fail
  refine HAS.out.mono ?_
  rintro e w1 ⟨rfl, hb1⟩
  have hk1 : Kp (fun y => y = mb) w w1 := Kp.ofBelow hb1
  have hct1 := hct.kp hk1
  have hm1 := hm.same (hb1.block _ hm.lt)
  have hp1 := hp.keep (hct.kept hk1)
  have d1 : w1.cell? ⟨cp, 1, none⟩ = some (.map (some mb)) := (Lib.cell_of_heap hct1.cells _).trans rfl
  have d0 : w1.cell? ⟨cp, 0, none⟩ = some (cntV gb) := (Lib.cell_of_heap hct1.cells _).trans rfl
  by_cases hh : ∃ k u, varOf t = some k ∧ solv L k = some u
  · obtain ⟨k, u, hv, hs⟩ := hh
    have hhas : hasOf L t = true := by unfold hasOf; rw [hv]; simp [hs]
    have htk : t = tyV k := good_tyV (hQ.name t hq) hv
    have hk100 := varOf_lt (hQ.name t hq) hv
    have hsz : (sub θ t).size = (θ k).size := by rw [sub_var hv]
    have hsu : (sub θ u).size = (θ k).size := by rw [hθ.sat k u hs]
    have hru := hr.given t k u hv hs
    rw [hhas, hv]
    simp only [varI]
    have HSZ := Lib.hid hsz
    have HSU := Lib.hid hsu
    have HS := Lib.hid hs
    have HTK := Lib.hid htk
    have HM1 := Lib.hid hm1
    have HK1 := Lib.hid hk1
    clear hsz hsu hs htk hm1 hv hhas
    by_cases hin : ∃ v, (k, v) ∈ M
    · obtain ⟨v, hv⟩ := hin
      have hlk := run_look2_yes Tryd.underlying112 law_int HM1.out (k := .int .i64 (k : Int)) (v := .int .i64 (v : Int)) ⟨_, rfl⟩ size_keys (List.mem_map.2 ⟨_, hv, rfl⟩)
      have hvv : v = capS (θ k).size := by
        rcases hM _ hv with h | h
        · exact h
        · rw [HTK.out] at h
          simp at h
      have HV := Lib.hid hvv
      clear hvv hv
      go_wp2
      go_ret
      exact ⟨[], by rw [HV.out, HSZ.out]; rfl, by rw [List.append_nil]; exact HM1.out, fun x hx => (by cases hx), HK1.out⟩
    · have hno : ∀ x ∈ M, x.1 ≠ k := fun x hx e => hin ⟨x.2, by rw [← e]; exact hx⟩
      have hlk := run_look2_no Tryd.underlying112 law_int HM1.out (k := .int .i64 (k : Int)) ⟨_, rfl⟩ size_keys (Tryd.zeroValue3 w1) (size_ne hno)
      obtain ⟨w2, hput, hm2, hk2⟩ := run_put_new (.int .i64 201) Tryd.underlying112 law_int HM1.out (k := .int .i64 (k : Int)) ⟨_, rfl⟩ size_keys (size_ne hno)
      have hct2 := hct1.kp hk2
      have HK2 := Lib.hid (HK1.out.trans hk2 fun _ _ h => h)
      have HM2 : Hid (MapAt w2 mb ((M ++ [(k, 201)]).map sizeV)) := Lib.hid (by rw [List.map_append]; exact hm2)
      have c0 : w2.cell? ⟨cp, 0, none⟩ = some (cntV gb) := (Lib.cell_of_heap hct2.cells _).trans rfl
      have c1 : w2.cell? ⟨cp, 1, none⟩ = some (.map (some mb)) := (Lib.cell_of_heap hct2.cells _).trans rfl
      have HD2 : Hid (Ct w2.drew cp gb mb S L) := Lib.hid (hct2.kp (Kp.ofBelow (Below.refl _ _).drew))
      clear hm2 hk2 hin
      go_wp2_with fail
      refine wp_region_held' (fun w' => w'.cell? ⟨cp, 0, none⟩ = some (cntV gb) ∧ w'.cell? ⟨cp, 1, none⟩ = some (.map (some mb))) [] [0, 1, 2, 3, 4, 5, 6, 7, 8, 9, 10] [11, 12] [13] (by kernel_rfl) (by kernel_rfl) ?s0 ?h0
      case s0 => exact ⟨c0, c1⟩
      case h0 =>
        simp only [opsAt, List.filterMap_cons, List.filterMap_nil, List.getElem?_toArray, List.getElem?_cons_succ, List.getElem?_cons_zero]
        refine wpFloat_nil ?_
        refine wpLoad_step ?v0 rfl (fun w' hS => ?y0) ?k0
        case y0 =>
          obtain ⟨h1, h2⟩ := hS
          go_simp
          try rfl
        case k0 =>
        go_simp
        refine wpLoad_step ?v1 rfl (fun w' hS => ?y1) ?k1
        case y1 =>
          obtain ⟨h1, h2⟩ := hS
          go_simp
          try rfl
        case k1 =>
        go_simp
        refine wpLoad_step ?v2 rfl (fun w' hS => ?y2) ?k2
        case y2 =>
          obtain ⟨h1, h2⟩ := hS
          go_simp
          try rfl
        case k2 =>
        go_simp
        refine wpLoad_step ?v3 rfl (fun w' hS => ?y3) ?k3
        case y3 =>
          obtain ⟨h1, h2⟩ := hS
          go_simp
          try rfl
        case k3 =>
        go_simp
        refine wpLoad_step ?v4 rfl (fun w' hS => ?y4) ?k4
        case y4 =>
          obtain ⟨h1, h2⟩ := hS
          go_simp
          try rfl
        case k4 =>
        go_simp
        refine wpLoad_step ?v5 rfl (fun w' hS => ?y5) ?k5
        case y5 =>
          obtain ⟨h1, h2⟩ := hS
          go_simp
          try rfl
        case k5 =>
        go_simp
        refine wpLoad_step ?v6 rfl (fun w' hS => ?y6) ?k6
        case y6 =>
          obtain ⟨h1, h2⟩ := hS
          go_simp
          try rfl
        case k6 =>
        go_simp
        refine wpLoad_step ?v7 rfl (fun w' hS => ?y7) ?k7
        case y7 =>
          obtain ⟨h1, h2⟩ := hS
          go_simp
          try rfl
        case k7 =>
        go_simp
        refine wpLoad_step ?v8 rfl (fun w' hS => ?y8) ?k8
        case y8 =>
          obtain ⟨h1, h2⟩ := hS
          go_simp
          try rfl
        case k8 =>
        go_simp
        refine wpLoad_step ?v9 rfl (fun w' hS => ?y9) ?k9
        case y9 =>
          obtain ⟨h1, h2⟩ := hS
          go_simp
          try rfl
        case k9 =>
        go_simp
        refine wpLoad_step ?v10 rfl (fun w' hS => ?y10) ?k10
        case y10 =>
          obtain ⟨h1, h2⟩ := hS
          go_simp
          try rfl
        case k10 =>
        go_simp
        refine wpLoad_nil ?_
        refine wpKeep_step rfl ?_
        go_simp
        have GO := got_any k cp gb mb S L w2.drew HD2.out (by omega)
        rw [HS.out] at GO
        refine GO.mono ?_
        rintro e w3 ⟨q, rfl, hpq, rfl⟩
        refine ⟨⟨c0, c1⟩, ?_⟩
        refine wpKeep_step rfl ?_
        go_simp
        refine (IH.out (ρ u) (by omega) u q (M ++ [(k, 201)]) w2.drew (Nat.le_refl _) HD2.out hpq (hQL k u HS.out) (HM2.out.same rfl) (fun x hx => ?_)).mono ?_
        · rcases List.mem_append.1 hx with hx | hx
          · rcases hM x hx with h | h
            · exact .inl h
            · exact .inr (by omega)
          · obtain rfl := List.mem_singleton.1 hx
            right
            have := hru
            rw [HTK.out] at this
            exact this
        rintro e w4 ⟨N, rfl, hm4, hN, hk4⟩
        have hct4 := HD2.out.kp hk4
        have b0 : w4.cell? ⟨cp, 0, none⟩ = some (cntV gb) := (Lib.cell_of_heap hct4.cells _).trans rfl
        have b1 : w4.cell? ⟨cp, 1, none⟩ = some (.map (some mb)) := (Lib.cell_of_heap hct4.cells _).trans rfl
        refine ⟨⟨b0, b1⟩, ?_⟩
        refine wpKeep_nil ?_
        have hl4 : ((M ++ [(k, 201)]) ++ N).map sizeV = M.map sizeV ++ (.int .i64 (k : Int), .int .i64 ((201 : Nat) : Int)) :: N.map sizeV := by simp [sizeV]
        rw [hl4] at hm4
        obtain ⟨w5, hput5, hm5, hk5⟩ := run_put_over (.int .i64 ((capS (sub θ u).size : Nat) : Int)) Tryd.underlying112 law_int hm4 (by exact ⟨_, rfl⟩) (by rw [← hl4]; exact size_keys)
        have hct5 := hct4.kp hk5
        have e1 : w5.cell? ⟨cp, 1, none⟩ = some (.map (some mb)) := (Lib.cell_of_heap hct5.cells _).trans rfl
        have hl5 : M.map sizeV ++ (.int .i64 (k : Int), .int .i64 ((capS (sub θ u).size : Nat) : Int)) :: N.map sizeV = (M ++ (k, capS (sub θ u).size) :: N).map sizeV := by simp [sizeV]
        rw [hl5] at hm5
        have hlk5 := run_look_yes Tryd.underlying112 law_int hm5 (k := .int .i64 (k : Int)) (v := .int .i64 ((capS (sub θ u).size : Nat) : Int)) ⟨_, rfl⟩ size_keys (List.mem_map.2 ⟨(k, capS (sub θ u).size), by simp, rfl⟩)
        have HM5 := Lib.hid hm5
        have HK5 := Lib.hid (((HK2.out.drew).trans hk4 fun _ _ h => h).trans hk5 fun _ _ h => h)
        have HN := Lib.hid hN
        have HE : Hid (capS (sub θ u).size = capS (θ k).size) := Lib.hid (by rw [HSU.out])
        clear hm4 hm5 hk4 hk5 hN hl4 hl5 hput
        go_wp2
        refine NoPanic.normal ?_
        go_wp2
        go_ret
        refine ⟨(k, capS (sub θ u).size) :: N, by rw [HSZ.out, HE.out]; rfl, HM5.out, fun x hx => ?_, HK5.out⟩
        rcases List.mem_cons.1 hx with rfl | hx
        · exact HE.out
        · exact HN.out x hx
  · have hhas : hasOf L t = false := by
      unfold hasOf
      cases hv : varOf t with
      | none => rfl
      | some k =>
        cases hs : solv L k with
        | none => simp [hs]
        | some u => exact absurd ⟨k, u, hv, hs⟩ hh
    have hsz : (sub θ t).size = 1 + sizesL θ t.args := by
      cases hv : varOf t with
      | none => exact size_node hv
      | some k =>
        have hs : solv L k = none := by
          cases hs : solv L k with
          | none => rfl
          | some u => exact absurd ⟨k, u, hv, hs⟩ hh
        rw [sub_var hv, hθ.free k hs, varOf_args hv]
        rfl
    rw [hhas]
    obtain ⟨A, c, hS, e0, e1, hl, hc1, hc2, harg⟩ := hp1.cells
    obtain ⟨m, hmm⟩ : ∃ m, m = t.args.length := ⟨_, rfl⟩
    rw [← hmm] at e1 hl hc1
    have HMM := Lib.hid hmm
    have HSZ := Lib.hid hsz
    have HM1 := Lib.hid hm1
    have HK1 := Lib.hid hk1
    have HARG := Lib.hid harg
    have hpb := (hct1.lt _ hS)
    clear hmm hsz hm1 hhas harg e0
    go_wp2_with fail
    go_loopw [9, 58] (fun s i wr => ∃ (k : Nat) (N : List (Nat × Nat)), k ≤ m ∧ i = .int .i64 k ∧ s = .int .i64 ((capS (1 + sizesL θ (t.args.take k)) : Nat) : Int) ∧ MapAt wr mb ((M ++ N).map sizeV) ∧ (∀ x ∈ N, x.2 = capS (θ x.1).size) ∧ Kp (fun y => y = mb) w1 wr) (fun _ i _ => m - (intOf i).toNat)
    case atStart => exact ⟨0, [], Nat.zero_le _, rfl, rfl, by rw [List.append_nil]; exact HM1.out, fun x hx => (by cases hx), Kp.refl _ _⟩
    case round =>
      obtain ⟨k, N, hk, rfl, rfl, hmr, hN, hkr⟩ := hrel
      have hctr := hct1.kp hkr
      have er := (World.cell?_of_block (a := ⟨p.block, p.off + 1, none⟩) (hkr.block p.block hpb.1 hpb.2)).trans e1
      have HCTR := Lib.hid hctr
      have HMR := Lib.hid hmr
      have HN := Lib.hid hN
      have HKR := Lib.hid hkr
      clear hctr hmr hN hkr
      by_cases hlt : k < m
      · have hki : k < t.args.length := by rw [← HMM.out]; exact hlt
        obtain ⟨ad, rfl, hpa⟩ := HARG.out k _ (List.getElem?_eq_getElem hki)
        have hmem : t.args[k] ∈ t.args := List.getElem_mem hki
        have hrk := hr.arg t _ hmem
        have CALL := Lib.hid (IH.out (ρ t.args[k]) (by omega) t.args[k] (ad.add (k * 2)) (M ++ N) wr (Nat.le_refl _) HCTR.out (hpa.keep (hct1.kept HKR.out)) (hQ.arg t _ hq hmem) HMR.out (fun x hx => by
          rcases List.mem_append.1 hx with h | h
          · rcases hM x h with h | h
            · exact .inl h
            · exact .inr (by omega)
          · exact .inl (HN.out x h)))
        have hik : (0 : Int) ≤ (k : Int) ∧ (k : Int) < (m : Int) := ⟨by omega, by omega⟩
        have HSX := Lib.hid (sizesL_take (θ := θ) (List.getElem?_eq_getElem hki))
        have hs1 := capS_le (1 + sizesL θ (t.args.take k))
        have hs2 := capS_le (sub θ t.args[k]).size
        have HCA := Lib.hid (capS_add (a := 1 + sizesL θ (t.args.take k)) (b := (sub θ t.args[k]).size))
        generalize hx : capS (1 + sizesL θ (t.args.take k)) = x at *
        generalize hy : capS (sub θ t.args[k]).size = y at *
        have HX := Lib.hid hx
        have HY := Lib.hid hy
        clear hx hy
        go_wp2_with fail
        refine CALL.out.mono ?_
        rintro e w4 ⟨N4, rfl, hm4, hN4, hk4⟩
        rw [HY.out]
        have HM4 : Hid (MapAt w4 mb ((M ++ (N ++ N4)).map sizeV)) := Lib.hid (by rw [← List.append_assoc]; exact hm4)
        have HN4 := Lib.hid hN4
        have HK4 := Lib.hid (HKR.out.trans hk4 fun _ _ h => h)
        clear hm4 hN4 hk4
        go_wp2
        go_roundw
        case rel =>
          refine ⟨k + 1, N ++ N4, by omega, by go_num, ?_, HM4.out, fun z hz => ?_, HK4.out⟩
          · have h1 := HCA.out
            rw [HSX.out, ← Nat.add_assoc, ← h1]
            go_num
          · rcases List.mem_append.1 hz with h | h
            · exact HN.out z h
            · exact HN4.out z h
        case measure => simp [intOf]; omega
      · obtain rfl : k = m := by omega
        have hx : t.args.take k = t.args := List.take_of_length_le (by rw [← HMM.out]; exact Nat.le_refl _)
        rw [hx]
        have HX := Lib.hid hx
        clear hx
        go_wp2
        go_ret
        exact ⟨N, by rw [HSZ.out]; rfl, HMR.out, HN.out, HK1.out.trans HKR.out fun _ _ h => h⟩
end
end Go.Proofs.YtndhglcdkegigaaDoor
