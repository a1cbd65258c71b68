/-
  The walks of (*unify.Counter).Apply, types.counter, types.Nodes and types.Apply.
  Conditions: names are good, all the way down; there is a rank.
-/
import Derived.Test.YtndhglcdkegigaaDoorApd
namespace Go.Proofs.YtndhglcdkegigaaDoor
open Go.RowKit Go.MapKept

def errT : Ty := .mk [101, 114, 114, 111, 114] []
/-- What Apply makes: too wide a type becomes the broken one. -/
def appT (θ : Nat → Ty) (t : Ty) : Ty := if (sub θ t).size > 200 then errT else sub θ t

def ApplyRes (t : Ty) (mb : Nat) (w : World) (e : Ending) (w' : World) : Prop :=
  ∃ u v, e = .returned (.agg #[u, v]) ∧ TyIs w' (Fr w.heap.size w'.heap.size) t u v ∧ Kp (fun y => y = mb) w w'

set_option maxHeartbeats 8000000 in
set_option maxRecDepth 100000 in
theorem capply_any (cp gb mb : Nat) (S : Nat → Prop) (L : List Ty) (Q : Ty → Prop) (hQ : Down Q) (hQL : ∀ n u, solv L n = some u → Q u) (ρ : Ty → Nat) (hr : Rank (solv L) ρ) (θ : Nat → Ty) (hθ : Appl (solv L) θ)
    (t : Ty) (p : Addr) (w : World) (hct : Ct w cp gb mb S L) (hp : PtTy w S p t) (hq : Q t) (hm : MapAt w mb (([] : List (Nat × Nat)).map sizeV)) :
    Calls Tryd.prog 49 #[.pointer (some ⟨cp, 0, none⟩), .pointer (some p)] w (ApplyRes (appT θ t) mb w) := by
  have hb0 : Below w.heap.size w (w.alloc (.cells #[.string ⟨#[]⟩, .slice none 0 0] 30)) := (Below.refl _ _).alloc (Nat.le_refl _) _
  have hR0 := alloc1 w (.cells #[.string ⟨#[]⟩, .slice none 0 0] 30)
  have hct0 := hct.kp (Kp.ofBelow hb0)
  have hp0 := hp.keep (hct.kept (Kp.ofBelow hb0))
  have hm0 := hm.same (hb0.block _ hm.lt)
  have hml := hm.lt
  have NOD := Lib.hid (nodes_any cp gb mb S L Q hQ hQL ρ hr θ hθ (ρ t) t p [] _ (Nat.le_refl _) hct0 hp0 hq hm0 (fun x hx => by cases hx))
  have hsz0 : (w.alloc (.cells #[.string ⟨#[]⟩, .slice none 0 0] 30)).heap.size = w.heap.size + 1 := by simp
  have HM := Lib.hid hm
  clear hm
  go_enter Tryd.func49, Tryd.ntmps49
  go_wp2_with fail
  refine NOD.out.mono ?_
  generalize w.alloc (.cells #[.string ⟨#[]⟩, .slice none 0 0] 30) = w0 at *
  rintro e w1 ⟨N, rfl, hm1, hN, hk1⟩
  have hct1 := hct0.kp hk1
  have hp1 := hp0.keep (hct0.kept hk1)
  have hR1 := hk1.heap hR0 (by omega)
  have hkw : Kp (fun y => y = mb) w w1 := (Kp.ofBelow hb0).trans hk1 fun _ _ h => h
  have hsz1 := hk1.size
  have hRl := lt_of_heap hR1
  have r0 : w1.cell? ⟨w.heap.size, 0, none⟩ = some (.string ⟨#[]⟩) := (Lib.cell_of_heap hR1 _).trans rfl
  have r1 : w1.cell? ⟨w.heap.size, 1, none⟩ = some (.slice none 0 0) := (Lib.cell_of_heap hR1 _).trans rfl
  have z0 : w1.frozen? ⟨w.heap.size, 0, none⟩ = false := Lib.frozen_of_heap hR1 0
  have z1 : w1.frozen? ⟨w.heap.size, 1, none⟩ = false := Lib.frozen_of_heap hR1 1
  obtain ⟨x, hx⟩ : ∃ x, x = capS (sub θ t).size := ⟨_, rfl⟩
  rw [← hx]
  have HX := Lib.hid hx
  have HKW := Lib.hid hkw
  have HR1 := Lib.hid hR1
  have HR0 := Lib.hid hR0
  clear hx hkw hm1 hk1 hR0 hR1 hN
  by_cases hgt : x > 200
  · have hap : appT θ t = errT := by
      have h1 := HX.out
      unfold capS at h1
      unfold appT
      rw [if_pos (by omega)]
    have HAP := Lib.hid hap
    have hg1 : decide ((x : Int) > 200) = true := by simp; omega
    clear hap
    go_wp2_with fail
    have hR3 : ((w1.setCell ⟨w.heap.size, 0, none⟩ (.string ⟨#[101, 114, 114, 111, 114]⟩)).setCell ⟨w.heap.size, 1, none⟩ (.slice none 0 0)).heap[w.heap.size]? = some (.cells #[.string ⟨#[101, 114, 114, 111, 114]⟩, .slice none 0 0] 30 (0, 0)) := setCell_heap (setCell_heap HR1.out)
    have q0 : ((w1.setCell ⟨w.heap.size, 0, none⟩ (.string ⟨#[101, 114, 114, 111, 114]⟩)).setCell ⟨w.heap.size, 1, none⟩ (.slice none 0 0)).cell? ⟨w.heap.size, 0, none⟩ = some (.string ⟨#[101, 114, 114, 111, 114]⟩) := (Lib.cell_of_heap hR3 _).trans rfl
    have q1 : ((w1.setCell ⟨w.heap.size, 0, none⟩ (.string ⟨#[101, 114, 114, 111, 114]⟩)).setCell ⟨w.heap.size, 1, none⟩ (.slice none 0 0)).cell? ⟨w.heap.size, 1, none⟩ = some (.slice none 0 0) := (Lib.cell_of_heap hR3 _).trans rfl
    refine bodyPost_ret (v := .agg #[.string ⟨#[101, 114, 114, 111, 114]⟩, .slice none 0 0]) ?_ rfl ?_
    · clear HX HKW HR1 HR0 hR3 NOD HM HAP
      simp [results, Tryd.results49, go_sem, q0, q1]
    · refine ⟨_, _, rfl, ?_, ?_⟩
      · rw [HAP.out]
        exact (Tys.nil _ _ none).close (by decide) (Nat.zero_le _) ⟨Nat.le_refl _, Nat.zero_le _⟩
      · exact (HKW.out.setCell (fun h => absurd h (by simp)) _).setCell (fun h => absurd h (by simp)) _
  · have hap : appT θ t = sub θ t := by
      have h1 := HX.out
      unfold capS at h1
      unfold appT
      rw [if_neg (by omega)]
    have HAP := Lib.hid hap
    have hg1 : decide ((x : Int) > 200) = false := by simp; omega
    have CALL := Lib.hid (applied_any cp gb mb S L Q hQ hQL ρ hr θ hθ (ρ t) t p w1 (Nat.le_refl _) hct1 hp1 hq)
    clear hap
    go_wp2_with fail
    refine CALL.out.mono ?_
    rintro e w2 ⟨u1, v1, rfl, hT, hb2⟩
    obtain ⟨u1, v1, rfl, rfl⟩ := hT.shape
    have hR2 := (hb2.block _ hRl).trans HR1.out
    have r0 : w2.cell? ⟨w.heap.size, 0, none⟩ = some (.string ⟨#[]⟩) := (Lib.cell_of_heap hR2 _).trans rfl
    have r1 : w2.cell? ⟨w.heap.size, 1, none⟩ = some (.slice none 0 0) := (Lib.cell_of_heap hR2 _).trans rfl
    have z0 : w2.frozen? ⟨w.heap.size, 0, none⟩ = false := Lib.frozen_of_heap hR2 0
    have z1 : w2.frozen? ⟨w.heap.size, 1, none⟩ = false := Lib.frozen_of_heap hR2 1
    have HT := Lib.hid hT
    have HK2 := Lib.hid (HKW.out.below hb2)
    have HR2 := Lib.hid hR2
    have hsz2 := hb2.size
    clear hT hb2 hR2
    go_wp2_with fail
    have hR3 : ((w2.setCell ⟨w.heap.size, 0, none⟩ (.string (bs u1))).setCell ⟨w.heap.size, 1, none⟩ (.slice v1.1 v1.2.1 v1.2.2)).heap[w.heap.size]? = some (.cells #[sv u1, .slice v1.1 v1.2.1 v1.2.2] 30 (0, 0)) := setCell_heap (setCell_heap HR2.out)
    have q0 : ((w2.setCell ⟨w.heap.size, 0, none⟩ (.string (bs u1))).setCell ⟨w.heap.size, 1, none⟩ (.slice v1.1 v1.2.1 v1.2.2)).cell? ⟨w.heap.size, 0, none⟩ = some (sv u1) := (Lib.cell_of_heap hR3 _).trans rfl
    have q1 : ((w2.setCell ⟨w.heap.size, 0, none⟩ (.string (bs u1))).setCell ⟨w.heap.size, 1, none⟩ (.slice v1.1 v1.2.1 v1.2.2)).cell? ⟨w.heap.size, 1, none⟩ = some (.slice v1.1 v1.2.1 v1.2.2) := (Lib.cell_of_heap hR3 _).trans rfl
    refine bodyPost_ret (v := .agg #[sv u1, .slice v1.1 v1.2.1 v1.2.2]) ?_ rfl ?_
    · clear HT HK2 HR2 hR3 NOD HM HAP CALL HX HKW HR1 HR0
      simp [results, Tryd.results49, go_sem, q0, q1]
    · refine ⟨_, _, rfl, ?_, (HK2.out.setCell (fun h => absurd h (by simp)) _).setCell (fun h => absurd h (by simp)) _⟩
      rw [HAP.out]
      refine (HT.out.keep (Kept.trans (keptGrown (row := some w.heap.size) grownSet fun x hx => ⟨hx.2, ?_⟩) (keptGrown (row := some w.heap.size) grownSet fun x hx => ⟨by rw [sizeSet]; exact hx.2, ?_⟩))).more fun x hx => ⟨?_, ?_⟩
      · intro e; injection e with e; have := hx.1; omega
      · intro e; injection e with e; have := hx.1; omega
      · have := hx.1; omega
      · have := hx.2; simp only [sizeSet]; omega

/-- A counter that was just made. -/
def CtRes (S : Nat → Prop) (L : List Ty) (w : World) (e : Ending) (w' : World) : Prop :=
  ∃ cp gb mb, e = .returned (.pointer (some ⟨cp, 0, none⟩)) ∧ Ct w' cp gb mb S L ∧ MapAt w' mb (([] : List (Nat × Nat)).map sizeV) ∧ Below w.heap.size w w' ∧ w.heap.size ≤ mb

set_option maxHeartbeats 4000000 in
set_option maxRecDepth 100000 in
theorem newCounter_any (gb : Nat) (w : World) : Calls Tryd.prog 63 #[cntV gb] w fun e w' => e = .returned (.pointer (some ⟨w.heap.size + 1, 0, none⟩)) ∧ w' = (w.alloc (.map #[] 0)).alloc (.cells #[cntV gb, .map (some w.heap.size)] 114) := by
  have hmm := @run_makeMap Tryd.prog
  go_enter Tryd.func63, Tryd.ntmps63
  go_wp2
  go_ret
  exact ⟨rfl, rfl⟩

set_option maxHeartbeats 4000000 in
set_option maxRecDepth 100000 in
theorem counter_any (S : Nat → Prop) (L : List Ty) (LA : Option Addr) (lc : Nat) (vs : List (Value × Value)) (w : World) (hT : Tys w S LA L vs) (hS : ∀ b, S b → b < w.heap.size) (hl : L.length ≤ 4000000) :
    Calls Tryd.prog 46 #[.slice LA L.length lc] w (CtRes S L w) := by
  obtain ⟨m, hm⟩ : ∃ m, m = L.length := ⟨_, rfl⟩
  rw [← hm]
  have HM := Lib.hid hm
  have HT := Lib.hid hT
  have HL := Lib.hid hl
  have h3 := alloc3 w (.cells #[.slice LA m lc] 28) (.map #[] 0) (.cells #[cntV w.heap.size, .map (some (w.heap.size + 1))] 114)
  have hb3 : Below w.heap.size w (((w.alloc (.cells #[.slice LA m lc] 28)).alloc (.map #[] 0)).alloc (.cells #[cntV w.heap.size, .map (some (w.heap.size + 1))] 114)) := (((Below.refl _ _).alloc (Nat.le_refl _) _).alloc (by simp) _).alloc (by simp; omega) _
  have H3 := Lib.hid h3
  have HB3 := Lib.hid hb3
  have HS := Lib.hid hS
  have HN := Lib.hid (newCounter_any w.heap.size (w.alloc (.cells #[.slice LA m lc] 28)))
  clear hm hT hl h3 hb3 hS
  go_enter Tryd.func46, Tryd.ntmps46
  go_wp2_with fail
  refine HN.out.mono ?_
  rintro e w1 ⟨rfl, rfl⟩
  go_wp2
  go_ret
  refine ⟨w.heap.size + 1 + 1, w.heap.size, w.heap.size + 1, rfl, ⟨H3.out.2.2, ⟨LA, lc, by rw [← HM.out]; exact H3.out.1, vs, HT.out.keep ((kept_below HB3.out).sub HS.out)⟩, HL.out, fun b hb => ⟨?_, ?_⟩, by omega, by omega⟩, ⟨#[], 0, H3.out.2.1, rfl, stamped_empty 0⟩, HB3.out, by omega⟩
  · have := HS.out b hb
    simp
    omega
  · have := HS.out b hb
    omega

theorem ptBox {w : World} {t : Ty} {n : List UInt8} {s : Option Addr × Nat × Nat} (h : TyIs w (Lt w.heap.size) t (sv n) (.slice s.1 s.2.1 s.2.2)) :
    PtTy (w.alloc (.cells #[sv n, .slice s.1 s.2.1 s.2.2] 30)) (Lt (w.alloc (.cells #[sv n, .slice s.1 s.2.1 s.2.2] 30)).heap.size) ⟨w.heap.size, 0, none⟩ t := by
  have h1 := alloc1 w (.cells #[sv n, .slice s.1 s.2.1 s.2.2] 30)
  exact ⟨_, _, lt_of_heap h1, (Lib.cell_of_heap h1 _).trans rfl, (Lib.cell_of_heap h1 _).trans rfl, h.now (Nat.le_refl _) ((Below.refl _ _).alloc (Nat.le_refl _) _)⟩

set_option maxHeartbeats 4000000 in
set_option maxRecDepth 100000 in
theorem tnodes_any (L : List Ty) (Q : Ty → Prop) (hQ : Down Q) (hQL : ∀ n u, solv L n = some u → Q u) (ρ : Ty → Nat) (hr : Rank (solv L) ρ) (θ : Nat → Ty) (hθ : Appl (solv L) θ) (LA : Option Addr) (lc : Nat) (vs : List (Value × Value))
    (t : Ty) (u v : Value) (w : World) (hT : Tys w (Lt w.heap.size) LA L vs) (ht : TyIs w (Lt w.heap.size) t u v) (hl : L.length ≤ 4000000) (hq : Q t) :
    Calls Tryd.prog 23 #[.slice LA L.length lc, .agg #[u, v]] w fun e w' => e = .returned (.int .i64 ((capS (sub θ t).size : Nat) : Int)) ∧ Below w.heap.size w w' := by
  obtain ⟨n, s, rfl, rfl⟩ := ht.shape
  have hb1 : Below w.heap.size w (w.alloc (.cells #[sv n, .slice s.1 s.2.1 s.2.2] 30)) := (Below.refl _ _).alloc (Nat.le_refl _) _
  have hp := ptBox ht
  have CN := Lib.hid (counter_any (Lt (w.alloc (.cells #[sv n, .slice s.1 s.2.1 s.2.2] 30)).heap.size) L LA lc vs (w.alloc (.cells #[sv n, .slice s.1 s.2.1 s.2.2] 30)) ((hT.keep (kept_below hb1)).more fun _ h => Nat.lt_of_lt_of_le h hb1.size) (fun _ h => h) hl)
  obtain ⟨m, hm⟩ : ∃ m, m = L.length := ⟨_, rfl⟩
  rw [← hm] at CN ⊢
  have HP := Lib.hid hp
  have HB1 := Lib.hid hb1
  clear hm hp hb1 hT ht
  go_enter Tryd.func23, Tryd.ntmps23
  go_wp2_with fail
  refine CN.out.mono ?_
  generalize w.alloc (.cells #[sv n, .slice s.1 s.2.1 s.2.2] 30) = w1 at *
  rintro e w2 ⟨cp, gb, mb, rfl, hct, hm, hb2, hmb⟩
  have hp2 := HP.out.keep (kept_below hb2)
  have NOD := Lib.hid (nodes_any cp gb mb (Lt w1.heap.size) L Q hQ hQL ρ hr θ hθ (ρ t) t _ [] w2 (Nat.le_refl _) hct hp2 hq hm (fun x hx => by cases hx))
  have HB2 := Lib.hid hb2
  have HMB := Lib.hid hmb
  clear hct hm hb2 hmb hp2
  obtain ⟨x, hx⟩ : ∃ x, x = capS (sub θ t).size := ⟨_, rfl⟩
  have HX := Lib.hid hx
  have hx200 : x ≤ 201 := by rw [hx]; exact capS_le _
  unfold NodRes at NOD
  rw [← hx] at NOD
  clear hx
  go_wp2_with fail
  refine NOD.out.mono ?_
  rintro e w3 ⟨N, rfl, _, _, hk⟩
  have HB3 : Hid (Below w.heap.size w w3) := Lib.hid (by
    have h1 := HB1.out
    have h2 := HB2.out
    have h3 := HMB.out
    exact (h1.trans (h2.mono h1.size)).trans ⟨hk.os, hk.tape, hk.output, hk.size, fun y hy => hk.block y (by have := h1.size; have := h2.size; omega) (by have := h1.size; omega)⟩)
  clear hk
  go_wp2
  go_ret
  refine ⟨?_, HB3.out⟩
  rw [← HX.out]
  refine congrArg (fun z : Int => Ending.returned (.int .i64 z)) ?_
  show min (x : Int) 201 = x
  omega

set_option maxHeartbeats 8000000 in
set_option maxRecDepth 100000 in
theorem tapply_any (L : List Ty) (Q : Ty → Prop) (hQ : Down Q) (hQL : ∀ n u, solv L n = some u → Q u) (ρ : Ty → Nat) (hr : Rank (solv L) ρ) (θ : Nat → Ty) (hθ : Appl (solv L) θ) (LA : Option Addr) (lc : Nat) (vs : List (Value × Value))
    (t : Ty) (u v : Value) (w : World) (hT : Tys w (Lt w.heap.size) LA L vs) (ht : TyIs w (Lt w.heap.size) t u v) (hl : L.length ≤ 4000000) (hq : Q t) :
    Calls Tryd.prog 25 #[.slice LA L.length lc, .agg #[u, v]] w (MadeTy (appT θ t) w) := by
  obtain ⟨n, s, rfl, rfl⟩ := ht.shape
  have hb0 : Below w.heap.size w (w.alloc (.cells #[sv n, .slice s.1 s.2.1 s.2.2] 30)) := (Below.refl _ _).alloc (Nat.le_refl _) _
  have hb1 : Below w.heap.size w ((w.alloc (.cells #[sv n, .slice s.1 s.2.1 s.2.2] 30)).alloc (.cells #[.string ⟨#[]⟩, .slice none 0 0] 30)) := hb0.alloc (by simp) _
  have hb01 : Below (w.alloc (.cells #[sv n, .slice s.1 s.2.1 s.2.2] 30)).heap.size (w.alloc (.cells #[sv n, .slice s.1 s.2.1 s.2.2] 30)) ((w.alloc (.cells #[sv n, .slice s.1 s.2.1 s.2.2] 30)).alloc (.cells #[.string ⟨#[]⟩, .slice none 0 0] 30)) := (Below.refl _ _).alloc (Nat.le_refl _) _
  have hp : PtTy ((w.alloc (.cells #[sv n, .slice s.1 s.2.1 s.2.2] 30)).alloc (.cells #[.string ⟨#[]⟩, .slice none 0 0] 30)) (Lt (w.heap.size + 1)) ⟨w.heap.size, 0, none⟩ t := by
    have := (ptBox ht).keep (kept_below hb01)
    simpa using this
  have hR := (alloc2 w (.cells #[sv n, .slice s.1 s.2.1 s.2.2] 30) (.cells #[.string ⟨#[]⟩, .slice none 0 0] 30)).2
  have CN := Lib.hid (counter_any (Lt (w.heap.size + 1)) L LA lc vs ((w.alloc (.cells #[sv n, .slice s.1 s.2.1 s.2.2] 30)).alloc (.cells #[.string ⟨#[]⟩, .slice none 0 0] 30)) ((hT.keep (kept_below hb1)).more fun _ h => by have : _ < w.heap.size := h; show _ < w.heap.size + 1; omega) (fun _ h => by have : _ < w.heap.size + 1 := h; simp; omega) hl)
  have hsz : ((w.alloc (.cells #[sv n, .slice s.1 s.2.1 s.2.2] 30)).alloc (.cells #[.string ⟨#[]⟩, .slice none 0 0] 30)).heap.size = w.heap.size + 2 := by simp
  obtain ⟨m, hm⟩ : ∃ m, m = L.length := ⟨_, rfl⟩
  rw [← hm] at CN ⊢
  have HP := Lib.hid hp
  have HB1 := Lib.hid hb1
  have HR := Lib.hid hR
  have HSZ := Lib.hid hsz
  clear hm hp hb1 hT ht hR hb01 hb0 hsz
  go_enter Tryd.func25, Tryd.ntmps25
  go_wp2_with fail
  refine CN.out.mono ?_
  generalize (w.alloc (.cells #[sv n, .slice s.1 s.2.1 s.2.2] 30)).alloc (.cells #[.string ⟨#[]⟩, .slice none 0 0] 30) = w1 at *
  rintro e w2 ⟨cp, gb, mb, rfl, hct, hm, hb2, hmb⟩
  have hp2 := HP.out.keep ((kept_below hb2).sub fun _ h => by have : _ < w.heap.size + 1 := h; have := HSZ.out; show _ < w1.heap.size; omega)
  have AP := Lib.hid (capply_any cp gb mb (Lt (w.heap.size + 1)) L Q hQ hQL ρ hr θ hθ t _ w2 hct hp2 hq hm)
  have HB2 := Lib.hid hb2
  have hsz1 := HSZ.out
  have hsz2 := hb2.size
  have hR2 := (hb2.block _ (lt_of_heap HR.out)).trans HR.out
  have HR2 := Lib.hid hR2
  clear hct hm hb2 hp2 hR2
  go_wp2_with fail
  refine AP.out.mono ?_
  rintro e w3 ⟨u1, v1, rfl, hT, hk⟩
  obtain ⟨u1, v1, rfl, rfl⟩ := hT.shape
  have hR3 := hk.heap HR2.out (by omega)
  have r0 : w3.cell? ⟨w.heap.size + 1, 0, none⟩ = some (.string ⟨#[]⟩) := (Lib.cell_of_heap hR3 _).trans rfl
  have r1 : w3.cell? ⟨w.heap.size + 1, 1, none⟩ = some (.slice none 0 0) := (Lib.cell_of_heap hR3 _).trans rfl
  have z0 : w3.frozen? ⟨w.heap.size + 1, 0, none⟩ = false := Lib.frozen_of_heap hR3 0
  have z1 : w3.frozen? ⟨w.heap.size + 1, 1, none⟩ = false := Lib.frozen_of_heap hR3 1
  have HB3 : Hid (Below w.heap.size w w3) := Lib.hid (by
    have h1 := HB1.out
    have h2 := HB2.out
    exact (h1.trans (h2.mono h1.size)).trans ⟨hk.os, hk.tape, hk.output, hk.size, fun y hy => hk.block y (by have := h1.size; have := h2.size; omega) (by omega)⟩)
  have HT := Lib.hid hT
  have HR3 := Lib.hid hR3
  have hsz3 := hk.size
  clear hT hR3 hk
  go_wp2_with fail
  have hR4 : ((w3.setCell ⟨w.heap.size + 1, 0, none⟩ (.string (bs u1))).setCell ⟨w.heap.size + 1, 1, none⟩ (.slice v1.1 v1.2.1 v1.2.2)).heap[w.heap.size + 1]? = some (.cells #[sv u1, .slice v1.1 v1.2.1 v1.2.2] 30 (0, 0)) := setCell_heap (setCell_heap HR3.out)
  have q0 : ((w3.setCell ⟨w.heap.size + 1, 0, none⟩ (.string (bs u1))).setCell ⟨w.heap.size + 1, 1, none⟩ (.slice v1.1 v1.2.1 v1.2.2)).cell? ⟨w.heap.size + 1, 0, none⟩ = some (sv u1) := (Lib.cell_of_heap hR4 _).trans rfl
  have q1 : ((w3.setCell ⟨w.heap.size + 1, 0, none⟩ (.string (bs u1))).setCell ⟨w.heap.size + 1, 1, none⟩ (.slice v1.1 v1.2.1 v1.2.2)).cell? ⟨w.heap.size + 1, 1, none⟩ = some (.slice v1.1 v1.2.1 v1.2.2) := (Lib.cell_of_heap hR4 _).trans rfl
  refine bodyPost_ret (v := .agg #[sv u1, .slice v1.1 v1.2.1 v1.2.2]) ?_ rfl ?_
  · clear HT HB3 HR3 hR4 CN AP HP HB1 HB2 HR HR2 HSZ
    simp [results, Tryd.results25, go_sem, q0, q1]
  · refine ⟨_, _, rfl, ?_, (HB3.out.setCell (by simp) _).setCell (by simp) _⟩
    refine (HT.out.keep (Kept.trans (keptGrown (row := some (w.heap.size + 1)) grownSet fun x hx => ⟨hx.2, ?_⟩) (keptGrown (row := some (w.heap.size + 1)) grownSet fun x hx => ⟨by rw [sizeSet]; exact hx.2, ?_⟩))).more fun x hx => ⟨?_, ?_⟩
    · intro e; injection e with e; have := hx.1; omega
    · intro e; injection e with e; have := hx.1; omega
    · have := hx.1; omega
    · have := hx.2; simp only [sizeSet]; omega
end Go.Proofs.YtndhglcdkegigaaDoor
