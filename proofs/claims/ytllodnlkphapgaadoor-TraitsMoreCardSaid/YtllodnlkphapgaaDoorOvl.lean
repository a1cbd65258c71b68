/-
  The walks of traits.Overlaps' test, and of slices.IndexFunc and slices.ContainsFunc with it.
  Conditions: the headers lie in memory; their types are such as plain makes.
-/
import Derived.Test.YtllodnlkphapgaaDoorOpen
import Derived.Test.YtllodnlkphapgaaDoorAnyP
import Derived.Test.YtllodnlkphapgaaDoorClone
namespace Go.Proofs.YtllodnlkphapgaaDoor
open Go.RowKit

/-- Opened types: names are no variables', or those of variables below 100. -/
inductive OTy : Ty → Prop
  | mk (n : List UInt8) (ks : List Ty) (hn : PlName n ∨ ∃ k < 100, n = vname k) (h : ∀ a ∈ ks, OTy a) : OTy (.mk n ks)
theorem OTy.out {n : List UInt8} {ks : List Ty} (h : OTy (.mk n ks)) : (PlName n ∨ ∃ k < 100, n = vname k) ∧ ∀ a ∈ ks, OTy a := by
  cases h with
  | mk _ _ h1 h2 => exact ⟨h1, h2⟩
theorem plName_vnum {n : List UInt8} (h : PlName n) : vnum n = none := by
  cases n with
  | nil => rfl
  | cons c r =>
    have hc : ¬ c = 63 := fun e => h.2 (by rw [e]; rfl)
    simp [vnum, hc]
theorem oty_down : DownN OTy := by
  refine ⟨⟨?_, ?_⟩, ?_⟩
  · rintro ⟨n, ks⟩ h
    rcases h.out.1 with h | ⟨k, hk, rfl⟩
    · exact .inl (plName_vnum h)
    · exact .inr ⟨k, hk, rfl⟩
  · rintro ⟨n, ks⟩ a h ha
    exact h.out.2 a ha
  · rintro ⟨n, ks⟩ h e
    simp only [Ty.name] at e
    rcases h.out.1 with h | ⟨k, hk, h⟩
    · exact h.1 e
    · rw [e] at h
      cases h
theorem put_oty (ns : List (List UInt8)) (vs : List Ty) (hv : ∀ a ∈ vs, OTy a ∧ a.size = 1) (p : Ty) (hp : PlTy p) : OTy (putN ns vs p) ∧ (putN ns vs p).size = p.size := by
  induction p using Ty.ind with | h n ks ih => ?_
  cases hx : parIx ns vs n ks.length with
  | some t =>
    rw [putN_some hx]
    have hm : t ∈ vs := by
      unfold parIx at hx
      split at hx
      · split at hx
        · exact List.mem_of_getElem? hx
        · cases hx
      · cases hx
    have hk : ks = [] := by
      unfold parIx at hx
      split at hx
      · rename_i h
        exact List.length_eq_zero_iff.1 (parW_args h)
      · cases hx
    subst hk
    refine ⟨(hv t hm).1, ?_⟩
    rw [(hv t hm).2]
    simp [Ty.size, sizeL]
  | none =>
    rw [putN_none hx]
    refine ⟨.mk _ _ (.inl hp.out.1) fun a ha => ?_, ?_⟩
    · obtain ⟨b, hb, rfl⟩ := List.mem_map.1 ha
      exact (ih b hb (hp.out.2 b hb)).1
    · have : ∀ l : List Ty, (∀ a ∈ l, (putN ns vs a).size = a.size) → sizeL (l.map (putN ns vs)) = sizeL l := by
        intro l
        induction l with
        | nil => intro _; rfl
        | cons a r ihr =>
          intro h
          simp only [List.map_cons, sizeL]
          rw [h a (by simp), ihr fun b hb => h b (by simp [hb])]
      simp only [Ty.size]
      rw [this ks fun a ha => (ih a ha (hp.out.2 a ha)).2]
theorem opn_oty {p : Ty} (hp : PlTy p) (k : Nat) (hk : k + (nms p []).length ≤ 100) : OTy (opn p k) ∧ (opn p k).size = p.size := by
  refine put_oty _ _ (fun a ha => ?_) p hp
  obtain ⟨i, hi, rfl⟩ := List.mem_map.1 ha
  have := List.mem_range.1 hi
  exact ⟨.mk _ _ (.inr ⟨k + i, by omega, rfl⟩) fun a ha => (by cases ha), by simp [Ty.size, sizeL]⟩

/-- Two headers that can be meant both. -/
def Meant (x h : Hdr) : Prop := x.trait = h.trait ∧ ∃ θ, sub θ (opn x.type 0) = sub θ (opn h.type (nms x.type []).length)
def SmallH (h : Hdr) : Prop := PlTy h.type ∧ h.type.size ≤ 7

/-- Solving one equation between opened types. -/
theorem osolve_any (t u : Ty) (n m : List UInt8) (a b : Option Addr × Nat × Nat) (lo : Nat) (w : World) (ht : TyIs w (FrP w lo) t (sv n) (.slice a.1 a.2.1 a.2.2)) (hu : TyIs w (FrP w lo) u (sv m) (.slice b.1 b.2.1 b.2.2)) (qt : OTy t) (qu : OTy u) (hst : t.size ≤ 40) (hsu : u.size ≤ 40) :
    Calls Tryd.prog 22 #[.slice (some ⟨w.heap.size, 0, none⟩) 1 1] (w.alloc (.cells #[sv n, .slice a.1 a.2.1 a.2.2, sv m, .slice b.1 b.2.1 b.2.2] 61))
      (SolRes OTy [(t, u)] (w.alloc (.cells #[sv n, .slice a.1 a.2.1 a.2.2, sv m, .slice b.1 b.2.1 b.2.2] 61))) := by
  have hB := alloc1 w (.cells #[sv n, .slice a.1 a.2.1 a.2.2, sv m, .slice b.1 b.2.1 b.2.2] 61)
  have hb : Below w.heap.size w (w.alloc (.cells #[sv n, .slice a.1 a.2.1 a.2.2, sv m, .slice b.1 b.2.1 b.2.2] 61)) := (Below.refl _ _).alloc (Nat.le_refl _) _
  have ht' := ht.plainNow hb
  have hu' := hu.plainNow hb
  generalize w.alloc (.cells #[sv n, .slice a.1 a.2.1 a.2.2, sv m, .slice b.1 b.2.1 b.2.2] 61) = w1 at *
  have hc : ∀ i, w1.cell? ⟨w.heap.size, i, none⟩ = _ := fun i => Lib.cell_of_heap hB i
  obtain ⟨S, hS⟩ : ∃ S : Nat → Prop, S = fun y => y < w1.heap.size ∧ PlainB w1 y := ⟨_, rfl⟩
  have hSe : S w.heap.size := by rw [hS]; exact ⟨lt_of_heap hB, _, _, hB⟩
  have hSf : ∀ y, FrP w1 lo y → S y := fun y hy => by rw [hS]; exact ⟨hy.2.1, hy.2.2⟩
  have p0 : PtTy w1 S ⟨w.heap.size, 0, none⟩ t := ⟨_, _, hSe, (hc 0).trans rfl, (hc 1).trans rfl, ht'.more hSf⟩
  have p2 : PtTy w1 S ⟨w.heap.size, 2, none⟩ u := ⟨_, _, hSe, (hc 2).trans rfl, (hc 3).trans rfl, hu'.more hSf⟩
  obtain ⟨U, h1, h2, h3⟩ := eqs_of (w := w1) (S := S) (Q := OTy) oty_down.toDown (some ⟨w.heap.size, 0, none⟩) [(t, u)] fun i x hx => by
    have hi : i = 0 := by
      have := (List.getElem?_eq_some_iff.1 hx).1
      simpa using this
    subst hi
    simp at hx
    subst hx
    refine ⟨qt, qu, _, rfl, ?_, ?_⟩
    · exact p0
    · exact p2
  have h1' : U.length ≤ 100 := by
    simp only [eqSize, List.map_cons, List.map_nil, List.sum_cons, List.sum_nil] at h1
    omega
  exact solve_any w1.heap.size S OTy oty_down U (by omega) [(t, u)] _ 1 w1 ⟨fun y hy => by rw [hS] at hy; exact hy.1, fun y hy => by rw [hS] at hy; exact hy.2⟩ (Nat.le_refl _) h2 h3 (by simp)
theorem meant_drops {x h : Hdr} {rs : List Bool} {G : Gv} (hm : Meant x h) (hc : Chain [(opn x.type 0, opn h.type (nms x.type []).length)] rs G) : (drops rs 0).length = 0 := by
  obtain ⟨_, θ, hθ⟩ := hm
  have := (hc.full θ fun y hy => by rw [List.mem_singleton.1 hy]; exact hθ).1
  rw [(drops_nil rs 0).2 this]
  rfl

/-- The test of Overlaps: the header lies at block hb. -/
abbrev tst (hb : Nat) : Value := .func (.func 20) #[] #[.pointer (some ⟨hb, 0, none⟩)]

set_option maxHeartbeats 8000000 in
set_option maxRecDepth 100000 in
theorem test_any (x h : Hdr) (s m s' m' : List UInt8) (P a P' a' : Option Addr × Nat × Nat) (hb : Nat) (w : World)
    (hx : TyIs w (Lt w.heap.size) x.type (sv m) (.slice a.1 a.2.1 a.2.2)) (hh : TyIs w (Lt w.heap.size) h.type (sv m') (.slice a'.1 a'.2.1 a'.2.2))
    (hB : w.heap[hb]? = some (.cells #[sv s', .slice P'.1 P'.2.1 P'.2.2, sv h.trait, sv m', .slice a'.1 a'.2.1 a'.2.2] 38 (0, 0))) (sx : SmallH x) (sh : SmallH h) :
    Calls Tryd.prog 20 #[.agg #[sv s, .slice P.1 P.2.1 P.2.2, sv x.trait, sv m, .slice a.1 a.2.1 a.2.2], .pointer (some ⟨hb, 0, none⟩)] w
      fun e w' => ∃ r, e = .returned (.bool r) ∧ (Meant x h → r = true) ∧ Below w.heap.size w w' := by
  have hlt := lt_of_heap hB
  have hbx : Below w.heap.size w (w.alloc (.cells #[sv s, .slice P.1 P.2.1 P.2.2, sv x.trait, sv m, .slice a.1 a.2.1 a.2.2] 38)) := (Below.refl _ _).alloc (Nat.le_refl _) _
  have hX := alloc1 w (.cells #[sv s, .slice P.1 P.2.1 P.2.2, sv x.trait, sv m, .slice a.1 a.2.1 a.2.2] 38)
  have hB1 := (hbx.block hb hlt).trans hB
  have hs1 : (w.alloc (.cells #[sv s, .slice P.1 P.2.1 P.2.2, sv x.trait, sv m, .slice a.1 a.2.1 a.2.2] 38)).heap.size = w.heap.size + 1 := by simp
  have hcells : ∀ w', Below (w.heap.size + 1) (w.alloc (.cells #[sv s, .slice P.1 P.2.1 P.2.2, sv x.trait, sv m, .slice a.1 a.2.1 a.2.2] 38)) w' → w'.cell? ⟨hb, 2, none⟩ = some (sv h.trait) ∧ w'.cell? ⟨hb, 3, none⟩ = some (sv m') ∧ w'.cell? ⟨hb, 4, none⟩ = some (.slice a'.1 a'.2.1 a'.2.2) := fun w' hbl => by
    have h1 := (hbl.block hb (by omega)).trans hB1
    exact ⟨(Lib.cell_of_heap h1 _).trans rfl, (Lib.cell_of_heap h1 _).trans rfl, (Lib.cell_of_heap h1 _).trans rfl⟩
  obtain ⟨c2, c3, c4⟩ := hcells _ (Below.refl _ _)
  have HC := Lib.hid hcells
  clear hcells
  by_cases htr : x.trait = h.trait
  · have hbn := bytesEq htr
    have HBX := Lib.hid hbx
    have HS1 := Lib.hid hs1
    have HTH := Lib.hid hh
    have hnx := nms_len x.type []
    have hnh := nms_len h.type []
    simp only [List.length_nil, Nat.zero_add] at hnx hnh
    have hsx := sx.2
    have hsh := sh.2
    obtain ⟨n1, hn1⟩ : ∃ n1, n1 = (nms x.type []).length := ⟨_, rfl⟩
    have OX : Calls Tryd.prog 21 #[.agg #[sv m, .slice a.1 a.2.1 a.2.2], .int .i64 0] (w.alloc (.cells #[sv s, .slice P.1 P.2.1 P.2.2, sv x.trait, sv m, .slice a.1 a.2.1 a.2.2] 38)) (OpnRes x.type 0 (w.alloc (.cells #[sv s, .slice P.1 P.2.1 P.2.2, sv x.trait, sv m, .slice a.1 a.2.1 a.2.2] 38))) := open_any x.type 0 _ _ _ (hx.now (Nat.le_refl _) hbx) (by omega) (by omega)
    have HOX := Lib.hid OX
    have HN1 := Lib.hid hn1
    rw [← hn1] at hnx
    have QX := Lib.hid (opn_oty sx.1 0 (by rw [← hn1]; omega))
    have QH := Lib.hid (opn_oty sh.1 n1 (by omega))
    clear htr hbx hX hB1 OX hx hh hn1 hB
    go_enter Tryd.func20, Tryd.ntmps20
    go_wp2_with fail
    refine HOX.out.mono ?_
    rintro e w2 ⟨u1, v1, rfl, hT1, hb1⟩
    obtain ⟨u1, v1, rfl, rfl⟩ := hT1.shape
    rw [Nat.zero_add, ← HN1.out]
    rw [HS1.out] at hb1
    have hs2 := hb1.size
    rw [HS1.out] at hs2
    have hb3 : Below w2.heap.size w2 (w2.alloc (.cells #[.string (bs u1), .slice v1.1 v1.2.1 v1.2.2] 31)) := (Below.refl _ _).alloc (Nat.le_refl _) _
    have hB3 := alloc1 w2 (.cells #[.string (bs u1), .slice v1.1 v1.2.1 v1.2.2] 31)
    have hs3 : (w2.alloc (.cells #[.string (bs u1), .slice v1.1 v1.2.1 v1.2.2] 31)).heap.size = w2.heap.size + 1 := by simp
    have hb13 := hb1.trans (hb3.mono hs2)
    obtain ⟨_, d3, d4⟩ := HC.out _ hb13
    have HT1 := Lib.hid (hT1.plainNow hb3)
    have HB13 := Lib.hid hb13
    have hbw3 : Below w.heap.size w (w2.alloc (.cells #[.string (bs u1), .slice v1.1 v1.2.1 v1.2.2] 31)) := HBX.out.trans (hb13.mono (by omega))
    have HOH := Lib.hid (open_any h.type n1 _ _ (w2.alloc (.cells #[.string (bs u1), .slice v1.1 v1.2.1 v1.2.2] 31)) (HTH.out.now (Nat.le_refl _) hbw3) (by omega) (by omega))
    have HBW3 := Lib.hid hbw3
    have HB3 := Lib.hid hB3
    have HS3 := Lib.hid hs3
    clear hb1 hb3 hB3 hb13 hT1 hbw3 hs3 c2 c3 c4 HOX
    go_wp2_with fail
    refine HOH.out.mono ?_
    rintro e w4 ⟨u2, v2, rfl, hT2, hb4⟩
    obtain ⟨u2, v2, rfl, rfl⟩ := hT2.shape
    have hs4 := hb4.size
    rw [HS3.out] at hs4
    have hb5 : Below w4.heap.size w4 (w4.alloc (.cells #[.string (bs u2), .slice v2.1 v2.2.1 v2.2.2] 31)) := (Below.refl _ _).alloc (Nat.le_refl _) _
    have hb35 := hb4.trans (hb5.mono hb4.size)
    have hB5 := (hb35.block w2.heap.size (by rw [HS3.out]; omega)).trans HB3.out
    have e0 : (w4.alloc (.cells #[.string (bs u2), .slice v2.1 v2.2.1 v2.2.2] 31)).cell? ⟨w2.heap.size, 0, none⟩ = some (sv u1) := (Lib.cell_of_heap hB5 _).trans rfl
    have e1 : (w4.alloc (.cells #[.string (bs u2), .slice v2.1 v2.2.1 v2.2.2] 31)).cell? ⟨w2.heap.size, 1, none⟩ = some (.slice v1.1 v1.2.1 v1.2.2) := (Lib.cell_of_heap hB5 _).trans rfl
    have hbw5 := HBW3.out.trans (hb35.mono HBW3.out.size)
    have hT15 := HT1.out.plainNow hb35
    have hT25 := hT2.plainNow hb5
    have SOL := Lib.hid (osolve_any (opn x.type 0) (opn h.type n1) u1 u2 v1 v2 0 (w4.alloc (.cells #[.string (bs u2), .slice v2.1 v2.2.1 v2.2.2] 31)) (hT15.more fun y hy => ⟨Nat.zero_le _, hy.2⟩) (hT25.more fun y hy => ⟨Nat.zero_le _, hy.2⟩) QX.out.1 QH.out.1 (by rw [QX.out.2]; omega) (by rw [QH.out.2]; omega))
    have HBW5 := Lib.hid hbw5
    have hs5 : (w4.alloc (.cells #[.string (bs u2), .slice v2.1 v2.2.1 v2.2.2] 31)).heap.size = w4.heap.size + 1 := by simp
    have HS5 := Lib.hid hs5
    clear hT2 hb4 hb5 hb35 hB5 hbw5 hT15 hT25 hs5 HOH d3 d4
    rw [HS5.out] at SOL
    go_wp2_with fail
    refine SOL.out.mono ?_
    rintro e w7 ⟨rs, G, SA, DA, sc, dc, svs, rfl, hch, hTs, hsc1, hsc2, hDr, hb7, hGQ, hsnd⟩
    have hmd : Meant x h → (drops rs 0).length = 0 := fun hm => meant_drops hm (by rw [← HN1.out]; exact hch)
    obtain ⟨dl, hdl⟩ : ∃ dl, dl = (drops rs 0).length := ⟨_, rfl⟩
    obtain ⟨sl, hsl⟩ : ∃ sl, sl = solLen G := ⟨_, rfl⟩
    rw [← hdl] at hmd ⊢
    rw [← hsl]
    have HMD := Lib.hid hmd
    have HBW7 := Lib.hid ((HBW5.out.alloc HBW5.out.size (.cells #[sv u1, .slice v1.1 v1.2.1 v1.2.2, sv u2, .slice v2.1 v2.2.1 v2.2.2] 61)).trans (hb7.mono (by simp; have := HBW5.out.size; simp at this; omega)))
    clear hdl hsl hmd hch hTs hDr hb7 hGQ hsnd SOL e0 e1
    go_wp2
    go_ret
    refine ⟨_, rfl, fun hm => ?_, HBW7.out⟩
    rw [HMD.out hm]
    rfl
  · have hbn := bytesNe htr
    have HTR := Lib.hid htr
    have HBX := Lib.hid hbx
    clear htr hbx hX hB1 hx hh hB
    go_enter Tryd.func20, Tryd.ntmps20
    go_wp2
    go_ret
    exact ⟨false, rfl, fun hm => absurd hm.1 HTR.out, HBX.out⟩

set_option maxHeartbeats 2000000 in
set_option maxRecDepth 100000 in
theorem indexFuncO (hs : List Hdr) (h : Hdr) (s' m' : List UInt8) (P' a' : Option Addr × Nat × Nat) (A : Option Addr) (c hb : Nat) (qs : List HV) (w : World) (hh : Hds w (Lt w.heap.size) A hs qs) (hty : TyIs w (Lt w.heap.size) h.type (sv m') (.slice a'.1 a'.2.1 a'.2.2))
    (hB : w.heap[hb]? = some (.cells #[sv s', .slice P'.1 P'.2.1 P'.2.2, sv h.trait, sv m', .slice a'.1 a'.2.1 a'.2.2] 38 (0, 0))) (hsm : ∀ x ∈ hs, SmallH x) (sh : SmallH h) :
    Calls Tryd.prog 29 #[.slice A hs.length c, tst hb] w fun e w' => ∃ r : Int, e = .returned (.int .i64 r) ∧ ((∃ x ∈ hs, Meant x h) → 0 ≤ r) ∧ Below w.heap.size w w' := by
  obtain ⟨n, hn⟩ : ∃ n, n = hs.length := ⟨_, rfl⟩
  have hfew := hh.few
  rw [← hn] at hfew ⊢
  have HN := Lib.hid hn
  have HB0 := Lib.hid hB
  have hlt := lt_of_heap hB
  clear hn hB
  go_enter Tryd.func29, Tryd.ntmps29
  go_wp2_with fail
  go_loopw [8] (fun i wr => ∃ k : Nat, k ≤ n ∧ i = .int .i64 k ∧ (∀ x ∈ hs.take k, ¬ Meant x h) ∧ Below w.heap.size w wr) (fun i _ => n - (intOf i).toNat)
  case atStart => exact ⟨0, Nat.zero_le _, rfl, fun x hx => by simp at hx, Below.refl _ _⟩
  case round =>
    obtain ⟨k, hk, rfl, hx, hbl⟩ := hrel
    have HX := Lib.hid hx
    clear hx
    by_cases hlt2 : k < n
    · have hki : k < hs.length := by rw [← HN.out]; exact hlt2
      have hk0 : hs[k]? = some hs[k] := List.getElem?_eq_getElem hki
      have hmem : hs[k] ∈ hs := List.getElem_mem hki
      have htk : hs.take (k + 1) = hs.take k ++ [hs[k]] := List.take_succ_eq_append_getElem hki
      generalize hs[k] = x at *
      obtain ⟨ad, q, rfl, hS, hq, e0, e1, e2, e3, e4, hHd⟩ := (hh.now (Nat.le_refl _) hbl).at_ hk0
      obtain ⟨s, P, m, a, rfl⟩ := hHd.shape
      dsimp only at e0 e1 e2 e3 e4
      have TS := Lib.hid (test_any x h s m s' m' P a P' a' hb wr hHd.ty (hty.now (Nat.le_refl _) hbl) ((hbl.block hb hlt).trans HB0.out) (hsm x hmem) sh)
      have HTK := Lib.hid htk
      clear hq htk hk0 hHd
      go_wp2_with fail
      refine TS.out.mono ?_
      rintro e w1 ⟨r, rfl, hr, hb1⟩
      have hb2 : Below w.heap.size w w1 := hbl.trans (hb1.mono hbl.size)
      have HR := Lib.hid hr
      clear hr TS hb1
      cases r with
      | true =>
        go_wp2
        go_ret
        exact ⟨(k : Int), rfl, fun _ => Int.natCast_nonneg k, hb2⟩
      | false =>
        go_wp2
        go_roundw
        case rel => exact ⟨k + 1, by omega, by go_num, fun y hy => by
          rw [HTK.out] at hy
          rcases List.mem_append.1 hy with hy | hy
          · exact HX.out y hy
          · rw [List.mem_singleton.1 hy]
            exact fun hm => Bool.noConfusion (HR.out hm), hb2⟩
        case measure => simp [intOf]; omega
    · have hkn : k = n := by omega
      have HKN := Lib.hid hkn
      have hg : ¬ k < n := hlt2
      clear hkn
      go_wp2
      go_ret
      refine ⟨-1, rfl, fun ⟨x, hx, hm⟩ => ?_, hbl⟩
      have := HX.out
      rw [HKN.out, List.take_of_length_le (by rw [HN.out]; exact Nat.le_refl _)] at this
      exact absurd hm (this x hx)

set_option maxHeartbeats 2000000 in
set_option maxRecDepth 100000 in
theorem containsO (hs : List Hdr) (h : Hdr) (s' m' : List UInt8) (P' a' : Option Addr × Nat × Nat) (A : Option Addr) (c hb : Nat) (qs : List HV) (w : World) (hh : Hds w (Lt w.heap.size) A hs qs) (hty : TyIs w (Lt w.heap.size) h.type (sv m') (.slice a'.1 a'.2.1 a'.2.2))
    (hB : w.heap[hb]? = some (.cells #[sv s', .slice P'.1 P'.2.1 P'.2.2, sv h.trait, sv m', .slice a'.1 a'.2.1 a'.2.2] 38 (0, 0))) (hsm : ∀ x ∈ hs, SmallH x) (sh : SmallH h) :
    Calls Tryd.prog 19 #[.slice A hs.length c, tst hb] w fun e w' => ∃ r : Bool, e = .returned (.bool r) ∧ ((∃ x ∈ hs, Meant x h) → r = true) ∧ Below w.heap.size w w' := by
  have IX := Lib.hid (indexFuncO hs h s' m' P' a' A c hb qs w hh hty hB hsm sh)
  clear hh hty hB hsm sh
  generalize hs.length = n at *
  go_enter Tryd.func19, Tryd.ntmps19
  go_wp2_with fail
  refine IX.out.mono ?_
  rintro e w1 ⟨r, rfl, hr, hb⟩
  have HR := Lib.hid hr
  have HB := Lib.hid hb
  clear hr hb
  go_wp2
  go_ret
  refine ⟨_, rfl, fun hm => ?_, HB.out⟩
  have := HR.out hm
  simpa using this
end Go.Proofs.YtllodnlkphapgaaDoor
