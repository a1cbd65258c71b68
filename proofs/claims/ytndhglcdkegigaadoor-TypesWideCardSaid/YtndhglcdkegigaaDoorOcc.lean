/-
  The walk of (*unify.Solver).occurs.
  Conditions: every name is no variable's, or that of a variable below 100; there is a rank; the variable is not given.
-/
import Derived.Test.YtndhglcdkegigaaDoorOuter
namespace Go.Proofs.YtndhglcdkegigaaDoor
open Go.RowKit

def seenV (a : Addr) : Value × Value := (.pointer (some a), .bool true)
theorem seen_keys {w : World} {L : List Addr} (h : ∀ a ∈ L, PlainB w a.block) : ∀ p ∈ L.map seenV, KPtr w p.1 := by
  intro p hp
  obtain ⟨a, ha, rfl⟩ := List.mem_map.1 hp
  exact ⟨a, rfl, h a ha⟩
theorem seen_yes {w : World} {mb : Nat} {L : List Addr} {p : Addr} (h : MapAt w mb (L.map seenV)) (hL : ∀ a ∈ L, PlainB w a.block) (hp : p ∈ L) :
    (Instr.lookup 133 (.map (some mb)) (.pointer (some p)) false).run Tryd.prog w = .ok (.bool true) w :=
  run_look_yes Tryd.underlying133 law_ptr h ⟨p, rfl, hL p hp⟩ (seen_keys hL) (List.mem_map.2 ⟨p, hp, rfl⟩)
theorem seen_ne {L : List Addr} {p : Addr} (hp : p ∉ L) : ∀ x ∈ L.map seenV, x.1 ≠ .pointer (some p) := by
  intro x hx e
  obtain ⟨a, ha, rfl⟩ := List.mem_map.1 hx
  have : a = p := Option.some.inj (Value.pointer.inj e)
  exact hp (this ▸ ha)
theorem seen_no {w : World} {mb : Nat} {L : List Addr} {p : Addr} (h : MapAt w mb (L.map seenV)) (hL : ∀ a ∈ L, PlainB w a.block) (hb : PlainB w p.block) (hp : p ∉ L) :
    (Instr.lookup 133 (.map (some mb)) (.pointer (some p)) false).run Tryd.prog w = .ok (.bool false) w :=
  run_look_no Tryd.underlying133 law_ptr h ⟨p, rfl, hb⟩ (seen_keys hL) (Tryd.zeroValue4 w) (seen_ne hp)
theorem seen_put {w : World} {mb : Nat} {L : List Addr} {p : Addr} (h : MapAt w mb (L.map seenV)) (hL : ∀ a ∈ L, PlainB w a.block) (hb : PlainB w p.block) (hp : p ∉ L) :
    ∃ w', (Instr.mapUpdate 133 (.map (some mb)) (.pointer (some p)) (.bool true)).run Tryd.prog w = .ok () w' ∧ MapAt w' mb ((L ++ [p]).map seenV) ∧ Kp (fun y => y = mb) w w' := by
  obtain ⟨w', h1, h2, h3⟩ := run_put_new (.bool true) Tryd.underlying133 law_ptr h ⟨p, rfl, hb⟩ (seen_keys hL) (seen_ne hp)
  exact ⟨w', h1, by rw [List.map_append]; exact h2, h3⟩

theorem MapAt.not_cells {w : World} {b : Nat} {l : List (Value × Value)} (h : MapAt w b l) {cs : Array Value} {T : TypeId} {fr : Nat × Nat} : w.heap[b]? ≠ some (.cells cs T fr) := by
  obtain ⟨es, clock, hb, _⟩ := h
  rw [hb]
  intro e
  cases e
theorem row_block {w : World} {base : Nat} {e : TypeId} {size n : Nat} {v : Value} {xs : List Value} (h : w.ownsRow base e size v n xs) {g : Nat} (hg : v.ownBlock = some g) : ∃ cs, w.heap[g]? = some (.cells cs e (0, 0)) := by
  rcases h.2 with ⟨rfl, _⟩ | ⟨g', cap, cur, rfl, hb, hgg, _⟩
  · cases hg
  · cases hg
    exact ⟨cur, hgg⟩
/-- The solver stands when another map is written. -/
theorem Sv.kp {w w' : World} {B mb : Nat} {S : Nat → Prop} {d : SD} {l : List (Value × Value)} (h : Sv w B S d) (hp : Plb w B S) (hk : Kp (fun y => y = mb) w w') (hm : MapAt w mb l) (h1 : mb ≠ d.gb) (h2 : mb ≠ d.ab) (hB : B ≤ mb) (hBw : B ≤ w.heap.size) : Sv w' B S d := by
  have hkt : Kept S w w' := hk.kept fun b hS => ⟨Nat.lt_of_lt_of_le (hp.lt b hS) hBw, fun e => by have := hp.lt b hS; omega⟩
  refine ⟨h.lo, hk.heap h.cells (fun e => hm.not_cells (e ▸ h.cells)), h.given.same (hk.block _ h.given.lt (fun e => h1 e.symm)), h.agreed.same (hk.block _ h.agreed.lt (fun e => h2 e.symm)), fun g hg => (h.gty g hg).keep hkt, fun x hx => ?_, hk.own h.trail ?_, hk.own h.pairs ?_⟩
  · obtain ⟨⟨t, h3⟩, u, h4⟩ := h.aty x hx
    exact ⟨⟨t, h3.keep hkt⟩, u, h4.keep hkt⟩
  · intro g hg e
    obtain ⟨cs, hc⟩ := row_block h.trail hg
    exact hm.not_cells (e ▸ hc)
  · intro g hg e
    obtain ⟨cs, hc⟩ := row_block h.pairs hg
    exact hm.not_cells (e ▸ hc)
theorem Plb.kp {w w' : World} {B mb : Nat} {S : Nat → Prop} (h : Plb w B S) (hk : Kp (fun y => y = mb) w w') (hB : B ≤ mb) (hBw : B ≤ w.heap.size) : Plb w' B S :=
  ⟨h.lt, fun b hS => (h.plain b hS).same (hk.block b (Nat.lt_of_lt_of_le (h.lt b hS) hBw) (fun e => by have := h.lt b hS; omega))⟩

def OccRes (σ : Sol) (n : Nat) (S : Nat → Prop) (t : Ty) (mb : Nat) (L : List Addr) (w : World) (e : Ending) (w' : World) : Prop :=
  ∃ r : Bool, e = .returned (.bool r) ∧ Kp (fun y => y = mb) w w' ∧ (r = true → Occ σ n t) ∧ (r = false → ¬ Occ σ n t ∧ ∃ L' : List Addr, MapAt w' mb (L'.map seenV) ∧ ∀ a ∈ L', a ∈ L ∨ ∃ u, PtTy w S a u ∧ ¬ Occ σ n u)

set_option maxHeartbeats 8000000 in
set_option maxRecDepth 100000 in
theorem occurs_any (B : Nat) (S : Nat → Prop) (d : SD) (Q : Ty → Prop) (hQ : Down Q) (ρ : Ty → Nat) (hr : Rank d.sol ρ) (n : Nat) (hqg : ∀ g ∈ d.G, Q g.2.2) (mb : Nat) (h1 : mb ≠ d.gb) (h2 : mb ≠ d.ab) (hBm : B ≤ mb) :
    ∀ (N : Nat) (t : Ty) (p : Addr) (L : List Addr) (w : World), ρ t ≤ N → Sv w B S d → Plb w B S → B ≤ w.heap.size → PtTy w S p t → Q t → MapAt w mb (L.map seenV) → (∀ a ∈ L, ∃ u, PtTy w S a u ∧ (Occ d.sol n u → ρ t < ρ u)) →
    Calls Tryd.prog 88 #[.pointer (some ⟨d.sb, 0, none⟩), .int .i64 (n : Int), .pointer (some p), .map (some mb)] w (OccRes d.sol n S t mb L w) := by
  intro N
  induction N using Nat.strongRecOn with | ind N ih => ?_
  intro t p L w hN hs hpl hB hp hq hm hL
  have IH := Lib.hid ih
  have OU := Lib.hid (outer_any B S d Q hQ ρ hr p t w hs hpl hB hp hq hqg)
  clear ih
  go_enter Tryd.func88, Tryd.ntmps88
  go_wp2_with fail
  refine OU.out.mono ?_
  rintro e w1 ⟨p1, t1, rfl, hp1, ho, hb1, _⟩
  have hq1 : Q t1 := ho.holds (fun k u hk => by obtain ⟨q, hq⟩ := find_mem hk; exact hqg _ hq) hq
  have hr1 := ho.rank hr
  have hs1 := hs.below hpl hB hb1
  have hpl1 := hpl.below (hb1.mono hB)
  have hB1 : B ≤ w1.heap.size := Nat.le_trans hB hb1.size
  have hm1 := hm.same (hb1.block _ hm.lt)
  obtain ⟨A, c, hS, e0, e1, hl, hc1, hc2, harg⟩ := (hp1.keep (hpl.kept (hb1.mono hB))).cells
  have hva := variable_any p1 t1.name A t1.args.length c w1 e0 e1 (hQ.name t1 hq1) hl
  rw [← varOf_mk, show Ty.mk t1.name t1.args = t1 from by cases t1; rfl] at hva
  have HVA := Lib.hid hva
  clear hva
  go_wp2_with fail
  refine HVA.out.mono ?_
  rintro e w2 ⟨rfl, hb2⟩
  have hb12 : Below w.heap.size w w2 := hb1.trans (hb2.mono hb1.size)
  have hm2 := hm1.same (hb2.block _ hm1.lt)
  have hs2 := hs1.below hpl1 hB1 hb2
  have hpl2 := hpl1.below (hb2.mono hB1)
  have hB2 : B ≤ w2.heap.size := Nat.le_trans hB1 hb2.size
  have hkw : Kp (fun y => y = mb) w w2 := Kp.ofBelow hb12
  have e1' := (hb2.cell (p := ⟨p1.block, p1.off + 1, none⟩) (Nat.lt_of_lt_of_le (hpl.lt _ hS) hB1)).trans e1
  rcases hv : varOf t1 with _ | k
  · have hno : Occ d.sol n t ↔ ∃ a ∈ t1.args, Occ d.sol n a := (Occ.out ho).trans (Occ.node hv)
    simp only [varI, Option.isSome_none]
    obtain ⟨m, hmm⟩ : ∃ m, m = t1.args.length := ⟨_, rfl⟩
    rw [← hmm] at e1' hl hc1
    have HMM := Lib.hid hmm
    have HM2 := Lib.hid hm2
    have HO := Lib.hid ho
    have HV := Lib.hid hv
    have HARG := Lib.hid harg
    clear hmm e0 e1 hv ho harg
    by_cases hz : m = 0
    · have hz0 : ((m : Int) == 0) = true := by simp [hz]
      go_wp2
      go_ret
      refine ⟨false, rfl, hkw, (fun h => by cases h), fun _ => ⟨fun hc => ?_, L, HM2.out, fun a ha => .inl ha⟩⟩
      obtain ⟨a, ha, _⟩ := hno.1 hc
      rw [List.eq_nil_of_length_eq_zero (HMM.out.symm.trans hz)] at ha
      cases ha
    · have hz0 : ((m : Int) == 0) = false := by simp [hz]
      have hLP : ∀ a ∈ L, PlainB w2 a.block := fun a ha => by
        obtain ⟨u, hu, _⟩ := hL a ha
        obtain ⟨_, _, hSa, _⟩ := hu.ex
        exact hpl2.plain _ hSa
      by_cases hpL : p1 ∈ L
      · have hlk := seen_yes HM2.out hLP hpL
        have hnot : ¬ Occ d.sol n t := by
          obtain ⟨u, hu, hlt⟩ := hL p1 hpL
          have : u = t1 := hu.inj hp1
          subst this
          intro hc
          have := hlt ((Occ.out HO.out).1 hc)
          omega
        clear hpL
        go_wp2
        go_ret
        exact ⟨false, rfl, hkw, (fun h => by cases h), fun _ => ⟨hnot, L, HM2.out, fun a ha => .inl ha⟩⟩
      · have hlk := seen_no HM2.out hLP (hpl2.plain _ hS) hpL
        obtain ⟨w3, hput, hm3, hk3⟩ := seen_put HM2.out hLP (hpl2.plain _ hS) hpL
        have hs3 := hs2.kp hpl2 hk3 HM2.out h1 h2 hBm hB2
        have hpl3 := hpl2.kp hk3 hBm hB2
        have hkw3 := hkw.trans hk3 fun _ _ h => h
        have hB3 : B ≤ w3.heap.size := Nat.le_trans hB2 hk3.size
        have e3 := (World.cell?_of_block (a := ⟨p1.block, p1.off + 1, none⟩) (hk3.block p1.block (Nat.lt_of_lt_of_le (hpl.lt _ hS) hB2) (fun e => by have := hpl.lt _ hS; omega))).trans e1'
        have HM3 := Lib.hid hm3
        clear hpL hm3
        go_wp2_with fail
        go_loopw [42] (fun i wr => ∃ k : Nat, k ≤ m ∧ i = .int .i64 k ∧ (∃ L' : List Addr, MapAt wr mb (L'.map seenV) ∧ ∀ a ∈ L', a ∈ L ∨ a = p1 ∨ ∃ u, PtTy w S a u ∧ ¬ Occ d.sol n u) ∧ (∀ j a, j < k → t1.args[j]? = some a → ¬ Occ d.sol n a) ∧ Kp (fun y => y = mb) w wr) (fun i _ => m - (intOf i).toNat)
        case atStart =>
          refine ⟨0, Nat.zero_le _, rfl, ⟨_, HM3.out, fun a ha => ?_⟩, (fun j a hj => by omega), hkw3⟩
          rcases List.mem_append.1 ha with ha | ha
          · exact .inl ha
          · exact .inr (.inl (List.mem_singleton.1 ha))
        case round =>
          obtain ⟨k, hk, rfl, ⟨L', hmr, hL'⟩, hno', hkr⟩ := hrel
          have hsr := hs.kp hpl hkr hm h1 h2 hBm hB
          have hplr := hpl.kp hkr hBm hB
          have hBr : B ≤ wr.heap.size := Nat.le_trans hB hkr.size
          have er := (World.cell?_of_block (a := ⟨p1.block, p1.off + 1, none⟩) ((hkr.block p1.block (Nat.lt_of_lt_of_le (hpl.lt _ hS) hB) (fun e => by have := hpl.lt _ hS; omega)).trans (hkw3.block p1.block (Nat.lt_of_lt_of_le (hpl.lt _ hS) hB) (fun e => by have := hpl.lt _ hS; omega)).symm)).trans e3
          have hkt : Kept S w wr := hkr.kept fun b hSb => ⟨Nat.lt_of_lt_of_le (hpl.lt b hSb) hB, fun e => by have := hpl.lt b hSb; omega⟩
          by_cases hlt : k < m
          · have hki : k < t1.args.length := by rw [← HMM.out]; exact hlt
            obtain ⟨ad, rfl, hpa⟩ := HARG.out k _ (List.getElem?_eq_getElem hki)
            have hmem : t1.args[k] ∈ t1.args := List.getElem_mem hki
            have hrk := hr.arg t1 _ hmem
            have hpaw : PtTy w S (ad.add (k * 2)) t1.args[k] := by
              obtain ⟨u, v, hS', a1, a2, a3⟩ := hpa.ex
              have hb' : Kept S w1 w := fun p hp => ((kept_below hb1) p (Nat.lt_of_lt_of_le (hpl.lt _ hp) hB)).symm
              exact hpa.keep hb'
            have CALL := Lib.hid (IH.out (ρ t1.args[k]) (by omega) t1.args[k] (ad.add (k * 2)) L' wr (Nat.le_refl _) hsr hplr hBr (hpaw.keep hkt) (hQ.arg t1 _ hq1 hmem) hmr (fun a ha => by
              rcases hL' a ha with h | rfl | ⟨u, hu, hn⟩
              · obtain ⟨u, hu, hlt'⟩ := hL a h
                exact ⟨u, hu.keep hkt, fun hc => by have := hlt' hc; omega⟩
              · exact ⟨t1, hp1.keep hkt, fun _ => hrk⟩
              · exact ⟨u, hu.keep hkt, fun hc => absurd hc hn⟩))
            have hik : (0 : Int) ≤ (k : Int) ∧ (k : Int) < (m : Int) := ⟨by omega, by omega⟩
            go_wp2_with fail
            refine CALL.out.mono ?_
            rintro e w4 ⟨r, rfl, hk4, hyes, hnn⟩
            have hkr4 := hkr.trans hk4 fun _ _ h => h
            have HYES := Lib.hid hyes
            have HNN := Lib.hid hnn
            clear hyes hnn
            cases r with
            | true =>
              go_wp2
              go_ret
              exact ⟨true, rfl, hkr4, fun _ => hno.2 ⟨_, hmem, HYES.out trivial⟩, fun h => by cases h⟩
            | false =>
              obtain ⟨hn1, L4, hm4, hL4⟩ := HNN.out rfl
              go_wp2
              go_roundw
              case rel =>
                refine ⟨k + 1, by omega, by go_num, ⟨L4, hm4, fun a ha => ?_⟩, fun j a hj ha => ?_, hkr4⟩
                · rcases hL4 a ha with h | ⟨u, hu, hn⟩
                  · exact hL' a h
                  · have hb' : Kept S wr w := fun p hp => (hkt p hp).symm
                    exact .inr (.inr ⟨u, hu.keep hb', hn⟩)
                · rcases Nat.lt_or_ge j k with h | h
                  · exact hno' j a h ha
                  · obtain rfl : j = k := by omega
                    rw [List.getElem?_eq_getElem hki] at ha
                    cases ha
                    exact hn1
              case measure => simp [intOf]; omega
          · obtain rfl : k = m := by omega
            have hnot : ¬ Occ d.sol n t := by
              intro hc
              obtain ⟨a, ha, hoa⟩ := hno.1 hc
              obtain ⟨j, hj⟩ := List.mem_iff_getElem?.1 ha
              have := (List.getElem?_eq_some_iff.1 hj).1
              exact hno' j a (by rw [HMM.out]; exact this) hj hoa
            have HNO' := Lib.hid hno'
            clear hno'
            go_wp2
            go_ret
            refine ⟨false, rfl, hkr, (fun h => by cases h), fun _ => ⟨hnot, L', hmr, fun a ha => ?_⟩⟩
            rcases hL' a ha with h | rfl | h
            · exact .inl h
            · exact .inr ⟨t1, hp1, fun hc => hnot ((Occ.out HO.out).2 hc)⟩
            · exact .inr h
  · have hoc : Occ d.sol n t ↔ k = n := (Occ.out ho).trans (Occ.free hv (ho.free k hv))
    have HM2 := Lib.hid hm2
    simp only [varI, Option.isSome_some]
    clear hv ho
    go_wp2
    refine bodyPost_ret (by simp [results, go_sem]; rfl) rfl ?_
    refine ⟨decide (k = n), ?_, hkw, fun h => hoc.2 (by simpa using h), fun h => ⟨fun hc => by have := hoc.1 hc; simp [this] at h, L, HM2.out, fun a ha => .inl ha⟩⟩
    exact congrArg (fun b => Ending.returned (.bool b)) (by rw [Bool.eq_iff_iff]; simp; omega)
end Go.Proofs.YtndhglcdkegigaaDoor
