/-
  The walk of modules.Step.
  Conditions: names are at most 10^8 bytes long, lists at most 10^8 long, and no more than 10^8 binds are known.
-/
import Derived.Test.YtcliegpofhjpcaaMdL
import Derived.Test.YtcliegpofhjpcaaMdH
namespace Go.Proofs.Ytcliegpofhjpcaa
open Go.RowKit

theorem kp_below {w u v : World} {M : Nat → Prop} (h : Below w.heap.size w u) (hk : Kp M u v) (hM : ∀ y, M y → w.heap.size ≤ y) : Below w.heap.size w v :=
  ⟨hk.os.trans h.os, hk.tape.trans h.tape, hk.output.trans h.output, Nat.le_trans h.size hk.size, fun b hb => (hk.block b (Nat.lt_of_lt_of_le hb h.size) (fun e => by have := hM b e; omega)).trans (h.block b hb)⟩
/-- A slice of slices of binds. -/
def BdssV (w : World) (S : Nat → Prop) (v : Value) (ls : List (List Key)) : Prop :=
  ∃ (A : Option Addr) (c : Nat) (vs : List Value), v = .slice A ls.length c ∧ vs.length = ls.length ∧ Row w S A vs ∧ ∀ (i : Nat) (u : Value) (l : List Key), vs[i]? = some u → ls[i]? = some l → BdsV w S u l
theorem BdssV.keep {w w' : World} {S : Nat → Prop} {v : Value} {ls : List (List Key)} (h : BdssV w S v ls) (hk : Kept S w w') : BdssV w' S v ls := by
  obtain ⟨A, c, vs, e, hl, hr, hv⟩ := h
  exact ⟨A, c, vs, e, hl, hr.keep hk, fun i u l h1 h2 => (hv i u l h1 h2).keep hk⟩
theorem BdssV.more {w : World} {S S' : Nat → Prop} {v : Value} {ls : List (List Key)} (h : BdssV w S v ls) (hS : ∀ b, S b → S' b) : BdssV w S' v ls := by
  obtain ⟨A, c, vs, e, hl, hr, hv⟩ := h
  exact ⟨A, c, vs, e, hl, hr.more hS, fun i u l h1 h2 => (hv i u l h1 h2).more hS⟩

theorem bs_append (a b : List UInt8) : bs (a ++ b) = bs a ++ bs b := by
  unfold bs
  apply ByteArray.ext
  simp
theorem bdV_of (m n : List UInt8) : bdV (bdOf m n) = .agg #[sv n, .string (bs m ++ ⟨#[58, 58]⟩ ++ bs n)] := by
  unfold bdV bdOf
  rw [sv, sv, bs_append, bs_append]
  rfl
/-- What a step hands back. -/
def StepRes (m : List UInt8) (names : List (List UInt8)) (others : List (List Key)) (w : World) (e : Ending) (w' : World) : Prop :=
  ∃ (A : Option Addr) (c : Nat) (ss : List Key), e = .returned (.slice A ss.length c) ∧ ss.length ≤ c ∧ AscK ss ∧ (∀ k, k ∈ ss ↔ InStep m names others k) ∧ Row w' (Fr w.heap.size w'.heap.size) A (flt bdC ss) ∧ Below w.heap.size w w'
/-- The maps of a step: own names, binds that were found. -/
noncomputable def OwnG (l : List (List UInt8)) (n : List UInt8) : Option Bool := open Classical in if n ∈ ownS l then some true else none
noncomputable def FndG (P : Key → Prop) (k : Key) : Option Bool := open Classical in if P k then some true else none
theorem FndG_some {P : Key → Prop} {k : Key} : (FndG P k).isSome = true ↔ P k := by
  unfold FndG
  by_cases h : P k <;> simp [h]
set_option maxHeartbeats 1600000 in
set_option maxRecDepth 100000 in
theorem step_any (m : List UInt8) (names : List (List UInt8)) (others : List (List Key)) (NA : Option Addr) (nc : Nat) (ov : Value) (w : World) (hm : m.length ≤ 100000000) (hns : ∀ n ∈ names, n.length ≤ 100000000) (hnl : names.length ≤ 100000000) (hol : others.length ≤ 100000000) (hols : ∀ l ∈ others, l.length ≤ 100000000)
    (hfew : ∀ ks : List Key, ks.Nodup → (∀ k ∈ ks, InStep m names others k) → ks.length ≤ 100000000) (hR : Row w (Lt w.heap.size) NA (names.map sv)) (hO : BdssV w (Lt w.heap.size) ov others) :
    Calls Try.prog 13 #[sv m, .slice NA names.length nc, ov] w (StepRes m names others w) := by
  obtain ⟨p, hp⟩ : ∃ p, p = names.length := ⟨_, rfl⟩
  obtain ⟨q, hq⟩ : ∃ q, q = others.length := ⟨_, rfl⟩
  obtain ⟨OA, oc, ovs, rfl, hovl, hOR, hOV⟩ := hO
  rw [← hp] at hnl ⊢
  rw [← hq] at hol ⊢
  have hbx : Below w.heap.size w ((w.alloc (.map #[] 0)).alloc (.map #[] 0)) := ((Below.refl _ _).alloc (Nat.le_refl _) _).alloc (by simp) _
  have hm1 : MapG sv Value.bool ((w.alloc (.map #[] 0)).alloc (.map #[] 0)) w.heap.size fun _ => none := (MapG.new w).same (heap_alloc_old _ _ (by simp))
  have hm2 : MapG bdV Value.bool ((w.alloc (.map #[] 0)).alloc (.map #[] 0)) (w.heap.size + 1) fun _ => none := by
    have := MapG.new (kE := bdV) (vE := Value.bool) (w.alloc (.map #[] 0))
    simpa using this
  have HP := Lib.hid hp
  have HQ := Lib.hid hq
  have HNS := Lib.hid hns
  have HOLS := Lib.hid hols
  have HFEW := Lib.hid hfew
  have HR := Lib.hid hR
  have HOR := Lib.hid hOR
  have HOV := Lib.hid hOV
  have HOVL := Lib.hid hovl
  have HBX := Lib.hid hbx
  have HM1 := Lib.hid hm1
  have HM2 := Lib.hid hm2
  clear hp hq hns hols hfew hR hOR hOV hovl hbx hm1 hm2
  have hmm := @run_makeMap Try.prog
  go_enter Try.func13, Try.ntmps13
  go_wp2_with fail
  clear hmm
  obtain ⟨w0, hw0⟩ : ∃ w0, w0 = (w.alloc (.map #[] 0)).alloc (.map #[] 0) := ⟨_, rfl⟩
  have hs0 : w0.heap.size = w.heap.size + 2 := by rw [hw0]; simp
  rw [← hw0] at HBX HM1 HM2 ⊢
  have HS0 := Lib.hid hs0
  clear hw0 hs0
  go_loopw [19] (fun i wr => ∃ k : Nat, k ≤ p ∧ i = .int .i64 k ∧ Kp (fun y => y = w.heap.size ∨ y = w.heap.size + 1) w0 wr ∧ MapG sv Value.bool wr w.heap.size (OwnG (names.take k)) ∧ MapG bdV Value.bool wr (w.heap.size + 1) (FndG (InStep m (names.take k) []))) (fun i _ => p - (intOf i).toNat)
  case atStart =>
    refine ⟨0, by omega, rfl, Kp.refl _ _, HM1.out.ext fun n => ?_, HM2.out.ext fun k => ?_⟩
    · simp [OwnG, ownS]
    · simp [FndG, InStep, ownS]
  case round =>
    obtain ⟨k, hkp, rfl, hK, hG1, hG2⟩ := hrel
    have hsz := hK.size
    have hs0 := HS0.out
    have HK := Lib.hid hK
    have HG1 := Lib.hid hG1
    have HG2 := Lib.hid hG2
    clear hK hG1 hG2
    by_cases hlt : k < p
    · obtain ⟨n, hn⟩ : ∃ n, names[k]? = some n := ⟨_, List.getElem?_eq_getElem (by rw [← HP.out]; exact hlt)⟩
      have hrow := (HR.out.keep (kept_below HBX.out)).keep (HK.out.kept fun b hb => ⟨by unfold Lt at hb; omega, by unfold Lt at hb; omega⟩)
      obtain ⟨ad, rfl, _, a0⟩ := hrow.at_ (k := k) (u := sv n) (by rw [List.getElem?_map, hn]; rfl)
      have hnl9 := HNS.out n (List.mem_of_getElem? hn)
      have HN := Lib.hid hn
      have HTK : Hid (names.take (k + 1) = names.take k ++ [n]) := Lib.hid (by rw [List.take_add_one, hn]; rfl)
      have hik : (0 : Int) ≤ (k : Int) ∧ (k : Int) < (p : Int) := ⟨by omega, by omega⟩
      clear hrow hn
      go_wp2_with fail
      refine (prefix_any n wr).mono ?_
      rintro e w1 ⟨rfl, rfl⟩
      cases hh : hidB n with
      | true =>
        have HG1b : Hid (MapG sv Value.bool w1 w.heap.size (OwnG (names.take (k + 1)))) := Lib.hid (HG1.out.ext fun n' => by unfold OwnG; rw [HTK.out, ownS_snoc, if_pos hh])
        have HG2b : Hid (MapG bdV Value.bool w1 (w.heap.size + 1) (FndG (InStep m (names.take (k + 1)) []))) := Lib.hid (HG2.out.ext fun k' => by unfold FndG InStep; rw [HTK.out, ownS_snoc, if_pos hh])
        clear hh a0
        go_wp2
        go_roundw
        case rel => exact ⟨k + 1, by omega, by go_num, HK.out, HG1b.out, HG2b.out⟩
        case measure => simp [intOf]; omega
      | false =>
        have hlm := HG1.out.lt
        obtain ⟨w2, hput, hG1b, hk2⟩ := HG1.out.put (P := Try.prog) (K := KSt) (fun _ _ => sv_inj) Try.underlying52 keyStr (fun k => ⟨k, rfl⟩) n true
        have hs2 := hk2.size
        obtain ⟨w3, hput2, hG2b, hk3⟩ := (HG2.out.kp hk2 (by omega)).put (P := Try.prog) (K := KBd) (fun _ _ => bdV_inj) Try.underlying53 keyBd (fun k => ⟨k, rfl⟩) (bdOf m n) true
        have hG1c := hG1b.kp hk3 (by omega)
        have HG1c : Hid (MapG sv Value.bool w3 w.heap.size (OwnG (names.take (k + 1)))) := Lib.hid (hG1c.ext fun n' => by
          unfold OwnG
          rw [HTK.out, ownS_snoc, hh]
          simp only [Bool.false_eq_true, if_false]
          by_cases e : n' = n <;> simp [e])
        have HG2c : Hid (MapG bdV Value.bool w3 (w.heap.size + 1) (FndG (InStep m (names.take (k + 1)) []))) := Lib.hid (hG2b.ext fun k' => by
          unfold FndG InStep
          rw [HTK.out, ownS_snoc, hh]
          simp only [Bool.false_eq_true, if_false]
          by_cases e : k' = bdOf m n <;> simp [e, or_and_right, exists_or])
        have HK3 : Hid (Kp (fun y => y = w.heap.size ∨ y = w.heap.size + 1) w0 w3) := Lib.hid ((HK.out.trans hk2 (fun y _ e => .inl e)).trans hk3 (fun y _ e => .inr e))
        rw [bdV_of] at hput2
        have hbm : (bs m).size ≤ 100000000 := by rw [bs_size]; exact hm
        have hbn : (bs n).size ≤ 100000000 := by rw [bs_size]; exact hnl9
        have hcat : ¬ (bs m ++ ⟨#[58, 58]⟩).size + (bs n).size > 9223372036854775807 := by
          rw [ByteArray.size_append]
          show ¬ (bs m).size + 2 + (bs n).size > _
          omega
        clear hG1b hk2 hG2b hk3 hG1c hh
        go_wp2_with fail
        go_roundw
        case rel => exact ⟨k + 1, by omega, by go_num, HK3.out, HG1c.out, HG2c.out⟩
        case measure => simp [intOf]; omega
    · have hke : p = k := by omega
      subst hke
      have htk : names.take p = names := List.take_of_length_le (by rw [← HP.out]; exact Nat.le_refl _)
      have hg1 := HG1.out
      have hg2 := HG2.out
      rw [htk] at hg1 hg2
      have HGA := Lib.hid hg1
      have HGB := Lib.hid hg2
      clear hg1 hg2 HG1 HG2 htk
      go_wp2_with fail
      go_loopw [38] (fun i wj => ∃ k : Nat, k ≤ q ∧ i = .int .i64 k ∧ Kp (fun y => y = w.heap.size ∨ y = w.heap.size + 1) w0 wj ∧ MapG sv Value.bool wj w.heap.size (OwnG names) ∧ MapG bdV Value.bool wj (w.heap.size + 1) (FndG (InStep m names (others.take k)))) (fun i _ => q - (intOf i).toNat)
      case atStart => exact ⟨0, by omega, rfl, HK.out, HGA.out, by rw [List.take_zero]; exact HGB.out⟩
      case round =>
        clear HK HGA HGB
        obtain ⟨k, hkq, rfl, hK, hG1, hG2⟩ := hrel
        have hsz := hK.size
        have HK := Lib.hid hK
        have HG1 := Lib.hid hG1
        have HG2 := Lib.hid hG2
        clear hK hG1 hG2
        by_cases hlt : k < q
        · obtain ⟨l, hl⟩ : ∃ l, others[k]? = some l := ⟨_, List.getElem?_eq_getElem (by rw [← HQ.out]; exact hlt)⟩
          obtain ⟨lv, hlv⟩ : ∃ lv, ovs[k]? = some lv := ⟨_, List.getElem?_eq_getElem (by rw [HOVL.out, ← HQ.out]; exact hlt)⟩
          have hkeep : Kept (Lt w.heap.size) w wr := (kept_below HBX.out).trans (HK.out.kept fun b hb => ⟨by unfold Lt at hb; omega, by unfold Lt at hb; omega⟩)
          obtain ⟨ad, rfl, _, a0⟩ := (HOR.out.keep hkeep).at_ hlv
          obtain ⟨BA, bc, rfl, hBR⟩ := HOV.out k lv l hlv hl
          have hll := HOLS.out l (List.mem_of_getElem? hl)
          obtain ⟨r, hr⟩ : ∃ r, r = l.length := ⟨_, rfl⟩
          rw [← hr] at hll a0
          have HRL := Lib.hid hr
          have HBR := Lib.hid hBR
          have HTK : Hid (others.take (k + 1) = others.take k ++ [l]) := Lib.hid (by rw [List.take_add_one, hl]; rfl)
          have hik : (0 : Int) ≤ (k : Int) ∧ (k : Int) < (q : Int) := ⟨by omega, by omega⟩
          clear hl hlv hkeep hBR hr
          go_wp2_with fail
          clear a0
          go_loopw [44] (fun i wj => ∃ j : Nat, j ≤ r ∧ i = .int .i64 j ∧ Kp (fun y => y = w.heap.size ∨ y = w.heap.size + 1) w0 wj ∧ MapG sv Value.bool wj w.heap.size (OwnG names) ∧ MapG bdV Value.bool wj (w.heap.size + 1) (FndG (fun b => InStep m names (others.take k) b ∨ (b ∈ l.take j ∧ b.1 ∉ ownS names)))) (fun i _ => r - (intOf i).toNat)
          case atStart => exact ⟨0, by omega, rfl, HK.out, HG1.out, HG2.out.ext fun b => by simp⟩
          case round =>
            clear HK HG1 HG2
            obtain ⟨j, hjr, rfl, hK, hG1, hG2⟩ := hrel
            have hsz := hK.size
            have HK := Lib.hid hK
            have HG1 := Lib.hid hG1
            have HG2 := Lib.hid hG2
            clear hK hG1 hG2
            by_cases hltj : j < r
            · obtain ⟨b, hb⟩ : ∃ b, l[j]? = some b := ⟨_, List.getElem?_eq_getElem (by rw [← HRL.out]; exact hltj)⟩
              have hkeep : Kept (Lt w.heap.size) w wr := (kept_below HBX.out).trans (HK.out.kept fun b hb => ⟨by unfold Lt at hb; omega, by unfold Lt at hb; omega⟩)
              obtain ⟨bd, rfl, _, b0, b1⟩ := bd_at (HBR.out.keep hkeep) hb
              have hTJ : l.take (j + 1) = l.take j ++ [b] := by rw [List.take_add_one, hb]; rfl
              have hij : (0 : Int) ≤ (j : Int) ∧ (j : Int) < (r : Int) := ⟨by omega, by omega⟩
              have hbw : Below wr.heap.size wr (wr.alloc (.cells #[sv b.1, sv b.2] 42)) := (Below.refl _ _).alloc (Nat.le_refl _) _
              have hlm1 := HG1.out.lt
              have hlm2 := HG2.out.lt
              have hg1 := HG1.out.same (hbw.block _ hlm1)
              have hg2 := HG2.out.same (hbw.block _ hlm2)
              have hk1 : Kp (fun y => y = w.heap.size ∨ y = w.heap.size + 1) w0 (wr.alloc (.cells #[sv b.1, sv b.2] 42)) := HK.out.alloc _
              by_cases hown : b.1 ∈ ownS names
              · have hlk := hg1.yes (P := Try.prog) (K := KSt) (k := b.1) (v := true) Try.underlying52 keyStr (fun k => ⟨k, rfl⟩) (by unfold OwnG; rw [if_pos hown])
                have HK1 := Lib.hid hk1
                have HG1b := Lib.hid hg1
                have HG2b : Hid (MapG bdV Value.bool (wr.alloc (.cells #[sv b.1, sv b.2] 42)) (w.heap.size + 1) (FndG (fun b => InStep m names (others.take k) b ∨ (b ∈ l.take (j + 1) ∧ b.1 ∉ ownS names)))) := Lib.hid (hg2.ext fun b' => by
                  unfold FndG
                  congr 1
                  apply propext
                  show (InStep m names (others.take k) b' ∨ (b' ∈ l.take j ∧ b'.1 ∉ ownS names)) ↔ (InStep m names (others.take k) b' ∨ (b' ∈ l.take (j + 1) ∧ b'.1 ∉ ownS names))
                  rw [hTJ, List.mem_append, List.mem_singleton]
                  constructor
                  · rintro (h | h)
                    · exact .inl h
                    · exact .inr ⟨.inl h.1, h.2⟩
                  · rintro (h | ⟨h | rfl, h2⟩)
                    · exact .inl h
                    · exact .inr ⟨h, h2⟩
                    · exact absurd hown h2)
                clear hk1 hg1 hg2 hTJ hb hkeep hbw hown
                go_wp2
                go_roundw
                case rel => exact ⟨j + 1, by omega, by go_num, HK1.out, HG1b.out, HG2b.out⟩
                case measure => simp [intOf]; omega
              · have hlk := hg1.no (P := Try.prog) (K := KSt) (k := b.1) (z := .bool false) (fun _ _ => sv_inj) Try.underlying52 keyStr (fun k => ⟨k, rfl⟩) (by kernel_rfl) (by unfold OwnG; rw [if_neg hown])
                obtain ⟨w3, hput, hg3, hk3⟩ := hg2.put (P := Try.prog) (K := KBd) (fun _ _ => bdV_inj) Try.underlying53 keyBd (fun k => ⟨k, rfl⟩) b true
                have HK1 := Lib.hid (hk1.trans hk3 (fun y _ e => .inr e))
                have HG1b := Lib.hid (hg1.kp hk3 (by omega))
                have HG2b : Hid (MapG bdV Value.bool w3 (w.heap.size + 1) (FndG (fun b => InStep m names (others.take k) b ∨ (b ∈ l.take (j + 1) ∧ b.1 ∉ ownS names)))) := Lib.hid (hg3.ext fun b' => by
                  unfold FndG
                  by_cases e : b' = b
                  · subst e
                    rw [if_pos rfl, if_pos]
                    exact .inr ⟨by rw [hTJ]; simp, hown⟩
                  · rw [if_neg e]
                    congr 1
                    apply propext
                    show (InStep m names (others.take k) b' ∨ (b' ∈ l.take j ∧ b'.1 ∉ ownS names)) ↔ (InStep m names (others.take k) b' ∨ (b' ∈ l.take (j + 1) ∧ b'.1 ∉ ownS names))
                    rw [hTJ, List.mem_append, List.mem_singleton]
                    constructor
                    · rintro (h | h)
                      · exact .inl h
                      · exact .inr ⟨.inl h.1, h.2⟩
                    · rintro (h | ⟨h | h, h2⟩)
                      · exact .inl h
                      · exact .inr ⟨h, h2⟩
                      · exact absurd h e)
                have hbl1 := alloc1 wr (.cells #[sv b.1, sv b.2] 42)
                clear hk1 hg1 hg2 hg3 hk3 hTJ hb hkeep hbw hown
                go_wp2
                go_roundw
                case rel => exact ⟨j + 1, by omega, by go_num, HK1.out, HG1b.out, HG2b.out⟩
                case measure => simp [intOf]; omega
            · have hje : r = j := by omega
              subst hje
              have htk : l.take r = l := List.take_of_length_le (by rw [← HRL.out]; exact Nat.le_refl _)
              have HG2b : Hid (MapG bdV Value.bool wr (w.heap.size + 1) (FndG (InStep m names (others.take (k + 1))))) := Lib.hid (HG2.out.ext fun b => by
                unfold FndG
                congr 1
                rw [htk, HTK.out]
                unfold InStep
                apply propext
                constructor
                · rintro ((h | ⟨l', h1, h2⟩) | h)
                  · exact .inl h
                  · exact .inr ⟨l', List.mem_append_left _ h1, h2⟩
                  · exact .inr ⟨l, by simp, h⟩
                · rintro (h | ⟨l', h1, h2⟩)
                  · exact .inl (.inl h)
                  · rcases List.mem_append.1 h1 with h1 | h1
                    · exact .inl (.inr ⟨l', h1, h2⟩)
                    · rw [List.mem_singleton.1 h1] at h2
                      exact .inr h2)
              clear HG2 htk
              go_wp2_with fail
              go_roundw
              case rel => exact ⟨k + 1, by omega, by go_num, HK.out, HG1.out, HG2b.out⟩
              case measure => simp [intOf]; omega
        · have hke : q = k := by omega
          subst hke
          have htk : others.take q = others := List.take_of_length_le (by rw [← HQ.out]; exact Nat.le_refl _)
          have hg2 := HG2.out
          rw [htk] at hg2
          have HGB := Lib.hid hg2
          clear HG2 hg2 htk
          have HBW : Hid (Below w.heap.size w wr) := Lib.hid (kp_below HBX.out HK.out fun y e => by omega)
          go_wp2_with fail
          refine (keysV_any _ wr).mono ?_
          rintro e w2 ⟨rfl, rfl⟩
          have hb2 : Below wr.heap.size wr (wr.alloc (.cells #[.map (some (w.heap.size + 1))] 53)) := (Below.refl _ _).alloc (Nat.le_refl _) _
          have ha2 := alloc1 wr (.cells #[.map (some (w.heap.size + 1))] 53)
          obtain ⟨w2, hw2⟩ : ∃ w2, w2 = wr.alloc (.cells #[.map (some (w.heap.size + 1))] 53) := ⟨_, rfl⟩
          have hs2 : w2.heap.size = wr.heap.size + 1 := by rw [hw2]; simp
          rw [← hw2] at hb2 ha2 ⊢
          have HS := Lib.hid (sortedFunc_any wr.heap.size (w.heap.size + 1) (FndG (InStep m names others)) w2 (by omega) ((Lib.cell_of_heap ha2 _).trans rfl) (HGB.out.same (hb2.block _ HGB.out.lt)) (fun ks hn hk => HFEW.out ks hn fun k h => FndG_some.1 (hk k h)))
          have HB2 := Lib.hid (HBW.out.trans (hb2.mono HBW.out.size))
          clear hb2 ha2 hs2 hw2
          go_wp2_with fail
          refine HS.out.mono ?_
          rintro e w3 ⟨A, c, ss, rfl, _, hasc, hmem, hown, hb3⟩
          have hsz2 := HB2.out.size
          have hsz3 := hb3.size
          have HRES : Hid (StepRes m names others w (.returned (.slice A ss.length c)) w3) := Lib.hid ⟨A, c, ss, rfl, (own_le hown).1, hasc, fun k => by rw [hmem k, FndG_some], Row.ofOwn hown fun g _ h3 h4 => ⟨by omega, h4⟩, HB2.out.trans (hb3.mono hsz2)⟩
          obtain ⟨z, hz⟩ : ∃ z, z = ss.length := ⟨_, rfl⟩
          rw [← hz] at HRES ⊢
          clear hasc hmem hown hb3 hz
          go_wp2
          go_ret
          exact HRES.out
end Go.Proofs.Ytcliegpofhjpcaa
