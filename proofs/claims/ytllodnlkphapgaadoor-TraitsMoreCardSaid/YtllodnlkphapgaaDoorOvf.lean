/-
  The walk of traits.Overlaps.
  Conditions: the headers lie in memory; their types are such as plain makes.
-/
import Derived.Test.YtllodnlkphapgaaDoorOvl
import Derived.Test.YtllodnlkphapgaaDoorGive
namespace Go.Proofs.YtllodnlkphapgaaDoor
open Go.RowKit

def intsV (O : List Nat) : List Value := O.map fun i : Nat => Value.int .i64 (i : Int)
/-- What Overlaps returns: at least those that can be meant with an earlier one. -/
def OvRes (hs : List Hdr) (w : World) (e : Ending) (w' : World) : Prop :=
  ∃ (O : List Nat) (A : Option Addr) (c : Nat), e = .returned (.slice A O.length c) ∧ Row w' (Lt w'.heap.size) A (intsV O) ∧ O.length ≤ hs.length ∧ (∀ i k x h, hs[i]? = some h → hs[k]? = some x → k < i → Meant x h → i ∈ O) ∧ Below w.heap.size w w'
theorem Hds.front {w : World} {S : Nat → Prop} {A : Option Addr} {hs : List Hdr} {qs : List HV} (h : Hds w S A hs qs) (k : Nat) : Hds w S A (hs.take k) (qs.take k) := by
  have hf : flat5 (qs.take k) = (flat5 qs).take (k * 5) := by
    have : ∀ (k : Nat) (qs : List HV), flat5 (qs.take k) = (flat5 qs).take (k * 5) := by
      intro k
      induction k with
      | zero => intro qs; simp [flat5]
      | succ k ih =>
        intro qs
        cases qs with
        | nil => simp [flat5]
        | cons q r =>
          have e : (k + 1) * 5 = k * 5 + 5 := by omega
          have := ih r
          rw [e]
          simpa [flat5, HV.cells] using this
    exact this k qs
  refine ⟨by simp [h.len], by rw [hf]; exact h.row.front _, fun i x q hx hq => ?_, fun x hx => h.small x (List.mem_of_mem_take hx), by have := h.few; rw [List.length_take]; omega⟩
  rw [List.getElem?_take] at hx hq
  split at hx
  · rename_i hi
    rw [if_pos hi] at hq
    exact h.each i x q hx hq
  · cases hx

set_option maxHeartbeats 8000000 in
set_option maxRecDepth 100000 in
theorem overlaps_any (hs : List Hdr) (A : Option Addr) (c : Nat) (qs : List HV) (w : World) (hh : Hds w (Lt w.heap.size) A hs qs) (hl : hs.length ≤ 1000) (hc1 : hs.length ≤ c) (hsm : ∀ x ∈ hs, SmallH x) :
    Calls Tryd.prog 10 #[.slice A hs.length c] w (OvRes hs w) := by
  obtain ⟨n, hn⟩ : ∃ n, n = hs.length := ⟨_, rfl⟩
  rw [← hn] at hl hc1 ⊢
  have HN := Lib.hid hn
  have HH := Lib.hid hh
  have HSM := Lib.hid hsm
  obtain ⟨i0, hi, hz0, hz1, hz2⟩ := info_parts infoI
  clear hn hh hsm
  go_enter Tryd.func10, Tryd.ntmps10
  go_wp2_with fail
  go_loopw [3, 8] (fun ov iv wr => ∃ (i : Nat) (O : List Nat), i ≤ n ∧ iv = .int .i64 (i : Int) ∧ wr.ownsRow w.heap.size 3 1 ov O.length (intsV O) ∧ O.length ≤ i ∧ (∀ j k x h, j < i → hs[j]? = some h → hs[k]? = some x → k < j → Meant x h → j ∈ O) ∧ Below w.heap.size w wr) (fun _ iv _ => n - (intOf iv).toNat)
  case atStart => exact ⟨0, [], Nat.zero_le _, rfl, World.ownsRow_nil _ _ _ _, Nat.le_refl _, fun j k x h hj => absurd hj (Nat.not_lt_zero _), Below.refl _ _⟩
  case round =>
    obtain ⟨i, O, hin, rfl, hown, hol, hO, hb⟩ := hrel
    obtain ⟨OA, oc, rfl, ho1, ho2⟩ := own_shape hown
    obtain ⟨m, hm⟩ : ∃ m, m = O.length := ⟨_, rfl⟩
    rw [← hm] at hown hol ho1 ⊢
    have HM := Lib.hid hm
    have HO := Lib.hid hO
    have HOWN := Lib.hid hown
    have HB := Lib.hid hb
    have hszr := hb.size
    clear hm hO
    by_cases hlt : i < n
    · have hki : i < hs.length := by rw [← HN.out]; exact hlt
      have hk0 : hs[i]? = some hs[i] := List.getElem?_eq_getElem hki
      have hmem : hs[i] ∈ hs := List.getElem_mem hki
      have hq0 : qs[i]? = some (qs[i]'(by rw [HH.out.len]; exact hki)) := List.getElem?_eq_getElem _
      generalize hs[i] = h at *
      obtain ⟨ad, q, rfl, hS, hq, e0, e1, e2, e3, e4, hHd⟩ := (HH.out.now (Nat.le_refl _) hb).at_ hk0
      obtain ⟨s, P, mm, a, rfl⟩ := hHd.shape
      dsimp only at e0 e1 e2 e3 e4
      have hbx : Below wr.heap.size wr (wr.alloc (.cells #[sv s, .slice P.1 P.2.1 P.2.2, sv h.trait, sv mm, .slice a.1 a.2.1 a.2.2] 38)) := (Below.refl _ _).alloc (Nat.le_refl _) _
      have hB := alloc1 wr (.cells #[sv s, .slice P.1 P.2.1 P.2.2, sv h.trait, sv mm, .slice a.1 a.2.1 a.2.2] 38)
      have hbw := hb.trans (hbx.mono hszr)
      have hCO := containsO (hs.take i) h s mm P a (some ad) c wr.heap.size (qs.take i) _ ((HH.out.now (Nat.le_refl _) hbw).front i) (hHd.ty.now (Nat.le_refl _) hbx) hB (fun x hx => HSM.out x (List.mem_of_mem_take hx)) (HSM.out h hmem)
      rw [show (hs.take i).length = i by rw [List.length_take]; omega] at hCO
      have HCO := Lib.hid hCO
      have HK0 := Lib.hid hk0
      have hOx := Lib.hid ((HOWN.out.kept (grownOfBelow hbx) (ownNone _)))
      have hic : (i : Int) ≤ (c : Int) := by omega
      have hc0 : ¬ c = 0 := by omega
      have hii : (0 : Int) ≤ (i : Int) ∧ (i : Int) < (n : Int) := ⟨by omega, by omega⟩
      have HBW := Lib.hid hbw
      clear hq hq0 hk0 hmem hHd hCO hB hbx hb hown hbw hS
      go_wp2_with fail
      generalize wr.alloc (.cells #[sv s, .slice P.1 P.2.1 P.2.2, sv h.trait, sv mm, .slice a.1 a.2.1 a.2.2] 38) = w2 at *
      refine HCO.out.mono ?_
      rintro e w3 ⟨r, rfl, hr, hb3⟩
      have hown3 := hOx.out.kept (grownOfBelow hb3) (ownNone _)
      have hb3w := HBW.out.trans (hb3.mono HBW.out.size)
      have HR := Lib.hid hr
      have HB3 := Lib.hid hb3w
      have hsz3 := hb3w.size
      have HOWN3 := Lib.hid hown3
      clear hr hb3 hb3w HCO
      cases r with
      | true =>
        go_wp2_with (at_builtin; refine wpList_append_lies _ rfl _ _ 22 rfl w.heap.size 3 i0 _ 1 8 Tryd.underlying22 hi hz0 hz1 hz2 rfl (by omega) _ m (intsV O) rfl (hown3.alloc _) ⟨w3.heap.size, 0, none⟩ 1 1 [.int .i64 (i : Int)] rfl rfl ?d1 ?d2 (by omega) ?d3 ?d4 ?d5 _ rfl ?_)
        case d1 => exact World.news_of_block (cs := #[.int .i64 (i : Int)]) (alloc1 w3 _)
        case d2 => simp [Value.oneCell']
        case d3 => unfold maxLen; omega
        case d4 => omega
        case d5 => simp; omega
        intro g cap w4 hown4 hgrow hat _
        have hb4 : Below w.heap.size w w4 := (HB3.out.alloc hsz3 _).grown hgrow (by simp; omega) (fun x e => (hown3.lt _ e).1)
        have HB4 := Lib.hid hb4
        have HO4 : Hid (w4.ownsRow w.heap.size 3 1 (.slice (some ⟨g, 0, none⟩) (m + 1) cap) (m + 1) (intsV (O ++ [i]))) := Lib.hid (by unfold intsV at hown4 ⊢; rw [List.map_append]; exact hown4)
        clear hown4 hgrow hat hb4 hown3
        go_wp2
        go_roundw
        case rel =>
          refine ⟨i + 1, O ++ [i], by omega, by go_num, ?_, by have := HM.out; simp; omega, fun j k x y hj h1 h2 h3 h4 => ?_, HB4.out⟩
          · have hle : (O ++ [i]).length = m + 1 := by have := HM.out; simp; omega
            rw [hle]
            exact HO4.out
          · rcases Nat.lt_or_ge j i with hji | hji
            · exact List.mem_append.2 (.inl (HO.out j k x y hji h1 h2 h3 h4))
            · obtain rfl : j = i := by omega
              simp
        case measure => simp [intOf]; omega
      | false =>
        go_wp2
        go_roundw
        case rel =>
          refine ⟨i + 1, O, by omega, by go_num, by rw [← HM.out]; exact HOWN3.out, by have := HM.out; omega, fun j k x y hj h1 h2 h3 h4 => ?_, HB3.out⟩
          rcases Nat.lt_or_ge j i with hji | hji
          · exact HO.out j k x y hji h1 h2 h3 h4
          · obtain rfl : j = i := by omega
            obtain rfl : h = y := Option.some.inj (HK0.out.symm.trans h1)
            have hkl := (List.getElem?_eq_some_iff.1 h2).1
            exact Bool.noConfusion (HR.out ⟨x, List.mem_of_getElem? (i := k) (by rw [List.getElem?_take_of_lt h3]; exact h2), h4⟩)
        case measure => simp [intOf]; omega
    · obtain rfl : i = n := by omega
      clear hb hown
      go_wp2
      go_ret
      have hr := Row.ofOwn (S := Lt wr.heap.size) HOWN.out fun g _ _ h2 => h2
      refine ⟨O, OA, oc, by rw [← HM.out]; rfl, hr, by rw [← HM.out, ← HN.out]; exact hol, fun j k x y h1 h2 h3 h4 => HO.out j k x y ?_ h1 h2 h3 h4, HB.out⟩
      have := (List.getElem?_eq_some_iff.1 h1).1
      rw [HN.out]
      exact this
end Go.Proofs.YtllodnlkphapgaaDoor
