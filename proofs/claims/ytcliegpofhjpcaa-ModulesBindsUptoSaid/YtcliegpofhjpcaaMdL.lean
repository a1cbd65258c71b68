/-
  The walks of maps.Keys, slices.Collect, slices.SortedFunc over the keys of a map of binds.
  Conditions: the map lies in memory; it has at most 10^8 entries.
-/
import Derived.Test.YtcliegpofhjpcaaMdK
namespace Go.Proofs.Ytcliegpofhjpcaa
open Go.RowKit Go.Shelf

set_option maxRecDepth 100000 in
set_option maxHeartbeats 1000000 in
theorem keysV_any (mb : Option Nat) (w : World) : Calls Try.prog 24 #[.map mb] w fun e w' => e = .returned (.func (.func 32) #[] #[.pointer (some ⟨w.heap.size, 0, none⟩)]) ∧ w' = w.alloc (.cells #[.map mb] 53) := by
  go_enter Try.func24, Try.ntmps24
  go_wp2
  go_ret
  exact ⟨rfl, rfl⟩

set_option maxRecDepth 100000 in
set_option maxHeartbeats 1000000 in
theorem collect_any (Bm b : Nat) (L : List (Key × Bool)) (w : World) (hBm : Bm < w.heap.size) (hm : w.cell? ⟨Bm, 0, none⟩ = some (.map (some b))) (hM : MapAt w b (L.map bkE)) (hL : L.length ≤ 100000000) :
    Calls Try.prog 30 #[.func (.func 32) #[] #[.pointer (some ⟨Bm, 0, none⟩)]] w (KeysRes L w) := by
  have HA := Lib.hid ((callsIn_wide (n := 6)).1 (appendSeq_in Fence.wide 6 trivial trivial rfl (by omega) Bm b L w hBm hm hM hL))
  clear hm hM
  go_enter Try.func30, Try.ntmps30
  go_wp2_with fail
  refine HA.out.mono ?_
  rintro e w' ⟨v, ss, rfl, hp, ho, hb⟩
  obtain ⟨A, c, rfl, _⟩ := own_slice ho
  have HO := Lib.hid ho
  have HP := Lib.hid hp
  have HB := Lib.hid hb
  clear hp ho hb
  go_wp2
  go_ret
  exact ⟨_, ss, rfl, HP.out, HO.out, HB.out⟩

/-- The keys in order, in a row of one's own. -/
def SortedRes (G : Key → Option Bool) (w : World) (e : Ending) (w' : World) : Prop :=
  ∃ (A : Option Addr) (c : Nat) (ss : List Key), e = .returned (.slice A ss.length c) ∧ (A = none → c = 0) ∧ AscK ss ∧ (∀ k, k ∈ ss ↔ (G k).isSome = true) ∧ w'.ownsRow w.heap.size 42 2 (.slice A ss.length c) ss.length (flt bdC ss) ∧ Below w.heap.size w w'
set_option maxRecDepth 100000 in
set_option maxHeartbeats 1000000 in
theorem sortedFunc_any (Bm b : Nat) (G : Key → Option Bool) (w : World) (hBm : Bm < w.heap.size) (hm : w.cell? ⟨Bm, 0, none⟩ = some (.map (some b))) (hM : MapG bdV Value.bool w b G) (hL : ∀ ks : List Key, ks.Nodup → (∀ k ∈ ks, (G k).isSome = true) → ks.length ≤ 100000000) :
    Calls Try.prog 23 #[.func (.func 32) #[] #[.pointer (some ⟨Bm, 0, none⟩)], .func (.func 25) #[] #[]] w (SortedRes G w) := by
  obtain ⟨L, hMA, hG⟩ := hM
  have hnd := nodup_of_map hMA
  have hmem : ∀ k, k ∈ L.map (·.1) ↔ (G k).isSome = true := fun k => by
    rw [List.mem_map, ← hG k]
    constructor
    · rintro ⟨⟨k', v⟩, h, rfl⟩
      rw [glook_mem hnd h]
      rfl
    · intro h
      obtain ⟨v, hv⟩ := Option.isSome_iff_exists.1 h
      exact ⟨(k, v), glook_some hv, rfl⟩
  have hlen : L.length ≤ 100000000 := by
    have := hL (L.map (·.1)) hnd fun k hk => (hmem k).1 hk
    rwa [List.length_map] at this
  have HC := Lib.hid (collect_any Bm b L w hBm hm hMA hlen)
  have HND := Lib.hid hnd
  have HMEM := Lib.hid hmem
  clear hMA hnd hmem hm hG hL
  go_enter Try.func23, Try.ntmps23
  go_wp2_with fail
  refine HC.out.mono ?_
  rintro e w1 ⟨v, ss, rfl, hp, ho, hb⟩
  obtain ⟨A, c, rfl, hAc⟩ := own_slice ho
  have hsl : ss.length = L.length := by rw [hp.length_eq, List.length_map]
  have hbs := hb.size
  have HS := Lib.hid (sortO_any w.heap.size A c ss.length ss w1 ho rfl (by omega))
  have HB := Lib.hid hb
  have HP := Lib.hid hp
  obtain ⟨p, hpl⟩ : ∃ p, p = ss.length := ⟨_, rfl⟩
  rw [← hpl] at HS ⊢
  have HPL := Lib.hid hpl
  have HAC := Lib.hid hAc
  clear hp ho hb hsl hpl hAc
  go_wp2_with fail
  refine HS.out.mono ?_
  rintro e w2 ⟨rfl, ys, hyp, hys, hyo, g, hg, hk⟩
  have hyl : ys.length = p := by rw [hyp.length_eq, HPL.out]
  have HR : Hid (AscK ys) := Lib.hid (by
    have h1 := HP.out.nodup_iff.2 HND.out
    have h2 := hyp.nodup_iff.2 h1
    refine List.pairwise_iff_getElem.2 fun i j hi hj hij => ?_
    have h3 := List.pairwise_iff_getElem.1 hys i j hi hj hij
    cases h4 : ltKey ys[i] ys[j] with
    | true => rfl
    | false =>
      have := ltKey_tot h4 h3
      exact absurd this (List.pairwise_iff_getElem.1 h2 i j hi hj hij))
  have HM2 : Hid (∀ k, k ∈ ys ↔ (G k).isSome = true) := Lib.hid fun k => by rw [← HMEM.out k, hyp.mem_iff, HP.out.mem_iff]
  have HB2 : Hid (Below w.heap.size w w2) := Lib.hid ⟨hk.os.trans HB.out.os, hk.tape.trans HB.out.tape, hk.output.trans HB.out.output, Nat.le_trans HB.out.size hk.size, fun x hx => (hk.block x (by have := HB.out.size; omega) (by omega)).trans (HB.out.block x hx)⟩
  have HO := Lib.hid hyo
  have HYL := Lib.hid hyl
  clear hyp hys hyo hk hyl
  go_wp2
  go_ret
  exact ⟨A, c, ys, by rw [HYL.out]; rfl, HAC.out, HR.out, HM2.out, by rw [HYL.out]; exact HO.out, HB2.out⟩
end Go.Proofs.Ytcliegpofhjpcaa
