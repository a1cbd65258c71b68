/-
  The walk of identity.Check.
  Conditions: the arguments read as identities.
-/
import Derived.Test.YtmnhgkhidepojaaIdB
namespace Go.Proofs.Ytmnhgkhidepojaa
open Go.RowKit

def ChkP (n : Int) (xs : List Idn) : Prop := (∀ y ∈ xs, 1 ≤ y.id ∧ y.id < n) ∧ (xs.Pairwise fun a b => a.id < b.id) ∧ xs.Pairwise fun a b => a.key ≠ b.key
def lastId (xs : List Idn) : Int := (xs.getLast?.map (·.id)).getD 0
theorem lastId_snoc (xs : List Idn) (y : Idn) : lastId (xs ++ [y]) = y.id := by simp [lastId]
theorem lastId_mem {xs : List Idn} : xs = [] ∨ ∃ y ∈ xs, lastId xs = y.id := by
  rcases List.eq_nil_or_concat xs with h | ⟨l, y, rfl⟩
  · exact .inl h
  · exact .inr ⟨y, by simp, by rw [List.concat_eq_append, lastId_snoc]⟩
theorem chkP_snoc {n : Int} {xs : List Idn} {y : Idn} : ChkP n (xs ++ [y]) ↔ ChkP n xs ∧ lastId xs < y.id ∧ y.id < n ∧ ∀ z ∈ xs, z.key ≠ y.key := by
  unfold ChkP
  simp only [List.pairwise_append, List.pairwise_singleton, List.mem_append, List.mem_singleton, true_and]
  constructor
  · rintro ⟨h1, ⟨h2, h3⟩, h4, h5⟩
    refine ⟨⟨fun z hz => h1 z (.inl hz), h2, h4⟩, ?_, (h1 y (.inr rfl)).2, fun z hz => h5 z hz y rfl⟩
    rcases @lastId_mem xs with h | ⟨z, hz, e⟩
    · subst h
      have := (h1 y (.inr rfl)).1
      simp [lastId]
      omega
    · rw [e]
      exact h3 z hz y rfl
  · rintro ⟨⟨h1, h2, h3⟩, h4, h5, h6⟩
    have hpos : 0 ≤ lastId xs := by
      rcases @lastId_mem xs with h | ⟨z, hz, e⟩
      · subst h; simp [lastId]
      · rw [e]; have := (h1 z hz).1; omega
    have hall : ∀ z ∈ xs, z.id ≤ lastId xs := by
      rcases List.eq_nil_or_concat xs with h | ⟨l, u, rfl⟩
      · subst h; intro z hz; cases hz
      · intro z hz
        rw [List.concat_eq_append] at hz h2 ⊢
        rw [lastId_snoc]
        rcases List.mem_append.1 hz with hz | hz
        · have := (List.pairwise_append.1 h2).2.2 z hz u (by simp)
          omega
        · rw [List.mem_singleton.1 hz]
          exact Int.le_refl _
    refine ⟨fun z hz => ?_, ⟨h2, fun z hz u hu => ?_⟩, h3, fun z hz u hu => ?_⟩
    · rcases hz with hz | rfl
      · exact h1 z hz
      · exact ⟨by omega, h5⟩
    · subst hu
      have := hall z hz
      omega
    · subst hu
      exact h6 z hz

theorem chkP_take {n : Int} {xs : List Idn} (h : ChkP n xs) (k : Nat) : ChkP n (xs.take k) :=
  ⟨fun y hy => h.1 y (List.mem_of_mem_take hy), h.2.1.sublist (List.take_sublist _ _), h.2.2.sublist (List.take_sublist _ _)⟩

set_option maxHeartbeats 800000 in
set_option maxRecDepth 100000 in
theorem check_any (n : Int) (xs : List Idn) (A : Option Addr) (c : Nat) (w : World) (hl : xs.length ≤ 1000) (h : Row w (Lt w.heap.size) A (flt idC xs)) :
    Calls Try.prog 15 #[.agg #[.int .i64 n, .slice A xs.length c]] w (Says (Chk n xs) w) := by
  obtain ⟨m, hm⟩ : ∃ m, m = xs.length := ⟨_, rfl⟩
  rw [← hm] at hl ⊢
  have HM := Lib.hid hm
  have HR := Lib.hid h
  clear hm h
  by_cases h1 : n < 1
  · have hb : Below w.heap.size w (w.alloc (.cells #[.int .i64 n, .slice A m c] 29)) := (Below.refl _ _).alloc (Nat.le_refl _) _
    have HB := Lib.hid hb
    clear hb
    go_enter Try.func15, Try.ntmps15
    go_wp2
    go_ret
    exact ⟨_, rfl, ⟨(fun h => by cases h), fun h => by have := h.1; omega⟩, HB.out⟩
  by_cases h2 : top < n
  · have hb : Below w.heap.size w (w.alloc (.cells #[.int .i64 n, .slice A m c] 29)) := (Below.refl _ _).alloc (Nat.le_refl _) _
    have HB := Lib.hid hb
    have h3 : (1099511627776 : Int) < n := h2
    clear hb
    go_enter Try.func15, Try.ntmps15
    go_wp2
    go_ret
    exact ⟨_, rfl, ⟨(fun h => by cases h), fun h => by have := h.2.1; omega⟩, HB.out⟩
  have h3 : ¬ (1099511627776 : Int) < n := h2
  rw [Int.not_lt] at h1 h2 h3
  have hbx : Below w.heap.size w ((w.alloc (.cells #[.int .i64 n, .slice A m c] 29)).alloc (.map #[] 0)) := ((Below.refl _ _).alloc (Nat.le_refl _) _).alloc (by simp) _
  have hx0 : ((w.alloc (.cells #[.int .i64 n, .slice A m c] 29)).alloc (.map #[] 0)).heap[w.heap.size]? = some (.cells #[.int .i64 n, .slice A m c] 29 (0, 0)) := (alloc2 _ _ _).1
  have hmp : MapAt ((w.alloc (.cells #[.int .i64 n, .slice A m c] 29)).alloc (.map #[] 0)) (w.heap.size + 1) [] := by
    have := MapAt.new (w.alloc (.cells #[.int .i64 n, .slice A m c] 29))
    simpa using this
  have HBX := Lib.hid hbx
  have HX0 := Lib.hid hx0
  have HMP := Lib.hid hmp
  clear hbx hx0 hmp
  have hmm := @run_makeMap Try.prog
  go_enter Try.func15, Try.ntmps15
  go_wp2_with fail
  clear hmm
  obtain ⟨w0, hw0⟩ : ∃ w0, w0 = ((w.alloc (.cells #[.int .i64 n, .slice A m c] 29)).alloc (.map #[] 0)) := ⟨_, rfl⟩
  rw [← hw0] at HBX HX0 HMP ⊢
  clear hw0
  go_loopw [25, 4] (fun i lst wr => ∃ k : Nat, k ≤ m ∧ i = .int .i64 k ∧ lst = .int .i64 (lastId (xs.take k)) ∧ Below w.heap.size w wr ∧ wr.heap[w.heap.size]? = some (.cells #[.int .i64 n, .slice A m c] 29 (0, 0)) ∧
    MapAt wr (w.heap.size + 1) ((xs.take k).map fun y => (nmV y.key, .bool true)) ∧ ChkP n (xs.take k)) (fun i _ _ => m - (intOf i).toNat)
  case atStart => exact ⟨0, by omega, rfl, rfl, HBX.out, HX0.out, HMP.out, ⟨fun y hy => by simp at hy, by simp, by simp⟩⟩
  case round =>
    obtain ⟨k, hkm, rfl, rfl, hB, hX, hMp, hP⟩ := hrel
    have hsz := hB.size
    have hlx := lt_of_heap hX
    have hlm := hMp.lt
    by_cases hlt : k < m
    · obtain ⟨y, hy⟩ : ∃ y, xs[k]? = some y := ⟨_, List.getElem?_eq_getElem (by rw [← HM.out]; exact hlt)⟩
      obtain ⟨ad, rfl, hS, a0, a1, a2, a3⟩ := id_at (HR.out.keep (kept_below hB)) hy
      obtain ⟨la, hla⟩ : ∃ la, la = lastId (xs.take k) := ⟨_, rfl⟩
      have htk : xs.take (k + 1) = xs.take k ++ [y] := by rw [List.take_add_one, hy]; rfl
      have c0 : wr.cell? ⟨w.heap.size, 0, none⟩ = some (.int .i64 n) := (Lib.cell_of_heap hX _).trans rfl
      have hy0 := alloc1 wr (.cells #[.int .i64 y.id, sv y.it.md, sv y.it.nm, sv y.it.sh] 39)
      have hby : Below wr.heap.size wr (wr.alloc (.cells #[.int .i64 y.id, sv y.it.md, sv y.it.nm, sv y.it.sh] 39)) := (Below.refl _ _).alloc (Nat.le_refl _) _
      rw [← hla]
      have HLA := Lib.hid hla
      have HTK := Lib.hid htk
      have HB := Lib.hid (hB.trans (hby.mono hsz))
      have HY := Lib.hid hy
      have HY0 := Lib.hid hy0
      have HX := Lib.hid ((hby.block _ hlx).trans hX)
      have HMp := Lib.hid (hMp.same (hby.block _ hlm))
      have HP := Lib.hid hP
      clear hla htk hB hy hy0 hX hMp hP hby
      by_cases hA : y.id ≤ la
      · go_wp2
        go_ret
        refine ⟨_, rfl, ⟨(fun h => by cases h), fun h => ?_⟩, HB.out⟩
        have h5 : ChkP n (xs.take (k + 1)) := chkP_take ⟨h.2.2.1, h.2.2.2⟩ _
        rw [HTK.out] at h5
        have h6 := (chkP_snoc.1 h5).2.1
        have := HLA.out
        omega
      by_cases hN : n ≤ y.id
      · go_wp2
        go_ret
        refine ⟨_, rfl, ⟨(fun h => by cases h), fun h => ?_⟩, HB.out⟩
        have h5 : ChkP n (xs.take (k + 1)) := chkP_take ⟨h.2.2.1, h.2.2.2⟩ _
        rw [HTK.out] at h5
        have h6 := (chkP_snoc.1 h5).2.2.1
        omega
      obtain ⟨w2, hw2⟩ : ∃ w2, w2 = wr.alloc (.cells #[.int .i64 y.id, sv y.it.md, sv y.it.nm, sv y.it.sh] 39) := ⟨_, rfl⟩
      rw [← hw2] at HB HY0 HX HMp
      have HW2 := Lib.hid hw2
      clear hw2
      go_wp2_with fail
      rw [← HW2.out]
      have HSZ2 := Lib.hid (show w2.heap.size = wr.heap.size + 1 by rw [HW2.out]; simp)
      refine (ofk_any _ _ _ _).mono ?_
      rintro e w3 ⟨rfl, hb3⟩
      have hsz3 := hb3.size
      have hl2 : wr.heap.size < w2.heap.size := by have := HSZ2.out; omega
      have hm3 := HMp.out.same (hb3.block _ (by omega))
      have hx3 := (hb3.block _ (by omega)).trans HX.out
      have hy3 := (hb3.block _ hl2).trans HY0.out
      have hbw3 : Below w.heap.size w w3 := HB.out.trans (hb3.mono (by omega))
      have r0 : w3.cell? ⟨wr.heap.size, 0, none⟩ = some (.int .i64 y.id) := (Lib.cell_of_heap hy3 _).trans rfl
      have r1 : w3.cell? ⟨wr.heap.size, 1, none⟩ = some (sv y.it.md) := (Lib.cell_of_heap hy3 _).trans rfl
      have r2 : w3.cell? ⟨wr.heap.size, 2, none⟩ = some (sv y.it.nm) := (Lib.cell_of_heap hy3 _).trans rfl
      have r3 : w3.cell? ⟨wr.heap.size, 3, none⟩ = some (sv y.it.sh) := (Lib.cell_of_heap hy3 _).trans rfl
      have hkeys : ∀ p ∈ (xs.take k).map fun y => (nmV y.key, Value.bool true), KNm w3 p.1 := fun p hp => by
        obtain ⟨z, _, rfl⟩ := List.mem_map.1 hp
        exact ⟨_, rfl⟩
      have hT := Try.underlying63
      by_cases hin : ∃ z ∈ xs.take k, z.key = y.key
      · have hlk : (Instr.lookup 63 (.map (some (w.heap.size + 1))) (.agg #[.string (bs y.it.md), .string (bs y.it.nm)]) false).run Try.prog w3 = .ok (.bool true) w3 := by
          obtain ⟨z, hz, hzk⟩ := hin
          exact run_look_yes (k := nmV y.key) hT keyNamed hm3 ⟨_, rfl⟩ hkeys (List.mem_map.2 ⟨z, hz, by rw [hzk]⟩)
        have HB3 := Lib.hid hbw3
        have HIN := Lib.hid hin
        clear hm3 hx3 hy3 hb3 hbw3 hkeys hT hin
        go_wp2
        go_ret
        refine ⟨_, rfl, ⟨(fun h => by cases h), fun h => ?_⟩, HB3.out⟩
        have h5 : ChkP n (xs.take (k + 1)) := chkP_take ⟨h.2.2.1, h.2.2.2⟩ _
        rw [HTK.out] at h5
        obtain ⟨z, hz, hzk⟩ := HIN.out
        exact absurd hzk ((chkP_snoc.1 h5).2.2.2 z hz)
      · have hno : ∀ z ∈ xs.take k, z.key ≠ y.key := fun z hz e => hin ⟨z, hz, e⟩
        have hnp : ∀ p ∈ (xs.take k).map fun y => (nmV y.key, Value.bool true), p.1 ≠ nmV y.key := fun p hp e => by
          obtain ⟨z, hz, rfl⟩ := List.mem_map.1 hp
          exact hno z hz (nmV_inj e)
        have hlk : (Instr.lookup 63 (.map (some (w.heap.size + 1))) (.agg #[.string (bs y.it.md), .string (bs y.it.nm)]) false).run Try.prog w3 = .ok (.bool false) w3 :=
          run_look_no (k := nmV y.key) hT keyNamed hm3 ⟨_, rfl⟩ hkeys rfl hnp
        have HB3 := Lib.hid hbw3
        have HNO := Lib.hid hno
        have HM3 := Lib.hid hm3
        have HX3 := Lib.hid hx3
        have HKEYS : Hid _ := Lib.hid (⟨hkeys, hnp⟩ : _ ∧ _)
        clear hm3 hx3 hy3 hb3 hbw3 hkeys hT hin hno hnp
        go_wp2_with fail
        refine (ofk_any _ _ _ _).mono ?_
        rintro e w4 ⟨rfl, hb4⟩
        have hm4 := HM3.out.same (hb4.block _ (by omega))
        have hx4 := (hb4.block _ (by omega)).trans HX3.out
        have hbw4 : Below w.heap.size w w4 := HB3.out.trans (hb4.mono (by omega))
        have hsz4 := hb4.size
        obtain ⟨w5, hput, hm5, hk5⟩ := run_put_new (P := Try.prog) (K := KNm) (k := nmV y.key) (.bool true) Try.underlying63 keyNamed hm4 ⟨_, rfl⟩ (fun p hp => by
          obtain ⟨z, _, rfl⟩ := List.mem_map.1 hp
          exact ⟨_, rfl⟩) HKEYS.out.2
        have hput' : (Instr.mapUpdate 63 (.map (some (w.heap.size + 1))) (.agg #[.string (bs y.it.md), .string (bs y.it.nm)]) (.bool true)).run Try.prog w4 = .ok () w5 := hput
        have HM5 := Lib.hid hm5
        have HX5 := Lib.hid (hk5.heap hx4 (by omega))
        have HB5 : Hid (Below w.heap.size w w5) := Lib.hid ⟨hk5.os.trans hbw4.os, hk5.tape.trans hbw4.tape, hk5.output.trans hbw4.output, Nat.le_trans hbw4.size hk5.size, fun b hb => (hk5.block b (by omega) (by omega)).trans (hbw4.block b hb)⟩
        clear hm4 hx4 hbw4 hb4 hput hm5 hk5 r0 r1 r2 r3 hlk
        go_wp2
        go_roundw
        case rel =>
          refine ⟨k + 1, by omega, by go_num, ?_, HB5.out, HX5.out, ?_, ?_⟩
          · rw [HTK.out, lastId_snoc]
          · rw [HTK.out, List.map_append]
            exact HM5.out
          · rw [HTK.out]
            exact chkP_snoc.2 ⟨HP.out, by have := HLA.out; omega, by omega, HNO.out⟩
        case measure => simp [intOf]; omega
    · have HB := Lib.hid hB
      have HP := Lib.hid hP
      clear hB hX hMp hP
      go_wp2
      go_ret
      have hx : xs.take k = xs := List.take_of_length_le (by rw [← HM.out]; omega)
      have hp := HP.out
      rw [hx] at hp
      exact ⟨_, rfl, ⟨fun _ => ⟨h1, h2, hp⟩, fun _ => rfl⟩, HB.out⟩
end Go.Proofs.Ytmnhgkhidepojaa
