/-
  The walks of slices.Clone over identities, identity.Find.
  Conditions: the arguments read as identities.
-/
import Derived.Test.YtmnhgkhidepojaaIdC
import Derived.Lib.SliceRun
namespace Go.Proofs.Ytmnhgkhidepojaa
open Go.RowKit

theorem infoId : (Try.prog.info? 39).map (fun i => (i.zero, i.size, i.bytes)) = some (some (.agg #[.int .i64 0, .string ⟨#[]⟩, .string ⟨#[]⟩, .string ⟨#[]⟩]), 4, 56) := by kernel_rfl
theorem infoIt : (Try.prog.info? 37).map (fun i => (i.zero, i.size, i.bytes)) = some (some (.agg #[.string ⟨#[]⟩, .string ⟨#[]⟩, .string ⟨#[]⟩]), 3, 48) := by kernel_rfl

/-- A row of one's own with these identities. -/
def OwnIds (w : World) (xs : List Idn) (e : Ending) (w' : World) : Prop :=
  ∃ A c, e = .returned (.slice A xs.length c) ∧ (A = none → c = 0) ∧ w'.ownsRow w.heap.size 39 4 (.slice A xs.length c) xs.length (flt idC xs) ∧ Below w.heap.size w w'

set_option maxHeartbeats 1000000 in
set_option maxRecDepth 100000 in
theorem clone_any (xs : List Idn) (A : Option Addr) (c : Nat) (w : World) (hl : xs.length ≤ 1000) (hA : A = none → c = 0) (h : Row w (Lt w.heap.size) A (flt idC xs)) :
    Calls Try.prog 26 #[.slice A xs.length c] w (OwnIds w xs) := by
  obtain ⟨n, hn⟩ : ∃ n, n = xs.length := ⟨_, rfl⟩
  have HL := Lib.hid (show (flt idC xs).length = n * 4 by rw [flt_length idC_len, hn])
  rcases A with _ | ad
  · obtain rfl := hA rfl
    have h0 : xs = [] := by
      rcases h with h | ⟨ad, h, _⟩
      · have := HL.out
        rw [h] at this
        exact List.eq_nil_of_length_eq_zero (by simp at this; omega)
      · cases h
    subst h0
    clear h hA HL hn
    have h1 := Lib.run_eql_slice_nil (P := Try.prog) w 27 39 none 0 0 0 0 Try.underlying27
    go_enter Try.func26, Try.ntmps26
    go_wp2
    go_ret
    exact ⟨none, 0, rfl, fun _ => rfl, World.ownsRow_nil _ _ _ _, Below.refl _ _⟩
  · rw [← hn] at hl ⊢
    have HN := Lib.hid hn
    obtain ⟨i0, hi, hz0, hz1, hz2⟩ := info_parts infoId
    have h1 := Lib.run_eql_slice_nil (P := Try.prog) w 27 39 (some ad) n c 0 0 Try.underlying27
    have hown : (w.alloc (.cells #[] 39)).ownsRow w.heap.size 39 4 (.slice (some ⟨w.heap.size, 0, none⟩) 0 0) 0 [] :=
      ⟨rfl, .inr ⟨w.heap.size, 0, #[], rfl, Nat.le_refl _, alloc1 _ _, Nat.le_refl _, Nat.zero_le _, rfl, rfl⟩⟩
    have HH := Lib.hid (h.keep (kept_below ((Below.refl w.heap.size w).alloc (Nat.le_refl _) (.cells #[] 39))))
    clear hn h hA
    go_enter Try.func26, Try.ntmps26
    go_wp2_with (at_builtin; refine wpList_append_own _ rfl _ _ 27 rfl w.heap.size 39 i0 _ 4 56 Try.underlying27 hi hz0 hz1 hz2 rfl (by omega) _ 0 [] rfl hown ad n c (flt idC xs) rfl HL.out ?c1 (flt_one' idC_one xs) ?c2 ?c3 ?c4 ?_)
    case c1 =>
      intro j u hu
      obtain ⟨ad', e, _, hc⟩ := HH.out.at_ hu
      obtain rfl := Option.some.inj e
      exact hc
    case c2 => unfold maxLen; omega
    case c3 => omega
    case c4 => simp
    intro v' w2 hown2 hg _
    have hb2 : Below w.heap.size w w2 := ((Below.refl w.heap.size w).alloc (Nat.le_refl _) (.cells #[] 39)).grown hg (by simp) (fun k hk => by simp [Value.ownBlock] at hk; omega)
    obtain ⟨A2, c2, hv, hc2⟩ := own_slice hown2
    have HO := Lib.hid hown2
    have HV := Lib.hid hv
    have HC := Lib.hid hc2
    clear hown2 hv hc2
    go_wp2
    go_ret
    have hv := HV.out
    have ho := HO.out
    rw [hv] at ho ⊢
    refine ⟨A2, c2, by rw [← HN.out]; rfl, HC.out, by rw [← HN.out]; exact ho, hb2⟩

theorem fnd_take {xs : List Idn} {k : Key} {j : Nat} {y : Idn} (h : ∀ z ∈ xs.take j, z.key ≠ k) (hy : xs[j]? = some y) (hk : y.key = k) : fnd xs k = some y.id := by
  unfold fnd
  have : xs.find? (fun y => decide (y.key = k)) = some y := by
    rw [← List.take_append_drop j xs, List.find?_append, List.find?_eq_none.2 fun z hz => by simpa using h z hz]
    obtain ⟨hj, rfl⟩ := List.getElem?_eq_some_iff.1 hy
    rw [List.drop_eq_getElem_cons hj, List.find?_cons_of_pos (by simpa using hk)]
    rfl
  rw [this]
  rfl
def FindRes (xs : List Idn) (k : Key) (w : World) (e : Ending) (w' : World) : Prop := e = .returned (.tuple #[.int .i64 ((fnd xs k).getD 0), .bool (fnd xs k).isSome]) ∧ Below w.heap.size w w'

set_option maxHeartbeats 1000000 in
set_option maxRecDepth 100000 in
theorem find_any (n : Int) (xs : List Idn) (A : Option Addr) (c : Nat) (a b : List UInt8) (w : World) (hl : xs.length ≤ 1000) (h : Row w (Lt w.heap.size) A (flt idC xs)) :
    Calls Try.prog 17 #[.agg #[.int .i64 n, .slice A xs.length c], sv a, sv b] w (FindRes xs (a, b) w) := by
  obtain ⟨m, hm⟩ : ∃ m, m = xs.length := ⟨_, rfl⟩
  rw [← hm] at hl ⊢
  have HM := Lib.hid hm
  have HR := Lib.hid h
  clear hm h
  go_enter Try.func17, Try.ntmps17
  go_wp2_with fail
  go_loopw [13] (fun i wr => ∃ k : Nat, k ≤ m ∧ i = .int .i64 k ∧ Below w.heap.size w wr ∧ ∀ z ∈ xs.take k, z.key ≠ (a, b)) (fun i _ => m - (intOf i).toNat)
  case atStart => exact ⟨0, by omega, rfl, (Below.refl _ _).alloc (Nat.le_refl _) _, fun z hz => by simp at hz⟩
  case round =>
    obtain ⟨k, hkm, rfl, hB, hP⟩ := hrel
    have hsz := hB.size
    by_cases hlt : k < m
    · obtain ⟨y, hy⟩ : ∃ y, xs[k]? = some y := ⟨_, List.getElem?_eq_getElem (by rw [← HM.out]; exact hlt)⟩
      obtain ⟨ad, rfl, hS, a0, a1, a2, a3⟩ := id_at (HR.out.keep (kept_below hB)) hy
      have hy0 := alloc1 wr (.cells #[.int .i64 y.id, sv y.it.md, sv y.it.nm, sv y.it.sh] 39)
      have hby : Below wr.heap.size wr (wr.alloc (.cells #[.int .i64 y.id, sv y.it.md, sv y.it.nm, sv y.it.sh] 39)) := (Below.refl _ _).alloc (Nat.le_refl _) _
      have HB := Lib.hid (hB.trans (hby.mono hsz))
      have HY := Lib.hid hy
      have HY0 := Lib.hid hy0
      have HP := Lib.hid hP
      clear hB hy hy0 hP hby
      go_wp2_with fail
      refine (ofk_any _ _ _ _).mono ?_
      rintro e w3 ⟨rfl, hb3⟩
      have hy3 := (hb3.block _ (by simp)).trans HY0.out
      have hbw3 : Below w.heap.size w w3 := HB.out.trans (hb3.mono (by simp; omega))
      have r0 : w3.cell? ⟨wr.heap.size, 0, none⟩ = some (.int .i64 y.id) := (Lib.cell_of_heap hy3 _).trans rfl
      have HB3 := Lib.hid hbw3
      clear hbw3 hb3 hy3
      have hskip : y.key ≠ (a, b) → ∀ z ∈ xs.take (k + 1), z.key ≠ (a, b) := fun hne z hz => by
        rw [List.take_add_one, HY.out] at hz
        rcases List.mem_append.1 hz with hz | hz
        · exact HP.out z hz
        · simp at hz
          subst hz
          exact hne
      have HSK := Lib.hid hskip
      clear hskip
      by_cases h1 : y.it.md = a
      · have h1' : (bs y.it.md).toList = (bs a).toList := by rw [h1]
        by_cases h2 : y.it.nm = b
        · have h2' : (bs y.it.nm).toList = (bs b).toList := by rw [h2]
          have HF := Lib.hid (fnd_take HP.out HY.out (Prod.ext h1 h2))
          have H1 := Lib.hid h1
          have H2 := Lib.hid h2
          clear h1 h2
          go_wp2
          go_ret2
          refine ⟨?_, HB3.out⟩
          rw [HF.out]
          rfl
        · have h2' : ¬ (bs y.it.nm).toList = (bs b).toList := fun e => h2 (by rwa [bs_toList, bs_toList] at e)
          have HS := Lib.hid (HSK.out fun e => h2 (congrArg Prod.snd e))
          clear h1 h2
          go_wp2
          go_roundw
          case rel => exact ⟨k + 1, by omega, by go_num, HB3.out, HS.out⟩
          case measure => simp [intOf]; omega
      · have h1' : ¬ (bs y.it.md).toList = (bs a).toList := fun e => h1 (by rwa [bs_toList, bs_toList] at e)
        have HS := Lib.hid (HSK.out fun e => h1 (congrArg Prod.fst e))
        clear h1
        go_wp2
        go_roundw
        case rel => exact ⟨k + 1, by omega, by go_num, HB3.out, HS.out⟩
        case measure => simp [intOf]; omega
    · have HB := Lib.hid hB
      have HP := Lib.hid hP
      clear hB hP
      go_wp2
      go_ret2
      have hx : xs.take k = xs := List.take_of_length_le (by rw [← HM.out]; omega)
      have hp := HP.out
      rw [hx] at hp
      have : fnd xs (a, b) = none := by
        unfold fnd
        rw [List.find?_eq_none.2 fun z hz => by simpa using hp z hz]
        rfl
      refine ⟨?_, HB.out⟩
      rw [this]
      rfl
end Go.Proofs.Ytmnhgkhidepojaa
