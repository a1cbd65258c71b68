/-
  The walks of slices.Clone over headers, of the test of a header's trait, and of slices.IndexFunc with it.
  Conditions: the arguments read as headers.
-/
import Derived.Test.YtiijlecidepneaaSel
import Derived.Lib.SliceRun
namespace Go.Proofs.Ytiijlecidepneaa
open Go.RowKit

theorem infoH : (Try.prog.info? 47).map (fun i => (i.zero, i.size, i.bytes)) = some (some (.agg #[.string ⟨#[]⟩, .slice none 0 0, .string ⟨#[]⟩, .string ⟨#[]⟩, .slice none 0 0]), 5, 96) := by kernel_rfl

theorem Hds.one {w : World} {S : Nat → Prop} {A : Option Addr} {hs : List Hdr} {qs : List HV} (H : Hds w S A hs qs) : ∀ u ∈ flat5 qs, u.oneCell' = true := by
  intro u hu
  obtain ⟨q, hq, hu⟩ := List.mem_flatMap.1 hu
  obtain ⟨i, hi, e⟩ := List.mem_iff_getElem.1 hq
  have h2 : hs[i]? = some (hs[i]'(by rw [← H.len]; exact hi)) := List.getElem?_eq_getElem _
  obtain ⟨s, P, m, a, rfl⟩ := (H.each i _ q h2 (by rw [List.getElem?_eq_getElem hi, e])).shape
  simp [HV.cells] at hu
  rcases hu with rfl | rfl | rfl | rfl | rfl <;> rfl

/-- A row of one's own with these headers. -/
def ClOk (n : Nat) (qs : List HV) (w : World) (e : Ending) (w' : World) : Prop :=
  ∃ v, e = .returned v ∧ w'.ownsRow w.heap.size 47 5 v n (flat5 qs) ∧ Below w.heap.size w w'

set_option maxHeartbeats 4000000 in
set_option maxRecDepth 100000 in
theorem clone_none (w : World) : Calls Try.prog 45 #[.slice none 0 0] w (ClOk 0 [] w) := by
  have h1 := Lib.run_eql_slice_nil (P := Try.prog) w 51 47 none 0 0 0 0 Try.underlying51
  go_enter Try.func45, Try.ntmps45
  go_wp2
  go_ret
  exact ⟨_, rfl, World.ownsRow_nil _ _ _ _, Below.refl _ _⟩

set_option maxHeartbeats 4000000 in
set_option maxRecDepth 100000 in
theorem clone_some (hs : List Hdr) (ad : Addr) (c : Nat) (qs : List HV) (w : World) (hh : Hds w (Lt w.heap.size) (some ad) hs qs) : Calls Try.prog 45 #[.slice (some ad) hs.length c] w (ClOk hs.length qs w) := by
  obtain ⟨i0, hi, hz0, hz1, hz2⟩ := info_parts infoH
  have hfew := hh.few
  obtain ⟨n, hn⟩ : ∃ n, n = hs.length := ⟨_, rfl⟩
  rw [← hn] at hfew ⊢
  have HN := Lib.hid hn
  clear hn
  have h1 := Lib.run_eql_slice_nil (P := Try.prog) w 51 47 (some ad) n c 0 0 Try.underlying51
  have hown : (w.alloc (.cells #[] 47)).ownsRow w.heap.size 47 5 (.slice (some ⟨w.heap.size, 0, none⟩) 0 0) 0 [] :=
    ⟨rfl, .inr ⟨w.heap.size, 0, #[], rfl, Nat.le_refl _, alloc1 _ _, Nat.le_refl _, Nat.zero_le _, rfl, rfl⟩⟩
  have hh' := hh.keep (kept_below ((Below.refl w.heap.size w).alloc (Nat.le_refl _) (.cells #[] 47)))
  have hl := flat5_length qs
  rw [hh.len, ← HN.out] at hl
  have HL := Lib.hid hl
  clear hl
  go_enter Try.func45, Try.ntmps45
  go_wp2_with (at_builtin; refine wpList_append_own _ rfl _ _ 51 rfl w.heap.size 47 i0 _ 5 96 Try.underlying51 hi hz0 hz1 hz2 rfl (by omega) _ 0 [] rfl hown ad n c (flat5 qs) rfl HL.out ?c1 hh.one ?c2 ?c3 ?c4 ?_)
  case c1 =>
    intro j u hu
    rcases hh'.row with h0 | ⟨ad', e, _, hc⟩
    · rw [h0] at hu; simp at hu
    · obtain rfl := Option.some.inj e
      exact hc j u hu
  case c2 => unfold maxLen; omega
  case c3 => omega
  case c4 => simp
  intro v' w2 hown2 hg _
  have hb2 : Below w.heap.size w w2 := ((Below.refl w.heap.size w).alloc (Nat.le_refl _) (.cells #[] 47)).grown hg (by simp) (fun k hk => by simp [Value.ownBlock] at hk; omega)
  have HO := Lib.hid hown2
  clear hown2
  go_wp2
  go_ret
  exact ⟨_, rfl, HO.out, hb2⟩

/-- 'The trait is another one': the goal's trait lies at block gb. -/
abbrev del (gb : Nat) : Value := .func (.func 46) #[] #[.pointer (some ⟨gb, 0, none⟩)]

theorem bytes_dec (a b : List UInt8) : ((bs a).toList == (bs b).toList) = decide (a = b) := by
  by_cases h : a = b
  · rw [bytesEq h]; simp [h]
  · rw [bytesNe h]; simp [h]

set_option maxHeartbeats 4000000 in
set_option maxRecDepth 100000 in
theorem del_any (x s m : List UInt8) (P a : Option Addr × Nat × Nat) (gb : Nat) (tr : List UInt8) (w : World) (hg : w.cell? ⟨gb, 0, none⟩ = some (sv tr)) :
    Calls Try.prog 46 #[.agg #[sv s, .slice P.1 P.2.1 P.2.2, sv x, sv m, .slice a.1 a.2.1 a.2.2], .pointer (some ⟨gb, 0, none⟩)] w (Says (¬ x = tr) w) := by
  have hlt := World.block_lt_of_cell? w _ hg
  have hg2 : (w.alloc (.cells #[sv s, .slice P.1 P.2.1 P.2.2, sv x, sv m, .slice a.1 a.2.1 a.2.2] 47)).cell? ⟨gb, 0, none⟩ = some (sv tr) := (cellAlloc hlt).trans hg
  by_cases h : x = tr
  · have hb := bytesEq h
    have HH := Lib.hid h
    clear h
    go_enter Try.func46, Try.ntmps46
    go_wp2
    go_ret
    refine ⟨false, ?_, by simp [HH.out], (Below.refl _ _).alloc (Nat.le_refl _) _⟩
    simp
  · have hb := bytesNe h
    have HH := Lib.hid h
    clear h
    go_enter Try.func46, Try.ntmps46
    go_wp2
    go_ret
    refine ⟨true, ?_, by simp [HH.out], (Below.refl _ _).alloc (Nat.le_refl _) _⟩
    simp

def dIdx : List Hdr → List UInt8 → Nat → Int
  | [], _, _ => -1
  | h :: r, tr, k => if h.trait = tr then dIdx r tr (k + 1) else (k : Int)

set_option maxHeartbeats 2000000 in
set_option maxRecDepth 100000 in
theorem indexFuncH (hs : List Hdr) (A : Option Addr) (c gb : Nat) (qs : List HV) (w : World) (hh : Hds w (Lt w.heap.size) A hs qs) (tr : List UInt8) (hg : w.cell? ⟨gb, 0, none⟩ = some (sv tr)) :
    Calls Try.prog 57 #[.slice A hs.length c, del gb] w (Nope (.int .i64 (dIdx hs tr 0)) w) := by
  obtain ⟨n, hn⟩ : ∃ n, n = hs.length := ⟨_, rfl⟩
  have hfew := hh.few
  rw [← hn] at hfew ⊢
  have HN := Lib.hid hn
  have hgl := World.block_lt_of_cell? w _ hg
  have HG := Lib.hid hg
  clear hn hg
  go_enter Try.func57, Try.ntmps57
  go_wp2_with fail
  go_loopw [8] (fun i wr => ∃ k : Nat, k ≤ n ∧ i = .int .i64 k ∧ dIdx (hs.drop k) tr k = dIdx hs tr 0 ∧ Below w.heap.size w wr) (fun i _ => n - (intOf i).toNat)
  case atStart => exact ⟨0, Nat.zero_le _, rfl, rfl, Below.refl _ _⟩
  case round =>
    obtain ⟨k, hk, rfl, hx, hb⟩ := hrel
    have HX := Lib.hid hx
    clear hx
    by_cases hlt : k < n
    · have hki : k < hs.length := by rw [← HN.out]; exact hlt
      obtain ⟨ad, q, rfl, hS, hq, e0, e1, e2, e3, e4, hHd⟩ := (hh.now (Nat.le_refl _) hb).at_ (List.getElem?_eq_getElem hki)
      obtain ⟨s, P, m, a, rfl⟩ := hHd.shape
      dsimp only at e0 e1 e2 e3 e4
      have HD := Lib.hid (List.drop_eq_getElem_cons hki)
      clear hq
      go_wp2_with fail
      refine (del_any hs[k].trait s m P a gb tr wr (((belowCell hb).1 _ _ hgl).trans HG.out)).mono ?_
      rintro e w1 ⟨r, rfl, hr, hb1⟩
      have hb2 : Below w.heap.size w w1 := hb.trans (hb1.mono hb.size)
      have HR := Lib.hid hr
      clear hr
      cases r with
      | true =>
        have hne := HR.out.1 rfl
        have hres : dIdx hs tr 0 = (k : Int) := by rw [← HX.out, HD.out, dIdx, if_neg hne]
        have HRES := Lib.hid hres
        clear hne hres
        go_wp2
        go_ret
        exact ⟨ret_int HRES.out.symm, hb2⟩
      | false =>
        have heq : hs[k].trait = tr := by
          by_cases h : hs[k].trait = tr
          · exact h
          · have := HR.out.2 h; cases this
        have HEQ := Lib.hid heq
        clear heq
        go_wp2
        go_roundw
        case rel => exact ⟨k + 1, by omega, by go_num, by rw [← HX.out, HD.out, dIdx, if_pos HEQ.out], hb2⟩
        case measure => simp [intOf]; omega
    · have hkn : k = n := by omega
      have HKN := Lib.hid hkn
      have hg : ¬ k < n := hlt
      clear hkn
      go_wp2
      go_ret
      refine ⟨ret_int ?_, hb⟩
      rw [← HX.out, List.drop_eq_nil_of_le (by rw [← HN.out, HKN.out]; exact Nat.le_refl _)]
      rfl
end Go.Proofs.Ytiijlecidepneaa
