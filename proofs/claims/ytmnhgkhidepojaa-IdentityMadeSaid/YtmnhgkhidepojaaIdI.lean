/-
  The walk of recompilelaw05.items.
  Conditions: the dice lie in memory.
-/
import Derived.Test.YtmnhgkhidepojaaIdG
import Derived.Test.YtmnhgkhidepojaaBd
namespace Go.Proofs.Ytmnhgkhidepojaa
open Go.RowKit

def kM (i : Nat) : List UInt8 := [UInt8.ofNat (97 + i)]
def kN (j : Nat) : List UInt8 := [UInt8.ofNat (102 + j)]
def MadeIt (l : List It) : Prop := Asc l ∧ l.length ≤ 8 ∧ ∀ x ∈ l, x.sh.length ≤ 2 ∧ (x.md = [97] ∨ x.md = [98])
/-- What has come ahead of place (i, j). -/
def ItJ (i j : Nat) (l : List It) : Prop := (l.Pairwise fun a b => ltKey a.key b.key = true) ∧ l.length ≤ 4 * i + j ∧ ∀ x ∈ l, ltKey x.key (kM i, kN j) = true ∧ x.sh.length ≤ 2 ∧ (x.md = [97] ∨ x.md = [98])
theorem lt_next (i j : Nat) (hi : i < 3) (hj : j < 4) : ltKey (kM i, kN j) (kM i, kN (j + 1)) = true := by
  have h1 : i = 0 ∨ i = 1 ∨ i = 2 := by omega
  have h2 : j = 0 ∨ j = 1 ∨ j = 2 ∨ j = 3 := by omega
  rcases h1 with rfl | rfl | rfl <;> rcases h2 with rfl | rfl | rfl | rfl <;> decide
theorem lt_turn (i : Nat) (hi : i < 2) : ltKey (kM i, kN 4) (kM (i + 1), kN 0) = true := by
  have h1 : i = 0 ∨ i = 1 := by omega
  rcases h1 with rfl | rfl <;> decide
theorem ItJ.skip {i j : Nat} {l : List It} (h : ItJ i j l) (hi : i < 3) (hj : j < 4) : ItJ i (j + 1) l := ⟨h.1, by have := h.2.1; omega, fun x hx => ⟨ltKey_trans (h.2.2 x hx).1 (lt_next i j hi hj), (h.2.2 x hx).2⟩⟩
theorem ItJ.turn {i : Nat} {l : List It} (h : ItJ i 4 l) (hi : i < 2) : ItJ (i + 1) 0 l := ⟨h.1, by have := h.2.1; omega, fun x hx => ⟨ltKey_trans (h.2.2 x hx).1 (lt_turn i hi), (h.2.2 x hx).2⟩⟩
theorem ItJ.push {i j : Nat} {l : List It} (h : ItJ i j l) (hi : i < 2) (hj : j < 4) (s : List UInt8) (hs : s.length ≤ 2) : ItJ i (j + 1) (l ++ [⟨kM i, kN j, s⟩]) := by
  refine ⟨List.pairwise_append.2 ⟨h.1, List.pairwise_singleton _ _, fun a ha b hb => ?_⟩, by have := h.2.1; simp; omega, fun x hx => ?_⟩
  · rw [List.mem_singleton.1 hb]
    exact (h.2.2 a ha).1
  · rcases List.mem_append.1 hx with hx | hx
    · exact ⟨ltKey_trans (h.2.2 x hx).1 (lt_next i j (by omega) hj), (h.2.2 x hx).2⟩
    · rw [List.mem_singleton.1 hx]
      refine ⟨lt_next i j (by omega) hj, hs, ?_⟩
      have h1 : i = 0 ∨ i = 1 := by omega
      rcases h1 with rfl | rfl
      · exact .inl rfl
      · exact .inr rfl
theorem ItJ.made {l : List It} (h : ItJ 2 0 l) : MadeIt l := ⟨asc_of_pairs h.1, by have := h.2.1; omega, fun x hx => (h.2.2 x hx).2⟩
theorem bs_app (a b : List UInt8) : bs a ++ bs b = bs (a ++ b) := by
  have h : (bs a ++ bs b).data.toList = a ++ b := by
    rw [ByteArray.data_append, Array.toList_append, bs_data, bs_data]
  rw [← bs_of (bs a ++ bs b), h]

def ItemsRes (dd : Nat) (xs : List Int) (w : World) (e : Ending) (w' : World) : Prop :=
  ∃ (l : List It) (A : Option Addr) (c : Nat), e = .returned (.slice A l.length c) ∧ MadeIt l ∧ (A = none → c = 0) ∧ w'.ownsRow w.heap.size 37 3 (.slice A l.length c) l.length (flt itC l) ∧ Thrown dd xs w w'

set_option maxHeartbeats 1600000 in
set_option maxRecDepth 100000 in
theorem items_any (dd : Nat) (xs : List Int) (w : World) (hD : DiceAt w dd xs) : Calls Try.prog 11 #[.pointer (some ⟨dd, 0, none⟩)] w (ItemsRes dd xs w) := by
  have hdl := hD.lt
  obtain ⟨i0, hi0, hz0, hz1, hz2⟩ := info_parts infoIt
  have hbA := alloc1 w (.cells #[.string ⟨#[97]⟩, .string ⟨#[98]⟩] 9)
  have hDA : DiceAt (w.alloc (.cells #[.string ⟨#[97]⟩, .string ⟨#[98]⟩] 9)) dd xs := hD.below ((Below.refl _ _).alloc (Nat.le_refl _) _)
  have hKA : Kp (fun y => y = dd) w (w.alloc (.cells #[.string ⟨#[97]⟩, .string ⟨#[98]⟩] 9)) := (Kp.refl _ _).alloc _
  have HBA := Lib.hid hbA
  have HDA := Lib.hid hDA
  have HKA := Lib.hid hKA
  clear hbA hDA hKA hD
  go_enter Try.func11, Try.ntmps11
  go_wp2_with fail
  obtain ⟨w0, hw0⟩ : ∃ w0, w0 = w.alloc (.cells #[.string ⟨#[97]⟩, .string ⟨#[98]⟩] 9) := ⟨_, rfl⟩
  rw [← hw0] at HBA HDA HKA ⊢
  clear hw0
  go_loopw [3, 10] (fun ov i wr => ∃ (k : Nat) (l : List It) (m : Nat), k ≤ 2 ∧ i = .int .i64 k ∧ m = l.length ∧ wr.ownsRow (w.heap.size + 1) 37 3 ov m (flt itC l) ∧ ItJ k 0 l ∧
    wr.heap[w.heap.size]? = some (.cells #[.string ⟨#[97]⟩, .string ⟨#[98]⟩] 9 (0, 0)) ∧ DiceAt wr dd xs ∧ Kp (fun y => y = dd) w wr) (fun _ i _ => 2 - (intOf i).toNat)
  case atStart => exact ⟨0, [], 0, by omega, rfl, rfl, World.ownsRow_nil _ _ _ _, ⟨.nil, by simp, fun x hx => by cases hx⟩, HBA.out, HDA.out, HKA.out⟩
  case round =>
    clear HBA HDA HKA
    obtain ⟨k, l, m, hk2, rfl, hm, hO, hJ, hA, hD, hK⟩ := hrel
    obtain ⟨OA, oc, hov, hoc⟩ := own_slice hO
    subst hov
    have hsz := hK.size
    have hla := lt_of_heap hA
    have HM := Lib.hid hm
    have HOC := Lib.hid hoc
    have HO := Lib.hid hO
    have HJ := Lib.hid hJ
    have HA := Lib.hid hA
    have HD := Lib.hid hD
    have HK := Lib.hid hK
    clear hm hoc hO hJ hA hD hK
    by_cases hlt : k < 2
    · have m0 : wr.cell? ⟨w.heap.size, k, none⟩ = some (sv (kM k)) := by
        have h1 : k = 0 ∨ k = 1 := by omega
        rcases h1 with rfl | rfl <;> exact (Lib.cell_of_heap HA.out _).trans rfl
      obtain ⟨mm, hmm⟩ : ∃ mm, mm = kM k := ⟨_, rfl⟩
      rw [← hmm] at m0
      have HMM := Lib.hid hmm
      have hbB := alloc1 wr (.cells #[.string ⟨#[102]⟩, .string ⟨#[103]⟩, .string ⟨#[104]⟩, .string ⟨#[105]⟩] 9)
      have HBB := Lib.hid hbB
      have hkd : decide ((k : Int) < 2) = true := by simp; omega
      clear hbB hmm
      go_wp2_with fail
      obtain ⟨wo, rfl⟩ : ∃ wo, wo = wr := ⟨_, rfl⟩
      obtain ⟨w1, hw1⟩ : ∃ w1, w1 = wo.alloc (.cells #[.string ⟨#[102]⟩, .string ⟨#[103]⟩, .string ⟨#[104]⟩, .string ⟨#[105]⟩] 9) := ⟨_, rfl⟩
      rw [← hw1] at HBB ⊢
      have HW1 := Lib.hid hw1
      clear hw1
      go_loopw [3, 16] (fun ov i wr => ∃ (j : Nat) (l : List It) (m : Nat), j ≤ 4 ∧ i = .int .i64 j ∧ m = l.length ∧ wr.ownsRow (w.heap.size + 1) 37 3 ov m (flt itC l) ∧ ItJ k j l ∧
        wr.heap[w.heap.size]? = some (.cells #[.string ⟨#[97]⟩, .string ⟨#[98]⟩] 9 (0, 0)) ∧ wr.heap[wo.heap.size]? = some (.cells #[.string ⟨#[102]⟩, .string ⟨#[103]⟩, .string ⟨#[104]⟩, .string ⟨#[105]⟩] 9 (0, 0)) ∧ DiceAt wr dd xs ∧ Kp (fun y => y = dd) w wr) (fun _ i _ => 4 - (intOf i).toNat)
      case atStart =>
        rw [HW1.out]
        exact ⟨0, l, m, by omega, rfl, HM.out, HO.out.alloc _, HJ.out, (heap_alloc_old _ _ hla).trans HA.out, by rw [← HW1.out]; exact HBB.out, HD.out.below ((Below.refl _ _).alloc (Nat.le_refl _) _), HK.out.alloc _⟩
      case round =>
        clear HM HOC HO HJ HA HD HK HBB
        obtain ⟨j, l, m, hj4, rfl, hm, hO, hJ, hA, hB, hD, hK⟩ := hrel
        obtain ⟨OA, oc, hov, hoc⟩ := own_slice hO
        subst hov
        have hsz1 := hK.size
        have hla1 := lt_of_heap hA
        have hlb1 := lt_of_heap hB
        have HM := Lib.hid hm
        have HOC := Lib.hid hoc
        have HO := Lib.hid hO
        have HJ := Lib.hid hJ
        have HA := Lib.hid hA
        have HB := Lib.hid hB
        have HD := Lib.hid hD
        have HK := Lib.hid hK
        have hml : m ≤ 8 := by have := hJ.2.1; omega
        clear hm hoc hO hJ hA hB hD hK
        by_cases hlt2 : j < 4
        · have n0 : wr.cell? ⟨wo.heap.size, j, none⟩ = some (sv (kN j)) := by
            have h1 : j = 0 ∨ j = 1 ∨ j = 2 ∨ j = 3 := by omega
            rcases h1 with rfl | rfl | rfl | rfl <;> exact (Lib.cell_of_heap HB.out _).trans rfl
          obtain ⟨nn, hnn⟩ : ∃ nn, nn = kN j := ⟨_, rfl⟩
          rw [← hnn] at n0
          have HNN := Lib.hid hnn
          clear hnn
          go_wp2_with fail
          refine (next_any 3 dd xs _ (by decide) (by decide) HD.out).mono ?_
          rintro e w5 ⟨r, hr3, rfl, hD5, hK5⟩
          have hsz5 := hK5.size
          have HD5 := Lib.hid hD5
          have HK5 := Lib.hid (HK.out.one hK5)
          have HO5 := Lib.hid (hK5.own HO.out (fun g hg e => by have := (HO.out.lt g hg).1; omega))
          have HA5 := Lib.hid (hK5.heap HA.out (by omega))
          have HB5 := Lib.hid (hK5.heap HB.out (by omega))
          clear hD5 hK5 HO HA HB HD HK n0
          by_cases hr0 : 0 < r
          · have hs1 : (bs mm).size = 1 := by rw [bs_size, HMM.out]; rfl
            have hs2 : (bs nn).size = 1 := by rw [bs_size, HNN.out]; rfl
            have hba : bs mm ++ bs nn = bs (mm ++ nn) := bs_app mm nn
            have hmn : (mm ++ nn).length ≤ 2 := by rw [HMM.out, HNN.out]; simp [kM, kN]
            have HMN := Lib.hid hmn
            clear hmn
            go_wp2_with fail
            have hb6 : Below w5.heap.size w5 (w5.alloc (.cells #[.string ⟨#[49]⟩, .string ⟨#[50]⟩, .string ⟨#[51]⟩, .string ⟨#[52]⟩, .string ⟨#[53]⟩, .string ⟨#[54]⟩, sv (mm ++ nn)] 9)) := (Below.refl _ _).alloc (Nat.le_refl _) _
            have hdl5 : dd < w5.heap.size := by omega
            refine (of_any [[49], [50], [51], [52], [53], [54], mm ++ nn] (some ⟨w5.heap.size, 0, none⟩) 7 dd xs _ (by simp) (by simp) (HD5.out.below hb6) (row_lit w5 #[.string ⟨#[49]⟩, .string ⟨#[50]⟩, .string ⟨#[51]⟩, .string ⟨#[52]⟩, .string ⟨#[53]⟩, .string ⟨#[54]⟩, sv (mm ++ nn)] _ [[49], [50], [51], [52], [53], [54], mm ++ nn] rfl dd hdl5)).mono ?_
            rintro e w6 ⟨sh, hsh, rfl, hD6, hK6⟩
            have hshl : sh.length ≤ 2 := by
              simp only [List.mem_cons, List.not_mem_nil, or_false] at hsh
              rcases hsh with rfl | rfl | rfl | rfl | rfl | rfl | rfl <;> first | exact HMN.out | simp
            have hk06 : Kp (fun y => y = dd) w5 w6 := ((Kp.refl _ _).alloc _).one hK6
            have hsz6 := hk06.size
            have HSH := Lib.hid hshl
            have HD6 := Lib.hid hD6
            have HK6 := Lib.hid (HK5.out.one hk06)
            have HO6 := Lib.hid (hk06.own HO5.out (fun g hg e => by have := (HO5.out.lt g hg).1; omega))
            have HA6 := Lib.hid (hk06.heap HA5.out (by omega))
            have HB6 := Lib.hid (hk06.heap HB5.out (by omega))
            have hla6 := lt_of_heap HA6.out
            have hlb6 := lt_of_heap HB6.out
            clear hsh hshl hD6 hK6 hk06 hb6 HD5 HK5 HO5 HA5 HB5 hs1 hs2 hba
            go_wp2_with (at_builtin; refine wpList_append_lies _ rfl _ _ 34 rfl (w.heap.size + 1) 37 i0 _ 3 48 Try.underlying34 hi0 hz0 hz1 hz2 rfl (by omega) _ m (flt itC l) rfl (HO6.out.alloc _) ⟨w6.heap.size, 0, none⟩ 1 1 (itC ⟨mm, nn, sh⟩) rfl rfl ?d1 ?d2 (by omega) ?d3 ?d4 ?d5 _ rfl ?_)
            case d1 => exact World.news_of_block (cs := #[sv mm, sv nn, sv sh]) (alloc1 w6 _)
            case d2 => exact itC_one ⟨mm, nn, sh⟩
            case d3 => unfold maxLen; omega
            case d4 => omega
            case d5 => simp; omega
            intro g cap w8 hown8 hgrow hat _
            have hmb : ∀ r, (Value.slice OA m oc).ownBlock = some r → w.heap.size + 1 ≤ r ∧ r < w6.heap.size := fun r hr => HO6.out.lt r hr
            have hne : ∀ b, (∃ cs : Array Value, w6.heap[b]? = some (.cells cs 9 (0, 0))) → some b ≠ (Value.slice OA m oc).ownBlock := fun b ⟨cs, hb⟩ e => own_ne HO6.out hb (by decide) b e.symm rfl
            have hk8 : Kp (fun y => some y = (Value.slice OA m oc).ownBlock) w6 w8 := ((Kp.refl _ _).alloc _).grown hgrow fun r hr _ => hr.symm
            have HA8 := Lib.hid (hk8.heap HA6.out (hne _ ⟨_, HA6.out⟩))
            have HB8 := Lib.hid (hk8.heap HB6.out (hne _ ⟨_, HB6.out⟩))
            have HD8 := Lib.hid (HD6.out.keep hk8 (fun y hy => by have := (hmb y hy.symm).1; omega))
            have HK8 := Lib.hid (HK6.out.trans hk8 (fun y hy e => by have := (hmb y e.symm).1; omega))
            have HO8 := Lib.hid hown8
            clear hown8 hgrow hat hmb hne hk8 HD6 HK6 HO6 HA6 HB6
            go_wp2
            go_roundw
            case rel =>
              refine ⟨j + 1, l ++ [⟨mm, nn, sh⟩], m + 1, by omega, by go_num, by rw [List.length_append, ← HM.out]; rfl, ?_, ?_, HA8.out, HB8.out, HD8.out, HK8.out⟩
              · rw [flt_append, flt_one]
                exact HO8.out
              · rw [HMM.out, HNN.out]
                exact HJ.out.push hlt hlt2 sh HSH.out
            case measure => simp [intOf]; omega
          · have hj1 : decide ((r : Int) > 0) = false := by simp; omega
            go_wp2
            go_roundw
            case rel => exact ⟨j + 1, l, m, by omega, by go_num, HM.out, HO5.out, HJ.out.skip (by omega) hlt2, HA5.out, HB5.out, HD5.out, HK5.out⟩
            case measure => simp [intOf]; omega
        · obtain rfl : j = 4 := by omega
          have HJ' := Lib.hid (HJ.out.turn hlt)
          go_wp2
          go_roundw
          case rel => exact ⟨k + 1, l, m, by omega, by go_num, HM.out, HO.out, HJ'.out, HA.out, HD.out, HK.out⟩
          case measure => simp [intOf]; omega
    · obtain rfl : k = 2 := by omega
      go_wp2
      go_ret
      have ho := HO.out
      refine ⟨l, OA, oc, by rw [← HM.out]; rfl, HJ.out.made, HOC.out, ?_, HD.out, HK.out⟩
      rw [HM.out] at ho
      exact ownMono ho (by omega)
end Go.Proofs.Ytmnhgkhidepojaa
