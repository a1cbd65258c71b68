/-
  The walk of recompileref10.Unpack: of a pack its strings, of any other text nil and false; of what was there nothing has turned.
  Conditions: the text is of at most 10^9 bytes.
-/
import Derived.Test.YtkggmckfdkpldaaDoorFcQ
namespace Go.Proofs.YtkggmckfdkpldaaDoor
open Go.RowKit

set_option maxRecDepth 100000 in
theorem byte_ne {c : UInt8} (h : c ≠ 58) : ((c.toNat : Int) != 58) = true := by
  rw [bne_iff_ne]
  intro h2
  apply h
  apply UInt8.toNat_inj.1
  have e : (58 : UInt8).toNat = 58 := rfl
  omega
set_option maxRecDepth 100000 in
theorem byte_eq {c : UInt8} (h : c = 58) : ((c.toNat : Int) != 58) = false := by subst h; decide
set_option maxRecDepth 100000 in
theorem word_at {wd r : List UInt8} (hwd : (58 : UInt8) ∉ wd) {j : Nat} (h : j < (bs (wd ++ 58 :: r)).size) (hj : j < wd.length) : (((bs (wd ++ 58 :: r))[j].toNat : Int) != 58) = true := by
  have e : (wd ++ 58 :: r)[j]'(by rw [List.length_append]; omega) = wd[j] := List.getElem_append_left hj
  have h1 : (((wd ++ 58 :: r)[j]'(by rw [List.length_append]; omega)).toNat != (58 : Int)) = true := by
    rw [e]
    exact byte_ne fun e => hwd (by rw [← e]; exact List.getElem_mem hj)
  exact h1
set_option maxRecDepth 100000 in
theorem colon_at {wd r : List UInt8} (h : wd.length < (bs (wd ++ 58 :: r)).size) : (((bs (wd ++ 58 :: r))[wd.length].toNat : Int) != 58) = false := by
  have e : (wd ++ 58 :: r)[wd.length]'(by rw [List.length_append, List.length_cons]; omega) = 58 := by simp
  have h1 : (((wd ++ 58 :: r)[wd.length]'(by rw [List.length_append, List.length_cons]; omega)).toNat != (58 : Int)) = false := byte_eq e
  exact h1
set_option maxRecDepth 100000 in
theorem no_colon {t : List UInt8} (hp : ¬ ∃ wd r, t = wd ++ 58 :: r ∧ (58 : UInt8) ∉ wd ∧ wd.length ≤ 20) (k : Nat) (h : k < (bs t).size) (hk : k ≤ 20) : (((bs t)[k].toNat : Int) != 58) = true := by
  have hl : k < t.length := by rw [← bs_size]; exact h
  refine byte_ne (c := t[k]) fun e => ?_
  rcases cut_cases t with ⟨wd, r, ht, hwd, _⟩ | ⟨hno, _⟩
  · refine hp ⟨wd, r, ht, hwd, ?_⟩
    rcases Nat.lt_or_ge 20 wd.length with h1 | h1
    · exfalso
      have h2 : t[k]? = wd[k]? := by rw [ht, List.getElem?_append_left (by omega)]
      rw [List.getElem?_eq_getElem hl, List.getElem?_eq_getElem (by omega), Option.some.injEq] at h2
      exact hwd (by rw [← e, h2]; exact List.getElem_mem _)
    · exact h1
  · exact hno (by rw [← e]; exact List.getElem_mem hl)
set_option maxRecDepth 100000 in
theorem left_of (wd r : List UInt8) : (bs (wd ++ 58 :: r)).extract 0 wd.length = bs wd := cut_left wd (58 :: r)

set_option maxRecDepth 100000 in
theorem mid_of (wd r : List UInt8) (m : Nat) : (bs (wd ++ 58 :: r)).extract (wd.length + 1) (wd.length + 1 + m) = bs (r.take m) := by
  have e1 : List.drop (wd.length + 1) wd = [] := List.drop_eq_nil_of_le (by omega)
  have e2 : wd.length + (1 + m) - (wd.length + 1) = m := by omega
  unfold bs
  apply ByteArray.ext
  simp [Nat.add_assoc, List.drop_append, e1, e2]
set_option maxRecDepth 100000 in
theorem tail_of (wd r : List UInt8) (m : Nat) : (bs (wd ++ 58 :: r)).extract (wd.length + 1 + m) (bs (wd ++ 58 :: r)).size = bs (r.drop m) := by
  have e1 : List.drop (wd.length + (1 + m)) wd = [] := List.drop_eq_nil_of_le (by omega)
  have e3 : List.drop (1 + m) (58 :: r) = List.drop m r := by rw [Nat.add_comm]; rfl
  have e2 : List.take (wd.length + (r.length + 1) - (wd.length + (1 + m))) (List.drop m r) = List.drop m r := List.take_of_length_le (by rw [List.length_drop]; omega)
  rw [bs_size]
  unfold bs
  apply ByteArray.ext
  simp only [Nat.add_assoc]
  simp [List.drop_append, e1, e3, e2]

set_option maxHeartbeats 2000000 in
set_option maxRecDepth 100000 in
theorem refUnpack_any (s : List UInt8) (w : World) (hsz : s.length ≤ 1000000000) :
    Calls Tryd.prog 46 #[sv s] w (UnpEnd s w) := by
  obtain ⟨i0, hi, hz0, hz1, hz2⟩ := info_parts infoS
  go_enter Tryd.func46, Tryd.ntmps46
  go_wp2_with fail
  go_loopw [0, 4] (fun x v wr => UnpAt s w x v wr) (fun x _ _ => strOf x)
  case atStart => exact ⟨[], s, rfl, rfl, World.ownsRow_nil _ _ _ _, Below.refl _ _⟩
  case round =>
    obtain ⟨acc, t, hs, rfl, hown, hb⟩ := hrel
    have hle : (pack acc).length + t.length ≤ 1000000000 := by rw [hs, List.length_append] at hsz; exact hsz
    have hLn := pack_len acc
    have Hs := Lib.hid hs
    clear hs
    obtain ⟨wo, rfl⟩ : ∃ wo : World, wo = wr := ⟨_, rfl⟩
    by_cases ht : t = []
    · subst ht
      have hz : (bs []).size = 0 := rfl
      go_wp2_with fail
      go_ret2
      exact ⟨.inl ⟨acc, _, by rw [Hs.out, List.append_nil], rfl, hown⟩, hb⟩
    by_cases hp : ∃ wd r, t = wd ++ 58 :: r ∧ (58 : UInt8) ∉ wd ∧ wd.length ≤ 20
    · obtain ⟨wd, r, rfl, hwd, h20⟩ := hp
      clear ht
      have hsize : wd.length < (bs (wd ++ 58 :: r)).size := by rw [bs_size, List.length_append, List.length_cons]; omega
      have hs9 : (bs (wd ++ 58 :: r)).size ≤ 1000000000 := by rw [bs_size]; omega
      go_wp2_with fail
      go_loop [5] (fun i => ∃ k : Nat, k ≤ wd.length ∧ i = .int .i64 k) (fun i => wd.length - (intOf i).toNat)
      case atStart => exact ⟨0, Nat.zero_le _, rfl⟩
      case round =>
        obtain ⟨k, hk, rfl⟩ := hrel
        by_cases hlt : k < wd.length
        · have hkz : k < (bs (wd ++ 58 :: r)).size := by omega
          have hk2 : k < 20 := by omega
          have hne := word_at hwd hkz hlt
          go_wp2_with fail
          go_round
          case rel => exact ⟨k + 1, by omega, by go_num⟩
          case measure => simp [intOf]; omega
        · obtain rfl : k = wd.length := by omega
          clear hlt hk
          have hco := colon_at hsize
          have hkz : ((wd.length : Int) == ((bs (wd ++ 58 :: r)).size : Int)) = false := by
            rw [beq_eq_false_iff_ne]
            omega
          have hsz1 : (bs (wd ++ 58 :: r)).size ≤ wd.length + 1 + r.length := by rw [bs_size, List.length_append, List.length_cons]; omega
          have hsz2 : wd.length + 1 + r.length ≤ (bs (wd ++ 58 :: r)).size := by rw [bs_size, List.length_append, List.length_cons]; omega
          obtain ⟨n, g, hn⟩ : ∃ n g, numv wd = (n, g) := ⟨_, _, rfl⟩
          have hbd := numv_bd wd
          rw [hn] at hbd
          obtain ⟨hn0, hn1⟩ := hbd
          by_cases hok : g = true ∧ 0 ≤ n ∧ n ≤ (r.length : Int)
          · obtain ⟨rfl, h0, h1⟩ := hok
            obtain ⟨m, rfl⟩ := Int.eq_ofNat_of_zero_le h0
            have hst := step_yes (w := wd) (r := r) (by rw [hn]) (by rw [hn]; exact h0) (by rw [hn]; exact h1)
            rw [hn] at hst
            simp only [Int.toNat_natCast] at hst
            have Hst := Lib.hid hst
            have hrd := Lib.hid (fun W => readDigits_yes wd m W (by omega) hn)
            have hdec : (bs (r.drop m)).size < (bs (wd ++ 58 :: r)).size := by
              rw [bs_size, List.length_drop]
              omega
            clear hn hst
            have hml : m ≤ r.length := by omega
            rcases hd20 : decide ((wd.length : Int) < 20) with _ | _
            · go_wp2_with fail
              rw [left_of]
              refine (hrd.out _).mono ?_
              rintro e w2 ⟨rfl, hb2⟩
              have hown2 : w2.ownsRow w.heap.size 9 1 u4 acc.length (acc.map sv) := hown.kept (grownOfB hb2 none) (ownNone _)
              have hb3 : Below w.heap.size w w2 := hb.trans (hb2.mono hb.size)
              go_wp2_with (at_builtin; refine wpList_append_own _ rfl (.tmp 59) (.tmp 68) 28 rfl w.heap.size 9 i0 (.string ⟨#[]⟩) 1 16 Tryd.underlying28 hi hz0 hz1 hz2 rfl (by decide) u4 acc.length _ rfl (hown2.alloc _) ⟨w2.heap.size, 0, none⟩ 1 1 [.string ((bs (wd ++ 58 :: r)).extract (wd.length + 1) (wd.length + 1 + m))] rfl rfl ?c1x ?c2x ?c3x ?c4x ?c5x ?_)
              case c2x => rfl
              case c3x => unfold maxLen; omega
              case c4x => omega
              case c5x => have := hb3.size; omega
              intro v' w3 hown3 hgrow _
              have hb4 : Below w.heap.size w w3 := (hb3.alloc hb3.size _).grown hgrow (by have := hb3.size; simp; omega) (fun g hg => (hown2.lt g hg).1)
              rw [mid_of] at hown3
              go_wp2
              go_roundw
              case rel => exact ⟨acc ++ [r.take m], r.drop m, by rw [pack_snoc, List.append_assoc, ← Hst.out]; exact Hs.out, by rw [tail_of], by rw [List.length_append, List.map_append]; exact hown3, hb4⟩
              case measure => simp only [strOf, tail_of]; exact hdec
            · go_wp2_with fail
              rw [left_of]
              refine (hrd.out _).mono ?_
              rintro e w2 ⟨rfl, hb2⟩
              have hown2 : w2.ownsRow w.heap.size 9 1 u4 acc.length (acc.map sv) := hown.kept (grownOfB hb2 none) (ownNone _)
              have hb3 : Below w.heap.size w w2 := hb.trans (hb2.mono hb.size)
              go_wp2_with (at_builtin; refine wpList_append_own _ rfl (.tmp 59) (.tmp 68) 28 rfl w.heap.size 9 i0 (.string ⟨#[]⟩) 1 16 Tryd.underlying28 hi hz0 hz1 hz2 rfl (by decide) u4 acc.length _ rfl (hown2.alloc _) ⟨w2.heap.size, 0, none⟩ 1 1 [.string ((bs (wd ++ 58 :: r)).extract (wd.length + 1) (wd.length + 1 + m))] rfl rfl ?c1y ?c2y ?c3y ?c4y ?c5y ?_)
              case c2y => rfl
              case c3y => unfold maxLen; omega
              case c4y => omega
              case c5y => have := hb3.size; omega
              intro v' w3 hown3 hgrow _
              have hb4 : Below w.heap.size w w3 := (hb3.alloc hb3.size _).grown hgrow (by have := hb3.size; simp; omega) (fun g hg => (hown2.lt g hg).1)
              rw [mid_of] at hown3
              go_wp2
              go_roundw
              case rel => exact ⟨acc ++ [r.take m], r.drop m, by rw [pack_snoc, List.append_assoc, ← Hst.out]; exact Hs.out, by rw [tail_of], by rw [List.length_append, List.map_append]; exact hown3, hb4⟩
              case measure => simp only [strOf, tail_of]; exact hdec
          · have hno : ∀ L, s ≠ pack L := fun L hL => no_pack (acc := acc) (s := wd ++ 58 :: r) (by simp) (step_no hwd (by omega) (by
              rw [hn]
              rcases hg : g with _ | _
              · exact .inl rfl
              · rcases Int.lt_or_le n 0 with h0 | h0
                · exact .inr (.inl h0)
                · rcases Int.lt_or_le r.length n with h1 | h1
                  · exact .inr (.inr h1)
                  · exact absurd ⟨hg, h0, h1⟩ hok)) L (Hs.out.symm.trans hL)
            have Hno := Lib.hid hno
            clear hno
            cases g
            · have hrd := Lib.hid (fun W => readDigits_no wd W (by omega) (by rw [hn]))
              clear hok hn
              rcases hd20 : decide ((wd.length : Int) < 20) with _ | _
              all_goals
                go_wp2_with fail
                rw [left_of]
                refine (hrd.out _).mono ?_
                rintro e w2 ⟨rfl, hb2⟩
                have hb3 : Below w.heap.size w w2 := hb.trans (hb2.mono hb.size)
                go_wp2
                go_ret2
                exact ⟨.inr ⟨Hno.out, rfl⟩, hb3⟩
            · have hrd := Lib.hid (fun W => readDigits_yes wd n W (by omega) hn)
              clear hn
              by_cases h0 : n < 0
              · clear hok
                rcases hd20 : decide ((wd.length : Int) < 20) with _ | _
                all_goals
                  go_wp2_with fail
                  rw [left_of]
                  refine (hrd.out _).mono ?_
                  rintro e w2 ⟨rfl, hb2⟩
                  have hb3 : Below w.heap.size w w2 := hb.trans (hb2.mono hb.size)
                  go_wp2
                  all_goals
                    go_ret2
                    exact ⟨.inr ⟨Hno.out, rfl⟩, hb3⟩
              · have h1 : (r.length : Int) < n := by
                  rcases Int.lt_or_le r.length n with h1 | h1
                  · exact h1
                  · exact absurd ⟨rfl, by omega, h1⟩ hok
                clear hok
                rcases hd20 : decide ((wd.length : Int) < 20) with _ | _
                all_goals
                  go_wp2_with fail
                  rw [left_of]
                  refine (hrd.out _).mono ?_
                  rintro e w2 ⟨rfl, hb2⟩
                  have hb3 : Below w.heap.size w w2 := hb.trans (hb2.mono hb.size)
                  go_wp2
                  all_goals
                    go_ret2
                    exact ⟨.inr ⟨Hno.out, rfl⟩, hb3⟩
    · have hno : ∀ L, s ≠ pack L := by
        intro L hL
        refine no_pack (acc := acc) (s := t) ht (fun a r h => ?_) L (Hs.out.symm.trans hL)
        subst h
        refine hp ⟨Lib.decDigits a.length, a ++ r, by unfold pk; rw [List.append_assoc, List.cons_append], colon_not _, ?_⟩
        have h1 := pk_length a
        rw [List.length_append] at hle
        rw [← Lib.itoa_nonneg]
        exact itoa_len20 _ (by omega) (by omega)
      have Hno := Lib.hid hno
      have hfar : ∀ (k : Nat) (h : k < (bs t).size), k ≤ 20 → (((bs t)[k].toNat : Int) != 58) = true := no_colon hp
      have Hfar := Lib.hid hfar
      have hpos : 0 < (bs t).size := by
        rw [bs_size]
        exact List.length_pos_iff.2 ht
      have hs9 : (bs t).size ≤ 1000000000 := by rw [bs_size]; omega
      clear hno hfar hp ht
      go_wp2_with fail
      go_loop [5] (fun i => ∃ k : Nat, k ≤ (bs t).size ∧ k ≤ 20 ∧ i = .int .i64 k) (fun i => 20 - (intOf i).toNat)
      case atStart => exact ⟨0, Nat.zero_le _, Nat.zero_le _, rfl⟩
      case round =>
        obtain ⟨k, hk, hk2, rfl⟩ := hrel
        by_cases hz : k < (bs t).size
        · have hne := Hfar.out k hz hk2
          by_cases h20 : k < 20
          · go_wp2_with fail
            go_round
            case rel => exact ⟨k + 1, by omega, by omega, by go_num⟩
            case measure => simp [intOf]; omega
          · obtain rfl : k = 20 := by omega
            have hz' : (20 : Int) < ((bs t).size : Int) := by omega
            have hze : ((20 : Int) == ((bs t).size : Int)) = false := by rw [beq_eq_false_iff_ne]; omega
            clear hk hk2 h20
            go_wp2_with fail
            all_goals
              go_ret2
              exact ⟨.inr ⟨Hno.out, rfl⟩, hb⟩
        · obtain rfl : k = (bs t).size := by omega
          have hss : (((bs t).size : Int) == ((bs t).size : Int)) = true := by simp
          clear hk hz
          go_wp2_with fail
          all_goals
            go_ret2
            exact ⟨.inr ⟨Hno.out, rfl⟩, hb⟩
end Go.Proofs.YtkggmckfdkpldaaDoor
