/-
  The walk of types.match at a parameter that is new.
  Conditions: the arguments read as types; what is found stays short.
  The walk of types.match at what is no parameter: name and arguments, one after the other.
  Conditions: the arguments read as types; what is found stays short.
-/
import Derived.Test.YtiijlecidepneaaMatch
namespace Go.Proofs.Ytiijlecidepneaa
section
open Go.RowKit
set_option maxHeartbeats 2000000 in
set_option maxRecDepth 100000 in
theorem match_new (n : List UInt8) (ks : List Ty) (x : List UInt8) (hpw : parW n ks.length = (x, true)) : NameAt n ks (fun t f => (true, (f.1 ++ [x], f.2 ++ [t]))) (fun f => idx f.1 x 0 = -1) := by
  intro n' ls f bn bl B nv lv vs A A' c c' w hz ht hM hB hlen hsz hI
  have hb2 : Below w.heap.size w ((w.alloc (.cells #[sv n, .slice A ks.length c] 35)).alloc (.cells #[sv n', .slice A' ls.length c'] 35)) := ((Below.refl _ _).alloc (Nat.le_refl _) _).alloc (by simp) _
  have HPW := Lib.hid hpw
  clear hpw
  have HT' := Lib.hid ht
  clear ht
  dsimp only
  have HI := Lib.hid hI
  clear hI
  obtain ⟨i0, hi, hz0, hz1, hz2⟩ := info_parts infoT
  obtain ⟨i1, hi', hz0', hz1', hz2'⟩ := info_parts infoStr
  go_enter Try.func55, Try.ntmps55
  go_wp2_with fail
  refine (parameter_any n A ks.length c _ hz).mono ?_
  rw [HPW.out]
  rintro e w1 ⟨rfl, hb1⟩
  have hb3 : Below w.heap.size w w1 := hb2.trans (hb1.mono (by simp; omega))
  have hM1 := hM.kept hb3
  have hn4 := hM1.nown
  obtain ⟨A3, c3, rfl, _, _⟩ := ownShape hM1.nown
  obtain ⟨A4, c4, rfl, _, _⟩ := ownShape hM1.lown
  have hnw := hM.nown
  have hlw := hM.lown
  have n0 : w1.cell? ⟨bn, 0, none⟩ = some (.slice A3 f.1.length c3) := by rw [Lib.cell_of_heap hM1.nblk]; rfl
  have fn0 : w1.frozen? ⟨bn, 0, none⟩ = false := Lib.frozen_of_heap hM1.nblk 0
  have hrow : Row w1 (Lt w1.heap.size) A3 (f.1.map sv) := Row.ofOwn hM1.nown fun _ _ _ h2 => h2
  have hbw1 := hb3.size
  obtain ⟨hlo1, hlo2, hlo3⟩ := hM1.lo
  have HM1 := Lib.hid hM1
  have HLEN := Lib.hid hlen
  clear hM1 hM hlen
  go_wp2_with fail
  refine (index_any A3 c3 _ f.1 x _ hrow (by omega)).mono ?_
  rw [HI.out]
  rintro e w1 ⟨rfl, rfl⟩
  have hq := alloc2 w (.cells #[sv n, .slice A ks.length c] 35) (.cells #[sv n', .slice A' ls.length c'] 35)
  have hq2 := (hb1.block (w.heap.size + 1) (by simp)).trans hq.2
  have hqs : w.heap.size + 1 < w1.heap.size := lt_of_heap hq2
  have HQ := Lib.hid hq2
  clear hq hq2
  go_wp2_with (at_builtin; refine wpList_append_lies _ rfl _ _ 37 rfl B 9 i1 _ 1 16 Try.underlying37 hi' hz0' hz1' hz2' rfl (by omega) _ f.1.length (f.1.map sv) rfl (hn4.alloc _) ⟨w1.heap.size, 0, none⟩ 1 1 [sv x] rfl rfl ?c1 ?c2 (by omega) ?c3 ?c4 ?c5 (w1.heap.size + 1) ?c6 ?_)
  case c1 => exact World.news_of_block (cs := #[sv x]) (alloc1 w1 _)
  case c2 => simp [Value.oneCell']
  case c3 => unfold maxLen; omega
  case c4 => omega
  case c5 => simp; omega
  case c6 => simp
  intro g cap w2 hown2 hgrow2 hat2 _
  have hMa := HM1.out.kept ((Below.refl w1.heap.size w1).alloc (Nat.le_refl _) (.cells #[sv x] 9))
  have hnl := lt_of_heap HM1.out.nblk
  have hll := lt_of_heap HM1.out.lblk
  have hx0 : some bn ≠ (Value.slice A3 f.1.length c3).ownBlock := fun e => by have := (hn4.lt _ e.symm).1; omega
  have hbn2 := (hgrow2.block bn (by simp; omega) hx0).trans hMa.nblk
  have m0 : w2.cell? ⟨bn, 0, none⟩ = some (.slice A3 f.1.length c3) := by rw [Lib.cell_of_heap hbn2]; rfl
  have fm0 : w2.frozen? ⟨bn, 0, none⟩ = false := Lib.frozen_of_heap hbn2 0
  have hM2 := hMa.pushN (x := x) (ns := f.1) (ls := f.2) hgrow2 hown2 (by simpa using hat2)
  have hK2 : Kp (Mine bn bl (.slice A3 f.1.length c3) (.slice A4 f.2.length c4)) w (w2.setCell ⟨bn, 0, none⟩ (.slice (some ⟨g, 0, none⟩) (f.1.length + 1) cap)) :=
    (((Kp.ofBelow hb3).alloc _).grown hgrow2 (fun r hr _ => .inr (.inr (.inl hr.symm)))).setCell (fun _ => .inl rfl) _
  have hq3 : (w2.setCell ⟨bn, 0, none⟩ (.slice (some ⟨g, 0, none⟩) (f.1.length + 1) cap)).heap[w.heap.size + 1]? = some (.cells #[sv n', .slice A' ls.length c'] 35 (0, 0)) := by
    rw [Below.heap_setCell _ _ _ _ (by simp; omega), hgrow2.block _ (by simp; omega) (fun e => ?_), heap_alloc_old _ _ hqs]
    · exact HQ.out
    · have := (hnw.lt _ e.symm).2
      omega
  have HM2 := Lib.hid hM2
  have HK2 := Lib.hid hK2
  have HQ3 := Lib.hid hq3
  clear hM2 hK2 hq3 hMa hbn2
  --REGION
  have HAT2 : Hid ((Value.slice A3 f.1.length c3).ownBlock = some g ∨ g = w1.heap.size + 1) := Lib.hid hat2
  clear hat2
  go_wp2_with fail
  clear hown2 hgrow2 m0 fm0 hrow n0 fn0 hn4
  generalize w2.setCell ⟨bn, 0, none⟩ (.slice (some ⟨g, 0, none⟩) (f.1.length + 1) cap) = W6 at *
  have l0 : W6.cell? ⟨bl, 0, none⟩ = some (.slice A4 f.2.length c4) := by rw [Lib.cell_of_heap HM2.out.lblk]; rfl
  have s0 : W6.cell? ⟨w.heap.size + 1, 0, none⟩ = some (sv n') := by rw [Lib.cell_of_heap HQ3.out]; rfl
  have s1 : W6.cell? ⟨w.heap.size + 1, 1, none⟩ = some (.slice A' ls.length c') := by rw [Lib.cell_of_heap HQ3.out]; rfl
  have hll6 := lt_of_heap HM2.out.lblk
  have hqq6 := lt_of_heap HQ3.out
  have hs6 := HK2.out.size
  have htt : TyIs W6 (Lt W6.heap.size) (.mk n' ls) (sv n') (.slice A' ls.length c') := by
    refine (HT'.out.keep (HK2.out.kept fun y hy => ⟨by have := hy.1; omega, fun e => ?_⟩)).more fun y hy => (by have := hy.1; unfold Lt; omega)
    rcases e with e | e | e | e
    · exact hy.2.1 e
    · exact hy.2.2 e
    · have := (hnw.lt _ e.symm).1; have := hy.1; omega
    · have := (hlw.lt _ e.symm).1; have := hy.1; omega
  have hbd : Below W6.heap.size W6 W6.drew := (Below.refl _ _).drew
  refine wp_region_fork (fun w' => w'.cell? ⟨bl, 0, none⟩ = some (.slice A4 f.2.length c4) ∧ w'.cell? ⟨w.heap.size + 1, 0, none⟩ = some (sv n') ∧ w'.cell? ⟨w.heap.size + 1, 1, none⟩ = some (.slice A' ls.length c')) [0, 1, 2, 3, 5] 4 6 7 [8, 10] 9 11 (by kernel_rfl) (by kernel_rfl) ?s0 ?h0
  case s0 => exact ⟨l0, s0, s1⟩
  case h0 =>
    simp only [opsAt, List.filterMap_cons, List.filterMap_nil, List.getElem?_toArray, List.getElem?_cons_succ, List.getElem?_cons_zero]
    refine wpLoad_step ?va0 rfl (fun w' hS => ?ya0) ?ka0
    case ya0 =>
      obtain ⟨h1, h2, h3⟩ := hS
      go_simp
      try rfl
    case ka0 =>
    go_simp
    refine wpLoad_step ?va1 rfl (fun w' hS => ?ya1) ?ka1
    case ya1 =>
      obtain ⟨h1, h2, h3⟩ := hS
      go_simp
      try rfl
    case ka1 =>
    go_simp
    refine wpLoad_step ?va2 rfl (fun w' hS => ?ya2) ?ka2
    case ya2 =>
      obtain ⟨h1, h2, h3⟩ := hS
      go_simp
      try rfl
    case ka2 =>
    go_simp
    refine wpLoad_step ?va3 rfl (fun w' hS => ?ya3) ?ka3
    case ya3 =>
      obtain ⟨h1, h2, h3⟩ := hS
      go_simp
      try rfl
    case ka3 =>
    go_simp
    refine wpLoad_step ?va4 rfl (fun w' hS => ?ya4) ?ka4
    case ya4 =>
      obtain ⟨h1, h2, h3⟩ := hS
      go_simp
      try rfl
    case ka4 =>
    go_simp
    refine wpLoad_nil ?_
    refine ⟨?o1, ?o2⟩
    case o1 =>
      refine wpKeep_step rfl ?_
      go_simp
      refine (copied_any (.mk n' ls) _ _ _ (htt.now (Nat.le_refl _) hbd)).mono ?_
      rintro e w7 ⟨u1, v1, rfl, hT1, hb7⟩
      obtain ⟨u1, v1, rfl, rfl⟩ := hT1.shape
      have hb7' : Below W6.heap.size W6 w7 := hbd.trans hb7
      have hc7 := (belowCell hb7').1
      refine ⟨⟨(hc7 _ _ hll6).trans l0, (hc7 _ _ hqq6).trans s0, (hc7 _ _ hqq6).trans s1⟩, ?_⟩
      refine wpKeep_step rfl ?_
      go_simp
      have hb8 : Below W6.heap.size W6 (w7.alloc (.cells #[.string ⟨#[]⟩, .slice none 0 0] 35)) := hb7'.alloc hb7'.size _
      have hc8 := (belowCell hb8).1
      refine ⟨⟨(hc8 _ _ hll6).trans l0, (hc8 _ _ hqq6).trans s0, (hc8 _ _ hqq6).trans s1⟩, ?_⟩
      refine wpKeep_nil ?_
      have hZ := alloc1 w7 (.cells #[.string ⟨#[]⟩, .slice none 0 0] 35)
      have hTk : Kept (Fr W6.drew.heap.size w7.heap.size) w7 (w7.alloc (.cells #[.string ⟨#[]⟩, .slice none 0 0] 35)) := keptGrown (World.grownBy_alloc w7 _ none) fun y hy => ⟨hy.2, by simp⟩
      have hM8 := HM2.out.kept hb8
      have hl8 := hM8.lown
      have HM8 := Lib.hid hM8
      clear hM8
      try simp only [opsAt, List.filterMap_cons, List.filterMap_nil, List.getElem?_toArray, List.getElem?_cons_succ, List.getElem?_cons_zero]
      refine ⟨rfl, ?_⟩
      refine wp_append_lies _ _ _ 33 rfl B 35 i0 _ 2 40 Try.underlying33 hi hz0 hz1 hz2 rfl (by omega) _ f.2.length (flat2 vs) rfl hl8 ⟨w7.heap.size, 0, none⟩ 1 1 [.string ⟨#[]⟩, .slice none 0 0] rfl rfl ?c1a ?c2a (by omega) ?c3a ?c4a ?c5a _ rfl ?_
      case c1a => exact World.news_of_block (cs := #[.string ⟨#[]⟩, .slice none 0 0]) hZ
      case c2a => simp [Value.oneCell']
      case c3a => have := HLEN.out; unfold maxLen; omega
      case c4a => have := HLEN.out; omega
      case c5a => have := hb8.size; omega
      intro g2 cap2 w9 hown9 hgrow9 hat9 _
      have hfl := flat2_length vs
      rw [HM8.out.vlen] at hfl
      dsimp only at hfl
      have q0 : w9.cell? ⟨g2, f.2.length * 2, none⟩ = some (.string ⟨#[]⟩) := by
        rw [hown9.cellAt _ (by omega), List.getElem?_append_right (by omega), hfl, Nat.sub_self]; rfl
      have q1 : w9.cell? ⟨g2, f.2.length * 2 + 1, none⟩ = some (.slice none 0 0) := by
        rw [hown9.cellAt _ (by omega), List.getElem?_append_right (by omega), hfl, Nat.add_sub_cancel_left]; rfl
      have z0 : w9.frozen? ⟨g2, f.2.length * 2, none⟩ = false := hown9.frozenAt _
      have z1 : w9.frozen? ⟨g2, f.2.length * 2 + 1, none⟩ = false := hown9.frozenAt _
      have hB2 : B ≤ g2 := (hown9.lt g2 rfl).1
      have hbl9 := (hgrow9.block bl (Nat.lt_of_lt_of_le hll6 hb8.size) (fun e => by have := (hl8.lt _ e.symm).1; omega)).trans HM8.out.lblk
      have b0 : w9.cell? ⟨bl, 0, none⟩ = some (.slice A4 f.2.length c4) := by rw [Lib.cell_of_heap hbl9]; rfl
      have z2 : w9.frozen? ⟨bl, 0, none⟩ = false := Lib.frozen_of_heap hbl9 0
      have hne1 : ¬ bl = g2 := by omega
      have hne2 : ¬ g2 = bl := by omega
      have hT8 : TyIs (w7.alloc (.cells #[.string ⟨#[]⟩, .slice none 0 0] 35)) (fun y => B ≤ y ∧ y < ((w7.alloc (.cells #[.string ⟨#[]⟩, .slice none 0 0] 35)) : World).heap.size ∧ some y ≠ (Value.slice (some ⟨g, 0, none⟩) (f.1.length + 1) cap).ownBlock ∧ some y ≠ (Value.slice A4 f.2.length c4).ownBlock) (.mk n' ls) (sv u1) (.slice v1.1 v1.2.1 v1.2.2) := by
        refine (hT1.keep hTk).more fun y hy => ?_
        have hy1 := hy.1
        have hy2 := hy.2
        refine ⟨?_, ?_, ?_, ?_⟩
        · simp at hy1; omega
        · simp; omega
        · intro e
          have := (HM2.out.nown.lt _ e.symm).2
          simp at hy1
          omega
        · intro e
          have := (HM2.out.lown.lt _ e.symm).2
          simp at hy1
          omega
      have hM9 := HM8.out.pushL hT8 hgrow9 hown9 hat9
      have hK9 : Kp (Mine bn bl (.slice A3 f.1.length c3) (.slice A4 f.2.length c4)) w (((w9.setCell ⟨g2, f.2.length * 2, none⟩ (sv u1)).setCell ⟨g2, f.2.length * 2 + 1, none⟩ (.slice v1.1 v1.2.1 v1.2.2)).setCell ⟨bl, 0, none⟩ (.slice (some ⟨g2, 0, none⟩) (f.2.length + 1) cap2)) := by
        have hg2 : g2 < w.heap.size → Mine bn bl (.slice A3 f.1.length c3) (.slice A4 f.2.length c4) g2 := fun h => by
          rcases hat9 with e | e
          · exact .inr (.inr (.inr e.symm))
          · have := hb8.size; have := HK2.out.size; omega
        exact ((((HK2.out.below hb8).grown hgrow9 (fun r hr _ => .inr (.inr (.inr hr.symm)))).setCell hg2 _).setCell hg2 _).setCell (fun _ => .inr (.inl rfl)) _
      have hsw : ((w9.setCell ⟨bl, 0, none⟩ (.slice (some ⟨g2, 0, none⟩) (f.2.length + 1) cap2)).setCell ⟨g2, f.2.length * 2, none⟩ (sv u1)).setCell ⟨g2, f.2.length * 2 + 1, none⟩ (.slice v1.1 v1.2.1 v1.2.2) = ((w9.setCell ⟨g2, f.2.length * 2, none⟩ (sv u1)).setCell ⟨g2, f.2.length * 2 + 1, none⟩ (.slice v1.1 v1.2.1 v1.2.2)).setCell ⟨bl, 0, none⟩ (.slice (some ⟨g2, 0, none⟩) (f.2.length + 1) cap2) := by
        rw [setCell_swap (a := ⟨bl, 0, none⟩) (b := ⟨g2, f.2.length * 2, none⟩) hne1, setCell_swap (a := ⟨bl, 0, none⟩) (b := ⟨g2, f.2.length * 2 + 1, none⟩) hne1]
      have HSW := Lib.hid hsw
      have HM9 := Lib.hid hM9
      have HK9 := Lib.hid hK9
      have HAT9 := Lib.hid hat9
      clear hM9 hK9 hat9 hT8 hbl9 hT1 hTk hsw
      go_simp
      refine wpFloat_step ?vf0a rfl (fun w' => ?yf0a) ?kf0a
      case yf0a =>
        go_simp
        rw [if_pos (by omega)]
      case kf0a =>
      go_simp
      refine wpFloat_step ?vf1a rfl (fun w' => ?yf1a) ?kf1a
      case yf1a =>
        go_simp
        try rfl
      case kf1a =>
      go_simp
      refine wpFloat_nil ?_
      refine ⟨?p1a, ?p2a⟩
      case p1a =>
        go_wp2_with fail
        refine NoPanic.normal ?_
        go_wp2_with fail
        go_ret
        refine ⟨_, _, _, rfl, HM9.out, HK9.out, fun y hy hm => ?_⟩
        rcases hm with e | e | e | e
        · exact .inl e
        · exact .inr (.inl e)
        · injection e with e
          subst e
          rcases HAT2.out with e | e
          · exact .inr (.inr (.inl e.symm))
          · omega
        · injection e with e
          subst e
          rcases HAT9.out with e | e
          · exact .inr (.inr (.inr e.symm))
          · have := hb8.size; have := HK2.out.size; omega
      case p2a =>
        go_wp2_with fail
        refine NoPanic.normal ?_
        go_wp2_with fail
        go_ret
        show MOk _ _ _ _ _ _ _ _ _
        have HM9' := HM9.out
        have HK9' := HK9.out
        rw [← HSW.out] at HM9' HK9'
        have HM9 := Lib.hid HM9'
        have HK9 := Lib.hid HK9'
        refine ⟨_, _, _, rfl, HM9.out, HK9.out, fun y hy hm => ?_⟩
        rcases hm with e | e | e | e
        · exact .inl e
        · exact .inr (.inl e)
        · injection e with e
          subst e
          rcases HAT2.out with e | e
          · exact .inr (.inr (.inl e.symm))
          · omega
        · injection e with e
          subst e
          rcases HAT9.out with e | e
          · exact .inr (.inr (.inr e.symm))
          · have := hb8.size; have := HK2.out.size; omega
    case o2 =>
      refine wpKeep_step rfl ?_
      go_simp
      have hbz : Below W6.heap.size W6 (W6.drew.alloc (.cells #[.string ⟨#[]⟩, .slice none 0 0] 35)) := hbd.alloc hbd.size _
      have hcz := (belowCell hbz).1
      try refine ⟨⟨(hcz _ _ hll6).trans l0, (hcz _ _ hqq6).trans s0, (hcz _ _ hqq6).trans s1⟩, ?_⟩
      refine wpKeep_step rfl ?_
      go_simp
      refine (copied_any (.mk n' ls) _ _ _ (htt.now (Nat.le_refl _) hbz)).mono ?_
      rintro e w7 ⟨u1, v1, rfl, hT1, hb7⟩
      obtain ⟨u1, v1, rfl, rfl⟩ := hT1.shape
      have hb8 : Below W6.heap.size W6 w7 := hbz.trans (hb7.mono (by simp))
      have hc8 := (belowCell hb8).1
      refine ⟨⟨(hc8 _ _ hll6).trans l0, (hc8 _ _ hqq6).trans s0, (hc8 _ _ hqq6).trans s1⟩, ?_⟩
      refine wpKeep_nil ?_
      have hZ : w7.heap[W6.heap.size]? = some (.cells #[.string ⟨#[]⟩, .slice none 0 0] 35 (0, 0)) := (hb7.block _ (by simp)).trans (alloc1 W6.drew _)
      have hTk : Kept (Fr (W6.drew.alloc (.cells #[.string ⟨#[]⟩, .slice none 0 0] 35)).heap.size w7.heap.size) w7 w7 := fun _ _ => rfl
      have hM8 := HM2.out.kept hb8
      have hl8 := hM8.lown
      have HM8 := Lib.hid hM8
      clear hM8
      try simp only [opsAt, List.filterMap_cons, List.filterMap_nil, List.getElem?_toArray, List.getElem?_cons_succ, List.getElem?_cons_zero]
      refine ⟨rfl, ?_⟩
      refine wp_append_lies _ _ _ 33 rfl B 35 i0 _ 2 40 Try.underlying33 hi hz0 hz1 hz2 rfl (by omega) _ f.2.length (flat2 vs) rfl hl8 ⟨W6.heap.size, 0, none⟩ 1 1 [.string ⟨#[]⟩, .slice none 0 0] rfl rfl ?c1b ?c2b (by omega) ?c3b ?c4b ?c5b _ rfl ?_
      case c1b => exact World.news_of_block (cs := #[.string ⟨#[]⟩, .slice none 0 0]) hZ
      case c2b => simp [Value.oneCell']
      case c3b => have := HLEN.out; unfold maxLen; omega
      case c4b => have := HLEN.out; omega
      case c5b => have := hb8.size; omega
      intro g2 cap2 w9 hown9 hgrow9 hat9 _
      have hfl := flat2_length vs
      rw [HM8.out.vlen] at hfl
      dsimp only at hfl
      have q0 : w9.cell? ⟨g2, f.2.length * 2, none⟩ = some (.string ⟨#[]⟩) := by
        rw [hown9.cellAt _ (by omega), List.getElem?_append_right (by omega), hfl, Nat.sub_self]; rfl
      have q1 : w9.cell? ⟨g2, f.2.length * 2 + 1, none⟩ = some (.slice none 0 0) := by
        rw [hown9.cellAt _ (by omega), List.getElem?_append_right (by omega), hfl, Nat.add_sub_cancel_left]; rfl
      have z0 : w9.frozen? ⟨g2, f.2.length * 2, none⟩ = false := hown9.frozenAt _
      have z1 : w9.frozen? ⟨g2, f.2.length * 2 + 1, none⟩ = false := hown9.frozenAt _
      have hB2 : B ≤ g2 := (hown9.lt g2 rfl).1
      have hbl9 := (hgrow9.block bl (Nat.lt_of_lt_of_le hll6 hb8.size) (fun e => by have := (hl8.lt _ e.symm).1; omega)).trans HM8.out.lblk
      have b0 : w9.cell? ⟨bl, 0, none⟩ = some (.slice A4 f.2.length c4) := by rw [Lib.cell_of_heap hbl9]; rfl
      have z2 : w9.frozen? ⟨bl, 0, none⟩ = false := Lib.frozen_of_heap hbl9 0
      have hne1 : ¬ bl = g2 := by omega
      have hne2 : ¬ g2 = bl := by omega
      have hT8 : TyIs w7 (fun y => B ≤ y ∧ y < (w7 : World).heap.size ∧ some y ≠ (Value.slice (some ⟨g, 0, none⟩) (f.1.length + 1) cap).ownBlock ∧ some y ≠ (Value.slice A4 f.2.length c4).ownBlock) (.mk n' ls) (sv u1) (.slice v1.1 v1.2.1 v1.2.2) := by
        refine (hT1.keep hTk).more fun y hy => ?_
        have hy1 := hy.1
        have hy2 := hy.2
        refine ⟨?_, ?_, ?_, ?_⟩
        · simp at hy1; omega
        · exact hy2
        · intro e
          have := (HM2.out.nown.lt _ e.symm).2
          simp at hy1
          omega
        · intro e
          have := (HM2.out.lown.lt _ e.symm).2
          simp at hy1
          omega
      have hM9 := HM8.out.pushL hT8 hgrow9 hown9 hat9
      have hK9 : Kp (Mine bn bl (.slice A3 f.1.length c3) (.slice A4 f.2.length c4)) w (((w9.setCell ⟨g2, f.2.length * 2, none⟩ (sv u1)).setCell ⟨g2, f.2.length * 2 + 1, none⟩ (.slice v1.1 v1.2.1 v1.2.2)).setCell ⟨bl, 0, none⟩ (.slice (some ⟨g2, 0, none⟩) (f.2.length + 1) cap2)) := by
        have hg2 : g2 < w.heap.size → Mine bn bl (.slice A3 f.1.length c3) (.slice A4 f.2.length c4) g2 := fun h => by
          rcases hat9 with e | e
          · exact .inr (.inr (.inr e.symm))
          · have := hb8.size; have := HK2.out.size; omega
        exact ((((HK2.out.below hb8).grown hgrow9 (fun r hr _ => .inr (.inr (.inr hr.symm)))).setCell hg2 _).setCell hg2 _).setCell (fun _ => .inr (.inl rfl)) _
      have hsw : ((w9.setCell ⟨bl, 0, none⟩ (.slice (some ⟨g2, 0, none⟩) (f.2.length + 1) cap2)).setCell ⟨g2, f.2.length * 2, none⟩ (sv u1)).setCell ⟨g2, f.2.length * 2 + 1, none⟩ (.slice v1.1 v1.2.1 v1.2.2) = ((w9.setCell ⟨g2, f.2.length * 2, none⟩ (sv u1)).setCell ⟨g2, f.2.length * 2 + 1, none⟩ (.slice v1.1 v1.2.1 v1.2.2)).setCell ⟨bl, 0, none⟩ (.slice (some ⟨g2, 0, none⟩) (f.2.length + 1) cap2) := by
        rw [setCell_swap (a := ⟨bl, 0, none⟩) (b := ⟨g2, f.2.length * 2, none⟩) hne1, setCell_swap (a := ⟨bl, 0, none⟩) (b := ⟨g2, f.2.length * 2 + 1, none⟩) hne1]
      have HSW := Lib.hid hsw
      have HM9 := Lib.hid hM9
      have HK9 := Lib.hid hK9
      have HAT9 := Lib.hid hat9
      clear hM9 hK9 hat9 hT8 hbl9 hT1 hTk hsw
      go_simp
      refine wpFloat_step ?vf0b rfl (fun w' => ?yf0b) ?kf0b
      case yf0b =>
        go_simp
        rw [if_pos (by omega)]
      case kf0b =>
      go_simp
      refine wpFloat_step ?vf1b rfl (fun w' => ?yf1b) ?kf1b
      case yf1b =>
        go_simp
        try rfl
      case kf1b =>
      go_simp
      refine wpFloat_nil ?_
      refine ⟨?p1b, ?p2b⟩
      case p1b =>
        go_wp2_with fail
        refine NoPanic.normal ?_
        go_wp2_with fail
        go_ret
        refine ⟨_, _, _, rfl, HM9.out, HK9.out, fun y hy hm => ?_⟩
        rcases hm with e | e | e | e
        · exact .inl e
        · exact .inr (.inl e)
        · injection e with e
          subst e
          rcases HAT2.out with e | e
          · exact .inr (.inr (.inl e.symm))
          · omega
        · injection e with e
          subst e
          rcases HAT9.out with e | e
          · exact .inr (.inr (.inr e.symm))
          · have := hb8.size; have := HK2.out.size; omega
      case p2b =>
        go_wp2_with fail
        refine NoPanic.normal ?_
        go_wp2_with fail
        go_ret
        show MOk _ _ _ _ _ _ _ _ _
        have HM9' := HM9.out
        have HK9' := HK9.out
        rw [← HSW.out] at HM9' HK9'
        have HM9 := Lib.hid HM9'
        have HK9 := Lib.hid HK9'
        refine ⟨_, _, _, rfl, HM9.out, HK9.out, fun y hy hm => ?_⟩
        rcases hm with e | e | e | e
        · exact .inl e
        · exact .inr (.inl e)
        · injection e with e
          subst e
          rcases HAT2.out with e | e
          · exact .inr (.inr (.inl e.symm))
          · omega
        · injection e with e
          subst e
          rcases HAT9.out with e | e
          · exact .inr (.inr (.inr e.symm))
          · have := hb8.size; have := HK2.out.size; omega
end

section
open Go.RowKit
theorem mtchL_append (ks' : List Ty) : ∀ (ts' : List Ty) (r s : List Ty) (f f' : Found), ks'.length = ts'.length → mtchL ks' ts' f = (true, f') → mtchL (ks' ++ r) (ts' ++ s) f = mtchL r s f' := by
  induction ks' with
  | nil =>
    intro ts' r s f f' hl h
    cases ts' with
    | nil => simp only [mtchL, Prod.mk.injEq, true_and] at h; subst h; rfl
    | cons a b => simp at hl
  | cons a b ih =>
    intro ts' r s f f' hl h
    cases ts' with
    | nil => simp at hl
    | cons c d =>
      simp only [mtchL, List.cons_append] at h ⊢
      rcases hm : mtch a c f with ⟨_ | _, g⟩
      · rw [hm] at h; simp at h
      · rw [hm] at h
        exact ih d r s g f' (by simpa using hl) h
theorem mtchL_one (k t : Ty) (r s : List Ty) (f : Found) : mtchL (k :: r) (t :: s) f = match mtch k t f with | (true, f') => mtchL r s f' | (false, f') => (false, f') := by
  rw [mtchL]
  rcases mtch k t f with ⟨_ | _, g⟩ <;> rfl

mutual
theorem mtch_len : ∀ (p t : Ty) (f : Found), f.1.length = f.2.length → (mtch p t f).2.1.length = (mtch p t f).2.2.length ∧ (mtch p t f).2.1.length ≤ f.1.length + p.size
  | .mk n ks, t, f, h => by
    rw [mtch]
    split
    · unfold oneName
      split
      · exact ⟨h, by simp⟩
      · simp [h, Ty.size]
    · split
      · have := mtchL_len ks t.args f h
        rw [Ty.size]
        exact ⟨this.1, by omega⟩
      · exact ⟨h, by simp⟩
theorem mtchL_len : ∀ (ks ts : List Ty) (f : Found), f.1.length = f.2.length → (mtchL ks ts f).2.1.length = (mtchL ks ts f).2.2.length ∧ (mtchL ks ts f).2.1.length ≤ f.1.length + sizeL ks
  | [], _, f, h => by rw [mtchL]; exact ⟨h, by simp⟩
  | k :: ks, [], f, h => by rw [mtchL]; exact ⟨h, by simp⟩
  | k :: ks, t :: ts, f, h => by
    have h1 := mtch_len k t f h
    rw [mtchL, sizeL]
    rcases hm : mtch k t f with ⟨_ | _, g⟩
    · rw [hm] at h1
      exact ⟨h1.1, by have := h1.2; simp only at this ⊢; omega⟩
    · rw [hm] at h1
      have h2 := mtchL_len ks ts g h1.1
      exact ⟨h2.1, by have := h1.2; have := h2.2; simp only at *; omega⟩
end

theorem sizeL_append (a b : List Ty) : sizeL (a ++ b) = sizeL a + sizeL b := by
  induction a with
  | nil => simp [sizeL]
  | cons x r ih => simp only [List.cons_append, sizeL, ih]; omega
theorem sizeL_take_lt {ks : List Ty} {k : Nat} (h : k < ks.length) : sizeL (ks.take k) + (ks[k]).size ≤ sizeL ks := by
  have e : ks = ks.take k ++ (ks[k] :: ks.drop (k + 1)) := by
    rw [← List.drop_eq_getElem_cons h, List.take_append_drop]
  have := congrArg sizeL e
  rw [sizeL_append, sizeL] at this
  omega

set_option maxHeartbeats 2000000 in
set_option maxRecDepth 100000 in
theorem match_kids (n : List UInt8) (ks ls : List Ty) (hpw : (parW n ks.length).2 = false) (hll : ks.length = ls.length) (ih : ∀ a ∈ ks, MatchAt a) (f : Found) (bn bl B : Nat) (nv lv : Value) (vs : List (Value × Value)) (A A' : Option Addr) (c c' : Nat) (vp vt : List (Value × Value)) (w : World)
    (hz : ks.length ≤ 3518437208883) (hT : Tys w (Away B bn bl) A ks vp) (hT' : Tys w (Away B bn bl) A' ls vt) (hM : MSt bn bl B f nv lv vs w) (hB : B ≤ w.heap.size) (hlen : f.1.length = f.2.length) (hsz : f.1.length + sizeL ks ≤ 3518437208883) :
    Calls Try.prog 55 #[.agg #[sv n, .slice A ks.length c], .agg #[sv n, .slice A' ls.length c'], .pointer (some ⟨bn, 0, none⟩), .pointer (some ⟨bl, 0, none⟩)] w (MOk (mtchL ks ls f) bn bl B nv lv w) := by
  have hb2 : Below w.heap.size w ((w.alloc (.cells #[sv n, .slice A ks.length c] 35)).alloc (.cells #[sv n, .slice A' ls.length c'] 35)) := ((Below.refl _ _).alloc (Nat.le_refl _) _).alloc (by simp) _
  obtain ⟨x, hx⟩ : ∃ x, parW n ks.length = (x, false) := ⟨_, by rw [← hpw]⟩
  have HPW := Lib.hid hx
  clear hx hpw
  obtain ⟨m, hm⟩ : ∃ m, m = ks.length := ⟨_, rfl⟩
  rw [← hll, ← hm]
  rw [← hll, ← hm] at hb2
  have hzm : m ≤ 3518437208883 := by omega
  have HM := Lib.hid hm
  have HLL := Lib.hid hll
  have HLEN := Lib.hid hlen
  clear hm hll hlen hz
  have hnn := bytesEq (rfl : n = n)
  go_enter Try.func55, Try.ntmps55
  go_wp2_with fail
  refine (parameter_any n A m c _ hzm).mono ?_
  rw [HM.out, HPW.out]
  rw [← HM.out]
  rintro e w1 ⟨rfl, hb1⟩
  have hb3 : Below w.heap.size w w1 := hb2.trans (hb1.mono (by simp; omega))
  have hq := alloc2 w (.cells #[sv n, .slice A m c] 35) (.cells #[sv n, .slice A' m c'] 35)
  have hq1 := (hb1.block w.heap.size (by simp; omega)).trans hq.1
  have hq2 := (hb1.block (w.heap.size + 1) (by simp)).trans hq.2
  have t0 : w1.cell? ⟨w.heap.size, 0, none⟩ = some (sv n) := by rw [Lib.cell_of_heap hq1]; rfl
  have t1 : w1.cell? ⟨w.heap.size, 1, none⟩ = some (.slice A m c) := by rw [Lib.cell_of_heap hq1]; rfl
  have s0 : w1.cell? ⟨w.heap.size + 1, 0, none⟩ = some (sv n) := by rw [Lib.cell_of_heap hq2]; rfl
  have s1 : w1.cell? ⟨w.heap.size + 1, 1, none⟩ = some (.slice A' m c') := by rw [Lib.cell_of_heap hq2]; rfl
  have hsz1 : w.heap.size + 1 < w1.heap.size := lt_of_heap hq2
  have HQ1 := Lib.hid hq1
  have HQ2 := Lib.hid hq2
  have hM1 := hM.kept hb3
  have HM0 := Lib.hid hM
  clear hq hq1 hq2 hM
  go_wp2_with fail
  go_loopw [69] (fun i wr => ∃ k : Nat, k ≤ m ∧ i = .int .i64 k ∧ ∃ (f' : Found) (nv' lv' : Value) (vs' : List (Value × Value)), mtchL (ks.take k) (ls.take k) f = (true, f') ∧ MSt bn bl B f' nv' lv' vs' wr ∧ Kp (Mine bn bl nv lv) w1 wr ∧ ∀ y, y < w1.heap.size → Mine bn bl nv' lv' y → Mine bn bl nv lv y) (fun i _ => m - (intOf i).toNat)
  case atStart => exact ⟨0, Nat.zero_le _, rfl, f, nv, lv, vs, rfl, hM1, Kp.refl _ _, fun _ _ h => h⟩
  case round =>
    obtain ⟨k, hk, rfl, f', nv', lv', vs', hf', hMr, hKr, hMine⟩ := hrel
    have hfar : ∀ y, w.heap.size ≤ y → ¬ Mine bn bl nv lv y := fun y hy e => by
      have hlo := HM0.out.lo
      rcases e with e | e | e | e
      · omega
      · omega
      · have := (HM0.out.nown.lt _ e.symm).2; omega
      · have := (HM0.out.lown.lt _ e.symm).2; omega
    have haway : ∀ y, Away B bn bl y → ¬ Mine bn bl nv lv y := fun y hy e => by
      rcases e with e | e | e | e
      · exact hy.2.1 e
      · exact hy.2.2 e
      · have := (HM0.out.nown.lt _ e.symm).1; have := hy.1; omega
      · have := (HM0.out.lown.lt _ e.symm).1; have := hy.1; omega
    have haway' : ∀ y, Away B bn bl y → ¬ Mine bn bl nv' lv' y := fun y hy e => by
      rcases e with e | e | e | e
      · exact hy.2.1 e
      · exact hy.2.2 e
      · have := (hMr.nown.lt _ e.symm).1; have := hy.1; omega
      · have := (hMr.lown.lt _ e.symm).1; have := hy.1; omega
    have hKw : Kp (Mine bn bl nv lv) w wr := (Kp.ofBelow hb3).trans hKr fun _ _ h => h
    have hp1 := hKr.heap HQ1.out (hfar _ (Nat.le_refl _))
    have hp2 := hKr.heap HQ2.out (hfar _ (by omega))
    have hn1 : ¬ Mine bn bl nv' lv' w.heap.size := fun e => hfar _ (Nat.le_refl _) (hMine _ (by omega) e)
    have hn2 : ¬ Mine bn bl nv' lv' (w.heap.size + 1) := fun e => hfar _ (by omega) (hMine _ (by omega) e)
    have a0 : wr.cell? ⟨w.heap.size, 1, none⟩ = some (.slice A m c) := by rw [Lib.cell_of_heap hp1]; rfl
    have a1 : wr.cell? ⟨w.heap.size + 1, 1, none⟩ = some (.slice A' m c') := by rw [Lib.cell_of_heap hp2]; rfl
    have hsr := hKr.size
    have hKS : Kept (Away B bn bl) w wr := hKw.kept fun y hy => ⟨by have := hy.1; omega, haway y hy⟩
    have HF := Lib.hid hf'
    have HP1 := Lib.hid hp1
    have HP2 := Lib.hid hp2
    have HMR := Lib.hid hMr
    clear hf' hp1 hp2 hMr
    by_cases hlt : k < m
    · have hki : k < ks.length := by rw [← HM.out]; exact hlt
      have hki' : k < ls.length := by rw [← HLL.out, ← HM.out]; exact hlt
      obtain ⟨ad, u, v, rfl, hS, e0, e1, hty⟩ := (hT.keep hKS).at_ (List.getElem?_eq_getElem hki)
      obtain ⟨ad', u', v', rfl, hS', e0', e1', hty'⟩ := (hT'.keep hKS).at_ (List.getElem?_eq_getElem hki')
      obtain ⟨u, v, rfl, rfl⟩ := hty.shape
      obtain ⟨u', v', rfl, rfl⟩ := hty'.shape
      have hfl := mtchL_len (ks.take k) (ls.take k) f HLEN.out
      rw [HF.out] at hfl
      have hst := sizeL_take_lt hki
      obtain ⟨b, f2, hm2⟩ : ∃ b f2, mtch ks[k] ls[k] f' = (b, f2) := ⟨_, _, rfl⟩
      have HM2 := Lib.hid hm2
      have HFL := Lib.hid hfl
      clear hm2 hfl
      go_wp2_with fail
      refine wp_region_held' (fun w' => w'.cell? ⟨w.heap.size, 1, none⟩ = some (.slice (some ad) m c) ∧ w'.cell? ⟨w.heap.size + 1, 1, none⟩ = some (.slice (some ad') m c') ∧ w'.cell? (ad.add (k * 2)) = some (sv u) ∧ w'.cell? ⟨(ad.add (k * 2)).block, (ad.add (k * 2)).off + 1, none⟩ = some (.slice v.1 v.2.1 v.2.2) ∧ w'.cell? (ad'.add (k * 2)) = some (sv u') ∧ w'.cell? ⟨(ad'.add (k * 2)).block, (ad'.add (k * 2)).off + 1, none⟩ = some (.slice v'.1 v'.2.1 v'.2.2)) [] [0, 1, 2, 3, 4, 5, 6, 7, 8, 9, 10, 11] [12] [13] (by kernel_rfl) (by kernel_rfl) ?s0 ?h0
      case s0 => exact ⟨a0, a1, e0, e1, e0', e1'⟩
      case h0 =>
        simp only [opsAt, List.filterMap_cons, List.filterMap_nil, List.getElem?_toArray, List.getElem?_cons_succ, List.getElem?_cons_zero]
        refine wpFloat_nil ?_
        refine wpLoad_step ?va0 rfl (fun w' hS => ?ya0) ?ka0
        case ya0 =>
          obtain ⟨h1, h2, h3, h4, h5, h6⟩ := hS
          go_simp
          try rfl
        case ka0 =>
        go_simp
        refine wpLoad_step ?va1 rfl (fun w' hS => ?ya1) ?ka1
        case ya1 =>
          obtain ⟨h1, h2, h3, h4, h5, h6⟩ := hS
          go_simp
          try rfl
        case ka1 =>
        go_simp
        refine wpLoad_step ?va2 rfl (fun w' hS => ?ya2) ?ka2
        case ya2 =>
          obtain ⟨h1, h2, h3, h4, h5, h6⟩ := hS
          go_simp
          try rfl
        case ka2 =>
        go_simp
        refine wpLoad_step ?va3 rfl (fun w' hS => ?ya3) ?ka3
        case ya3 =>
          obtain ⟨h1, h2, h3, h4, h5, h6⟩ := hS
          go_simp
          try rfl
        case ka3 =>
        go_simp
        refine wpLoad_step ?va4 rfl (fun w' hS => ?ya4) ?ka4
        case ya4 =>
          obtain ⟨h1, h2, h3, h4, h5, h6⟩ := hS
          go_simp
          try rfl
        case ka4 =>
        go_simp
        refine wpLoad_step ?va5 rfl (fun w' hS => ?ya5) ?ka5
        case ya5 =>
          obtain ⟨h1, h2, h3, h4, h5, h6⟩ := hS
          go_simp
          try rfl
        case ka5 =>
        go_simp
        refine wpLoad_step ?va6 rfl (fun w' hS => ?ya6) ?ka6
        case ya6 =>
          obtain ⟨h1, h2, h3, h4, h5, h6⟩ := hS
          go_simp
          try rfl
        case ka6 =>
        go_simp
        refine wpLoad_step ?va7 rfl (fun w' hS => ?ya7) ?ka7
        case ya7 =>
          obtain ⟨h1, h2, h3, h4, h5, h6⟩ := hS
          go_simp
          try rfl
        case ka7 =>
        go_simp
        refine wpLoad_step ?va8 rfl (fun w' hS => ?ya8) ?ka8
        case ya8 =>
          obtain ⟨h1, h2, h3, h4, h5, h6⟩ := hS
          go_simp
          try rfl
        case ka8 =>
        go_simp
        refine wpLoad_step ?va9 rfl (fun w' hS => ?ya9) ?ka9
        case ya9 =>
          obtain ⟨h1, h2, h3, h4, h5, h6⟩ := hS
          go_simp
          try rfl
        case ka9 =>
        go_simp
        refine wpLoad_step ?va10 rfl (fun w' hS => ?ya10) ?ka10
        case ya10 =>
          obtain ⟨h1, h2, h3, h4, h5, h6⟩ := hS
          go_simp
          try rfl
        case ka10 =>
        go_simp
        refine wpLoad_step ?va11 rfl (fun w' hS => ?ya11) ?ka11
        case ya11 =>
          obtain ⟨h1, h2, h3, h4, h5, h6⟩ := hS
          go_simp
          try rfl
        case ka11 =>
        go_simp
        refine wpLoad_nil ?_
        refine wpKeep_step rfl ?_
        go_simp
        have hbd : Below wr.heap.size wr wr.drew := (Below.refl _ _).drew
        have hBr : B ≤ wr.heap.size := by omega
        have hih := ih ks[k] (List.getElem_mem hki) ls[k] f' bn bl B nv' lv' vs' _ _ _ _ wr.drew (hty.keep fun _ _ => rfl) (hty'.keep fun _ _ => rfl) (HMR.out.kept hbd) hBr HFL.out.1 (by have h5 : f'.1.length ≤ f.1.length + sizeL (ks.take k) := HFL.out.2; omega)
        rw [HM2.out] at hih
        refine hih.mono ?_
        clear hih
        rintro e w2 ⟨nv2, lv2, vs2, rfl, hM2, hK2, hMine2⟩
        have hKr2 : Kp (Mine bn bl nv' lv') wr w2 := ⟨hK2.os, hK2.tape, hK2.output, hK2.size, hK2.block⟩
        have x1 := hKr2.heap HP1.out hn1
        have x2 := hKr2.heap HP2.out hn2
        have b0 : w2.cell? ⟨w.heap.size, 1, none⟩ = some (.slice (some ad) m c) := by rw [Lib.cell_of_heap x1]; rfl
        have b1 : w2.cell? ⟨w.heap.size + 1, 1, none⟩ = some (.slice (some ad') m c') := by rw [Lib.cell_of_heap x2]; rfl
        have hKS2 : Kept (Away B bn bl) wr w2 := hKr2.kept fun y hy => ⟨by have := hy.1; omega, haway' y hy⟩
        have b2 := (hKS2 (ad.add (k * 2)) (by rw [blkAdd]; exact hS)).trans e0
        have b3 := (hKS2 ⟨(ad.add (k * 2)).block, (ad.add (k * 2)).off + 1, none⟩ (by show Away B bn bl (ad.add (k * 2)).block; rw [blkAdd]; exact hS)).trans e1
        have b4 := (hKS2 (ad'.add (k * 2)) (by rw [blkAdd]; exact hS')).trans e0'
        have b5 := (hKS2 ⟨(ad'.add (k * 2)).block, (ad'.add (k * 2)).off + 1, none⟩ (by show Away B bn bl (ad'.add (k * 2)).block; rw [blkAdd]; exact hS')).trans e1'
        refine ⟨⟨b0, b1, b2, b3, b4, b5⟩, ?_⟩
        refine wpKeep_nil ?_
        have hMine3 : ∀ y, y < w1.heap.size → Mine bn bl nv2 lv2 y → Mine bn bl nv lv y := fun y hy h => hMine y hy (hMine2 y (Nat.lt_of_lt_of_le hy hsr) h)
        have hK3 : Kp (Mine bn bl nv lv) w1 w2 := hKr.trans hKr2 hMine
        have HMINE3 := Lib.hid hMine3
        have HK3 := Lib.hid hK3
        have hs1 : ks.take (k + 1) = ks.take k ++ [ks[k]] := List.take_succ_eq_append_getElem hki
        have hs2 : ls.take (k + 1) = ls.take k ++ [ls[k]] := List.take_succ_eq_append_getElem hki'
        have HS1 := Lib.hid hs1
        have HS2 := Lib.hid hs2
        have hlk : (ks.take k).length = (ls.take k).length := by rw [List.length_take, List.length_take]; omega
        have HLK := Lib.hid hlk
        have HM3 := Lib.hid hM2
        clear hs1 hs2 hlk hM2 x1 x2 b0 b1 b2 b3 b4 b5 hMine hMine2 hMine3 hn1 hn2 a0 a1 t0 s0 haway haway' hfar
        cases b with
        | true =>
          go_wp2_with fail
          refine NoPanic.normal ?_
          go_wp2_with fail
          go_roundw
          case rel =>
            refine ⟨k + 1, by omega, by go_num, f2, nv2, lv2, vs2, ?_, HM3.out, HK3.out, HMINE3.out⟩
            rw [HS1.out, HS2.out, mtchL_append _ _ _ _ _ _ HLK.out HF.out, mtchL_one, HM2.out]
            rfl
          case measure => simp [intOf]; omega
        | false =>
          go_wp2_with fail
          refine NoPanic.normal ?_
          go_wp2_with fail
          go_ret
          have hr : mtchL ks ls f = (false, f2) := by
            have h1 : ks = ks.take k ++ (ks[k] :: ks.drop (k + 1)) := by rw [← List.drop_eq_getElem_cons hki, List.take_append_drop]
            have h2 : ls = ls.take k ++ (ls[k] :: ls.drop (k + 1)) := by rw [← List.drop_eq_getElem_cons hki', List.take_append_drop]
            have h3 := mtchL_append (ks.take k) (ls.take k) (ks[k] :: ks.drop (k + 1)) (ls[k] :: ls.drop (k + 1)) f f' HLK.out HF.out
            rw [← h1, ← h2, mtchL_one, HM2.out] at h3
            exact h3
          rw [hr]
          exact ⟨nv2, lv2, vs2, rfl, HM3.out, (Kp.ofBelow hb3).trans HK3.out (fun _ _ h => h), fun y hy h => HMINE3.out y (Nat.lt_of_lt_of_le hy hb3.size) h⟩
    · have hkm : k = m := by omega
      have HKM := Lib.hid hkm
      clear hkm t0 s0 a0 a1
      have hg : ¬ k < m := hlt
      go_wp2
      go_ret
      have hr : mtchL ks ls f = (true, f') := by
        have := HF.out
        rw [HKM.out, List.take_of_length_le (by rw [HM.out]; exact Nat.le_refl _), List.take_of_length_le (by rw [HM.out, HLL.out]; exact Nat.le_refl _)] at this
        exact this
      rw [hr]
      exact ⟨nv', lv', vs', rfl, HMR.out, hKw, fun y hy h => hMine y (Nat.lt_of_lt_of_le hy hb3.size) h⟩

set_option maxHeartbeats 2000000 in
set_option maxRecDepth 100000 in
theorem match_not (n n' : List UInt8) (ks ls : List Ty) (hpw : (parW n ks.length).2 = false) (hne : ¬ (n = n' ∧ ks.length = ls.length)) (f : Found) (bn bl B : Nat) (nv lv : Value) (vs : List (Value × Value)) (A A' : Option Addr) (c c' : Nat) (w : World)
    (hz : ks.length ≤ 3518437208883) (hM : MSt bn bl B f nv lv vs w) :
    Calls Try.prog 55 #[.agg #[sv n, .slice A ks.length c], .agg #[sv n', .slice A' ls.length c'], .pointer (some ⟨bn, 0, none⟩), .pointer (some ⟨bl, 0, none⟩)] w (MOk (false, f) bn bl B nv lv w) := by
  have hb2 : Below w.heap.size w ((w.alloc (.cells #[sv n, .slice A ks.length c] 35)).alloc (.cells #[sv n', .slice A' ls.length c'] 35)) := ((Below.refl _ _).alloc (Nat.le_refl _) _).alloc (by simp) _
  obtain ⟨x, hx⟩ : ∃ x, parW n ks.length = (x, false) := ⟨_, by rw [← hpw]⟩
  have HPW := Lib.hid hx
  clear hx hpw
  have HM0 := Lib.hid hM
  clear hM
  by_cases hnn : n = n'
  · have hll : ¬ ks.length = ls.length := fun e => hne ⟨hnn, e⟩
    have h1 := bytesEq hnn
    have e1 : ((ks.length : Int) == (ls.length : Int)) = false := by simp; omega
    have e2 : ((ks.length : Int) != (ls.length : Int)) = true := by simp; omega
    clear hne hnn hll
    go_enter Try.func55, Try.ntmps55
    go_wp2_with fail
    refine (parameter_any n A ks.length c _ hz).mono ?_
    rw [HPW.out]
    rintro e w1 ⟨rfl, hb1⟩
    have hb3 : Below w.heap.size w w1 := hb2.trans (hb1.mono (by simp; omega))
    have hq := alloc2 w (.cells #[sv n, .slice A ks.length c] 35) (.cells #[sv n', .slice A' ls.length c'] 35)
    have hq1 := (hb1.block w.heap.size (by simp; omega)).trans hq.1
    have hq2 := (hb1.block (w.heap.size + 1) (by simp)).trans hq.2
    have t0 : w1.cell? ⟨w.heap.size, 0, none⟩ = some (sv n) := by rw [Lib.cell_of_heap hq1]; rfl
    have t1 : w1.cell? ⟨w.heap.size, 1, none⟩ = some (.slice A ks.length c) := by rw [Lib.cell_of_heap hq1]; rfl
    have s0 : w1.cell? ⟨w.heap.size + 1, 0, none⟩ = some (sv n') := by rw [Lib.cell_of_heap hq2]; rfl
    have s1 : w1.cell? ⟨w.heap.size + 1, 1, none⟩ = some (.slice A' ls.length c') := by rw [Lib.cell_of_heap hq2]; rfl
    clear hq hq1 hq2
    go_wp2
    go_ret
    exact ⟨nv, lv, vs, rfl, HM0.out.kept hb3, Kp.ofBelow hb3, fun y _ h => h⟩
  · have h1 := bytesNe hnn
    clear hne hnn
    go_enter Try.func55, Try.ntmps55
    go_wp2_with fail
    refine (parameter_any n A ks.length c _ hz).mono ?_
    rw [HPW.out]
    rintro e w1 ⟨rfl, hb1⟩
    have hb3 : Below w.heap.size w w1 := hb2.trans (hb1.mono (by simp; omega))
    have hq := alloc2 w (.cells #[sv n, .slice A ks.length c] 35) (.cells #[sv n', .slice A' ls.length c'] 35)
    have hq1 := (hb1.block w.heap.size (by simp; omega)).trans hq.1
    have hq2 := (hb1.block (w.heap.size + 1) (by simp)).trans hq.2
    have t0 : w1.cell? ⟨w.heap.size, 0, none⟩ = some (sv n) := by rw [Lib.cell_of_heap hq1]; rfl
    have t1 : w1.cell? ⟨w.heap.size, 1, none⟩ = some (.slice A ks.length c) := by rw [Lib.cell_of_heap hq1]; rfl
    have s0 : w1.cell? ⟨w.heap.size + 1, 0, none⟩ = some (sv n') := by rw [Lib.cell_of_heap hq2]; rfl
    have s1 : w1.cell? ⟨w.heap.size + 1, 1, none⟩ = some (.slice A' ls.length c') := by rw [Lib.cell_of_heap hq2]; rfl
    clear hq hq1 hq2
    go_wp2
    go_ret
    exact ⟨nv, lv, vs, rfl, HM0.out.kept hb3, Kp.ofBelow hb3, fun y _ h => h⟩

theorem match_any (p : Ty) : MatchAt p := by
  induction p using Ty.ind with | h n ks ih => ?_
  intro t f bn bl B nv lv vs u v u' v' w hp ht hM hB hlen hsz
  obtain ⟨A, c, vp, rfl, rfl, hn, hz, hc1, hc2, hT⟩ := hp.open_
  obtain ⟨A', c', vt, rfl, rfl, hn', hz', hc1', hc2', hT'⟩ := ht.open_
  obtain ⟨n', ls⟩ := t
  simp only [Ty.name, Ty.args] at hn hz hc1 hT hn' hz' hc1' hT' ht ⊢
  have hsz' : f.1.length + (1 + sizeL ks) ≤ 3518437208883 := by rw [Ty.size] at hsz; exact hsz
  rw [mtch]
  by_cases hpar : (parW n ks.length).2 = true
  · rw [if_pos hpar]
    have hpw : parW n ks.length = ((parW n ks.length).1, true) := by rw [← hpar]
    by_cases hi : idx f.1 (parW n ks.length).1 0 = -1
    · have := match_new n ks _ hpw n' ls f bn bl B nv lv vs A A' c c' w hz ht hM hB hlen (by omega) hi
      rw [oneName, if_neg (by omega)]
      exact this
    · exact match_old n ks _ hpw n' ls f bn bl B nv lv vs A A' c c' w hz ht hM hB hlen (by omega) hi
  · have hpf : (parW n ks.length).2 = false := by simpa using hpar
    rw [if_neg hpar]
    by_cases hnn : n = n' ∧ ks.length = ls.length
    · obtain ⟨rfl, hll⟩ := hnn
      rw [if_pos (by simp [Ty.name, Ty.args, hll])]
      exact match_kids n ks ls hpf hll ih f bn bl B nv lv vs A A' c c' vp vt w hz hT hT' hM hB hlen (by omega)
    · rw [if_neg (by simpa [Ty.name, Ty.args] using hnn)]
      exact match_not n n' ks ls hpf hnn f bn bl B nv lv vs A A' c c' w hz hM
end
end Go.Proofs.Ytiijlecidepneaa
