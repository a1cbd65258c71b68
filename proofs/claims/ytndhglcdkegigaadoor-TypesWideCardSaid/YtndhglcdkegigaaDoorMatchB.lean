/-
  The walk of types.match at a parameter that is new.
  Conditions: the arguments read as types; what is found stays short.
-/
import Derived.Test.YtndhglcdkegigaaDoorMatch
namespace Go.Proofs.YtndhglcdkegigaaDoor
open Go.RowKit

set_option maxHeartbeats 2000000 in
set_option maxRecDepth 100000 in
theorem match_new (n : List UInt8) (ks : List Ty) (x : List UInt8) (hpw : parW n ks.length = (x, true)) : NameAt n ks (fun t f => (true, (f.1 ++ [x], f.2 ++ [t]))) (fun f => idx f.1 x 0 = -1) := by
  intro n' ls f bn bl B nv lv vs A A' c c' w hz ht hM hB hlen hsz hI
  have hb2 : Below w.heap.size w ((w.alloc (.cells #[sv n, .slice A ks.length c] 30)).alloc (.cells #[sv n', .slice A' ls.length c'] 30)) := ((Below.refl _ _).alloc (Nat.le_refl _) _).alloc (by simp) _
  have HPW := Lib.hid hpw
  clear hpw
  have HT' := Lib.hid ht
  clear ht
  dsimp only
  have HI := Lib.hid hI
  clear hI
  obtain ⟨i0, hi, hz0, hz1, hz2⟩ := info_parts infoT
  obtain ⟨i1, hi', hz0', hz1', hz2'⟩ := info_parts infoStr
  go_enter Tryd.func56, Tryd.ntmps56
  go_wp2_with fail
  refine (parameter_any n A ks.length c _ hz).mono ?_
  rw [HPW.out]
  rintro e w1 ⟨rfl, hb1⟩
  have hb3 : Below w.heap.size w w1 := hb2.trans (hb1.mono (by simp; omega))
  have hM1 := hM.kept hb3
  have hn4 := hM1.nown
  obtain ⟨A3, c3, rfl, _, _⟩ := ownShape hM1.nown
  obtain ⟨A4, c4, rfl, _, _⟩ := ownShape hM1.lown
  have hnw := hM.nown
  have hlw := hM.lown
  have n0 : w1.cell? ⟨bn, 0, none⟩ = some (.slice A3 f.1.length c3) := by rw [Lib.cell_of_heap hM1.nblk]; rfl
  have fn0 : w1.frozen? ⟨bn, 0, none⟩ = false := Lib.frozen_of_heap hM1.nblk 0
  have hrow : Row w1 (Lt w1.heap.size) A3 (f.1.map sv) := Row.ofOwn hM1.nown fun _ _ _ h2 => h2
  have hbw1 := hb3.size
  obtain ⟨hlo1, hlo2, hlo3⟩ := hM1.lo
  have HM1 := Lib.hid hM1
  have HLEN := Lib.hid hlen
  clear hM1 hM hlen
  go_wp2_with fail
  refine (index_any A3 c3 _ f.1 x _ hrow (by omega)).mono ?_
  rw [HI.out]
  rintro e w1 ⟨rfl, rfl⟩
  have hq := alloc2 w (.cells #[sv n, .slice A ks.length c] 30) (.cells #[sv n', .slice A' ls.length c'] 30)
  have hq2 := (hb1.block (w.heap.size + 1) (by simp)).trans hq.2
  have hqs : w.heap.size + 1 < w1.heap.size := lt_of_heap hq2
  have HQ := Lib.hid hq2
  clear hq hq2
  go_wp2_with (at_builtin; refine wpList_append_lies _ rfl _ _ 35 rfl B 9 i1 _ 1 16 Tryd.underlying35 hi' hz0' hz1' hz2' rfl (by omega) _ f.1.length (f.1.map sv) rfl (hn4.alloc _) ⟨w1.heap.size, 0, none⟩ 1 1 [sv x] rfl rfl ?c1 ?c2 (by omega) ?c3 ?c4 ?c5 (w1.heap.size + 1) ?c6 ?_)
  case c1 => exact World.news_of_block (cs := #[sv x]) (alloc1 w1 _)
  case c2 => simp [Value.oneCell']
  case c3 => unfold maxLen; omega
  case c4 => omega
  case c5 => simp; omega
  case c6 => simp
  intro g cap w2 hown2 hgrow2 hat2 _
  have hMa := HM1.out.kept ((Below.refl w1.heap.size w1).alloc (Nat.le_refl _) (.cells #[sv x] 9))
  have hnl := lt_of_heap HM1.out.nblk
  have hll := lt_of_heap HM1.out.lblk
  have hx0 : some bn ≠ (Value.slice A3 f.1.length c3).ownBlock := fun e => by have := (hn4.lt _ e.symm).1; omega
  have hbn2 := (hgrow2.block bn (by simp; omega) hx0).trans hMa.nblk
  have m0 : w2.cell? ⟨bn, 0, none⟩ = some (.slice A3 f.1.length c3) := by rw [Lib.cell_of_heap hbn2]; rfl
  have fm0 : w2.frozen? ⟨bn, 0, none⟩ = false := Lib.frozen_of_heap hbn2 0
  have hM2 := hMa.pushN (x := x) (ns := f.1) (ls := f.2) hgrow2 hown2 (by simpa using hat2)
  have hK2 : Kp (Mine bn bl (.slice A3 f.1.length c3) (.slice A4 f.2.length c4)) w (w2.setCell ⟨bn, 0, none⟩ (.slice (some ⟨g, 0, none⟩) (f.1.length + 1) cap)) :=
    (((Kp.ofBelow hb3).alloc _).grown hgrow2 (fun r hr _ => .inr (.inr (.inl hr.symm)))).setCell (fun _ => .inl rfl) _
  have hq3 : (w2.setCell ⟨bn, 0, none⟩ (.slice (some ⟨g, 0, none⟩) (f.1.length + 1) cap)).heap[w.heap.size + 1]? = some (.cells #[sv n', .slice A' ls.length c'] 30 (0, 0)) := by
    rw [Below.heap_setCell _ _ _ _ (by simp; omega), hgrow2.block _ (by simp; omega) (fun e => ?_), heap_alloc_old _ _ hqs]
    · exact HQ.out
    · have := (hnw.lt _ e.symm).2
      omega
  have HM2 := Lib.hid hM2
  have HK2 := Lib.hid hK2
  have HQ3 := Lib.hid hq3
  clear hM2 hK2 hq3 hMa hbn2
  --REGION
  have HAT2 : Hid ((Value.slice A3 f.1.length c3).ownBlock = some g ∨ g = w1.heap.size + 1) := Lib.hid hat2
  clear hat2
  go_wp2_with fail
  clear hown2 hgrow2 m0 fm0 hrow n0 fn0 hn4
  generalize w2.setCell ⟨bn, 0, none⟩ (.slice (some ⟨g, 0, none⟩) (f.1.length + 1) cap) = W6 at *
  have l0 : W6.cell? ⟨bl, 0, none⟩ = some (.slice A4 f.2.length c4) := by rw [Lib.cell_of_heap HM2.out.lblk]; rfl
  have s0 : W6.cell? ⟨w.heap.size + 1, 0, none⟩ = some (sv n') := by rw [Lib.cell_of_heap HQ3.out]; rfl
  have s1 : W6.cell? ⟨w.heap.size + 1, 1, none⟩ = some (.slice A' ls.length c') := by rw [Lib.cell_of_heap HQ3.out]; rfl
  have hll6 := lt_of_heap HM2.out.lblk
  have hqq6 := lt_of_heap HQ3.out
  have hs6 := HK2.out.size
  have htt : TyIs W6 (Lt W6.heap.size) (.mk n' ls) (sv n') (.slice A' ls.length c') := by
    refine (HT'.out.keep (HK2.out.kept fun y hy => ⟨by have := hy.1; omega, fun e => ?_⟩)).more fun y hy => (by have := hy.1; unfold Lt; omega)
    rcases e with e | e | e | e
    · exact hy.2.1 e
    · exact hy.2.2 e
    · have := (hnw.lt _ e.symm).1; have := hy.1; omega
    · have := (hlw.lt _ e.symm).1; have := hy.1; omega
  have hbd : Below W6.heap.size W6 W6.drew := (Below.refl _ _).drew
  refine wp_region_fork (fun w' => w'.cell? ⟨bl, 0, none⟩ = some (.slice A4 f.2.length c4) ∧ w'.cell? ⟨w.heap.size + 1, 0, none⟩ = some (sv n') ∧ w'.cell? ⟨w.heap.size + 1, 1, none⟩ = some (.slice A' ls.length c')) [0, 1, 2, 3, 5] 4 6 7 [8, 10] 9 11 (by kernel_rfl) (by kernel_rfl) ?s0 ?h0
  case s0 => exact ⟨l0, s0, s1⟩
  case h0 =>
    simp only [opsAt, List.filterMap_cons, List.filterMap_nil, List.getElem?_toArray, List.getElem?_cons_succ, List.getElem?_cons_zero]
    refine wpLoad_step ?va0 rfl (fun w' hS => ?ya0) ?ka0
    case ya0 =>
      obtain ⟨h1, h2, h3⟩ := hS
      go_simp
      try rfl
    case ka0 =>
    go_simp
    refine wpLoad_step ?va1 rfl (fun w' hS => ?ya1) ?ka1
    case ya1 =>
      obtain ⟨h1, h2, h3⟩ := hS
      go_simp
      try rfl
    case ka1 =>
    go_simp
    refine wpLoad_step ?va2 rfl (fun w' hS => ?ya2) ?ka2
    case ya2 =>
      obtain ⟨h1, h2, h3⟩ := hS
      go_simp
      try rfl
    case ka2 =>
    go_simp
    refine wpLoad_step ?va3 rfl (fun w' hS => ?ya3) ?ka3
    case ya3 =>
      obtain ⟨h1, h2, h3⟩ := hS
      go_simp
      try rfl
    case ka3 =>
    go_simp
    refine wpLoad_step ?va4 rfl (fun w' hS => ?ya4) ?ka4
    case ya4 =>
      obtain ⟨h1, h2, h3⟩ := hS
      go_simp
      try rfl
    case ka4 =>
    go_simp
    refine wpLoad_nil ?_
    refine ⟨?o1, ?o2⟩
    case o1 =>
      refine wpKeep_step rfl ?_
      go_simp
      refine (copied_any (.mk n' ls) _ _ _ (htt.now (Nat.le_refl _) hbd)).mono ?_
      rintro e w7 ⟨u1, v1, rfl, hT1, hb7⟩
      obtain ⟨u1, v1, rfl, rfl⟩ := hT1.shape
      have hb7' : Below W6.heap.size W6 w7 := hbd.trans hb7
      have hc7 := (belowCell hb7').1
      refine ⟨⟨(hc7 _ _ hll6).trans l0, (hc7 _ _ hqq6).trans s0, (hc7 _ _ hqq6).trans s1⟩, ?_⟩
      refine wpKeep_step rfl ?_
      go_simp
      have hb8 : Below W6.heap.size W6 (w7.alloc (.cells #[.string ⟨#[]⟩, .slice none 0 0] 30)) := hb7'.alloc hb7'.size _
      have hc8 := (belowCell hb8).1
      refine ⟨⟨(hc8 _ _ hll6).trans l0, (hc8 _ _ hqq6).trans s0, (hc8 _ _ hqq6).trans s1⟩, ?_⟩
      refine wpKeep_nil ?_
      have hZ := alloc1 w7 (.cells #[.string ⟨#[]⟩, .slice none 0 0] 30)
      have hTk : Kept (Fr W6.drew.heap.size w7.heap.size) w7 (w7.alloc (.cells #[.string ⟨#[]⟩, .slice none 0 0] 30)) := keptGrown (World.grownBy_alloc w7 _ none) fun y hy => ⟨hy.2, by simp⟩
      have hM8 := HM2.out.kept hb8
      have hl8 := hM8.lown
      have HM8 := Lib.hid hM8
      clear hM8
      try simp only [opsAt, List.filterMap_cons, List.filterMap_nil, List.getElem?_toArray, List.getElem?_cons_succ, List.getElem?_cons_zero]
      refine ⟨rfl, ?_⟩
      refine wp_append_lies _ _ _ 28 rfl B 30 i0 _ 2 40 Tryd.underlying28 hi hz0 hz1 hz2 rfl (by omega) _ f.2.length (flat2 vs) rfl hl8 ⟨w7.heap.size, 0, none⟩ 1 1 [.string ⟨#[]⟩, .slice none 0 0] rfl rfl ?c1a ?c2a (by omega) ?c3a ?c4a ?c5a _ rfl ?_
      case c1a => exact World.news_of_block (cs := #[.string ⟨#[]⟩, .slice none 0 0]) hZ
      case c2a => simp [Value.oneCell']
      case c3a => have := HLEN.out; unfold maxLen; omega
      case c4a => have := HLEN.out; omega
      case c5a => have := hb8.size; omega
      intro g2 cap2 w9 hown9 hgrow9 hat9 _
      have hfl := flat2_length vs
      rw [HM8.out.vlen] at hfl
      dsimp only at hfl
      have q0 : w9.cell? ⟨g2, f.2.length * 2, none⟩ = some (.string ⟨#[]⟩) := by
        rw [hown9.cellAt _ (by omega), List.getElem?_append_right (by omega), hfl, Nat.sub_self]; rfl
      have q1 : w9.cell? ⟨g2, f.2.length * 2 + 1, none⟩ = some (.slice none 0 0) := by
        rw [hown9.cellAt _ (by omega), List.getElem?_append_right (by omega), hfl, Nat.add_sub_cancel_left]; rfl
      have z0 : w9.frozen? ⟨g2, f.2.length * 2, none⟩ = false := hown9.frozenAt _
      have z1 : w9.frozen? ⟨g2, f.2.length * 2 + 1, none⟩ = false := hown9.frozenAt _
      have hB2 : B ≤ g2 := (hown9.lt g2 rfl).1
      have hbl9 := (hgrow9.block bl (Nat.lt_of_lt_of_le hll6 hb8.size) (fun e => by have := (hl8.lt _ e.symm).1; omega)).trans HM8.out.lblk
      have b0 : w9.cell? ⟨bl, 0, none⟩ = some (.slice A4 f.2.length c4) := by rw [Lib.cell_of_heap hbl9]; rfl
      have z2 : w9.frozen? ⟨bl, 0, none⟩ = false := Lib.frozen_of_heap hbl9 0
      have hne1 : ¬ bl = g2 := by omega
      have hne2 : ¬ g2 = bl := by omega
      have hT8 : TyIs (w7.alloc (.cells #[.string ⟨#[]⟩, .slice none 0 0] 30)) (fun y => B ≤ y ∧ y < ((w7.alloc (.cells #[.string ⟨#[]⟩, .slice none 0 0] 30)) : World).heap.size ∧ some y ≠ (Value.slice (some ⟨g, 0, none⟩) (f.1.length + 1) cap).ownBlock ∧ some y ≠ (Value.slice A4 f.2.length c4).ownBlock) (.mk n' ls) (sv u1) (.slice v1.1 v1.2.1 v1.2.2) := by
        refine (hT1.keep hTk).more fun y hy => ?_
        have hy1 := hy.1
        have hy2 := hy.2
        refine ⟨?_, ?_, ?_, ?_⟩
        · simp at hy1; omega
        · simp; omega
        · intro e
          have := (HM2.out.nown.lt _ e.symm).2
          simp at hy1
          omega
        · intro e
          have := (HM2.out.lown.lt _ e.symm).2
          simp at hy1
          omega
      have hM9 := HM8.out.pushL hT8 hgrow9 hown9 hat9
      have hK9 : Kp (Mine bn bl (.slice A3 f.1.length c3) (.slice A4 f.2.length c4)) w (((w9.setCell ⟨g2, f.2.length * 2, none⟩ (sv u1)).setCell ⟨g2, f.2.length * 2 + 1, none⟩ (.slice v1.1 v1.2.1 v1.2.2)).setCell ⟨bl, 0, none⟩ (.slice (some ⟨g2, 0, none⟩) (f.2.length + 1) cap2)) := by
        have hg2 : g2 < w.heap.size → Mine bn bl (.slice A3 f.1.length c3) (.slice A4 f.2.length c4) g2 := fun h => by
          rcases hat9 with e | e
          · exact .inr (.inr (.inr e.symm))
          · have := hb8.size; have := HK2.out.size; omega
        exact ((((HK2.out.below hb8).grown hgrow9 (fun r hr _ => .inr (.inr (.inr hr.symm)))).setCell hg2 _).setCell hg2 _).setCell (fun _ => .inr (.inl rfl)) _
      have hsw : ((w9.setCell ⟨bl, 0, none⟩ (.slice (some ⟨g2, 0, none⟩) (f.2.length + 1) cap2)).setCell ⟨g2, f.2.length * 2, none⟩ (sv u1)).setCell ⟨g2, f.2.length * 2 + 1, none⟩ (.slice v1.1 v1.2.1 v1.2.2) = ((w9.setCell ⟨g2, f.2.length * 2, none⟩ (sv u1)).setCell ⟨g2, f.2.length * 2 + 1, none⟩ (.slice v1.1 v1.2.1 v1.2.2)).setCell ⟨bl, 0, none⟩ (.slice (some ⟨g2, 0, none⟩) (f.2.length + 1) cap2) := by
        rw [setCell_swap (a := ⟨bl, 0, none⟩) (b := ⟨g2, f.2.length * 2, none⟩) hne1, setCell_swap (a := ⟨bl, 0, none⟩) (b := ⟨g2, f.2.length * 2 + 1, none⟩) hne1]
      have HSW := Lib.hid hsw
      have HM9 := Lib.hid hM9
      have HK9 := Lib.hid hK9
      have HAT9 := Lib.hid hat9
      clear hM9 hK9 hat9 hT8 hbl9 hT1 hTk hsw
      go_simp
      refine wpFloat_step ?vf0a rfl (fun w' => ?yf0a) ?kf0a
      case yf0a =>
        go_simp
        rw [if_pos (by omega)]
      case kf0a =>
      go_simp
      refine wpFloat_step ?vf1a rfl (fun w' => ?yf1a) ?kf1a
      case yf1a =>
        go_simp
        try rfl
      case kf1a =>
      go_simp
      refine wpFloat_nil ?_
      refine ⟨?p1a, ?p2a⟩
      case p1a =>
        go_wp2_with fail
        refine NoPanic.normal ?_
        go_wp2_with fail
        go_ret
        refine ⟨_, _, _, rfl, HM9.out, HK9.out, fun y hy hm => ?_⟩
        rcases hm with e | e | e | e
        · exact .inl e
        · exact .inr (.inl e)
        · injection e with e
          subst e
          rcases HAT2.out with e | e
          · exact .inr (.inr (.inl e.symm))
          · omega
        · injection e with e
          subst e
          rcases HAT9.out with e | e
          · exact .inr (.inr (.inr e.symm))
          · have := hb8.size; have := HK2.out.size; omega
      case p2a =>
        go_wp2_with fail
        refine NoPanic.normal ?_
        go_wp2_with fail
        go_ret
        show MOk _ _ _ _ _ _ _ _ _
        have HM9' := HM9.out
        have HK9' := HK9.out
        rw [← HSW.out] at HM9' HK9'
        have HM9 := Lib.hid HM9'
        have HK9 := Lib.hid HK9'
        refine ⟨_, _, _, rfl, HM9.out, HK9.out, fun y hy hm => ?_⟩
        rcases hm with e | e | e | e
        · exact .inl e
        · exact .inr (.inl e)
        · injection e with e
          subst e
          rcases HAT2.out with e | e
          · exact .inr (.inr (.inl e.symm))
          · omega
        · injection e with e
          subst e
          rcases HAT9.out with e | e
          · exact .inr (.inr (.inr e.symm))
          · have := hb8.size; have := HK2.out.size; omega
    case o2 =>
      refine wpKeep_step rfl ?_
      go_simp
      have hbz : Below W6.heap.size W6 (W6.drew.alloc (.cells #[.string ⟨#[]⟩, .slice none 0 0] 30)) := hbd.alloc hbd.size _
      have hcz := (belowCell hbz).1
      try refine ⟨⟨(hcz _ _ hll6).trans l0, (hcz _ _ hqq6).trans s0, (hcz _ _ hqq6).trans s1⟩, ?_⟩
      refine wpKeep_step rfl ?_
      go_simp
      refine (copied_any (.mk n' ls) _ _ _ (htt.now (Nat.le_refl _) hbz)).mono ?_
      rintro e w7 ⟨u1, v1, rfl, hT1, hb7⟩
      obtain ⟨u1, v1, rfl, rfl⟩ := hT1.shape
      have hb8 : Below W6.heap.size W6 w7 := hbz.trans (hb7.mono (by simp))
      have hc8 := (belowCell hb8).1
      refine ⟨⟨(hc8 _ _ hll6).trans l0, (hc8 _ _ hqq6).trans s0, (hc8 _ _ hqq6).trans s1⟩, ?_⟩
      refine wpKeep_nil ?_
      have hZ : w7.heap[W6.heap.size]? = some (.cells #[.string ⟨#[]⟩, .slice none 0 0] 30 (0, 0)) := (hb7.block _ (by simp)).trans (alloc1 W6.drew _)
      have hTk : Kept (Fr (W6.drew.alloc (.cells #[.string ⟨#[]⟩, .slice none 0 0] 30)).heap.size w7.heap.size) w7 w7 := fun _ _ => rfl
      have hM8 := HM2.out.kept hb8
      have hl8 := hM8.lown
      have HM8 := Lib.hid hM8
      clear hM8
      try simp only [opsAt, List.filterMap_cons, List.filterMap_nil, List.getElem?_toArray, List.getElem?_cons_succ, List.getElem?_cons_zero]
      refine ⟨rfl, ?_⟩
      refine wp_append_lies _ _ _ 28 rfl B 30 i0 _ 2 40 Tryd.underlying28 hi hz0 hz1 hz2 rfl (by omega) _ f.2.length (flat2 vs) rfl hl8 ⟨W6.heap.size, 0, none⟩ 1 1 [.string ⟨#[]⟩, .slice none 0 0] rfl rfl ?c1b ?c2b (by omega) ?c3b ?c4b ?c5b _ rfl ?_
      case c1b => exact World.news_of_block (cs := #[.string ⟨#[]⟩, .slice none 0 0]) hZ
      case c2b => simp [Value.oneCell']
      case c3b => have := HLEN.out; unfold maxLen; omega
      case c4b => have := HLEN.out; omega
      case c5b => have := hb8.size; omega
      intro g2 cap2 w9 hown9 hgrow9 hat9 _
      have hfl := flat2_length vs
      rw [HM8.out.vlen] at hfl
      dsimp only at hfl
      have q0 : w9.cell? ⟨g2, f.2.length * 2, none⟩ = some (.string ⟨#[]⟩) := by
        rw [hown9.cellAt _ (by omega), List.getElem?_append_right (by omega), hfl, Nat.sub_self]; rfl
      have q1 : w9.cell? ⟨g2, f.2.length * 2 + 1, none⟩ = some (.slice none 0 0) := by
        rw [hown9.cellAt _ (by omega), List.getElem?_append_right (by omega), hfl, Nat.add_sub_cancel_left]; rfl
      have z0 : w9.frozen? ⟨g2, f.2.length * 2, none⟩ = false := hown9.frozenAt _
      have z1 : w9.frozen? ⟨g2, f.2.length * 2 + 1, none⟩ = false := hown9.frozenAt _
      have hB2 : B ≤ g2 := (hown9.lt g2 rfl).1
      have hbl9 := (hgrow9.block bl (Nat.lt_of_lt_of_le hll6 hb8.size) (fun e => by have := (hl8.lt _ e.symm).1; omega)).trans HM8.out.lblk
      have b0 : w9.cell? ⟨bl, 0, none⟩ = some (.slice A4 f.2.length c4) := by rw [Lib.cell_of_heap hbl9]; rfl
      have z2 : w9.frozen? ⟨bl, 0, none⟩ = false := Lib.frozen_of_heap hbl9 0
      have hne1 : ¬ bl = g2 := by omega
      have hne2 : ¬ g2 = bl := by omega
      have hT8 : TyIs w7 (fun y => B ≤ y ∧ y < (w7 : World).heap.size ∧ some y ≠ (Value.slice (some ⟨g, 0, none⟩) (f.1.length + 1) cap).ownBlock ∧ some y ≠ (Value.slice A4 f.2.length c4).ownBlock) (.mk n' ls) (sv u1) (.slice v1.1 v1.2.1 v1.2.2) := by
        refine (hT1.keep hTk).more fun y hy => ?_
        have hy1 := hy.1
        have hy2 := hy.2
        refine ⟨?_, ?_, ?_, ?_⟩
        · simp at hy1; omega
        · exact hy2
        · intro e
          have := (HM2.out.nown.lt _ e.symm).2
          simp at hy1
          omega
        · intro e
          have := (HM2.out.lown.lt _ e.symm).2
          simp at hy1
          omega
      have hM9 := HM8.out.pushL hT8 hgrow9 hown9 hat9
      have hK9 : Kp (Mine bn bl (.slice A3 f.1.length c3) (.slice A4 f.2.length c4)) w (((w9.setCell ⟨g2, f.2.length * 2, none⟩ (sv u1)).setCell ⟨g2, f.2.length * 2 + 1, none⟩ (.slice v1.1 v1.2.1 v1.2.2)).setCell ⟨bl, 0, none⟩ (.slice (some ⟨g2, 0, none⟩) (f.2.length + 1) cap2)) := by
        have hg2 : g2 < w.heap.size → Mine bn bl (.slice A3 f.1.length c3) (.slice A4 f.2.length c4) g2 := fun h => by
          rcases hat9 with e | e
          · exact .inr (.inr (.inr e.symm))
          · have := hb8.size; have := HK2.out.size; omega
        exact ((((HK2.out.below hb8).grown hgrow9 (fun r hr _ => .inr (.inr (.inr hr.symm)))).setCell hg2 _).setCell hg2 _).setCell (fun _ => .inr (.inl rfl)) _
      have hsw : ((w9.setCell ⟨bl, 0, none⟩ (.slice (some ⟨g2, 0, none⟩) (f.2.length + 1) cap2)).setCell ⟨g2, f.2.length * 2, none⟩ (sv u1)).setCell ⟨g2, f.2.length * 2 + 1, none⟩ (.slice v1.1 v1.2.1 v1.2.2) = ((w9.setCell ⟨g2, f.2.length * 2, none⟩ (sv u1)).setCell ⟨g2, f.2.length * 2 + 1, none⟩ (.slice v1.1 v1.2.1 v1.2.2)).setCell ⟨bl, 0, none⟩ (.slice (some ⟨g2, 0, none⟩) (f.2.length + 1) cap2) := by
        rw [setCell_swap (a := ⟨bl, 0, none⟩) (b := ⟨g2, f.2.length * 2, none⟩) hne1, setCell_swap (a := ⟨bl, 0, none⟩) (b := ⟨g2, f.2.length * 2 + 1, none⟩) hne1]
      have HSW := Lib.hid hsw
      have HM9 := Lib.hid hM9
      have HK9 := Lib.hid hK9
      have HAT9 := Lib.hid hat9
      clear hM9 hK9 hat9 hT8 hbl9 hT1 hTk hsw
      go_simp
      refine wpFloat_step ?vf0b rfl (fun w' => ?yf0b) ?kf0b
      case yf0b =>
        go_simp
        rw [if_pos (by omega)]
      case kf0b =>
      go_simp
      refine wpFloat_step ?vf1b rfl (fun w' => ?yf1b) ?kf1b
      case yf1b =>
        go_simp
        try rfl
      case kf1b =>
      go_simp
      refine wpFloat_nil ?_
      refine ⟨?p1b, ?p2b⟩
      case p1b =>
        go_wp2_with fail
        refine NoPanic.normal ?_
        go_wp2_with fail
        go_ret
        refine ⟨_, _, _, rfl, HM9.out, HK9.out, fun y hy hm => ?_⟩
        rcases hm with e | e | e | e
        · exact .inl e
        · exact .inr (.inl e)
        · injection e with e
          subst e
          rcases HAT2.out with e | e
          · exact .inr (.inr (.inl e.symm))
          · omega
        · injection e with e
          subst e
          rcases HAT9.out with e | e
          · exact .inr (.inr (.inr e.symm))
          · have := hb8.size; have := HK2.out.size; omega
      case p2b =>
        go_wp2_with fail
        refine NoPanic.normal ?_
        go_wp2_with fail
        go_ret
        show MOk _ _ _ _ _ _ _ _ _
        have HM9' := HM9.out
        have HK9' := HK9.out
        rw [← HSW.out] at HM9' HK9'
        have HM9 := Lib.hid HM9'
        have HK9 := Lib.hid HK9'
        refine ⟨_, _, _, rfl, HM9.out, HK9.out, fun y hy hm => ?_⟩
        rcases hm with e | e | e | e
        · exact .inl e
        · exact .inr (.inl e)
        · injection e with e
          subst e
          rcases HAT2.out with e | e
          · exact .inr (.inr (.inl e.symm))
          · omega
        · injection e with e
          subst e
          rcases HAT9.out with e | e
          · exact .inr (.inr (.inr e.symm))
          · have := hb8.size; have := HK2.out.size; omega
end Go.Proofs.YtndhglcdkegigaaDoor
