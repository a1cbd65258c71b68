/-
  The walk of ref06.Step.
  Conditions: those of modules.Step.
-/
import Derived.Test.YtcliegpofhjpcaaMdB
import Derived.Test.YtcliegpofhjpcaaMdE
namespace Go.Proofs.Ytcliegpofhjpcaa
open Go.RowKit

theorem mem_ownS_take {names : List (List UInt8)} {k : Nat} {n : List UInt8} (h : n ∈ ownS (names.take k)) : n ∈ ownS names := by
  unfold ownS at h ⊢
  obtain ⟨h1, h2⟩ := List.mem_filter.1 h
  exact List.mem_filter.2 ⟨List.mem_of_mem_take h1, h2⟩
/-- A list of binds in a slice, in blocks of S. -/
def BdsAt (S : Nat → Prop) (w : World) (v : Value) (l : List Key) : Prop := ∃ A c, v = .slice A l.length c ∧ l.length ≤ c ∧ Row w S A (flt bdC l)
/-- What has been found in a step, when P says which. -/
def OutS (P : Key → Prop) (l : List Key) : Prop := AscK l ∧ ∀ x, x ∈ l ↔ P x
theorem infoS : (Try.prog.info? 9).map (fun i => (i.zero, i.size, i.bytes)) = some (some (.string ⟨#[]⟩), 1, 16) := by kernel_rfl
set_option maxHeartbeats 1600000 in
set_option maxRecDepth 100000 in
theorem rstep_any (m : List UInt8) (names : List (List UInt8)) (others : List (List Key)) (NA : Option Addr) (nc : Nat) (ov : Value) (w : World) (hm : m.length ≤ 100000000) (hns : ∀ n ∈ names, n.length ≤ 100000000) (hnl : names.length ≤ 100000000) (hol : others.length ≤ 100000000) (hols : ∀ l ∈ others, l.length ≤ 100000000)
    (hfew : ∀ ks : List Key, ks.Nodup → (∀ k ∈ ks, InStep m names others k) → ks.length ≤ 100000000) (hR : Row w (Lt w.heap.size) NA (names.map sv)) (hO : BdssV w (Lt w.heap.size) ov others) :
    Calls Try.prog 14 #[sv m, .slice NA names.length nc, ov] w (StepRes m names others w) := by
  obtain ⟨p, hp⟩ : ∃ p, p = names.length := ⟨_, rfl⟩
  obtain ⟨q, hq⟩ : ∃ q, q = others.length := ⟨_, rfl⟩
  obtain ⟨OA, oc, ovs, rfl, hovl, hOR, hOV⟩ := hO
  rw [← hp] at hnl ⊢
  rw [← hq] at hol ⊢
  have HP := Lib.hid hp
  have HQ := Lib.hid hq
  have HNS := Lib.hid hns
  have HOLS := Lib.hid hols
  have HFEW := Lib.hid hfew
  have HR := Lib.hid hR
  have HOR := Lib.hid hOR
  have HOV := Lib.hid hOV
  have HOVL := Lib.hid hovl
  clear hp hq hns hols hfew hR hOR hOV hovl
  obtain ⟨i0, hi, hz0, hz1, hz2⟩ := info_parts infoS
  go_enter Try.func14, Try.ntmps14
  go_wp2_with fail
  go_loopw [7, 8, 9] (fun u v i wr => ∃ (k : Nat) (ls : List Key), k ≤ p ∧ i = .int .i64 k ∧ BdsAt (fun b => Fr w.heap.size wr.heap.size b ∧ v.ownBlock ≠ some b) wr u ls ∧ OutS (InStep m (names.take k) []) ls ∧ wr.ownsRow w.heap.size 9 1 v (ownS (names.take k)).length ((ownS (names.take k)).map sv) ∧ Below w.heap.size w wr) (fun _ _ i _ => p - (intOf i).toNat)
  case atStart =>
    refine ⟨0, [], by omega, rfl, ⟨none, 0, rfl, by simp, Row.nil _ _ _⟩, ⟨ascK_nil, fun x => ?_⟩, ?_, Below.refl _ _⟩
    · simp [InStep, ownS]
    · simp only [List.take_zero]
      exact World.ownsRow_nil _ _ _ _
  case round =>
    obtain ⟨k, ls, hkp, rfl, ⟨LA, lc, rfl, hlc, hlr⟩, hout, hown, hB⟩ := hrel
    have hsz := hB.size
    obtain ⟨z, hz⟩ : ∃ z, z = (ownS (names.take k)).length := ⟨_, rfl⟩
    have hzk : z ≤ k := by
      rw [hz]
      unfold ownS
      refine Nat.le_trans (List.length_filter_le _ _) ?_
      rw [List.length_take]
      omega
    obtain ⟨y, hy⟩ : ∃ y, y = ls.length := ⟨_, rfl⟩
    rw [← hz] at hown
    rw [← hy] at hlc ⊢
    have HOUT := Lib.hid hout
    have HOWN := Lib.hid hown
    have HLR := Lib.hid hlr
    have HB := Lib.hid hB
    have HZ := Lib.hid hz
    have HY := Lib.hid hy
    clear hlr hout hB hz hy
    obtain ⟨VA, vc, rfl, hva⟩ := own_slice hown
    have hyl : y ≤ 100000000 := by
      rw [HY.out]
      exact HFEW.out ls HOUT.out.1.nodup fun x hx => by
        rcases (HOUT.out.2 x).1 hx with ⟨n, h1, h2⟩ | ⟨l, h1, _⟩
        · exact .inl ⟨n, mem_ownS_take h1, h2⟩
        · cases h1
    have HVA := Lib.hid hva
    clear hown hva
    by_cases hlt : k < p
    · obtain ⟨n, hn⟩ : ∃ n, names[k]? = some n := ⟨_, List.getElem?_eq_getElem (by rw [← HP.out]; exact hlt)⟩
      obtain ⟨ad, rfl, _, a0⟩ := (HR.out.keep (kept_below HB.out)).at_ (k := k) (u := sv n) (by rw [List.getElem?_map, hn]; rfl)
      have hnl9 := HNS.out n (List.mem_of_getElem? hn)
      have HTK : Hid (names.take (k + 1) = names.take k ++ [n]) := Lib.hid (by rw [List.take_add_one, hn]; rfl)
      have hik : (0 : Int) ≤ (k : Int) ∧ (k : Int) < (p : Int) := ⟨by omega, by omega⟩
      clear hn
      go_wp2_with fail
      refine (hidden_any n wr).mono ?_
      rintro e w1 ⟨rfl, rfl⟩
      cases hh : hidB n with
      | true =>
        have HS1 : Hid (ownS (names.take (k + 1)) = ownS (names.take k)) := Lib.hid (by rw [HTK.out, ownS_snoc, if_pos hh])
        clear hh a0
        go_wp2
        go_roundw
        case rel =>
          refine ⟨k + 1, ls, by omega, by go_num, ⟨LA, lc, by rw [HY.out], by rw [← HY.out]; exact hlc, HLR.out⟩, ⟨HOUT.out.1, fun x => ?_⟩, ?_, HB.out⟩
          · rw [HOUT.out.2 x]
            unfold InStep
            rw [HS1.out]
          · rw [HS1.out, ← HZ.out]
            exact HOWN.out
        case measure => simp [intOf]; omega
      | false =>
        have HS1 : Hid (ownS (names.take (k + 1)) = ownS (names.take k) ++ [n]) := Lib.hid (by rw [HTK.out, ownS_snoc, hh]; simp)
        clear hh
        go_wp2_with (at_builtin; refine wpList_append_lies _ rfl _ _ 35 rfl w.heap.size 9 i0 _ 1 16 Try.underlying35 hi hz0 hz1 hz2 rfl (by omega) _ z ((ownS (names.take k)).map sv) rfl (HOWN.out.alloc _) ⟨w1.heap.size, 0, none⟩ 1 1 [sv n] rfl rfl ?d1 ?d2 (by omega) ?d3 ?d4 ?d5 _ rfl ?_)
        case d1 => exact World.news_of_block (cs := #[sv n]) (alloc1 w1 _)
        case d2 =>
          intro u hu
          rw [List.mem_singleton.1 hu]
          rfl
        case d3 => unfold maxLen; omega
        case d4 => omega
        case d5 => simp; omega
        intro vg vcap w2 hown2 hgr hat _
        have hltv := HOWN.out.lt
        have hb2 : Below w.heap.size w w2 := (HB.out.alloc hsz (.cells #[sv n] 9)).grown hgr (by simp; omega) (fun r hr => (hltv r hr).1)
        have hs2 := hb2.size
        have hk2 : Kp (fun y => (Value.slice VA z vc).ownBlock = some y) w1 w2 := ((Kp.refl _ _).alloc (.cells #[sv n] 9)).grown hgr fun r hr _ => hr
        have hs12 := hk2.size
        have hrow2 : Row w2 (fun b => Fr w.heap.size w2.heap.size b ∧ (Value.slice (some ⟨vg, 0, none⟩) (z + 1) vcap).ownBlock ≠ some b) LA (flt bdC ls) := (HLR.out.keep (hk2.kept fun b hb => ⟨hb.1.2, hb.2⟩)).more fun b hb => ⟨⟨hb.1.1, Nat.lt_of_lt_of_le hb.1.2 hs12⟩, fun e => by
          have e : some vg = some b := e
          rcases hat with h | h
          · exact hb.2 (h.trans e)
          · have := hb.1.2
            have h9 := Option.some.inj e
            omega⟩
        obtain ⟨ad', e', _, a0'⟩ := (HR.out.keep (kept_below hb2)).at_ (k := k) (u := sv n) (by rw [List.getElem?_map]; rw [← List.getElem?_take_of_lt (Nat.lt_succ_self k), HTK.out, List.getElem?_append_right (by rw [List.length_take]; omega)]; rw [List.length_take, ← HP.out, Nat.min_eq_left (by omega)]; simp)
        obtain rfl := Option.some.inj e'
        have HROW2 := Lib.hid hrow2
        have HOWN2 := Lib.hid hown2
        have HB2 := Lib.hid hb2
        have hbm : (bs m).size ≤ 100000000 := by rw [bs_size]; exact hm
        have hbn : (bs n).size ≤ 100000000 := by rw [bs_size]; exact hnl9
        have hcat : ¬ (bs m ++ ⟨#[58, 58]⟩).size + (bs n).size > 9223372036854775807 := by
          rw [ByteArray.size_append]
          show ¬ (bs m).size + 2 + (bs n).size > _
          omega
        have hcat1 : ¬ 9223372036854775807 < (bs m).size + 2 := by omega
        have hcat2 : ¬ 9223372036854775807 < (bs m).size + 2 + (bs n).size := by omega
        clear hown2 hgr hat hltv hb2 hk2 hrow2 e' a0
        go_wp2_with fail
        refine wp_region_held' (AtCells [(ad.add k, sv n)]) [] [0, 1, 2, 3, 4, 5, 6, 7, 8, 9, 10, 11, 12] [13] [14] (by kernel_rfl) (by kernel_rfl) ?sa ?ha
        case sa => exact ⟨a0', trivial⟩
        case ha =>
        simp only [opsAt, List.filterMap_cons, List.filterMap_nil, List.getElem?_toArray, List.getElem?_cons_succ, List.getElem?_cons_zero]
        refine wpFloat_nil ?_
        refine wpLoad_step ?va0 rfl (fun w' hS => ?ya0) ?ka0
        case ya0 =>
          obtain ⟨g0, _⟩ := hS
          go_simp
          try rfl
        case ka0 =>
        go_simp
        refine wpLoad_step ?va1 rfl (fun w' hS => ?ya1) ?ka1
        case ya1 =>
          obtain ⟨g0, _⟩ := hS
          go_simp
          try rfl
        case ka1 =>
        go_simp
        refine wpLoad_step ?va2 rfl (fun w' hS => ?ya2) ?ka2
        case ya2 =>
          obtain ⟨g0, _⟩ := hS
          go_simp
          try rfl
        case ka2 =>
        go_simp
        refine wpLoad_step ?va3 rfl (fun w' hS => ?ya3) ?ka3
        case ya3 =>
          obtain ⟨g0, _⟩ := hS
          go_simp
          try rfl
        case ka3 =>
        go_simp
        refine wpLoad_step ?va4 rfl (fun w' hS => ?ya4) ?ka4
        case ya4 =>
          obtain ⟨g0, _⟩ := hS
          go_simp
          try rfl
        case ka4 =>
        go_simp
        refine wpLoad_step ?va5 rfl (fun w' hS => ?ya5) ?ka5
        case ya5 =>
          obtain ⟨g0, _⟩ := hS
          go_simp
          try rfl
        case ka5 =>
        go_simp
        refine wpLoad_step ?va6 rfl (fun w' hS => ?ya6) ?ka6
        case ya6 =>
          obtain ⟨g0, _⟩ := hS
          go_simp
          try rfl
        case ka6 =>
        go_simp
        refine wpLoad_step ?va7 rfl (fun w' hS => ?ya7) ?ka7
        case ya7 =>
          obtain ⟨g0, _⟩ := hS
          go_simp
          try rfl
        case ka7 =>
        go_simp
        refine wpLoad_step ?va8 rfl (fun w' hS => ?ya8) ?ka8
        case ya8 =>
          obtain ⟨g0, _⟩ := hS
          go_simp
          try rfl
        case ka8 =>
        go_simp
        refine wpLoad_step ?va9 rfl (fun w' hS => ?ya9) ?ka9
        case ya9 =>
          obtain ⟨g0, _⟩ := hS
          go_simp
          try rfl
        case ka9 =>
        go_simp
        refine wpLoad_step ?va10 rfl (fun w' hS => ?ya10) ?ka10
        case ya10 =>
          obtain ⟨g0, _⟩ := hS
          go_simp
          try rfl
        case ka10 =>
        go_simp
        refine wpLoad_step ?va11 rfl (fun w' hS => ?ya11) ?ka11
        case ya11 =>
          obtain ⟨g0, _⟩ := hS
          go_simp
          try rfl
        case ka11 =>
        go_simp
        refine wpLoad_step ?va12 rfl (fun w' hS => ?ya12) ?ka12
        case ya12 =>
          obtain ⟨g0, _⟩ := hS
          go_simp
          try rfl
        case ka12 =>
        go_simp
        refine wpLoad_nil ?_
        refine wpKeep_step rfl ?_
        go_simp
        have hbd := bind_any (fun b => Fr w.heap.size w2.heap.size b ∧ (Value.slice (some ⟨vg, 0, none⟩) (z + 1) vcap).ownBlock ≠ some b) ls (bdOf m n) LA lc w2.drew (fun y hy => hy.1.2) (by rw [← HY.out]; exact hlc) (by rw [← HY.out]; exact hyl) HOUT.out.1 HROW2.out
        rw [bdV_of, ← HY.out] at hbd
        refine hbd.mono ?_
        rintro e w3 ⟨LA3, lc3, ls3, rfl, hlc3, _, hasc3, hmem3, hrow3, hb3⟩
        have hb23 : Below w2.heap.size w2 w3 := (Below.refl _ w2).drew.trans hb3
        have hs3 := hb23.size
        refine ⟨⟨(hb23.cell (block_lt_of_cell a0')).trans a0', trivial⟩, ?_⟩
        have hlt2 := (HOWN2.out.lt vg rfl).2
        have hs2d : w2.drew.heap.size = w2.heap.size := rfl
        have HREL : Hid (BdsAt (fun b => Fr w.heap.size w3.heap.size b ∧ (Value.slice (some ⟨vg, 0, none⟩) (z + 1) vcap).ownBlock ≠ some b) w3 (.slice LA3 ls3.length lc3) ls3 ∧ OutS (InStep m (names.take (k + 1)) []) ls3 ∧ w3.ownsRow w.heap.size 9 1 (.slice (some ⟨vg, 0, none⟩) (z + 1) vcap) (ownS (names.take (k + 1))).length ((ownS (names.take (k + 1))).map sv) ∧ Below w.heap.size w w3) := Lib.hid (by
          refine ⟨⟨LA3, lc3, rfl, hlc3, hrow3.more fun b hb => ?_⟩, ⟨hasc3, fun x => ?_⟩, ?_, HB2.out.trans (hb23.mono hs2)⟩
          · rcases hb with hb | hb
            · exact ⟨⟨hb.1.1, Nat.lt_of_lt_of_le hb.1.2 hs3⟩, hb.2⟩
            · have h1 := hb.1
              rw [hs2d] at h1
              refine ⟨⟨Nat.le_trans hs2 h1, hb.2⟩, fun e => ?_⟩
              have e : some vg = some b := e
              have := Option.some.inj e
              omega
          · rw [hmem3 x, HOUT.out.2 x]
            unfold InStep
            rw [HS1.out]
            constructor
            · rintro (h | ⟨n', h1, h2⟩ | ⟨l, h1, _⟩)
              · exact .inl ⟨n, by simp, h⟩
              · exact .inl ⟨n', List.mem_append_left _ h1, h2⟩
              · cases h1
            · rintro (⟨n', h1, h2⟩ | ⟨l, h1, _⟩)
              · rcases List.mem_append.1 h1 with h1 | h1
                · exact .inr (.inl ⟨n', h1, h2⟩)
                · rw [List.mem_singleton.1 h1] at h2
                  exact .inl h2
              · cases h1
          · rw [HS1.out, List.length_append, ← HZ.out, List.map_append]
            exact (Kp.ofBelow hb23 : Kp (fun _ => False) w2 w3).own HOWN2.out fun _ _ e => e)
        obtain ⟨y3, hy3⟩ : ∃ y3, y3 = ls3.length := ⟨_, rfl⟩
        rw [← hy3] at HREL ⊢
        clear hbd hlc3 hasc3 hmem3 hrow3 hb3 hb23 hlt2 hs2d hy3 HOWN2 HB2 HROW2 a0' hbm hbn hcat hcat1 hcat2
        refine wpKeep_nil ?_
        go_wp2
        refine NoPanic.normal ?_
        go_wp2
        go_roundw
        case rel => exact ⟨k + 1, ls3, by omega, by go_num, HREL.out.1, HREL.out.2.1, HREL.out.2.2.1, HREL.out.2.2.2⟩
        case measure => simp [intOf]; omega
    · have hke : p = k := by omega
      subst hke
      have htk : names.take p = names := List.take_of_length_le (by rw [← HP.out]; exact Nat.le_refl _)
      have hout := HOUT.out
      have hown := HOWN.out
      have hz := HZ.out
      rw [htk] at hout hown hz
      obtain ⟨own, hownE⟩ : ∃ own, own = ownS names := ⟨_, rfl⟩
      rw [← hownE] at hown hz
      have HOE := Lib.hid hownE
      have HOUTA := Lib.hid hout
      have HOW : Hid (Row wr (fun b => Fr w.heap.size wr.heap.size b ∧ (Value.slice VA z vc).ownBlock = some b) VA (own.map sv)) := Lib.hid (Row.ofOwn hown fun g hA h3 h4 => ⟨⟨h3, h4⟩, by rw [hA]; rfl⟩)
      have HZE := Lib.hid hz
      clear hout hown hz hownE htk HOUT HOWN HZ hi hz0 hz1 hz2
      obtain ⟨wA, rfl⟩ : ∃ wA, wA = wr := ⟨_, rfl⟩
      go_wp2_with fail
      go_loopw [7, 10] (fun u i wj => ∃ (k : Nat) (ls : List Key), k ≤ q ∧ i = .int .i64 k ∧ BdsAt (Fr w.heap.size wj.heap.size) wj u ls ∧ OutS (InStep m names (others.take k)) ls ∧ Below wA.heap.size wA wj) (fun _ i _ => q - (intOf i).toNat)
      case atStart => exact ⟨0, ls, by omega, rfl, ⟨LA, lc, by rw [HY.out], by rw [← HY.out]; exact hlc, HLR.out.more fun b hb => hb.1⟩, by rw [List.take_zero]; exact HOUTA.out, Below.refl _ _⟩
      case round =>
        clear HOUTA HLR HY hlc hyl
        obtain ⟨k, ls, hkq, rfl, ⟨LA, lc, rfl, hlc, hlr⟩, hout, hBA⟩ := hrel
        have hszA := hBA.size
        have HOUT := Lib.hid hout
        have HLR := Lib.hid hlr
        have HBA := Lib.hid hBA
        obtain ⟨y, hy⟩ : ∃ y, y = ls.length := ⟨_, rfl⟩
        rw [← hy] at hlc ⊢
        have HY := Lib.hid hy
        clear hout hlr hBA hy
        by_cases hlt : k < q
        · obtain ⟨l, hl⟩ : ∃ l, others[k]? = some l := ⟨_, List.getElem?_eq_getElem (by rw [← HQ.out]; exact hlt)⟩
          obtain ⟨lv, hlv⟩ : ∃ lv, ovs[k]? = some lv := ⟨_, List.getElem?_eq_getElem (by rw [HOVL.out, ← HQ.out]; exact hlt)⟩
          obtain ⟨ad, hOA, _, _⟩ := HOR.out.at_ hlv
          obtain ⟨BA, bc, rfl, hBR⟩ := HOV.out k lv l hlv hl
          have hll := HOLS.out l (List.mem_of_getElem? hl)
          obtain ⟨r, hr⟩ : ∃ r, r = l.length := ⟨_, rfl⟩
          rw [← hr] at hll hlv
          have HRL := Lib.hid hr
          have HLV := Lib.hid hlv
          have HBR := Lib.hid hBR
          have HOAE := Lib.hid hOA
          have HTK : Hid (others.take (k + 1) = others.take k ++ [l]) := Lib.hid (by rw [List.take_add_one, hl]; rfl)
          have HLM := Lib.hid (List.mem_of_getElem? hl)
          have hik : (0 : Int) ≤ (k : Int) ∧ (k : Int) < (q : Int) := ⟨by omega, by omega⟩
          subst hOA
          clear hl hlv hBR hr
          go_wp2_with fail
          go_loopw [7, 11] (fun u i wj => ∃ (j : Nat) (ls : List Key), j ≤ r ∧ i = .int .i64 j ∧ BdsAt (Fr w.heap.size wj.heap.size) wj u ls ∧ OutS (fun b => InStep m names (others.take k) b ∨ (b ∈ l.take j ∧ b.1 ∉ own)) ls ∧ Below wA.heap.size wA wj) (fun _ i _ => r - (intOf i).toNat)
          case atStart => exact ⟨0, ls, by omega, rfl, ⟨LA, lc, by rw [HY.out], by rw [← HY.out]; exact hlc, HLR.out⟩, ⟨HOUT.out.1, fun x => by rw [HOUT.out.2 x]; simp⟩, HBA.out⟩
          case round =>
            clear HOUT HLR HBA HY hlc hszA
            obtain ⟨j, ls, hjr, rfl, ⟨LA, lc, rfl, hlc, hlr⟩, hout, hBA⟩ := hrel
            have hszA := hBA.size
            have HOUT := Lib.hid hout
            have HLR := Lib.hid hlr
            have HBA := Lib.hid hBA
            obtain ⟨y, hy⟩ : ∃ y, y = ls.length := ⟨_, rfl⟩
            rw [← hy] at hlc ⊢
            have HY := Lib.hid hy
            have hkA : Kept (Lt w.heap.size) w wr := (kept_below HB.out).trans ((kept_below HBA.out).sub fun b hb => by unfold Lt at hb ⊢; omega)
            obtain ⟨ad', e', _, a0⟩ := (HOR.out.keep hkA).at_ HLV.out
            obtain rfl := Option.some.inj e'
            have HKA := Lib.hid hkA
            clear hout hlr hBA hy hkA e'
            by_cases hltj : j < r
            · obtain ⟨b, hb⟩ : ∃ b, l[j]? = some b := ⟨_, List.getElem?_eq_getElem (by rw [← HRL.out]; exact hltj)⟩
              obtain ⟨bd, hBAE, _, b0, b1⟩ := bd_at (HBR.out.keep HKA.out) hb
              have HTJ : Hid (l.take (j + 1) = l.take j ++ [b]) := Lib.hid (by rw [List.take_add_one, hb]; rfl)
              have HBM := Lib.hid (List.mem_of_getElem? hb)
              have hij : (0 : Int) ≤ (j : Int) ∧ (j : Int) < (r : Int) := ⟨by omega, by omega⟩
              have HB0 := Lib.hid b0
              have HB1 := Lib.hid b1
              have HA0 := Lib.hid a0
              subst hBAE
              clear hb b0 b1
              go_wp2_with fail
              clear a0
              go_loopw [12, 13] (fun fv i wj => ∃ h : Nat, h ≤ z ∧ i = .int .i64 h ∧ fv = .bool (decide (b.1 ∈ own.take h)) ∧ Below wr.heap.size wr wj) (fun _ i _ => z - (intOf i).toNat)
              case atStart => exact ⟨0, by omega, rfl, by simp, Below.refl _ _⟩
              case round =>
                obtain ⟨h, hhz, rfl, rfl, hBr⟩ := hrel
                have hszr := hBr.size
                have HBR2 := Lib.hid hBr
                have a0 := (hBr.cell (block_lt_of_cell HA0.out)).trans HA0.out
                have b0 := (hBr.cell (block_lt_of_cell HB0.out)).trans HB0.out
                have b1 := (hBr.cell (block_lt_of_cell HB1.out)).trans HB1.out
                by_cases hlth : h < z
                · obtain ⟨o1, ho⟩ : ∃ o1, own[h]? = some o1 := ⟨_, List.getElem?_eq_getElem (by rw [← HZE.out]; exact hlth)⟩
                  obtain ⟨vd, hVA, _, v0⟩ := (HOW.out.keep ((kept_below (HBA.out.trans (hBr.mono hszA))).sub fun b hb => hb.1.2)).at_ (k := h) (u := sv o1) (by rw [List.getElem?_map, ho]; rfl)
                  have HTH : Hid (own.take (h + 1) = own.take h ++ [o1]) := Lib.hid (by rw [List.take_add_one, ho]; rfl)
                  have hih : (0 : Int) ≤ (h : Int) ∧ (h : Int) < (z : Int) := ⟨by omega, by omega⟩
                  subst hVA
                  clear ho hBr
                  by_cases hin : b.1 ∈ own.take h
                  · have hq : decide (b.1 ∈ own.take h) = true := decide_eq_true hin
                    have HQ2 : Hid (decide (b.1 ∈ own.take (h + 1)) = true) := Lib.hid (decide_eq_true (by rw [HTH.out]; exact List.mem_append_left _ hin))
                    rw [hq]
                    clear hq hin a0 b0 b1 v0
                    go_wp2_with fail
                    refine wp_region_held' (fun _ => True) [] [0, 1, 2, 3, 4, 5, 6, 7, 8, 9, 10, 11, 12, 13, 14, 15] [] [16] (by kernel_rfl) (by kernel_rfl) ?sb ?hb
                    case sb => trivial
                    case hb =>
                    simp only [opsAt, List.filterMap_cons, List.filterMap_nil, List.getElem?_toArray, List.getElem?_cons_succ, List.getElem?_cons_zero]
                    refine wpFloat_nil ?_
                    refine wpLoad_step ?vb0 rfl (fun w' hS => ?yb0) ?kb0
                    case yb0 =>
                      obtain _ := hS
                      go_simp
                      try rfl
                    case kb0 =>
                    go_simp
                    refine wpLoad_step ?vb1 rfl (fun w' hS => ?yb1) ?kb1
                    case yb1 =>
                      obtain _ := hS
                      go_simp
                      try rfl
                    case kb1 =>
                    go_simp
                    refine wpLoad_skip rfl ?_
                    go_simp
                    refine wpLoad_skip rfl ?_
                    go_simp
                    refine wpLoad_skip rfl ?_
                    go_simp
                    refine wpLoad_skip rfl ?_
                    go_simp
                    refine wpLoad_skip rfl ?_
                    go_simp
                    refine wpLoad_skip rfl ?_
                    go_simp
                    refine wpLoad_skip rfl ?_
                    go_simp
                    refine wpLoad_skip rfl ?_
                    go_simp
                    refine wpLoad_skip rfl ?_
                    go_simp
                    refine wpLoad_skip rfl ?_
                    go_simp
                    refine wpLoad_skip rfl ?_
                    go_simp
                    refine wpLoad_skip rfl ?_
                    go_simp
                    refine wpLoad_skip rfl ?_
                    go_simp
                    refine wpLoad_step ?vc0 rfl (fun w' hS => ?yc0) ?kc0
                    case yc0 =>
                      obtain _ := hS
                      go_simp
                      try rfl
                    case kc0 =>
                    go_simp
                    refine wpLoad_nil ?_
                    refine wpKeep_nil ?_
                    go_wp2
                    refine NoPanic.normal ?_
                    go_wp2
                    go_roundw
                    case rel => exact ⟨h + 1, by omega, by go_num, by rw [HQ2.out], HBR2.out.drew⟩
                    case measure => simp [intOf]; omega
                  · have hq : decide (b.1 ∈ own.take h) = false := decide_eq_false hin
                    have HNI := Lib.hid hin
                    rw [hq]
                    clear hq hin
                    go_wp2_with fail
                    refine wp_region_held' (AtCells [(vd.add h, sv o1), (ad.add k, .slice (some bd) r bc), (bd.add (j * 2), sv b.1)]) [] [0, 1, 2, 3, 4, 5, 6, 7, 8, 9, 10, 11, 12, 13, 14, 15] [] [16] (by kernel_rfl) (by kernel_rfl) ?sc ?hc
                    case sc => exact ⟨v0, a0, b0, trivial⟩
                    case hc =>
                    clear v0 a0 b0 b1
                    simp only [opsAt, List.filterMap_cons, List.filterMap_nil, List.getElem?_toArray, List.getElem?_cons_succ, List.getElem?_cons_zero]
                    refine wpFloat_nil ?_
                    refine wpLoad_step ?vd0 rfl (fun w' hS => ?yd0) ?kd0
                    case yd0 =>
                      obtain ⟨g0, g1, g2, _⟩ := hS
                      go_simp
                      try rfl
                    case kd0 =>
                    go_simp
                    refine wpLoad_step ?vd1 rfl (fun w' hS => ?yd1) ?kd1
                    case yd1 =>
                      obtain ⟨g0, g1, g2, _⟩ := hS
                      go_simp
                      try rfl
                    case kd1 =>
                    go_simp
                    refine wpLoad_step ?vd2 rfl (fun w' hS => ?yd2) ?kd2
                    case yd2 =>
                      obtain ⟨g0, g1, g2, _⟩ := hS
                      go_simp
                      try rfl
                    case kd2 =>
                    go_simp
                    refine wpLoad_step ?vd3 rfl (fun w' hS => ?yd3) ?kd3
                    case yd3 =>
                      obtain ⟨g0, g1, g2, _⟩ := hS
                      go_simp
                      try rfl
                    case kd3 =>
                    go_simp
                    refine wpLoad_step ?vd4 rfl (fun w' hS => ?yd4) ?kd4
                    case yd4 =>
                      obtain ⟨g0, g1, g2, _⟩ := hS
                      go_simp
                      try rfl
                    case kd4 =>
                    go_simp
                    refine wpLoad_step ?vd5 rfl (fun w' hS => ?yd5) ?kd5
                    case yd5 =>
                      obtain ⟨g0, g1, g2, _⟩ := hS
                      go_simp
                      try rfl
                    case kd5 =>
                    go_simp
                    refine wpLoad_step ?vd6 rfl (fun w' hS => ?yd6) ?kd6
                    case yd6 =>
                      obtain ⟨g0, g1, g2, _⟩ := hS
                      go_simp
                      try rfl
                    case kd6 =>
                    go_simp
                    refine wpLoad_step ?vd7 rfl (fun w' hS => ?yd7) ?kd7
                    case yd7 =>
                      obtain ⟨g0, g1, g2, _⟩ := hS
                      go_simp
                      try rfl
                    case kd7 =>
                    go_simp
                    refine wpLoad_step ?vd8 rfl (fun w' hS => ?yd8) ?kd8
                    case yd8 =>
                      obtain ⟨g0, g1, g2, _⟩ := hS
                      go_simp
                      try rfl
                    case kd8 =>
                    go_simp
                    refine wpLoad_step ?vd9 rfl (fun w' hS => ?yd9) ?kd9
                    case yd9 =>
                      obtain ⟨g0, g1, g2, _⟩ := hS
                      go_simp
                      try rfl
                    case kd9 =>
                    go_simp
                    refine wpLoad_step ?vd10 rfl (fun w' hS => ?yd10) ?kd10
                    case yd10 =>
                      obtain ⟨g0, g1, g2, _⟩ := hS
                      go_simp
                      try rfl
                    case kd10 =>
                    go_simp
                    refine wpLoad_step ?vd11 rfl (fun w' hS => ?yd11) ?kd11
                    case yd11 =>
                      obtain ⟨g0, g1, g2, _⟩ := hS
                      go_simp
                      try rfl
                    case kd11 =>
                    go_simp
                    refine wpLoad_step ?vd12 rfl (fun w' hS => ?yd12) ?kd12
                    case yd12 =>
                      obtain ⟨g0, g1, g2, _⟩ := hS
                      go_simp
                      try rfl
                    case kd12 =>
                    go_simp
                    refine wpLoad_step ?vd13 rfl (fun w' hS => ?yd13) ?kd13
                    case yd13 =>
                      obtain ⟨g0, g1, g2, _⟩ := hS
                      go_simp
                      try rfl
                    case kd13 =>
                    go_simp
                    refine wpLoad_step (.bool (decide (o1 = b.1))) rfl (fun w' hS => ?yd14) ?kd14
                    case yd14 =>
                      go_simp
                      simp only [bs_toList]
                      by_cases h1 : o1 = b.1 <;> simp [h1]
                    case kd14 =>
                    by_cases ho : o1 = b.1
                    · have hq : decide (o1 = b.1) = true := decide_eq_true ho
                      have HQ2 : Hid (decide (b.1 ∈ own.take (h + 1)) = true) := Lib.hid (decide_eq_true (by rw [HTH.out, ← ho]; simp))
                      rw [hq]
                      clear hq ho
                      refine wpLoad_step ?ve0 rfl (fun w' hS => ?ye0) ?ke0
                      case ye0 =>
                        obtain ⟨g0, g1, g2, _⟩ := hS
                        go_simp
                        try rfl
                      case ke0 =>
                      go_simp
                      refine wpLoad_nil ?_
                      refine wpKeep_nil ?_
                      go_wp2
                      refine NoPanic.normal ?_
                      go_wp2
                      go_roundw
                      case rel => exact ⟨h + 1, by omega, by go_num, by rw [HQ2.out], HBR2.out.drew⟩
                      case measure => simp [intOf]; omega
                    · have hq : decide (o1 = b.1) = false := decide_eq_false ho
                      have HQ2 : Hid (decide (b.1 ∈ own.take (h + 1)) = false) := Lib.hid (decide_eq_false (by
                        rw [HTH.out, List.mem_append, List.mem_singleton]
                        rintro (h | h)
                        · exact HNI.out h
                        · exact ho h.symm))
                      rw [hq]
                      clear hq ho
                      refine wpLoad_step ?vf0 rfl (fun w' hS => ?yf0) ?kf0
                      case yf0 =>
                        obtain ⟨g0, g1, g2, _⟩ := hS
                        go_simp
                        try rfl
                      case kf0 =>
                      go_simp
                      refine wpLoad_nil ?_
                      refine wpKeep_nil ?_
                      go_wp2
                      refine NoPanic.normal ?_
                      go_wp2
                      go_roundw
                      case rel => exact ⟨h + 1, by omega, by go_num, by rw [HQ2.out], HBR2.out.drew⟩
                      case measure => simp [intOf]; omega
                · have hhe : h = z := by omega
                  have hto : own.take h = own := List.take_of_length_le (by rw [← HZE.out]; omega)
                  have HBW2 := Lib.hid (HBA.out.trans (hBr.mono hszA))
                  have HBWW := Lib.hid (HB.out.trans ((HBA.out.trans (hBr.mono hszA)).mono hsz))
                  have HLR2 := Lib.hid (((HLR.out.keep ((kept_below hBr).sub fun b hb => hb.2)).more (S' := Fr w.heap.size wr.heap.size) fun b hb => ⟨hb.1, Nat.lt_of_lt_of_le hb.2 hszr⟩))
                  rw [hto]
                  clear hto hBr hhe
                  by_cases hin : b.1 ∈ own
                  · have hq : decide (b.1 ∈ own) = true := decide_eq_true hin
                    have HIN := Lib.hid hin
                    rw [hq]
                    clear hq hin a0 b0 b1
                    go_wp2_with fail
                    go_roundw
                    case rel =>
                      refine ⟨j + 1, ls, by omega, by go_num, ⟨LA, lc, by rw [HY.out], by rw [← HY.out]; exact hlc, HLR2.out⟩, ⟨HOUT.out.1, fun x => ?_⟩, HBW2.out⟩
                      rw [HOUT.out.2 x, HTJ.out]
                      simp only [List.mem_append, List.mem_singleton]
                      constructor
                      · rintro (h | h)
                        · exact .inl h
                        · exact .inr ⟨.inl h.1, h.2⟩
                      · rintro (h | ⟨h | rfl, h2⟩)
                        · exact .inl h
                        · exact .inr ⟨h, h2⟩
                        · exact absurd HIN.out h2
                    case measure => simp [intOf]; omega
                  · have hq : decide (b.1 ∈ own) = false := decide_eq_false hin
                    have HNI := Lib.hid hin
                    rw [hq]
                    clear hq hin
                    go_wp2_with fail
                    have hyl : y ≤ 100000000 := by
                      rw [HY.out]
                      refine HFEW.out ls HOUT.out.1.nodup fun x hx => ?_
                      rcases (HOUT.out.2 x).1 hx with h | ⟨h1, h2⟩
                      · rcases h with h | ⟨l', h1, h2⟩
                        · exact .inl h
                        · exact .inr ⟨l', List.mem_of_mem_take h1, h2⟩
                      · exact .inr ⟨l, HLM.out, List.mem_of_mem_take h1, by rw [← HOE.out]; exact h2⟩
                    have hbd := bind_any (Fr w.heap.size wr.heap.size) ls b LA lc wr (fun y hy => hy.2) (by rw [← HY.out]; exact hlc) (by rw [← HY.out]; exact hyl) HOUT.out.1 HLR2.out
                    rw [← HY.out] at hbd
                    refine hbd.mono ?_
                    rintro e w3 ⟨LA3, lc3, ls3, rfl, hlc3, _, hasc3, hmem3, hrow3, hb3⟩
                    have hs3 := hb3.size
                    have HREL : Hid (BdsAt (Fr w.heap.size w3.heap.size) w3 (.slice LA3 ls3.length lc3) ls3 ∧ OutS (fun b => InStep m names (others.take k) b ∨ (b ∈ l.take (j + 1) ∧ b.1 ∉ own)) ls3 ∧ Below wA.heap.size wA w3) := Lib.hid (by
                      refine ⟨⟨LA3, lc3, rfl, hlc3, hrow3.more fun b hb => ?_⟩, ⟨hasc3, fun x => ?_⟩, HBW2.out.trans (hb3.mono HBW2.out.size)⟩
                      · rcases hb with hb | hb
                        · exact ⟨hb.1, Nat.lt_of_lt_of_le hb.2 hs3⟩
                        · exact ⟨Nat.le_trans HBWW.out.size hb.1, hb.2⟩
                      · rw [hmem3 x, HOUT.out.2 x, HTJ.out]
                        simp only [List.mem_append, List.mem_singleton]
                        constructor
                        · rintro (rfl | h | h)
                          · exact .inr ⟨.inr rfl, HNI.out⟩
                          · exact .inl h
                          · exact .inr ⟨.inl h.1, h.2⟩
                        · rintro (h | ⟨h | rfl, h2⟩)
                          · exact .inr (.inl h)
                          · exact .inr (.inr ⟨h, h2⟩)
                          · exact .inl rfl)
                    obtain ⟨y3, hy3⟩ : ∃ y3, y3 = ls3.length := ⟨_, rfl⟩
                    rw [← hy3] at HREL ⊢
                    clear hbd hlc3 hasc3 hmem3 hrow3 hb3 hy3 a0 b0 b1 hyl
                    go_wp2
                    go_roundw
                    case rel => exact ⟨j + 1, ls3, by omega, by go_num, HREL.out.1, HREL.out.2.1, HREL.out.2.2⟩
                    case measure => simp [intOf]; omega
            · have hje : r = j := by omega
              subst hje
              have HO2 : Hid (OutS (InStep m names (others.take (k + 1))) ls) := Lib.hid ⟨HOUT.out.1, fun x => by
                have htl : l.take r = l := List.take_of_length_le (by rw [← HRL.out]; exact Nat.le_refl _)
                rw [HOUT.out.2 x, htl, HTK.out, HOE.out]
                unfold InStep
                constructor
                · rintro ((h | ⟨l', h1, h2⟩) | h)
                  · exact .inl h
                  · exact .inr ⟨l', List.mem_append_left _ h1, h2⟩
                  · exact .inr ⟨l, by simp, h⟩
                · rintro (h | ⟨l', h1, h2⟩)
                  · exact .inl (.inl h)
                  · rcases List.mem_append.1 h1 with h1 | h1
                    · exact .inl (.inr ⟨l', h1, h2⟩)
                    · rw [List.mem_singleton.1 h1] at h2
                      exact .inr h2⟩
              clear HOUT
              go_wp2_with fail
              go_roundw
              case rel => exact ⟨k + 1, ls, by omega, by go_num, ⟨LA, lc, by rw [HY.out], by rw [← HY.out]; exact hlc, HLR.out⟩, HO2.out, HBA.out⟩
              case measure => simp [intOf]; omega
        · have hke : q = k := by omega
          subst hke
          have hou := HOUT.out
          rw [List.take_of_length_le (by rw [← HQ.out]; exact Nat.le_refl _)] at hou
          have HRES : Hid (StepRes m names others w (.returned (.slice LA y lc)) wr) := Lib.hid ⟨LA, lc, ls, by rw [HY.out], by rw [← HY.out]; exact hlc, hou.1, hou.2, HLR.out, HB.out.trans (HBA.out.mono hsz)⟩
          clear hou HOUT HLR
          go_wp2
          go_ret
          exact HRES.out
end Go.Proofs.Ytcliegpofhjpcaa
