/-
  The walk of mill.Messages.
  Conditions: dice lie in memory; at most 99 messages are asked for.
-/
import Derived.Test.YtlgdminpkkhejaaDtD
import Derived.Test.YtlgdminpkkhejaaDtM
namespace Go.Proofs.Ytlgdminpkkhejaa
open Go.RowKit

theorem rowLit (w : World) (cs : Array Value) (T : TypeId) (ls : List (List UInt8)) (h : cs.toList = ls.map sv) (dd : Nat) (hd : dd < w.heap.size) : Row (w.alloc (.cells cs T)) (fun y => y < (w.alloc (.cells cs T)).heap.size ∧ y ≠ dd) (some ⟨w.heap.size, 0, none⟩) (ls.map sv) := row_lit w cs T ls h dd hd
/-- Messages as they are made. -/
def MadeMs (l : List Msg) : Prop := ∀ m ∈ l, 0 ≤ m.1 ∧ m.1 < 6
def MsgsRes (most dd : Nat) (xs : List Int) (w : World) (e : Ending) (w' : World) : Prop :=
  ∃ (v : Value) (l : List Msg), e = .returned v ∧ w'.ownsRow w.heap.size 40 3 v l.length (flt msC l) ∧ l.length ≤ most ∧ MadeMs l ∧ Thrown dd xs w w'
set_option maxHeartbeats 1600000 in
set_option maxRecDepth 100000 in
theorem msgs_any (most dd : Nat) (xs : List Int) (w : World) (hmo : most ≤ 99) (hd : DiceAt w dd xs) : Calls Try.prog 10 #[.pointer (some ⟨dd, 0, none⟩), .int .i64 (most : Int)] w (MsgsRes most dd xs w) := by
  have hdl := hd.lt
  have HD := Lib.hid hd
  have HDL := Lib.hid hdl
  obtain ⟨m1, hm1⟩ : ∃ m1, m1 = most + 1 := ⟨_, rfl⟩
  have hmi : (most : Int) + 1 = (m1 : Int) := by omega
  have HM1 := Lib.hid hm1
  clear hd hdl hm1
  obtain ⟨i0, hi, hz0, hz1, hz2⟩ := info_parts infoMs
  go_enter Try.func10, Try.ntmps10
  go_wp2_with fail
  refine (next_any m1 dd xs w (by have := HM1.out; omega) (by have := HM1.out; omega) HD.out).mono ?_
  rintro e w0 ⟨n0, hn0, rfl, hD0, hK0⟩
  have hn0 : n0 ≤ most := by have := HM1.out; omega
  have HD0 := Lib.hid hD0
  have HK0 := Lib.hid hK0
  clear hD0 hK0 HD
  go_wp2_with fail
  go_loopw [5, 6] (fun lv i wr => ∃ (n : Nat) (l : List Msg), i = .int .i64 n ∧ n + l.length ≤ most ∧ wr.ownsRow w.heap.size 40 3 lv l.length (flt msC l) ∧ MadeMs l ∧ DiceAt wr dd xs ∧ Kp (fun y => y = dd) w wr) (fun _ i _ => (intOf i).toNat)
  case atStart => exact ⟨n0, [], rfl, by simp; omega, World.ownsRow_nil _ _ _ _, (fun m h => by cases h), HD0.out, HK0.out⟩
  case round =>
    obtain ⟨n, l, rfl, hnl, hown, hmd, hDr, hKr⟩ := hrel
    have HMD := Lib.hid hmd
    have HDR := Lib.hid hDr
    have HKR := Lib.hid hKr
    have hdl := HDL.out
    obtain ⟨LA, lc, rfl, _⟩ := own_slice hown
    have HOWN := Lib.hid hown
    clear hmd hown hDr hKr HD0 HK0
    by_cases hn : 0 < n
    · go_wp2_with fail
      refine (next_any 6 dd xs wr (by decide) (by decide) HDR.out).mono ?_
      rintro e w1 ⟨k1, hk1, rfl, hD1, hK1⟩
      have HD1 := Lib.hid hD1
      have HK1 := Lib.hid hK1
      clear hD1 hK1 HDR
      go_wp2_with fail
      refine (next_any 2 dd xs w1 (by decide) (by decide) HD1.out).mono ?_
      rintro e w2 ⟨k2, hk2, rfl, hD2, hK2⟩
      have HD2 := Lib.hid hD2
      have HK2 := Lib.hid (HK1.out.one hK2)
      obtain ⟨cd, hcd⟩ : ∃ cd : Int, cd = 1 + (k2 : Int) := ⟨_, rfl⟩
      have hcd2 : 1 + (k2 : Int) = cd := hcd.symm
      clear hD2 hK2 HD1 HK1 hcd
      have hb4 : Below w2.heap.size w2 (w2.alloc (.cells #[.string ⟨#[]⟩, .string ⟨#[97]⟩] 9)) := (Below.refl _ _).alloc (Nat.le_refl _) _
      have hof := word_any [[], [97]] (some ⟨w2.heap.size, 0, none⟩) 2 dd xs (w2.alloc (.cells #[.string ⟨#[]⟩, .string ⟨#[97]⟩] 9)) (by decide) (by decide) (HD2.out.below hb4) (row_lit w2 _ _ [[], [97]] rfl dd HD2.out.lt)
      have HOF := Lib.hid hof
      have HB4 := Lib.hid hb4
      clear hof hb4
      go_wp2_with fail
      refine HOF.out.mono ?_
      rintro e w3 ⟨s, hs, rfl, hD3, hK3⟩
      have hk03 : Kp (fun y => y = dd) wr w3 := HK2.out.one ((Kp.ofBelow HB4.out).one hK3)
      have hown3 := hk03.own HOWN.out fun g hg e => by have := (HOWN.out.lt g hg).1; omega
      have hownA := hown3.alloc (.cells #[.int .i64 (k1 : Int), .int .i64 cd, sv s] 40)
      have hnew := World.news_of_block (cs := #[.int .i64 (k1 : Int), .int .i64 cd, sv s]) (alloc1 w3 (.cells #[.int .i64 (k1 : Int), .int .i64 cd, sv s] 40))
      have HK03 := Lib.hid hk03
      have HD3 := Lib.hid hD3
      have HOWNA := Lib.hid hownA
      have HNEW := Lib.hid hnew
      have hsz3 := hk03.size
      have hszr := HKR.out.size
      clear hs hD3 hK3 hk03 hown3 hownA hnew HOF HB4 HD2 HK2
      go_wp2_with (at_builtin; go_loud (refine wpList_append_lies _ rfl _ _ 22 rfl w.heap.size 40 i0 _ 3 32 Try.underlying22 hi hz0 hz1 hz2 rfl (by omega) (.slice LA l.length lc) l.length (flt msC l) rfl HOWNA.out ⟨w3.heap.size, 0, none⟩ 1 1 [.int .i64 (k1 : Int), .int .i64 cd, sv s] rfl rfl HNEW.out ?d2 (by omega) ?d3 ?d4 ?d5 _ rfl ?_))
      case d2 => intro u hu; simp at hu; rcases hu with rfl | rfl | rfl <;> rfl
      case d3 => unfold maxLen; omega
      case d4 => omega
      case d5 => first | omega | (simp; omega)
      intro vg vcap w5 hown5 hgr hat _
      have hltv := HOWN.out.lt
      have hk5 : Kp (fun y => (Value.slice LA l.length lc).ownBlock = some y) w3 w5 := ((Kp.refl _ _).alloc (.cells #[.int .i64 (k1 : Int), .int .i64 cd, sv s] 40)).grown hgr fun r hr _ => hr
      have HD5 := Lib.hid (HD3.out.keep hk5 fun y e => by have := (hltv y e).1; omega)
      have HK5 := Lib.hid ((HKR.out.one HK03.out).trans (M1 := fun y => (Value.slice LA l.length lc).ownBlock = some y) hk5 fun y hy e => by have := (hltv y e).1; omega)
      have ho5 : w5.ownsRow w.heap.size 40 3 (.slice (some ⟨vg, 0, none⟩) (l.length + 1) vcap) (l ++ [((k1 : Int), cd, s)]).length (flt msC (l ++ [((k1 : Int), cd, s)])) := by
        rw [List.length_append, flt_append, flt_one]
        exact hown5
      have HO5 := Lib.hid ho5
      clear hown5 hgr hat hltv hk5 ho5 HOWN HOWNA HNEW HKR HK03 HD3
      go_wp2_with fail
      go_roundw
      case rel =>
        refine ⟨n - 1, l ++ [((k1 : Int), cd, s)], by go_num, by simp; omega, HO5.out, fun m hm => ?_, HD5.out, HK5.out⟩
        rcases List.mem_append.1 hm with hm | hm
        · exact HMD.out m hm
        · rw [List.mem_singleton.1 hm]
          exact ⟨by show (0 : Int) ≤ (k1 : Int); omega, by show (k1 : Int) < 6; omega⟩
      case measure => simp [intOf]; omega
    · go_wp2_with fail
      go_ret
      exact ⟨_, l, rfl, HOWN.out, by omega, HMD.out, HDR.out, HKR.out⟩
end Go.Proofs.Ytlgdminpkkhejaa
