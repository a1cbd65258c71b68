/-
  The walk of Dice.Binds.
  Conditions: dice lie in memory.
-/
import Derived.Test.YtcliegpofhjpcaaMdQ
namespace Go.Proofs.Ytcliegpofhjpcaa
open Go.RowKit

theorem infoBd : (Try.prog.info? 42).map (fun i => (i.zero, i.size, i.bytes)) = some (some (.agg #[.string ⟨#[]⟩, .string ⟨#[]⟩]), 2, 32) := by kernel_rfl
def BindsRes (dd : Nat) (xs : List Int) (w : World) (e : Ending) (w' : World) : Prop := ∃ (v : Value) (l : List Key), e = .returned v ∧ w'.ownsRow w.heap.size 42 2 v l.length (flt bdC l) ∧ l.length ≤ 7 ∧ Thrown dd xs w w'
def bnLit : Array Value := #[.string ⟨#[120]⟩, .string ⟨#[121]⟩, .string ⟨#[84]⟩, .string ⟨#[102]⟩, .string ⟨#[103]⟩, .string ⟨#[99]⟩, .string ⟨#[109]⟩, .string ⟨#[110]⟩, .string ⟨#[80]⟩, .string ⟨#[66, 111, 120]⟩, .string ⟨#[101]⟩, .string ⟨#[115, 104, 111, 119]⟩]
def bnL : List (List UInt8) := [[120], [121], [84], [102], [103], [99], [109], [110], [80], [66, 111, 120], [101], [115, 104, 111, 119]]
set_option maxHeartbeats 1600000 in
set_option maxRecDepth 100000 in
theorem binds_any (dd : Nat) (xs : List Int) (w : World) (hd : DiceAt w dd xs) : Calls Try.prog 15 #[.pointer (some ⟨dd, 0, none⟩)] w (BindsRes dd xs w) := by
  have hdl := hd.lt
  have HD := Lib.hid hd
  have HDL := Lib.hid hdl
  clear hd hdl
  obtain ⟨i0, hi, hz0, hz1, hz2⟩ := info_parts infoBd
  go_enter Try.func15, Try.ntmps15
  go_wp2_with fail
  refine (next_any 8 dd xs w (by decide) (by decide) HD.out).mono ?_
  rintro e w0 ⟨n0, hn0, rfl, hD0, hK0⟩
  have HD0 := Lib.hid hD0
  have HK0 := Lib.hid hK0
  clear hD0 hK0 HD
  go_wp2_with fail
  go_loopw [3, 4] (fun lv i wr => ∃ (n : Nat) (l : List Key), i = .int .i64 n ∧ n + l.length ≤ 7 ∧ wr.ownsRow w.heap.size 42 2 lv l.length (flt bdC l) ∧ DiceAt wr dd xs ∧ Kp (fun y => y = dd) w wr) (fun _ i _ => (intOf i).toNat)
  case atStart => exact ⟨n0, [], rfl, by simp; omega, World.ownsRow_nil _ _ _ _, HD0.out, HK0.out⟩
  case round =>
    obtain ⟨n, l, rfl, hnl, hown, hDr, hKr⟩ := hrel
    have HOWN := Lib.hid hown
    have HDR := Lib.hid hDr
    have HKR := Lib.hid hKr
    have hdl := HDL.out
    clear hown hDr hKr HD0 HK0
    by_cases hn : 0 < n
    · have hb4 : Below wr.heap.size wr (wr.alloc (.cells bnLit 9)) := (Below.refl _ _).alloc (Nat.le_refl _) _
      have hof := of_any bnL (some ⟨wr.heap.size, 0, none⟩) 12 dd xs (wr.alloc (.cells bnLit 9)) (by decide) (by decide) (HDR.out.below hb4) (row_lit wr bnLit _ bnL rfl dd HDR.out.lt)
      have HOF := Lib.hid hof
      have HB4 := Lib.hid hb4
      clear hof hb4
      go_wp2_with fail
      refine HOF.out.mono ?_
      rintro e w1 ⟨s, hs, rfl, hD1, hK1⟩
      have hsl : s.length ≤ 4 := by
        have : ∀ x ∈ bnL, x.length ≤ 4 := by decide
        exact this s hs
      have hk01 : Kp (fun y => y = dd) wr w1 := (Kp.ofBelow HB4.out).one hK1
      have HK01 := Lib.hid hk01
      have HD1 := Lib.hid hD1
      have hsz1 := hk01.size
      clear hs hD1 hK1 hk01 HOF HB4 HDR
      have hb5 : Below w1.heap.size w1 (w1.alloc (.cells #[.string ⟨#[97]⟩, .string ⟨#[98]⟩] 9)) := (Below.refl _ _).alloc (Nat.le_refl _) _
      have hof := of_any [[97], [98]] (some ⟨w1.heap.size, 0, none⟩) 2 dd xs (w1.alloc (.cells #[.string ⟨#[97]⟩, .string ⟨#[98]⟩] 9)) (by decide) (by decide) (HD1.out.below hb5) (row_lit w1 _ _ _ rfl dd HD1.out.lt)
      have HOF := Lib.hid hof
      have HB5 := Lib.hid hb5
      clear hof hb5
      go_wp2_with fail
      refine HOF.out.mono ?_
      rintro e w2 ⟨m, hm, rfl, hD2, hK2⟩
      have hml : m.length ≤ 1 := by
        have : ∀ x ∈ ([[97], [98]] : List (List UInt8)), x.length ≤ 1 := by decide
        exact this m hm
      have hk02 : Kp (fun y => y = dd) wr w2 := HK01.out.one ((Kp.ofBelow HB5.out).one hK2)
      have hown2 := hk02.own HOWN.out fun g hg e => by have := (HOWN.out.lt g hg).1; omega
      have HK02 := Lib.hid hk02
      have HD2 := Lib.hid hD2
      have hsz2 := hk02.size
      have hkw2 := (HKR.out.one hk02).size
      have hmz : (bs m).size ≤ 1 := by rw [bs_size]; exact hml
      have hsz : (bs s).size ≤ 4 := by rw [bs_size]; exact hsl
      have g1 : ¬ 9223372036854775807 < (bs m).size + 2 := by omega
      have hsz' : (bs m ++ ⟨#[58, 58]⟩ : ByteArray).size = (bs m).size + 2 := by rw [ByteArray.size_append]; rfl
      have g2 : ¬ 9223372036854775807 < (bs m ++ ⟨#[58, 58]⟩ : ByteArray).size + (bs s).size := by omega
      obtain ⟨k, hk⟩ : ∃ k, k = bdOf m s := ⟨_, rfl⟩
      have hk1 : sv k.1 = sv s := by rw [hk]; rfl
      have hk2 : sv k.2 = .string (bs m ++ ⟨#[58, 58]⟩ ++ bs s) := by rw [hk]; show sv (m ++ [58, 58] ++ s) = _; rw [sv, bs_append, bs_append]; rfl
      have HK1 := Lib.hid hk1
      have HK2 := Lib.hid hk2
      have hownA := hown2.alloc (.cells #[sv k.1, sv k.2] 42)
      have hnew : ∀ j u, [sv k.1, sv k.2][j]? = some u → (w2.alloc (.cells #[sv k.1, sv k.2] 42)).cell? ((⟨w2.heap.size, 0, none⟩ : Addr).add j) = some u := World.news_of_block (cs := #[sv k.1, sv k.2]) (alloc1 w2 _)
      rw [HK1.out, HK2.out] at hownA hnew
      have HOWNA := Lib.hid hownA
      have HNEW := Lib.hid hnew
      clear hm hD2 hK2 hk02 HOF HB5 HD1 HK01 hown2 hownA hnew hk1 hk2 hk
      go_wp2_with (at_builtin; refine wpList_append_lies _ rfl _ _ 33 rfl w.heap.size 42 i0 _ 2 32 Try.underlying33 hi hz0 hz1 hz2 rfl (by omega) u3 l.length (flt bdC l) rfl HOWNA.out ⟨w2.heap.size, 0, none⟩ 1 1 [sv s, .string (bs m ++ ⟨#[58, 58]⟩ ++ bs s)] rfl rfl HNEW.out ?d2 (by omega) ?d3 ?d4 ?d5 _ rfl ?_)
      case d2 => intro u hu; simp at hu; rcases hu with rfl | rfl <;> rfl
      case d3 => unfold maxLen; omega
      case d4 => omega
      case d5 => simp; omega
      intro vg vcap w5 hown5 hgr hat _
      have hltv := HOWN.out.lt
      have hk5 : Kp (fun y => u3.ownBlock = some y) w2 w5 := ((Kp.refl _ _).alloc (.cells #[sv s, .string (bs m ++ ⟨#[58, 58]⟩ ++ bs s)] 42)).grown hgr fun r hr _ => hr
      have HD5 := Lib.hid (HD2.out.keep hk5 fun y e => by have := (hltv y e).1; omega)
      have HK5 := Lib.hid ((HKR.out.one HK02.out).trans (M1 := fun y => u3.ownBlock = some y) hk5 fun y hy e => by have := (hltv y e).1; omega)
      have ho5 : w5.ownsRow w.heap.size 42 2 (.slice (some ⟨vg, 0, none⟩) (l.length + 1) vcap) (l ++ [k]).length (flt bdC (l ++ [k])) := by
        rw [List.length_append, flt_append, flt_one]
        unfold bdC
        rw [HK1.out, HK2.out]
        exact hown5
      have HO5 := Lib.hid ho5
      clear hown5 hgr hat hltv hk5 ho5 HOWN HOWNA HNEW HKR HK02 HD2
      go_wp2_with fail
      go_roundw
      case rel => exact ⟨n - 1, l ++ [k], by go_num, by simp; omega, HO5.out, HD5.out, HK5.out⟩
      case measure => simp [intOf]; omega
    · go_wp2_with fail
      go_ret
      exact ⟨_, l, rfl, HOWN.out, by omega, HDR.out, HKR.out⟩
end Go.Proofs.Ytcliegpofhjpcaa
