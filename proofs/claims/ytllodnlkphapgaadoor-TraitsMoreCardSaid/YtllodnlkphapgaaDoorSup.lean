/-
  The walk of recompilelaw12.supers.
  Conditions: the dice lie in memory.
-/
import Derived.Test.YtllodnlkphapgaaDoorPlainT
namespace Go.Proofs.YtllodnlkphapgaaDoor
open Go.RowKit

theorem infoSup : (Tryd.prog.info? 67).map (fun i => (i.zero, i.size, i.bytes)) = some (some (.agg #[.string ⟨#[]⟩, .string ⟨#[]⟩]), 2, 32) := by kernel_rfl

def SupRes (dd : Nat) (xs : List Int) (w : World) (e : Ending) (w' : World) : Prop :=
  ∃ (ss : List (List UInt8 × List UInt8)) (A : Option Addr) (c : Nat), e = .returned (.slice A ss.length c) ∧ ss.length ≤ 3 ∧ (A = none → c = 0) ∧ Row w' (Fr w.heap.size w'.heap.size) A (flat2 (ss.map pairV)) ∧ Thrown dd xs w w'

theorem own_slice {w : World} {base : Nat} {e : TypeId} {size n : Nat} {v : Value} {xs : List Value} (h : w.ownsRow base e size v n xs) : ∃ (A : Option Addr) (c : Nat), v = .slice A n c ∧ (A = none → c = 0) := by
  rcases h.2 with ⟨hv, h0⟩ | ⟨g, cap, cur, hv, _⟩
  · exact ⟨none, 0, by rw [hv, h0], fun _ => rfl⟩
  · exact ⟨_, cap, hv, fun e => by cases e⟩

set_option maxHeartbeats 4000000 in
set_option maxRecDepth 100000 in
theorem supers_any (dd : Nat) (xs : List Int) (w : World) (hD : DiceAt w dd xs) : Calls Tryd.prog 12 #[.pointer (some ⟨dd, 0, none⟩)] w (SupRes dd xs w) := by
  have hdl := hD.lt
  obtain ⟨i0, hi, hz0, hz1, hz2⟩ := info_parts infoSup
  go_enter Tryd.func12, Tryd.ntmps12
  go_wp2_with fail
  refine (next_any 4 dd xs _ (by decide) (by decide) hD).mono ?_
  rintro e w1 ⟨k, hk, rfl, hD1, hK1⟩
  have HD1 := Lib.hid hD1
  have HK1 := Lib.hid hK1
  clear hD1 hK1 hD
  go_wp2_with fail
  go_loopw [3, 4] (fun ov i wr => ∃ (n m : Nat) (ss : List (List UInt8 × List UInt8)), i = .int .i64 n ∧ n + m ≤ 3 ∧ m = ss.length ∧ wr.ownsRow w.heap.size 67 2 ov m (flat2 (ss.map pairV)) ∧ DiceAt wr dd xs ∧ Kp (fun y => y = dd) w wr) (fun _ i _ => (intOf i).toNat)
  case atStart => exact ⟨k, 0, [], rfl, by omega, rfl, World.ownsRow_nil _ _ _ _, HD1.out, HK1.out⟩
  case round =>
    obtain ⟨n, m, ss, rfl, hnm, hm, hown, hD, hK⟩ := hrel
    obtain ⟨OA, oc, hov, hoc⟩ := own_slice hown
    have hsz := hK.size
    by_cases hlt : 0 < n
    · have HM := Lib.hid hm
      have HOWN := Lib.hid hown
      have HD := Lib.hid hD
      have HK := Lib.hid hK
      clear hm hown hD hK hov hoc
      go_wp2_with fail
      refine (of_any [[65], [66], [67]] (some ⟨wr.heap.size, 0, none⟩) 3 dd xs _ (by decide) (by decide) (HD.out.below ((Below.refl _ _).alloc (Nat.le_refl _) _)) (row_lit wr #[.string ⟨#[65]⟩, .string ⟨#[66]⟩, .string ⟨#[67]⟩] _ [[65], [66], [67]] rfl dd (by omega))).mono ?_
      rintro e w2 ⟨x, hx, rfl, hD2, hK2⟩
      have hK02 : Kp (fun y => y = dd) wr w2 := ((Kp.refl _ _).alloc _).one hK2
      have hown2 := hK02.own HOWN.out (fun g hg e => by have := (HOWN.out.lt _ hg).1; omega)
      have hsz2 := hK02.size
      have HK2 := Lib.hid (HK.out.one hK02)
      have HOWN2 := Lib.hid hown2
      have HD2 := Lib.hid hD2
      clear hx hD2 hK2 hK02 hown2 HD HK HOWN
      go_wp2_with fail
      refine (of_any [[65], [66], [67]] (some ⟨w2.heap.size, 0, none⟩) 3 dd xs _ (by decide) (by decide) (HD2.out.below ((Below.refl _ _).alloc (Nat.le_refl _) _)) (row_lit w2 #[.string ⟨#[65]⟩, .string ⟨#[66]⟩, .string ⟨#[67]⟩] _ [[65], [66], [67]] rfl dd (by omega))).mono ?_
      rintro e w3 ⟨y, hy, rfl, hD3, hK3⟩
      have hK03 : Kp (fun y => y = dd) w2 w3 := ((Kp.refl _ _).alloc _).one hK3
      have hown3 := hK03.own HOWN2.out (fun g hg e => by have := (HOWN2.out.lt _ hg).1; omega)
      have hsz3 := hK03.size
      have HK3 := Lib.hid (HK2.out.one hK03)
      have HOWN3 := Lib.hid hown3
      have HD3 := Lib.hid hD3
      clear hy hD3 hK3 hK03 hown3 HD2 HK2 HOWN2
      go_wp2_with (at_builtin; refine wpList_append_lies _ rfl _ _ 39 rfl w.heap.size 67 i0 _ 2 32 Tryd.underlying39 hi hz0 hz1 hz2 rfl (by omega) _ m (flat2 (ss.map pairV)) rfl (HOWN3.out.alloc _) ⟨w3.heap.size, 0, none⟩ 1 1 [sv x, sv y] rfl rfl ?c1 ?c2 (by omega) ?c3 ?c4 ?c5 _ rfl ?_)
      case c1 => exact World.news_of_block (cs := #[sv x, sv y]) (alloc1 w3 _)
      case c2 => simp [Value.oneCell']
      case c3 => unfold maxLen; omega
      case c4 => omega
      case c5 => simp; omega
      intro g cap w4 hown4 hgrow hat _
      have hK4 : Kp (fun y => y = dd) w w4 := (HK3.out.alloc _).grown hgrow fun r hr hrl => by have := (HOWN3.out.lt _ hr).1; omega
      have hD4 : DiceAt w4 dd xs := (HD3.out.below ((Below.refl _ _).alloc (Nat.le_refl _) _)).keep (M := fun y => w.heap.size ≤ y) ⟨hgrow.os, hgrow.tape, hgrow.output, hgrow.size, fun x hx hM => hgrow.block x hx fun e => hM (HOWN3.out.lt _ e.symm).1⟩ (fun y hy => by omega)
      have HK4 := Lib.hid hK4
      have HD4 := Lib.hid hD4
      have HOWN4 := Lib.hid hown4
      clear hK4 hD4 hown4 hgrow hat HOWN3 HD3 HK3
      go_wp2
      go_roundw
      case rel => exact ⟨n - 1, m + 1, ss ++ [(x, y)], by go_num, by omega, by rw [HM.out]; simp, by have := HOWN4.out; rw [List.map_append, flat2_append]; exact this, HD4.out, HK4.out⟩
      case measure => simp [intOf]; omega
    · obtain rfl : n = 0 := by omega
      have HM := Lib.hid hm
      have HOWN := Lib.hid hown
      have HD := Lib.hid hD
      have HK := Lib.hid hK
      have HC := Lib.hid hoc
      clear hm hown hD hK hoc
      subst hov
      go_wp2
      go_ret
      have hm := HM.out
      subst hm
      exact ⟨ss, OA, oc, rfl, by omega, HC.out, Row.ofOwn HOWN.out fun g _ h1 h2 => ⟨h1, h2⟩, HD.out, HK.out⟩
end Go.Proofs.YtllodnlkphapgaaDoor
