/-
  The walk of law40's DeltaActs, all cases.
  Conditions: the messages, the difference and the numbers lie in memory.
-/
import Derived.Test.YtlgdminpkkhejaaDtEb
namespace Go.Proofs.Ytlgdminpkkhejaa
open Go.RowKit

set_option maxHeartbeats 1600000 in
set_option maxRecDepth 100000 in
theorem acts_heavy (r q n xg xc xm : Nat) (RA MA A X1 X2 X3 : Option Addr) (rc mc c xc1 xc2 xc3 : Nat) (what by_ : Int) (w : World) (hb1 : xg ≤ 140737488355328) (hb2 : xc ≤ 140737488355328) (hb3 : xm ≤ 140737488355328) (h : ¬ (r ≤ 40 ∧ q ≤ 40 ∧ xg + xc + xm ≤ 60 ∧ n ≤ 400)) :
    Calls Try.prog 3 #[.slice RA r rc, .slice MA q mc, .agg #[.slice X1 xg xc1, .slice X2 xc xc2, .slice X3 xm xc3], .slice A n c, .int .i64 what, .int .i64 by_] w fun e w' => e = .returned (.bool true) ∧ Below w.heap.size w w' := by
  obtain ⟨w0, hw0⟩ : ∃ w0, w0 = w.alloc (.cells #[.slice X1 xg xc1, .slice X2 xc xc2, .slice X3 xm xc3] 25) := ⟨_, rfl⟩
  have hb0 : Below w.heap.size w w0 := by rw [hw0]; exact (Below.refl _ _).alloc (Nat.le_refl _) _
  have HB0 := Lib.hid hb0
  have HAW := Lib.hid (awake_any w0)
  have HLI := Lib.hid (light_any n A c w0)
  have HW0 := Lib.hid hw0
  clear hw0 hb0
  by_cases h1 : r ≤ 40
  · have hq1 : decide ((40 : Int) < (r : Int)) = false := by simp; omega
    have hq3 : ¬ 40 < r := by omega
    by_cases h2 : q ≤ 40
    · have hq2 : decide ((40 : Int) < (q : Int)) = false := by simp; omega
      have hq4 : ¬ 40 < q := by omega
      by_cases h3 : xg + xc + xm ≤ 60
      · have hq5 : decide ((60 : Int) < (xg : Int) + (xc : Int) + (xm : Int)) = false := by simp; omega
        have hq6 : ¬ 60 < xg + xc + xm := by omega
        have hq7 : ¬ (60 : Int) < (xg : Int) + (xc : Int) + (xm : Int) := by omega
        have hn : ¬ n ≤ 400 := fun h4 => h ⟨h1, h2, h3, h4⟩
        rw [decide_eq_false hn] at HLI
        clear hn h
        go_enter Try.func3, Try.ntmps3
        go_wp2_with fail
        rw [← HW0.out]
        refine HLI.out.mono ?_
        rintro e w1 ⟨rfl, rfl⟩
        go_wp2_with fail
        refine HAW.out.mono ?_
        rintro e w2 ⟨rfl, hb⟩
        have HE := Lib.hid (HB0.out.trans (hb.mono HB0.out.size))
        clear hb
        go_wp2
        go_ret
        exact ⟨rfl, HE.out⟩
      · have hq5 : decide ((60 : Int) < (xg : Int) + (xc : Int) + (xm : Int)) = true := by simp; omega
        have hq6 : 60 < xg + xc + xm := by omega
        have hq7 : (60 : Int) < (xg : Int) + (xc : Int) + (xm : Int) := by omega
        clear h h3
        go_enter Try.func3, Try.ntmps3
        go_wp2_with fail
        rw [← HW0.out]
        refine HAW.out.mono ?_
        rintro e w2 ⟨rfl, hb⟩
        have HE := Lib.hid (HB0.out.trans (hb.mono HB0.out.size))
        clear hb
        go_wp2
        go_ret
        exact ⟨rfl, HE.out⟩
    · have hq2 : decide ((40 : Int) < (q : Int)) = true := by simp; omega
      have hq4 : 40 < q := by omega
      clear h h2
      go_enter Try.func3, Try.ntmps3
      go_wp2_with fail
      rw [← HW0.out]
      refine HAW.out.mono ?_
      rintro e w2 ⟨rfl, hb⟩
      have HE := Lib.hid (HB0.out.trans (hb.mono HB0.out.size))
      clear hb
      go_wp2
      go_ret
      exact ⟨rfl, HE.out⟩
  · have hq1 : decide ((40 : Int) < (r : Int)) = true := by simp; omega
    have hq3 : 40 < r := by omega
    clear h h1
    go_enter Try.func3, Try.ntmps3
    go_wp2_with fail
    rw [← HW0.out]
    refine HAW.out.mono ?_
    rintro e w2 ⟨rfl, hb⟩
    have HE := Lib.hid (HB0.out.trans (hb.mono HB0.out.size))
    clear hb
    go_wp2
    go_ret
    exact ⟨rfl, HE.out⟩
theorem law_acts (raw more : List Msg) (x : Dl) (rv mv xv : Value) (xs : List Int) (A : Option Addr) (c : Nat) (what by_ : Int) (w : World) (hr : SlM w rv raw) (hm : SlM w mv more) (hx : DlV w (Lt w.heap.size) xv x) (hxl : x.gone.length ≤ 140737488355328 ∧ x.come.length ≤ 140737488355328 ∧ x.moved.length ≤ 140737488355328)
    (hA : Row w (Lt w.heap.size) A (xs.map (Value.int .i64))) (hf : ∀ x ∈ xs, -9223372036854775808 ≤ x ∧ x ≤ 9223372036854775807) (hwh : -9223372036854775808 ≤ what ∧ what ≤ 9223372036854775807) (hby : -9223372036854775808 ≤ by_ ∧ by_ ≤ 9223372036854775807) :
    Calls Try.prog 3 #[rv, mv, xv, .slice A xs.length c, .int .i64 what, .int .i64 by_] w fun e w' => e = .returned (.bool true) ∧ Below w.heap.size w w' := by
  by_cases h : raw.length ≤ 40 ∧ more.length ≤ 40 ∧ x.gone.length + x.come.length + x.moved.length ≤ 60 ∧ xs.length ≤ 400
  · exact acts_light raw more x rv mv xv xs A c what by_ w hr hm hx h.1 h.2.1 h.2.2.1 hA h.2.2.2 hf hwh hby
  · obtain ⟨RA, rc, rfl, _⟩ := hr
    obtain ⟨MA, mc, rfl, _⟩ := hm
    obtain ⟨X1, X2, X3, x1, x2, x3, rfl, _⟩ := hx
    exact acts_heavy raw.length more.length xs.length _ _ _ RA MA A X1 X2 X3 rc mc c x1 x2 x3 what by_ w hxl.1 hxl.2.1 hxl.2.2 h
end Go.Proofs.Ytlgdminpkkhejaa
