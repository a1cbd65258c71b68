/-
  The walk of ref05.Update.
  Conditions: the arguments read as identities and items.
-/
import Derived.Test.YtmnhgkhidepojaaIdRc
import Derived.Test.YtmnhgkhidepojaaIdRk
import Derived.Test.YtmnhgkhidepojaaIdRP
import Derived.Test.YtmnhgkhidepojaaIdR
import Derived.Test.YtmnhgkhidepojaaBmix
import Derived.Test.YtmnhgkhidepojaaBtwk
import Derived.Test.YtmnhgkhidepojaaBown
namespace Go.Proofs.Ytmnhgkhidepojaa
open Go.RowKit

def Fnd (l : List It) (j : Nat) (k : Key) (v : Value) : Prop := ∃ b : Bool, v = .bool b ∧ (b = true ↔ ∃ z ∈ l.take j, z.key = k)
theorem kp_below {w u v : World} {M : Nat → Prop} (h : Below w.heap.size w u) (hk : Kp M u v) (hM : ∀ y, M y → w.heap.size ≤ y) : Below w.heap.size w v :=
  ⟨hk.os.trans h.os, hk.tape.trans h.tape, hk.output.trans h.output, Nat.le_trans h.size hk.size, fun b hb => (hk.block b (Nat.lt_of_lt_of_le hb h.size) (fun e => by have := hM b e; omega)).trans (h.block b hb)⟩
/-- What Update returns, in a row of its own. -/
def UpdOwn (n : Int) (xs : List Idn) (l : List It) (w : World) (e : Ending) (w' : World) : Prop :=
  ∃ (m : Int) (ys : List Idn) (A : Option Addr) (c : Nat) (eno : Int), e = .returned (.tuple #[.agg #[.int .i64 m, .slice A ys.length c], .int .i64 eno]) ∧ (A = none → c = 0) ∧ w'.ownsRow w.heap.size 39 4 (.slice A ys.length c) ys.length (flt idC ys) ∧ Upd 1 3 n xs l m ys eno ∧ Below w.heap.size w w'
/-- The identities that are being put in order. -/
def OutIs (lo ob : Nat) (nx : Int) (zs : List Idn) (k : Nat) (w : World) : Prop :=
  ∃ (OA : Option Addr) (oc : Nat) (ys : List Idn), ys.length = k ∧ (OA = none → oc = 0) ∧ w.heap[ob]? = some (.cells #[.int .i64 nx, .slice OA k oc] 29 (0, 0)) ∧ w.ownsRow lo 39 4 (.slice OA k oc) k (flt idC ys) ∧ ys.Perm (zs.take k) ∧ ys.Pairwise fun a b => a.id ≤ b.id
set_option maxHeartbeats 3200000 in
set_option maxRecDepth 100000 in
theorem rupdate_any (n : Int) (xs : List Idn) (l : List It) (A B : Option Addr) (c d : Nat) (w : World) (hl : xs.length ≤ 1000) (hl2 : l.length ≤ 1000) (h : Row w (Lt w.heap.size) A (flt idC xs)) (h2 : Row w (Lt w.heap.size) B (flt itC l)) :
    Calls Try.prog 9 #[.agg #[.int .i64 n, .slice A xs.length c], .slice B l.length d] w (UpdOwn n xs l w) := by
  obtain ⟨m, hm⟩ : ∃ m, m = xs.length := ⟨_, rfl⟩
  obtain ⟨q, hq⟩ : ∃ q, q = l.length := ⟨_, rfl⟩
  have hx0 := alloc2 w (.cells #[.int .i64 n, .slice A m c] 29) (.cells #[.int .i64 0, .slice none 0 0] 29)
  have hb0 : Below w.heap.size w ((w.alloc (.cells #[.int .i64 n, .slice A m c] 29)).alloc (.cells #[.int .i64 0, .slice none 0 0] 29)) := ((Below.refl _ _).alloc (Nat.le_refl _) _).alloc (by simp) _
  have hs0 : ((w.alloc (.cells #[.int .i64 n, .slice A m c] 29)).alloc (.cells #[.int .i64 0, .slice none 0 0] 29)).heap.size = w.heap.size + 2 := by simp
  rw [← hm] at hl
  rw [← hq] at hl2
  have HM := Lib.hid hm
  have HQL := Lib.hid hq
  have HR := Lib.hid h
  have HR2 := Lib.hid h2
  obtain ⟨Q, hQ⟩ : ∃ Q, Q = UpdOwn n xs l w := ⟨_, rfl⟩
  have HQ := Lib.hid hQ
  rw [← hm, ← hq, ← hQ]
  clear hm hq h h2 hQ
  go_enter Try.func9, Try.ntmps9
  go_wp2_with fail
  obtain ⟨w0, hw0⟩ : ∃ w0, w0 = ((w.alloc (.cells #[.int .i64 n, .slice A m c] 29)).alloc (.cells #[.int .i64 0, .slice none 0 0] 29)) := ⟨_, rfl⟩
  rw [← hw0] at hx0 hb0 hs0 ⊢
  clear hw0
  have c0 : w0.cell? ⟨w.heap.size, 0, none⟩ = some (.int .i64 n) := (Lib.cell_of_heap hx0.1 _).trans rfl
  have c1 : w0.cell? ⟨w.heap.size, 1, none⟩ = some (.slice A m c) := (Lib.cell_of_heap hx0.1 _).trans rfl
  have HX0 := Lib.hid hx0
  have HB0 := Lib.hid hb0
  have HS0 := Lib.hid hs0
  clear hx0 hb0 hs0
  go_wp2_with fail
  have hck := rcheck_any n xs A c w0 (by rw [← HM.out]; exact hl) ((HR.out.keep (kept_below HB0.out)).more fun b hb => by have := HB0.out.size; unfold Lt at hb ⊢; omega)
  rw [← HM.out] at hck
  refine hck.mono ?_
  rintro e w1 ⟨r, rfl, hr, hb1⟩
  clear hck c0 c1
  have hs01 := hb1.size
  have HBv := Lib.hid (HB0.out.trans (hb1.mono HB0.out.size))
  have HXv := Lib.hid ((hb1.block _ (by have := HS0.out; omega)).trans HX0.out.1)
  have HRv := Lib.hid ((hb1.block _ (by have := HS0.out; omega)).trans HX0.out.2)
  obtain ⟨wv, rfl⟩ : ∃ wv, wv = w1 := ⟨_, rfl⟩
  clear hb1
  cases r with
  | false =>
    have HUPD : Hid (Upd 1 3 n xs l n xs 1) := Lib.hid (.inl ⟨(fun h => by have := hr.2 h.1; cases this), rfl, rfl, rfl⟩)
    clear hr HX0 HB0 HS0
    have hlx := lt_of_heap HXv.out
    have hlr := lt_of_heap HRv.out
    have x0 : wv.cell? ⟨w.heap.size, 0, none⟩ = some (.int .i64 n) := (Lib.cell_of_heap HXv.out _).trans rfl
    have x1 : wv.cell? ⟨w.heap.size, 1, none⟩ = some (.slice A m c) := (Lib.cell_of_heap HXv.out _).trans rfl
    have HCP := Lib.hid (copy_any n xs A c wv (by rw [← HM.out]; exact hl) ((HR.out.keep (kept_below HBv.out)).more fun b hb => by have := HBv.out.size; unfold Lt at hb ⊢; omega))
    go_wp2_with fail
    have hcp := HCP.out
    rw [← HM.out] at hcp
    refine hcp.mono ?_
    rintro e wc ⟨CA, cc, rfl, hCA, hcrow, hcb⟩
    rw [← HM.out] at hcrow ⊢
    have hcr := (hcb.block _ hlr).trans HRv.out
    have z0 : wc.cell? ⟨w.heap.size + 1, 0, none⟩ = some (.int .i64 0) := (Lib.cell_of_heap hcr _).trans rfl
    have z1 : wc.cell? ⟨w.heap.size + 1, 1, none⟩ = some (.slice none 0 0) := (Lib.cell_of_heap hcr _).trans rfl
    have f0 : wc.frozen? ⟨w.heap.size + 1, 0, none⟩ = false := Lib.frozen_of_heap hcr 0
    have f1 : wc.frozen? ⟨w.heap.size + 1, 1, none⟩ = false := Lib.frozen_of_heap hcr 1
    obtain ⟨w9, hw9⟩ : ∃ w9, w9 = (wc.setCell ⟨w.heap.size + 1, 0, none⟩ (.int .i64 n)).setCell ⟨w.heap.size + 1, 1, none⟩ (.slice CA m cc) := ⟨_, rfl⟩
    have h9 : w9.heap[w.heap.size + 1]? = some (.cells #[.int .i64 n, .slice CA m cc] 29 (0, 0)) := by rw [hw9]; exact setCell_heap (o := 1) (v := .slice CA m cc) (setCell_heap (o := 0) (v := .int .i64 n) hcr)
    have hk9 : Kp (fun y => y = w.heap.size + 1) wc w9 := by rw [hw9]; exact Kp.setCell (M := fun y => y = w.heap.size + 1) (Kp.setCell (M := fun y => y = w.heap.size + 1) (Kp.refl _ _) (fun _ => rfl) _) (fun _ => rfl) _
    have q0 : w9.cell? ⟨w.heap.size + 1, 0, none⟩ = some (.int .i64 n) := (Lib.cell_of_heap h9 _).trans rfl
    have q1 : w9.cell? ⟨w.heap.size + 1, 1, none⟩ = some (.slice CA m cc) := (Lib.cell_of_heap h9 _).trans rfl
    have HW9 := Lib.hid hw9
    have HK9 := Lib.hid hk9
    have HCB := Lib.hid hcb
    have HCROW := Lib.hid hcrow
    have HCAN := Lib.hid hCA
    clear hcp hcr hw9 h9 hk9 hcb hcrow hCA x0 x1
    go_wp2_with fail
    rw [← HW9.out]
    refine bodyPost_ret (v := .tuple #[.agg #[.int .i64 n, .slice CA m cc], .int .i64 1]) ?_ rfl ?_
    · clear HW9 HK9 HCB HCROW HCAN
      simp [results, Try.results9, go_sem, q0, q1]
    · rw [HQ.out]
      have hs1 := HBv.out.size
      have hs2 := HCB.out.size
      have hs3 := HK9.out.size
      refine ⟨n, xs, CA, cc, 1, by rw [HM.out], HCAN.out, by rw [← HM.out]; exact ownMono (HK9.out.own HCROW.out fun g hg e => by have := (HCROW.out.lt g hg).1; omega) (by omega), HUPD.out, ?_⟩
      have hb := HBv.out.trans (HCB.out.mono hs1)
      exact ⟨HK9.out.os.trans hb.os, HK9.out.tape.trans hb.tape, HK9.out.output.trans hb.output, Nat.le_trans hb.size HK9.out.size, fun b hb' => (HK9.out.block b (by omega) (by omega)).trans (hb.block b hb')⟩
  | true =>
    have HCHK := Lib.hid (hr.1 rfl)
    clear hr
    go_wp2_with fail
    have has := ascend_any l B d wv (by rw [← HQL.out]; exact hl2) ((HR2.out.keep (kept_below HBv.out)).more fun b hb => by have := HBv.out.size; unfold Lt at hb ⊢; omega)
    rw [← HQL.out] at has
    refine has.mono ?_
    rintro e w2 ⟨r, rfl, hr, hb2⟩
    clear has
    have HB2 := Lib.hid (HBv.out.trans (hb2.mono HBv.out.size))
    have HX2 := Lib.hid ((hb2.block _ (lt_of_heap HXv.out)).trans HXv.out)
    have HR2v := Lib.hid ((hb2.block _ (lt_of_heap HRv.out)).trans HRv.out)
    clear HBv HXv HRv HX0 HB0 HS0 hb2 hs01
    obtain ⟨HBv, HXv, HRv⟩ := And.intro HB2 (And.intro HX2 HR2v)
    clear HB2 HX2 HR2v
    clear wv
    obtain ⟨wv, rfl⟩ : ∃ wv, wv = w2 := ⟨_, rfl⟩
    cases r with
    | false =>
      have HUPD : Hid (Upd 1 3 n xs l n xs 1) := Lib.hid (.inl ⟨(fun h => by have := hr.2 h.2; cases this), rfl, rfl, rfl⟩)
      clear hr
      have hlx := lt_of_heap HXv.out
      have hlr := lt_of_heap HRv.out
      have x0 : wv.cell? ⟨w.heap.size, 0, none⟩ = some (.int .i64 n) := (Lib.cell_of_heap HXv.out _).trans rfl
      have x1 : wv.cell? ⟨w.heap.size, 1, none⟩ = some (.slice A m c) := (Lib.cell_of_heap HXv.out _).trans rfl
      have HCP := Lib.hid (copy_any n xs A c wv (by rw [← HM.out]; exact hl) ((HR.out.keep (kept_below HBv.out)).more fun b hb => by have := HBv.out.size; unfold Lt at hb ⊢; omega))
      go_wp2_with fail
      have hcp := HCP.out
      rw [← HM.out] at hcp
      refine hcp.mono ?_
      rintro e wc ⟨CA, cc, rfl, hCA, hcrow, hcb⟩
      rw [← HM.out] at hcrow ⊢
      have hcr := (hcb.block _ hlr).trans HRv.out
      have z0 : wc.cell? ⟨w.heap.size + 1, 0, none⟩ = some (.int .i64 0) := (Lib.cell_of_heap hcr _).trans rfl
      have z1 : wc.cell? ⟨w.heap.size + 1, 1, none⟩ = some (.slice none 0 0) := (Lib.cell_of_heap hcr _).trans rfl
      have f0 : wc.frozen? ⟨w.heap.size + 1, 0, none⟩ = false := Lib.frozen_of_heap hcr 0
      have f1 : wc.frozen? ⟨w.heap.size + 1, 1, none⟩ = false := Lib.frozen_of_heap hcr 1
      obtain ⟨w9, hw9⟩ : ∃ w9, w9 = (wc.setCell ⟨w.heap.size + 1, 0, none⟩ (.int .i64 n)).setCell ⟨w.heap.size + 1, 1, none⟩ (.slice CA m cc) := ⟨_, rfl⟩
      have h9 : w9.heap[w.heap.size + 1]? = some (.cells #[.int .i64 n, .slice CA m cc] 29 (0, 0)) := by rw [hw9]; exact setCell_heap (o := 1) (v := .slice CA m cc) (setCell_heap (o := 0) (v := .int .i64 n) hcr)
      have hk9 : Kp (fun y => y = w.heap.size + 1) wc w9 := by rw [hw9]; exact Kp.setCell (M := fun y => y = w.heap.size + 1) (Kp.setCell (M := fun y => y = w.heap.size + 1) (Kp.refl _ _) (fun _ => rfl) _) (fun _ => rfl) _
      have q0 : w9.cell? ⟨w.heap.size + 1, 0, none⟩ = some (.int .i64 n) := (Lib.cell_of_heap h9 _).trans rfl
      have q1 : w9.cell? ⟨w.heap.size + 1, 1, none⟩ = some (.slice CA m cc) := (Lib.cell_of_heap h9 _).trans rfl
      have HW9 := Lib.hid hw9
      have HK9 := Lib.hid hk9
      have HCB := Lib.hid hcb
      have HCROW := Lib.hid hcrow
      have HCAN := Lib.hid hCA
      clear hcp hcr hw9 h9 hk9 hcb hcrow hCA x0 x1
      go_wp2_with fail
      rw [← HW9.out]
      refine bodyPost_ret (v := .tuple #[.agg #[.int .i64 n, .slice CA m cc], .int .i64 1]) ?_ rfl ?_
      · clear HW9 HK9 HCB HCROW HCAN
        simp [results, Try.results9, go_sem, q0, q1]
      · rw [HQ.out]
        have hs1 := HBv.out.size
        have hs2 := HCB.out.size
        have hs3 := HK9.out.size
        refine ⟨n, xs, CA, cc, 1, by rw [HM.out], HCAN.out, by rw [← HM.out]; exact ownMono (HK9.out.own HCROW.out fun g hg e => by have := (HCROW.out.lt g hg).1; omega) (by omega), HUPD.out, ?_⟩
        have hb := HBv.out.trans (HCB.out.mono hs1)
        exact ⟨HK9.out.os.trans hb.os, HK9.out.tape.trans hb.tape, HK9.out.output.trans hb.output, Nat.le_trans hb.size HK9.out.size, fun b hb' => (HK9.out.block b (by omega) (by omega)).trans (hb.block b hb')⟩
    | true =>
      have HASC := Lib.hid (hr.1 rfl)
      clear hr
      have hqn : ¬ (20000 : Int) < (q : Int) := by omega
      have hqd : decide ((20000 : Int) < (q : Int)) = false := by simp; omega
      obtain ⟨i0, hi, hz0, hz1, hz2⟩ := info_parts infoId
      obtain ⟨ii, hii, hy0, hy1, hy2⟩ := info_parts infoI
      obtain ⟨wc, hmk, hIown, hIgr⟩ := run_make_full (P := Try.prog) wv wv.heap.size 22 3 ii _ 1 Try.underlying22 hii hy0 hy1 .i64 .i64 q (by rw [hy2]; omega) (by unfold maxLen; omega) (Nat.le_refl _)
      have hbc : Below wv.heap.size wv wc := ⟨hIgr.os, hIgr.tape, hIgr.output, hIgr.size, fun y hy => hIgr.block y hy (by simp)⟩
      rw [madeZ] at hIown
      have hlxv := lt_of_heap HXv.out
      have hlrv := lt_of_heap HRv.out
      have hgi := hIown.lt wv.heap.size rfl
      obtain ⟨gi, hgie⟩ : ∃ gi, gi = wv.heap.size := ⟨_, rfl⟩
      rw [← hgie] at hIown hgi hlxv hlrv
      have HI0 := Lib.hid hIown
      have HBC := Lib.hid (HBv.out.trans (hbc.mono HBv.out.size))
      have HXc := Lib.hid ((hbc.block _ (by omega)).trans HXv.out)
      have HRc := Lib.hid ((hbc.block _ (by omega)).trans HRv.out)
      have hgl : gi < wc.heap.size := hgi.2
      have hglw : w.heap.size + 1 < gi := hlrv
      go_wp2_with fail
      rw [← hgie]
      clear hmk hbc hIown hIgr hgi HBv HXv HRv hlxv hlrv hgie hqd hqn hii hy0 hy1 hy2
      clear wv ii
      go_loopw [7, 8] (fun rv i wr => ∃ k : Nat, k ≤ m ∧ i = .int .i64 k ∧ Kp (fun y => y = gi) wc wr ∧ wr.ownsRow gi 3 1 (.slice (some ⟨gi, 0, none⟩) q q) q ((ids0 (xs.take k) l).map (Value.int .i64)) ∧ wr.ownsRow wc.heap.size 39 4 rv (left (xs.take k) l).length (flt idC (left (xs.take k) l))) (fun _ i _ => m - (intOf i).toNat)
      case atStart =>
        refine ⟨0, by omega, rfl, Kp.refl _ _, ?_, World.ownsRow_nil _ _ _ _⟩
        have : ids0 (xs.take 0) l = List.replicate q 0 := by rw [HQL.out, ← List.map_const']; simp [ids0, idOf]
        rw [this]
        exact HI0.out
      case round =>
        clear HI0
        obtain ⟨k, hkm, rfl, hK, hI, hO⟩ := hrel
        obtain ⟨RA, rc, hrv, hrcn⟩ := own_slice hO
        have hszk := hK.size
        have hXk := hK.heap HXc.out (by omega)
        have x1 : wr.cell? ⟨w.heap.size, 1, none⟩ = some (.slice A m c) := (Lib.cell_of_heap hXk _).trans rfl
        obtain ⟨p, hp⟩ : ∃ p, p = (left (xs.take k) l).length := ⟨_, rfl⟩
        rw [← hp] at hO hrv
        subst hrv
        have HPl := Lib.hid hp
        have HK := Lib.hid hK
        have HI := Lib.hid hI
        have HO := Lib.hid hO
        clear hK hI hO hXk hp
        by_cases hlt : k < m
        ·
          obtain ⟨y, hy⟩ : ∃ y, xs[k]? = some y := ⟨_, List.getElem?_eq_getElem (by rw [← HM.out]; exact hlt)⟩
          have HY := Lib.hid hy
          obtain ⟨ad, rfl, _⟩ := id_at HR.out hy
          have hik : (0 : Int) ≤ (k : Int) ∧ (k : Int) < (m : Int) := ⟨by omega, by omega⟩
          clear hy
          go_wp2_with fail
          clear x1
          go_loopw [9, 10] (fun fv i wj => ∃ j : Nat, j ≤ q ∧ i = .int .i64 j ∧ Kp (fun y => y = gi) wc wj ∧ wj.ownsRow gi 3 1 (.slice (some ⟨gi, 0, none⟩) q q) q ((mixI xs l k j).map (Value.int .i64)) ∧ wj.ownsRow wc.heap.size 39 4 (.slice RA p rc) p (flt idC (left (xs.take k) l)) ∧ Fnd l j y.key fv) (fun _ i _ => q - (intOf i).toNat)
          case atStart =>
            refine ⟨0, by omega, rfl, HK.out, ?_, HO.out, ⟨false, rfl, by simp⟩⟩
            rw [mixI_zero]
            exact HI.out
          case round =>
            clear HK HI HO
            obtain ⟨j, hjq, rfl, hK, hI, hO, fb, rfl, hF⟩ := hrel
            have hszj := hK.size
            have HK := Lib.hid hK
            have HI := Lib.hid hI
            have HO := Lib.hid hO
            have HF := Lib.hid hF
            have hBj := kp_below HBC.out hK (by omega)
            have hXj := hK.heap HXc.out (by omega)
            clear hK hI hO hF
            by_cases hltj : j < q
            · obtain ⟨z, hz⟩ : ∃ z, l[j]? = some z := ⟨_, List.getElem?_eq_getElem (by rw [← HQL.out]; exact hltj)⟩
              have HZ := Lib.hid hz
              obtain ⟨bd, rfl, _, t0, t1, t2⟩ := it_at (HR2.out.keep (kept_below hBj)) hz
              obtain ⟨ad', e', _, a0, a1, a2, a3⟩ := id_at (HR.out.keep (kept_below hBj)) HY.out
              obtain rfl := Option.some.inj e'
              have x1 : wr.cell? ⟨w.heap.size, 1, none⟩ = some (.slice (some ad) m c) := (Lib.cell_of_heap hXj _).trans rfl
              have HC : Hid (AtCells [(⟨w.heap.size, 1, none⟩, .slice (some ad) m c), (bd.add (j * 3), sv z.md), (⟨(bd.add (j * 3)).block, (bd.add (j * 3)).off + 1, none⟩, sv z.nm), (⟨(ad.add (k * 4)).block, (ad.add (k * 4)).off + 1, none⟩, sv y.it.md), (⟨(ad.add (k * 4)).block, (ad.add (k * 4)).off + 2, none⟩, sv y.it.nm)] wr) := Lib.hid ⟨x1, t0, t1, a1, a2, trivial⟩
              have hij : (0 : Int) ≤ (j : Int) ∧ (j : Int) < (q : Int) := ⟨by omega, by omega⟩
              clear hz e' hBj hXj t0 t1 t2 a1 a2 a3
              go_wp2_with fail
              by_cases e1 : z.md = y.it.md
              · have e1' : (bs z.md).toList = (bs y.it.md).toList := by rw [e1]
                by_cases e2 : z.nm = y.it.nm
                · have e2' : (bs z.nm).toList = (bs y.it.nm).toList := by rw [e2]
                  have heq : z.key = y.key := Prod.ext e1 e2
                  have HMX := Lib.hid (mixI_set HCHK.out HY.out HZ.out heq)
                  have HFS : Hid (Fnd l (j + 1) y.key (.bool true)) := Lib.hid ⟨true, rfl, fun _ => ⟨z, List.mem_of_getElem? (i := j) (by rw [List.getElem?_take_of_lt (by omega)]; exact HZ.out), heq⟩, fun _ => rfl⟩
                  clear e1 e2 heq
                  refine wp_region_held' (AtCells [(⟨w.heap.size, 1, none⟩, .slice (some ad) m c), (bd.add (j * 3), sv z.md), (⟨(bd.add (j * 3)).block, (bd.add (j * 3)).off + 1, none⟩, sv z.nm), (⟨(ad.add (k * 4)).block, (ad.add (k * 4)).off + 1, none⟩, sv y.it.md), (⟨(ad.add (k * 4)).block, (ad.add (k * 4)).off + 2, none⟩, sv y.it.nm)]) [] [0, 1, 2, 3, 4, 5, 6, 7, 8, 9, 10, 11, 12, 13, 14, 15, 16, 17, 18, 19, 20, 21, 22, 23, 24, 25, 26, 27] [] [] (by kernel_rfl) (by kernel_rfl) ?sra ?hra
                  case sra => exact HC.out.below (Below.refl _ wr).drew
                  case hra =>
                  simp only [opsAt, List.filterMap_cons, List.filterMap_nil, List.getElem?_toArray, List.getElem?_cons_succ, List.getElem?_cons_zero]
                  refine wpFloat_nil ?_
                  refine wpLoad_step ?vra0 rfl (fun w' hS => ?yra0) ?kra0
                  case yra0 =>
                    obtain ⟨g0, g1, g2, g3, g4, _⟩ := hS
                    go_simp
                    try rfl
                  case kra0 =>
                  go_simp
                  refine wpLoad_step ?vra1 rfl (fun w' hS => ?yra1) ?kra1
                  case yra1 =>
                    obtain ⟨g0, g1, g2, g3, g4, _⟩ := hS
                    go_simp
                    try rfl
                  case kra1 =>
                  go_simp
                  refine wpLoad_step ?vra2 rfl (fun w' hS => ?yra2) ?kra2
                  case yra2 =>
                    obtain ⟨g0, g1, g2, g3, g4, _⟩ := hS
                    go_simp
                    try rfl
                  case kra2 =>
                  go_simp
                  refine wpLoad_step ?vra3 rfl (fun w' hS => ?yra3) ?kra3
                  case yra3 =>
                    obtain ⟨g0, g1, g2, g3, g4, _⟩ := hS
                    go_simp
                    try rfl
                  case kra3 =>
                  go_simp
                  refine wpLoad_step ?vra4 rfl (fun w' hS => ?yra4) ?kra4
                  case yra4 =>
                    obtain ⟨g0, g1, g2, g3, g4, _⟩ := hS
                    go_simp
                    try rfl
                  case kra4 =>
                  go_simp
                  refine wpLoad_step ?vra5 rfl (fun w' hS => ?yra5) ?kra5
                  case yra5 =>
                    obtain ⟨g0, g1, g2, g3, g4, _⟩ := hS
                    go_simp
                    try rfl
                  case kra5 =>
                  go_simp
                  refine wpLoad_step ?vra6 rfl (fun w' hS => ?yra6) ?kra6
                  case yra6 =>
                    obtain ⟨g0, g1, g2, g3, g4, _⟩ := hS
                    go_simp
                    try rfl
                  case kra6 =>
                  go_simp
                  refine wpLoad_step ?vra7 rfl (fun w' hS => ?yra7) ?kra7
                  case yra7 =>
                    obtain ⟨g0, g1, g2, g3, g4, _⟩ := hS
                    go_simp
                    try rfl
                  case kra7 =>
                  go_simp
                  refine wpLoad_step ?vra8 rfl (fun w' hS => ?yra8) ?kra8
                  case yra8 =>
                    obtain ⟨g0, g1, g2, g3, g4, _⟩ := hS
                    go_simp
                    try rfl
                  case kra8 =>
                  go_simp
                  refine wpLoad_step ?vra9 rfl (fun w' hS => ?yra9) ?kra9
                  case yra9 =>
                    obtain ⟨g0, g1, g2, g3, g4, _⟩ := hS
                    go_simp
                    try rfl
                  case kra9 =>
                  go_simp
                  refine wpLoad_step ?vra10 rfl (fun w' hS => ?yra10) ?kra10
                  case yra10 =>
                    obtain ⟨g0, g1, g2, g3, g4, _⟩ := hS
                    go_simp
                    try rfl
                  case kra10 =>
                  go_simp
                  refine wpLoad_step ?vra11 rfl (fun w' hS => ?yra11) ?kra11
                  case yra11 =>
                    obtain ⟨g0, g1, g2, g3, g4, _⟩ := hS
                    go_simp
                    try rfl
                  case kra11 =>
                  go_simp
                  refine wpLoad_step ?vra12 rfl (fun w' hS => ?yra12) ?kra12
                  case yra12 =>
                    obtain ⟨g0, g1, g2, g3, g4, _⟩ := hS
                    go_simp
                    try rfl
                  case kra12 =>
                  go_simp
                  refine wpLoad_step ?vra13 rfl (fun w' hS => ?yra13) ?kra13
                  case yra13 =>
                    obtain ⟨g0, g1, g2, g3, g4, _⟩ := hS
                    go_simp
                    try rfl
                  case kra13 =>
                  go_simp
                  refine wpLoad_step ?vra14 rfl (fun w' hS => ?yra14) ?kra14
                  case yra14 =>
                    obtain ⟨g0, g1, g2, g3, g4, _⟩ := hS
                    go_simp
                    try rfl
                  case kra14 =>
                  go_simp
                  refine wpLoad_step ?vra15 rfl (fun w' hS => ?yra15) ?kra15
                  case yra15 =>
                    obtain ⟨g0, g1, g2, g3, g4, _⟩ := hS
                    go_simp
                    try rfl
                  case kra15 =>
                  go_simp
                  refine wpLoad_step ?vra16 rfl (fun w' hS => ?yra16) ?kra16
                  case yra16 =>
                    obtain ⟨g0, g1, g2, g3, g4, _⟩ := hS
                    go_simp
                    try rfl
                  case kra16 =>
                  go_simp
                  refine wpLoad_step ?vra17 rfl (fun w' hS => ?yra17) ?kra17
                  case yra17 =>
                    obtain ⟨g0, g1, g2, g3, g4, _⟩ := hS
                    go_simp
                    try rfl
                  case kra17 =>
                  go_simp
                  refine wpLoad_step ?vra18 rfl (fun w' hS => ?yra18) ?kra18
                  case yra18 =>
                    obtain ⟨g0, g1, g2, g3, g4, _⟩ := hS
                    go_simp
                    try rfl
                  case kra18 =>
                  go_simp
                  refine wpLoad_step ?vra19 rfl (fun w' hS => ?yra19) ?kra19
                  case yra19 =>
                    obtain ⟨g0, g1, g2, g3, g4, _⟩ := hS
                    go_simp
                    try rfl
                  case kra19 =>
                  go_simp
                  refine wpLoad_step ?vra20 rfl (fun w' hS => ?yra20) ?kra20
                  case yra20 =>
                    obtain ⟨g0, g1, g2, g3, g4, _⟩ := hS
                    go_simp
                    try rfl
                  case kra20 =>
                  go_simp
                  refine wpLoad_step ?vra21 rfl (fun w' hS => ?yra21) ?kra21
                  case yra21 =>
                    obtain ⟨g0, g1, g2, g3, g4, _⟩ := hS
                    go_simp
                    try rfl
                  case kra21 =>
                  go_simp
                  refine wpLoad_step ?vra22 rfl (fun w' hS => ?yra22) ?kra22
                  case yra22 =>
                    obtain ⟨g0, g1, g2, g3, g4, _⟩ := hS
                    go_simp
                    try rfl
                  case kra22 =>
                  go_simp
                  refine wpLoad_step ?vra23 rfl (fun w' hS => ?yra23) ?kra23
                  case yra23 =>
                    obtain ⟨g0, g1, g2, g3, g4, _⟩ := hS
                    go_simp
                    try rfl
                  case kra23 =>
                  go_simp
                  refine wpLoad_step ?vra24 rfl (fun w' hS => ?yra24) ?kra24
                  case yra24 =>
                    obtain ⟨g0, g1, g2, g3, g4, _⟩ := hS
                    go_simp
                    try rfl
                  case kra24 =>
                  go_simp
                  refine wpLoad_step ?vra25 rfl (fun w' hS => ?yra25) ?kra25
                  case yra25 =>
                    obtain ⟨g0, g1, g2, g3, g4, _⟩ := hS
                    go_simp
                    try rfl
                  case kra25 =>
                  go_simp
                  refine wpLoad_step ?vra26 rfl (fun w' hS => ?yra26) ?kra26
                  case yra26 =>
                    obtain ⟨g0, g1, g2, g3, g4, _⟩ := hS
                    go_simp
                    try rfl
                  case kra26 =>
                  go_simp
                  refine wpLoad_step ?vra27 rfl (fun w' hS => ?yra27) ?kra27
                  case yra27 =>
                    obtain ⟨g0, g1, g2, g3, g4, _⟩ := hS
                    go_simp
                    try rfl
                  case kra27 =>
                  go_simp
                  refine wpLoad_nil ?_
                  refine wpKeep_nil ?_
                  have hI := (Kp.refl (fun _ => False) wr).drew.own HI.out (fun _ _ e => e.elim)
                  have i7 : wr.drew.cell? ⟨gi, j, none⟩ = ((mixI xs l k j).map (Value.int .i64))[j]? := hI.cellAt j (by omega)
                  rw [List.getElem?_map, List.getElem?_eq_getElem (by rw [mixI_len (by rw [← HQL.out]; omega), ← HQL.out]; exact hltj), Option.map_some] at i7
                  have fz := hI.frozenAt j
                  have hst := hI.stored j (.int .i64 y.id)
                  have hk8 : Kp (fun y => y = gi) wr.drew (wr.drew.setCell ⟨gi, j, none⟩ (.int .i64 y.id)) := Kp.setCell (M := fun y => y = gi) (Kp.refl _ _) (fun _ => rfl) _
                  have HI8 := Lib.hid (show (wr.drew.setCell ⟨gi, j, none⟩ (.int .i64 y.id)).ownsRow gi 3 1 (.slice (some ⟨gi, 0, none⟩) q q) q ((mixI xs l k (j + 1)).map (Value.int .i64)) by rw [← HMX.out, List.map_set]; exact hst.1)
                  have HO8 := Lib.hid (hk8.own ((Kp.refl (fun _ => False) wr).drew.own HO.out (fun _ _ e => e.elim)) (fun g hg e => by have := (HO.out.lt g hg).1; omega))
                  have HK8 := Lib.hid ((HK.out.drew).trans hk8 (fun _ _ e => e))
                  have x1' : wr.drew.cell? ⟨w.heap.size, 1, none⟩ = some (.slice (some ad) m c) := x1
                  have a0' : wr.drew.cell? (ad.add (k * 4)) = some (.int .i64 y.id) := a0
                  clear hI hst hk8 x1 a0
                  go_wp2
                  refine NoPanic.normal ?_
                  go_wp2
                  go_roundw
                  case rel => exact ⟨j + 1, by omega, by go_num, HK8.out, HI8.out, HO8.out, HFS.out⟩
                  case measure => simp [intOf]; omega
                · have e2' : ¬ (bs z.nm).toList = (bs y.it.nm).toList := fun e => e2 (by rwa [bs_toList, bs_toList] at e)
                  have e2'' : ((bs z.nm).toList == (bs y.it.nm).toList) = false := by simpa using e2'
                  have hne : z.key ≠ y.key := fun e => e2 (congrArg Prod.snd e)
                  clear e1 e2
                  refine wp_region_held' (AtCells [(⟨w.heap.size, 1, none⟩, .slice (some ad) m c), (bd.add (j * 3), sv z.md), (⟨(bd.add (j * 3)).block, (bd.add (j * 3)).off + 1, none⟩, sv z.nm), (⟨(ad.add (k * 4)).block, (ad.add (k * 4)).off + 1, none⟩, sv y.it.md), (⟨(ad.add (k * 4)).block, (ad.add (k * 4)).off + 2, none⟩, sv y.it.nm)]) [] [0, 1, 2, 3, 4, 5, 6, 7, 8, 9, 10, 11, 12, 13, 14, 15, 16, 17, 18, 19, 20, 21, 22, 23, 24, 25, 26, 27] [] [] (by kernel_rfl) (by kernel_rfl) ?srb ?hrb
                  case srb => exact HC.out.below (Below.refl _ wr).drew
                  case hrb =>
                  simp only [opsAt, List.filterMap_cons, List.filterMap_nil, List.getElem?_toArray, List.getElem?_cons_succ, List.getElem?_cons_zero]
                  refine wpFloat_nil ?_
                  refine wpLoad_step ?vrb0 rfl (fun w' hS => ?yrb0) ?krb0
                  case yrb0 =>
                    obtain ⟨g0, g1, g2, g3, g4, _⟩ := hS
                    go_simp
                    try rfl
                  case krb0 =>
                  go_simp
                  refine wpLoad_step ?vrb1 rfl (fun w' hS => ?yrb1) ?krb1
                  case yrb1 =>
                    obtain ⟨g0, g1, g2, g3, g4, _⟩ := hS
                    go_simp
                    try rfl
                  case krb1 =>
                  go_simp
                  refine wpLoad_step ?vrb2 rfl (fun w' hS => ?yrb2) ?krb2
                  case yrb2 =>
                    obtain ⟨g0, g1, g2, g3, g4, _⟩ := hS
                    go_simp
                    try rfl
                  case krb2 =>
                  go_simp
                  refine wpLoad_step ?vrb3 rfl (fun w' hS => ?yrb3) ?krb3
                  case yrb3 =>
                    obtain ⟨g0, g1, g2, g3, g4, _⟩ := hS
                    go_simp
                    try rfl
                  case krb3 =>
                  go_simp
                  refine wpLoad_step ?vrb4 rfl (fun w' hS => ?yrb4) ?krb4
                  case yrb4 =>
                    obtain ⟨g0, g1, g2, g3, g4, _⟩ := hS
                    go_simp
                    try rfl
                  case krb4 =>
                  go_simp
                  refine wpLoad_step ?vrb5 rfl (fun w' hS => ?yrb5) ?krb5
                  case yrb5 =>
                    obtain ⟨g0, g1, g2, g3, g4, _⟩ := hS
                    go_simp
                    try rfl
                  case krb5 =>
                  go_simp
                  refine wpLoad_step ?vrb6 rfl (fun w' hS => ?yrb6) ?krb6
                  case yrb6 =>
                    obtain ⟨g0, g1, g2, g3, g4, _⟩ := hS
                    go_simp
                    try rfl
                  case krb6 =>
                  go_simp
                  refine wpLoad_step ?vrb7 rfl (fun w' hS => ?yrb7) ?krb7
                  case yrb7 =>
                    obtain ⟨g0, g1, g2, g3, g4, _⟩ := hS
                    go_simp
                    try rfl
                  case krb7 =>
                  go_simp
                  refine wpLoad_step ?vrb8 rfl (fun w' hS => ?yrb8) ?krb8
                  case yrb8 =>
                    obtain ⟨g0, g1, g2, g3, g4, _⟩ := hS
                    go_simp
                    try rfl
                  case krb8 =>
                  go_simp
                  refine wpLoad_step ?vrb9 rfl (fun w' hS => ?yrb9) ?krb9
                  case yrb9 =>
                    obtain ⟨g0, g1, g2, g3, g4, _⟩ := hS
                    go_simp
                    try rfl
                  case krb9 =>
                  go_simp
                  refine wpLoad_step ?vrb10 rfl (fun w' hS => ?yrb10) ?krb10
                  case yrb10 =>
                    obtain ⟨g0, g1, g2, g3, g4, _⟩ := hS
                    go_simp
                    try rfl
                  case krb10 =>
                  go_simp
                  refine wpLoad_step ?vrb11 rfl (fun w' hS => ?yrb11) ?krb11
                  case yrb11 =>
                    obtain ⟨g0, g1, g2, g3, g4, _⟩ := hS
                    go_simp
                    try rfl
                  case krb11 =>
                  go_simp
                  refine wpLoad_step ?vrb12 rfl (fun w' hS => ?yrb12) ?krb12
                  case yrb12 =>
                    obtain ⟨g0, g1, g2, g3, g4, _⟩ := hS
                    go_simp
                    try rfl
                  case krb12 =>
                  go_simp
                  refine wpLoad_step ?vrb13 rfl (fun w' hS => ?yrb13) ?krb13
                  case yrb13 =>
                    obtain ⟨g0, g1, g2, g3, g4, _⟩ := hS
                    go_simp
                    try rfl
                  case krb13 =>
                  go_simp
                  refine wpLoad_step ?vrb14 rfl (fun w' hS => ?yrb14) ?krb14
                  case yrb14 =>
                    obtain ⟨g0, g1, g2, g3, g4, _⟩ := hS
                    go_simp
                    try rfl
                  case krb14 =>
                  go_simp
                  refine wpLoad_step ?vrb15 rfl (fun w' hS => ?yrb15) ?krb15
                  case yrb15 =>
                    obtain ⟨g0, g1, g2, g3, g4, _⟩ := hS
                    go_simp
                    try rfl
                  case krb15 =>
                  go_simp
                  refine wpLoad_step ?vrb16 rfl (fun w' hS => ?yrb16) ?krb16
                  case yrb16 =>
                    obtain ⟨g0, g1, g2, g3, g4, _⟩ := hS
                    go_simp
                    try rfl
                  case krb16 =>
                  go_simp
                  refine wpLoad_step ?vrb17 rfl (fun w' hS => ?yrb17) ?krb17
                  case yrb17 =>
                    obtain ⟨g0, g1, g2, g3, g4, _⟩ := hS
                    go_simp
                    try rfl
                  case krb17 =>
                  go_simp
                  refine wpLoad_step ?vrb18 rfl (fun w' hS => ?yrb18) ?krb18
                  case yrb18 =>
                    obtain ⟨g0, g1, g2, g3, g4, _⟩ := hS
                    go_simp
                    try rfl
                  case krb18 =>
                  go_simp
                  refine wpLoad_step ?vrb19 rfl (fun w' hS => ?yrb19) ?krb19
                  case yrb19 =>
                    obtain ⟨g0, g1, g2, g3, g4, _⟩ := hS
                    go_simp
                    try rfl
                  case krb19 =>
                  go_simp
                  refine wpLoad_step ?vrb20 rfl (fun w' hS => ?yrb20) ?krb20
                  case yrb20 =>
                    obtain ⟨g0, g1, g2, g3, g4, _⟩ := hS
                    go_simp
                    try rfl
                  case krb20 =>
                  go_simp
                  refine wpLoad_step ?vrb21 rfl (fun w' hS => ?yrb21) ?krb21
                  case yrb21 =>
                    obtain ⟨g0, g1, g2, g3, g4, _⟩ := hS
                    go_simp
                    try rfl
                  case krb21 =>
                  go_simp
                  refine wpLoad_step ?vrb22 rfl (fun w' hS => ?yrb22) ?krb22
                  case yrb22 =>
                    obtain ⟨g0, g1, g2, g3, g4, _⟩ := hS
                    go_simp
                    try rfl
                  case krb22 =>
                  go_simp
                  refine wpLoad_step ?vrb23 rfl (fun w' hS => ?yrb23) ?krb23
                  case yrb23 =>
                    obtain ⟨g0, g1, g2, g3, g4, _⟩ := hS
                    go_simp
                    try rfl
                  case krb23 =>
                  go_simp
                  refine wpLoad_step ?vrb24 rfl (fun w' hS => ?yrb24) ?krb24
                  case yrb24 =>
                    obtain ⟨g0, g1, g2, g3, g4, _⟩ := hS
                    go_simp
                    try rfl
                  case krb24 =>
                  go_simp
                  refine wpLoad_step ?vrb25 rfl (fun w' hS => ?yrb25) ?krb25
                  case yrb25 =>
                    obtain ⟨g0, g1, g2, g3, g4, _⟩ := hS
                    go_simp
                    try rfl
                  case krb25 =>
                  go_simp
                  refine wpLoad_step ?vrb26 rfl (fun w' hS => ?yrb26) ?krb26
                  case yrb26 =>
                    obtain ⟨g0, g1, g2, g3, g4, _⟩ := hS
                    go_simp
                    try rfl
                  case krb26 =>
                  go_simp
                  refine wpLoad_step ?vrb27 rfl (fun w' hS => ?yrb27) ?krb27
                  case yrb27 =>
                    obtain ⟨g0, g1, g2, g3, g4, _⟩ := hS
                    go_simp
                    try rfl
                  case krb27 =>
                  go_simp
                  refine wpLoad_nil ?_
                  refine wpKeep_nil ?_
                  have HMX := Lib.hid (mixI_skip HCHK.out HY.out HZ.out hne)
                  have hfs : Fnd l (j + 1) y.key (.bool fb) := by
                    refine ⟨fb, rfl, HF.out.trans ?_⟩
                    rw [List.take_add_one, HZ.out]
                    constructor
                    · rintro ⟨u, hu, e⟩
                      exact ⟨u, List.mem_append_left _ hu, e⟩
                    · rintro ⟨u, hu, e⟩
                      rcases List.mem_append.1 hu with hu | hu
                      · exact ⟨u, hu, e⟩
                      · simp at hu
                        subst hu
                        exact absurd e hne
                  have HFS := Lib.hid hfs
                  clear hfs hne
                  go_wp2
                  refine NoPanic.normal ?_
                  go_wp2
                  go_roundw
                  case rel =>
                    refine ⟨j + 1, by omega, by go_num, HK.out.drew, ?_, (Kp.refl (fun _ => False) wr).drew.own HO.out (fun _ _ e => e.elim), HFS.out⟩
                    rw [HMX.out]
                    exact (Kp.refl (fun _ => False) wr).drew.own HI.out (fun _ _ e => e.elim)
                  case measure => simp [intOf]; omega
              · have e1' : ¬ (bs z.md).toList = (bs y.it.md).toList := fun e => e1 (by rwa [bs_toList, bs_toList] at e)
                have e1'' : ((bs z.md).toList == (bs y.it.md).toList) = false := by simpa using e1'
                have hne : z.key ≠ y.key := fun e => e1 (congrArg Prod.fst e)
                clear e1
                refine wp_region_held' (AtCells [(⟨w.heap.size, 1, none⟩, .slice (some ad) m c), (bd.add (j * 3), sv z.md), (⟨(bd.add (j * 3)).block, (bd.add (j * 3)).off + 1, none⟩, sv z.nm), (⟨(ad.add (k * 4)).block, (ad.add (k * 4)).off + 1, none⟩, sv y.it.md), (⟨(ad.add (k * 4)).block, (ad.add (k * 4)).off + 2, none⟩, sv y.it.nm)]) [] [0, 1, 2, 3, 4, 5, 6, 7, 8, 9, 10, 11, 12, 13, 14, 15, 16, 17, 18, 19, 20, 21, 22, 23, 24, 25, 26, 27] [] [] (by kernel_rfl) (by kernel_rfl) ?src ?hrc
                case src => exact HC.out.below (Below.refl _ wr).drew
                case hrc =>
                simp only [opsAt, List.filterMap_cons, List.filterMap_nil, List.getElem?_toArray, List.getElem?_cons_succ, List.getElem?_cons_zero]
                refine wpFloat_nil ?_
                refine wpLoad_step ?vrc0 rfl (fun w' hS => ?yrc0) ?krc0
                case yrc0 =>
                  obtain ⟨g0, g1, g2, g3, g4, _⟩ := hS
                  go_simp
                  try rfl
                case krc0 =>
                go_simp
                refine wpLoad_step ?vrc1 rfl (fun w' hS => ?yrc1) ?krc1
                case yrc1 =>
                  obtain ⟨g0, g1, g2, g3, g4, _⟩ := hS
                  go_simp
                  try rfl
                case krc1 =>
                go_simp
                refine wpLoad_step ?vrc2 rfl (fun w' hS => ?yrc2) ?krc2
                case yrc2 =>
                  obtain ⟨g0, g1, g2, g3, g4, _⟩ := hS
                  go_simp
                  try rfl
                case krc2 =>
                go_simp
                refine wpLoad_step ?vrc3 rfl (fun w' hS => ?yrc3) ?krc3
                case yrc3 =>
                  obtain ⟨g0, g1, g2, g3, g4, _⟩ := hS
                  go_simp
                  try rfl
                case krc3 =>
                go_simp
                refine wpLoad_step ?vrc4 rfl (fun w' hS => ?yrc4) ?krc4
                case yrc4 =>
                  obtain ⟨g0, g1, g2, g3, g4, _⟩ := hS
                  go_simp
                  try rfl
                case krc4 =>
                go_simp
                refine wpLoad_step ?vrc5 rfl (fun w' hS => ?yrc5) ?krc5
                case yrc5 =>
                  obtain ⟨g0, g1, g2, g3, g4, _⟩ := hS
                  go_simp
                  try rfl
                case krc5 =>
                go_simp
                refine wpLoad_step ?vrc6 rfl (fun w' hS => ?yrc6) ?krc6
                case yrc6 =>
                  obtain ⟨g0, g1, g2, g3, g4, _⟩ := hS
                  go_simp
                  try rfl
                case krc6 =>
                go_simp
                refine wpLoad_step ?vrc7 rfl (fun w' hS => ?yrc7) ?krc7
                case yrc7 =>
                  obtain ⟨g0, g1, g2, g3, g4, _⟩ := hS
                  go_simp
                  try rfl
                case krc7 =>
                go_simp
                refine wpLoad_step ?vrc8 rfl (fun w' hS => ?yrc8) ?krc8
                case yrc8 =>
                  obtain ⟨g0, g1, g2, g3, g4, _⟩ := hS
                  go_simp
                  try rfl
                case krc8 =>
                go_simp
                refine wpLoad_step ?vrc9 rfl (fun w' hS => ?yrc9) ?krc9
                case yrc9 =>
                  obtain ⟨g0, g1, g2, g3, g4, _⟩ := hS
                  go_simp
                  try rfl
                case krc9 =>
                go_simp
                refine wpLoad_step ?vrc10 rfl (fun w' hS => ?yrc10) ?krc10
                case yrc10 =>
                  obtain ⟨g0, g1, g2, g3, g4, _⟩ := hS
                  go_simp
                  try rfl
                case krc10 =>
                go_simp
                refine wpLoad_step ?vrc11 rfl (fun w' hS => ?yrc11) ?krc11
                case yrc11 =>
                  obtain ⟨g0, g1, g2, g3, g4, _⟩ := hS
                  go_simp
                  try rfl
                case krc11 =>
                go_simp
                refine wpLoad_step ?vrc12 rfl (fun w' hS => ?yrc12) ?krc12
                case yrc12 =>
                  obtain ⟨g0, g1, g2, g3, g4, _⟩ := hS
                  go_simp
                  try rfl
                case krc12 =>
                go_simp
                refine wpLoad_step ?vrc13 rfl (fun w' hS => ?yrc13) ?krc13
                case yrc13 =>
                  obtain ⟨g0, g1, g2, g3, g4, _⟩ := hS
                  go_simp
                  try rfl
                case krc13 =>
                go_simp
                refine wpLoad_skip rfl ?_
                go_simp
                refine wpLoad_skip rfl ?_
                go_simp
                refine wpLoad_skip rfl ?_
                go_simp
                refine wpLoad_skip rfl ?_
                go_simp
                refine wpLoad_skip rfl ?_
                go_simp
                refine wpLoad_skip rfl ?_
                go_simp
                refine wpLoad_skip rfl ?_
                go_simp
                refine wpLoad_skip rfl ?_
                go_simp
                refine wpLoad_skip rfl ?_
                go_simp
                refine wpLoad_skip rfl ?_
                go_simp
                refine wpLoad_skip rfl ?_
                go_simp
                refine wpLoad_skip rfl ?_
                go_simp
                refine wpLoad_skip rfl ?_
                go_simp
                refine wpLoad_step ?vrc27 rfl (fun w' hS => ?yrc27) ?krc27
                case yrc27 =>
                  obtain ⟨g0, g1, g2, g3, g4, _⟩ := hS
                  go_simp
                  try rfl
                case krc27 =>
                go_simp
                refine wpLoad_nil ?_
                refine wpKeep_nil ?_
                have HMX := Lib.hid (mixI_skip HCHK.out HY.out HZ.out hne)
                have hfs : Fnd l (j + 1) y.key (.bool fb) := by
                  refine ⟨fb, rfl, HF.out.trans ?_⟩
                  rw [List.take_add_one, HZ.out]
                  constructor
                  · rintro ⟨u, hu, e⟩
                    exact ⟨u, List.mem_append_left _ hu, e⟩
                  · rintro ⟨u, hu, e⟩
                    rcases List.mem_append.1 hu with hu | hu
                    · exact ⟨u, hu, e⟩
                    · simp at hu
                      subst hu
                      exact absurd e hne
                have HFS := Lib.hid hfs
                clear hfs hne
                go_wp2
                refine NoPanic.normal ?_
                go_wp2
                go_roundw
                case rel =>
                  refine ⟨j + 1, by omega, by go_num, HK.out.drew, ?_, (Kp.refl (fun _ => False) wr).drew.own HO.out (fun _ _ e => e.elim), HFS.out⟩
                  rw [HMX.out]
                  exact (Kp.refl (fun _ => False) wr).drew.own HI.out (fun _ _ e => e.elim)
                case measure => simp [intOf]; omega
            · have hjl : j = l.length := by rw [← HQL.out]; omega
              have hfb := HF.out
              have hi1 := HI.out
              rw [hjl, mixI_end] at hi1
              rw [hjl, List.take_length] at hfb
              have hls : left (xs.take (k + 1)) l = left (xs.take k) l ++ if (∀ z ∈ l, z.key ≠ y.key) then [y] else [] := by
                rw [List.take_add_one, HY.out]
                exact left_snoc _ _ _
              have HI1 := Lib.hid hi1
              clear hi1 HF
              have hpk : p ≤ k := by
                rw [HPl.out]
                refine Nat.le_trans (List.length_filter_le _ _) ?_
                rw [List.length_take]
                omega
              cases fb with
              | true =>
                have HLS : Hid (left (xs.take (k + 1)) l = left (xs.take k) l) := Lib.hid (by
                  rw [hls, if_neg (fun h => by obtain ⟨z, hz, e⟩ := hfb.1 rfl; exact h z hz e), List.append_nil])
                clear hls hfb hjl
                go_wp2
                go_roundw
                case rel =>
                  refine ⟨k + 1, by omega, by go_num, HK.out, HI1.out, ?_⟩
                  rw [HLS.out, ← HPl.out]
                  exact HO.out
                case measure => simp [intOf]; omega
              | false =>
                have HLS : Hid (left (xs.take (k + 1)) l = left (xs.take k) l ++ [y]) := Lib.hid (by
                  rw [hls, if_pos (fun z hz e => by have := hfb.2 ⟨z, hz, e⟩; cases this)])
                clear hls hfb hjl
                obtain ⟨ad', e', _, a0, a1, a2, a3⟩ := id_at (HR.out.keep (kept_below hBj)) HY.out
                obtain rfl := Option.some.inj e'
                have x1 : wr.cell? ⟨w.heap.size, 1, none⟩ = some (.slice (some ad) m c) := (Lib.cell_of_heap hXj _).trans rfl
                clear hBj hXj e'
                go_wp2_with (at_builtin; refine wpList_append_lies _ rfl _ _ 27 rfl wc.heap.size 39 i0 _ 4 56 Try.underlying27 hi hz0 hz1 hz2 rfl (by omega) _ p (flt idC (left (xs.take k) l)) rfl (HO.out.alloc _) ⟨wr.heap.size, 0, none⟩ 1 1 (idC y) rfl rfl ?d1p ?d2p (by omega) ?d3p ?d4p ?d5p _ rfl ?_)
                case d1p => exact World.news_of_block (cs := #[.int .i64 y.id, sv y.it.md, sv y.it.nm, sv y.it.sh]) (alloc1 wr _)
                case d2p => exact idC_one y
                case d3p => unfold maxLen; omega
                case d4p => omega
                case d5p => simp; omega
                intro g cap w5 hown5 hgrow hat _
                have hmb : ∀ r, (Value.slice RA p rc).ownBlock = some r → wc.heap.size ≤ r := fun r hr => (HO.out.lt r hr).1
                have hk1 : Kp (fun _ => False) wr (wr.alloc (.cells #[.int .i64 y.id, sv y.it.md, sv y.it.nm, sv y.it.sh] 39)) := (Kp.refl _ _).alloc _
                have hk5 : Kp (fun y => wc.heap.size ≤ y) wr w5 := (hk1.more fun _ _ e => e.elim).grown hgrow (fun r hr _ => hmb r hr)
                have HK5 := Lib.hid (show Kp (fun y => y = gi) wc w5 from ⟨hk5.os.trans HK.out.os, hk5.tape.trans HK.out.tape, hk5.output.trans HK.out.output, Nat.le_trans HK.out.size hk5.size, fun b hb hm => (hk5.block b (Nat.lt_of_lt_of_le hb HK.out.size) (by omega)).trans (HK.out.block b hb hm)⟩)
                have HI5 := Lib.hid (hk5.own HI1.out (fun g hg e => by have h9 : gi = g := Option.some.inj hg; omega))
                have HO5 := Lib.hid hown5
                clear hown5 hgrow hat hmb hk1 hk5
                go_wp2
                go_roundw
                case rel =>
                  refine ⟨k + 1, by omega, by go_num, HK5.out, HI5.out, ?_⟩
                  rw [HLS.out, List.length_append, ← HPl.out, flt_append, flt_one]
                  exact HO5.out
                case measure => simp [intOf]; omega
        · have hx : xs.take k = xs := List.take_of_length_le (by rw [← HM.out]; omega)
          have hi1 := HI.out
          have ho1 := HO.out
          rw [hx] at hi1 ho1
          obtain ⟨R, hR⟩ : ∃ R, R = left xs l := ⟨_, rfl⟩
          rw [← hR] at ho1
          have hpl : p = R.length := by rw [hR, HPl.out, hx]
          have hpm : p ≤ m := by
            rw [hpl, hR, HM.out]
            exact List.length_filter_le _ _
          obtain ⟨w1, rfl⟩ : ∃ w1, w1 = wr := ⟨_, rfl⟩
          have hfr : ∀ y, y = gi → w.heap.size ≤ y := fun y e => by omega
          have HB1 := Lib.hid (kp_below HBC.out HK.out hfr)
          have HX1 := Lib.hid (HK.out.heap HXc.out (by omega))
          have HR1 := Lib.hid (HK.out.heap HRc.out (by omega))
          have HI1 := Lib.hid hi1
          have HRW : Hid (Row w1 (Fr wc.heap.size w1.heap.size) RA (flt idC R)) := Lib.hid (Row.ofOwn ho1 fun g _ h3 h4 => ⟨h3, h4⟩)
          have HRE := Lib.hid hR
          have HPE := Lib.hid hpl
          have hcw : wc.heap.size ≤ w1.heap.size := hszk
          clear HK HI HO HXc HRc HPl hx hi1 ho1 hR hpl hfr hszk
          go_wp2_with fail
          clear x1 hkm hlt
          obtain ⟨ii, hii, hy0, hy1, hy2⟩ := info_parts infoI
          obtain ⟨PV, hPV⟩ : ∃ PV, PV = (prd xs l).map (Value.int .i64) := ⟨_, rfl⟩
          have HPV := Lib.hid hPV
          clear hPV
          go_loopw [11, 12] (fun pv i wr => ∃ k : Nat, k ≤ q ∧ i = .int .i64 k ∧ Kp (fun _ => False) w1 wr ∧ wr.ownsRow w1.heap.size 3 1 pv k (PV.take k)) (fun _ i _ => q - (intOf i).toNat)
          case atStart => exact ⟨0, by omega, rfl, Kp.refl _ _, World.ownsRow_nil _ _ _ _⟩
          case round =>
            obtain ⟨k, hkq, rfl, hK, hP⟩ := hrel
            obtain ⟨PA, pc, rfl, hpcn⟩ := own_slice hP
            have hszk := hK.size
            have HK := Lib.hid hK
            have HP := Lib.hid hP
            clear hK hP
            by_cases hltk : k < q
            ·
              obtain ⟨z, hz⟩ : ∃ z, l[k]? = some z := ⟨_, List.getElem?_eq_getElem (by rw [← HQL.out]; exact hltk)⟩
              have HZ := Lib.hid hz
              have hik : (0 : Int) ≤ (k : Int) ∧ (k : Int) < (q : Int) := ⟨by omega, by omega⟩
              obtain ⟨wk, hwk⟩ : ∃ wk, wk = wr := ⟨_, rfl⟩
              have hpt : PV.take (k + 1) = PV.take k ++ [.int .i64 (if idOf xs z.key = 0 then pid xs l z.sh else 0)] := by rw [List.take_add_one, HPV.out, List.getElem?_map, prd_at hz]; rfl
              have HPT := Lib.hid hpt
              have hI := HK.out.own HI1.out (fun _ _ e => e.elim)
              have ik : wr.cell? ⟨gi, k, none⟩ = some (.int .i64 (idOf xs z.key)) := (hI.cellAt k (by omega)).trans (by rw [List.getElem?_map, ids0_at hz]; rfl)
              obtain ⟨bd, rfl, _⟩ := it_at HR2.out hz
              clear hz hpt hI hwk
              clear wk
              by_cases h0 : idOf xs z.key = 0
              · have h0b : (idOf xs z.key != 0) = false := by simpa using h0
                have HPT : Hid (PV.take (k + 1) = PV.take k ++ [.int .i64 (pid xs l z.sh)]) := Lib.hid (by rw [HPT.out, if_pos h0])
                clear h0
                go_wp2_with fail
                clear ik h0b
                go_loopw [13, 14, 16] (fun iv ov i wj => ∃ j : Nat, j ≤ p ∧ i = .int .i64 j ∧ iv = .int .i64 (lastId (oldJ R z.sh j)) ∧ ov = .int .i64 ((oldJ R z.sh j).length : Int) ∧ Kp (fun _ => False) w1 wj ∧ wj.ownsRow w1.heap.size 3 1 (.slice PA k pc) k (PV.take k)) (fun _ _ i _ => p - (intOf i).toNat)
                case atStart => exact ⟨0, by omega, rfl, by simp [oldJ, lastId], by simp [oldJ], HK.out, HP.out⟩
                case round =>
                  clear HK HP
                  obtain ⟨j, hjp, rfl, rfl, rfl, hK, hP⟩ := hrel
                  have hszj := hK.size
                  have HK := Lib.hid hK
                  have HP := Lib.hid hP
                  clear hK hP
                  obtain ⟨o, ho⟩ : ∃ o : Nat, o = (oldJ R z.sh j).length := ⟨_, rfl⟩
                  have hoj : o ≤ j := by rw [ho]; exact oldJ_le _ _ _
                  obtain ⟨li, hli⟩ : ∃ li, li = lastId (oldJ R z.sh j) := ⟨_, rfl⟩
                  rw [← ho, ← hli]
                  have HO := Lib.hid ho
                  have HLI := Lib.hid hli
                  clear ho hli
                  by_cases hltj : j < p
                  ·
                    obtain ⟨y, hy⟩ : ∃ y, R[j]? = some y := ⟨_, List.getElem?_eq_getElem (by rw [← HPE.out]; exact hltj)⟩
                    have hos := oldJ_snoc (s := z.sh) hy
                    obtain ⟨rd, hrd, _, a0, a1, a2, a3⟩ := id_at (HRW.out.keep (HK.out.kept fun b hb => ⟨hb.2, fun e => e⟩)) hy
                    subst hrd
                    obtain ⟨bd', e', _, b0, b1, b2⟩ := it_at (HR2.out.keep (kept_below (kp_below HB1.out HK.out fun _ e => e.elim))) HZ.out
                    obtain rfl := Option.some.inj e'
                    have HC : Hid (AtCells [(⟨(rd.add (j * 4)).block, (rd.add (j * 4)).off + 3, none⟩, sv y.it.sh), (⟨(bd.add (k * 3)).block, (bd.add (k * 3)).off + 2, none⟩, sv z.sh)] wr) := Lib.hid ⟨a3, b2, trivial⟩
                    have hij : (0 : Int) ≤ (j : Int) ∧ (j : Int) < (p : Int) := ⟨by omega, by omega⟩
                    have HOS := Lib.hid hos
                    clear hos hy e' a1 a2 a3 b0 b1 b2
                    go_wp2_with fail
                    by_cases e1 : y.it.sh = z.sh
                    · have e1' : (bs y.it.sh).toList = (bs z.sh).toList := by rw [e1]
                      have HS : Hid (oldJ R z.sh (j + 1) = oldJ R z.sh j ++ [y]) := Lib.hid (by rw [HOS.out, if_pos e1])
                      clear e1
                      refine wp_region_held' (AtCells [(⟨(rd.add (j * 4)).block, (rd.add (j * 4)).off + 3, none⟩, sv y.it.sh), (⟨(bd.add (k * 3)).block, (bd.add (k * 3)).off + 2, none⟩, sv z.sh)]) [] [0, 1, 2, 3, 4, 5, 6, 7, 8, 9, 10, 11] [] [] (by kernel_rfl) (by kernel_rfl) ?sta ?hta
                      case sta => exact HC.out.below (Below.refl _ wr).drew
                      case hta =>
                      simp only [opsAt, List.filterMap_cons, List.filterMap_nil, List.getElem?_toArray, List.getElem?_cons_succ, List.getElem?_cons_zero]
                      refine wpFloat_nil ?_
                      refine wpLoad_step ?vta0 rfl (fun w' hS => ?yta0) ?kta0
                      case yta0 =>
                        obtain ⟨g0, g1, _⟩ := hS
                        go_simp
                        try rfl
                      case kta0 =>
                      go_simp
                      refine wpLoad_step ?vta1 rfl (fun w' hS => ?yta1) ?kta1
                      case yta1 =>
                        obtain ⟨g0, g1, _⟩ := hS
                        go_simp
                        try rfl
                      case kta1 =>
                      go_simp
                      refine wpLoad_step ?vta2 rfl (fun w' hS => ?yta2) ?kta2
                      case yta2 =>
                        obtain ⟨g0, g1, _⟩ := hS
                        go_simp
                        try rfl
                      case kta2 =>
                      go_simp
                      refine wpLoad_step ?vta3 rfl (fun w' hS => ?yta3) ?kta3
                      case yta3 =>
                        obtain ⟨g0, g1, _⟩ := hS
                        go_simp
                        try rfl
                      case kta3 =>
                      go_simp
                      refine wpLoad_step ?vta4 rfl (fun w' hS => ?yta4) ?kta4
                      case yta4 =>
                        obtain ⟨g0, g1, _⟩ := hS
                        go_simp
                        try rfl
                      case kta4 =>
                      go_simp
                      refine wpLoad_step ?vta5 rfl (fun w' hS => ?yta5) ?kta5
                      case yta5 =>
                        obtain ⟨g0, g1, _⟩ := hS
                        go_simp
                        try rfl
                      case kta5 =>
                      go_simp
                      refine wpLoad_step ?vta6 rfl (fun w' hS => ?yta6) ?kta6
                      case yta6 =>
                        obtain ⟨g0, g1, _⟩ := hS
                        go_simp
                        try rfl
                      case kta6 =>
                      go_simp
                      refine wpLoad_step ?vta7 rfl (fun w' hS => ?yta7) ?kta7
                      case yta7 =>
                        obtain ⟨g0, g1, _⟩ := hS
                        go_simp
                        try rfl
                      case kta7 =>
                      go_simp
                      refine wpLoad_step ?vta8 rfl (fun w' hS => ?yta8) ?kta8
                      case yta8 =>
                        obtain ⟨g0, g1, _⟩ := hS
                        go_simp
                        try rfl
                      case kta8 =>
                      go_simp
                      refine wpLoad_step ?vta9 rfl (fun w' hS => ?yta9) ?kta9
                      case yta9 =>
                        obtain ⟨g0, g1, _⟩ := hS
                        go_simp
                        try rfl
                      case kta9 =>
                      go_simp
                      refine wpLoad_step ?vta10 rfl (fun w' hS => ?yta10) ?kta10
                      case yta10 =>
                        obtain ⟨g0, g1, _⟩ := hS
                        go_simp
                        try rfl
                      case kta10 =>
                      go_simp
                      refine wpLoad_step ?vta11 rfl (fun w' hS => ?yta11) ?kta11
                      case yta11 =>
                        obtain ⟨g0, g1, _⟩ := hS
                        go_simp
                        try rfl
                      case kta11 =>
                      go_simp
                      refine wpLoad_nil ?_
                      refine wpKeep_nil ?_
                      have a0' : wr.drew.cell? (rd.add (j * 4)) = some (.int .i64 y.id) := a0
                      clear a0
                      go_wp2
                      refine NoPanic.normal ?_
                      go_wp2
                      go_roundw
                      case rel => exact ⟨j + 1, by omega, by go_num, by rw [HS.out, lastId_snoc], by rw [HS.out, List.length_append, ← HO.out]; go_num, HK.out.drew, (Kp.refl (fun _ => False) wr).drew.own HP.out (fun _ _ e => e.elim)⟩
                      case measure => simp [intOf]; omega
                    · have e1' : ¬ (bs y.it.sh).toList = (bs z.sh).toList := fun e => e1 (by rwa [bs_toList, bs_toList] at e)
                      have e1'' : ((bs y.it.sh).toList == (bs z.sh).toList) = false := by simpa using e1'
                      have HS : Hid (oldJ R z.sh (j + 1) = oldJ R z.sh j) := Lib.hid (by rw [HOS.out, if_neg e1, List.append_nil])
                      clear e1
                      refine wp_region_held' (AtCells [(⟨(rd.add (j * 4)).block, (rd.add (j * 4)).off + 3, none⟩, sv y.it.sh), (⟨(bd.add (k * 3)).block, (bd.add (k * 3)).off + 2, none⟩, sv z.sh)]) [] [0, 1, 2, 3, 4, 5, 6, 7, 8, 9, 10, 11] [] [] (by kernel_rfl) (by kernel_rfl) ?stb ?htb
                      case stb => exact HC.out.below (Below.refl _ wr).drew
                      case htb =>
                      simp only [opsAt, List.filterMap_cons, List.filterMap_nil, List.getElem?_toArray, List.getElem?_cons_succ, List.getElem?_cons_zero]
                      refine wpFloat_nil ?_
                      refine wpLoad_step ?vtb0 rfl (fun w' hS => ?ytb0) ?ktb0
                      case ytb0 =>
                        obtain ⟨g0, g1, _⟩ := hS
                        go_simp
                        try rfl
                      case ktb0 =>
                      go_simp
                      refine wpLoad_step ?vtb1 rfl (fun w' hS => ?ytb1) ?ktb1
                      case ytb1 =>
                        obtain ⟨g0, g1, _⟩ := hS
                        go_simp
                        try rfl
                      case ktb1 =>
                      go_simp
                      refine wpLoad_step ?vtb2 rfl (fun w' hS => ?ytb2) ?ktb2
                      case ytb2 =>
                        obtain ⟨g0, g1, _⟩ := hS
                        go_simp
                        try rfl
                      case ktb2 =>
                      go_simp
                      refine wpLoad_step ?vtb3 rfl (fun w' hS => ?ytb3) ?ktb3
                      case ytb3 =>
                        obtain ⟨g0, g1, _⟩ := hS
                        go_simp
                        try rfl
                      case ktb3 =>
                      go_simp
                      refine wpLoad_step ?vtb4 rfl (fun w' hS => ?ytb4) ?ktb4
                      case ytb4 =>
                        obtain ⟨g0, g1, _⟩ := hS
                        go_simp
                        try rfl
                      case ktb4 =>
                      go_simp
                      refine wpLoad_step ?vtb5 rfl (fun w' hS => ?ytb5) ?ktb5
                      case ytb5 =>
                        obtain ⟨g0, g1, _⟩ := hS
                        go_simp
                        try rfl
                      case ktb5 =>
                      go_simp
                      refine wpLoad_step ?vtb6 rfl (fun w' hS => ?ytb6) ?ktb6
                      case ytb6 =>
                        obtain ⟨g0, g1, _⟩ := hS
                        go_simp
                        try rfl
                      case ktb6 =>
                      go_simp
                      refine wpLoad_step ?vtb7 rfl (fun w' hS => ?ytb7) ?ktb7
                      case ytb7 =>
                        obtain ⟨g0, g1, _⟩ := hS
                        go_simp
                        try rfl
                      case ktb7 =>
                      go_simp
                      refine wpLoad_step ?vtb8 rfl (fun w' hS => ?ytb8) ?ktb8
                      case ytb8 =>
                        obtain ⟨g0, g1, _⟩ := hS
                        go_simp
                        try rfl
                      case ktb8 =>
                      go_simp
                      refine wpLoad_step ?vtb9 rfl (fun w' hS => ?ytb9) ?ktb9
                      case ytb9 =>
                        obtain ⟨g0, g1, _⟩ := hS
                        go_simp
                        try rfl
                      case ktb9 =>
                      go_simp
                      refine wpLoad_step ?vtb10 rfl (fun w' hS => ?ytb10) ?ktb10
                      case ytb10 =>
                        obtain ⟨g0, g1, _⟩ := hS
                        go_simp
                        try rfl
                      case ktb10 =>
                      go_simp
                      refine wpLoad_step ?vtb11 rfl (fun w' hS => ?ytb11) ?ktb11
                      case ytb11 =>
                        obtain ⟨g0, g1, _⟩ := hS
                        go_simp
                        try rfl
                      case ktb11 =>
                      go_simp
                      refine wpLoad_nil ?_
                      refine wpKeep_nil ?_
                      go_wp2
                      refine NoPanic.normal ?_
                      go_wp2
                      go_roundw
                      case rel => exact ⟨j + 1, by omega, by go_num, by rw [HS.out, ← HLI.out], by rw [HS.out, ← HO.out], HK.out.drew, (Kp.refl (fun _ => False) wr).drew.own HP.out (fun _ _ e => e.elim)⟩
                      case measure => simp [intOf]; omega
                  · have hjp' : j = p := by omega
                    subst hjp'
                    have HPI : Hid (∀ nw : Nat, nw = newJ xs l z.sh q → pid xs l z.sh = if o = 1 ∧ nw = 1 then li else 0) := Lib.hid (fun nw hnw => by
                      rw [pid_of, ← HRE.out, ← HPE.out, ← HQL.out, ← hnw, ← HO.out, ← HLI.out])
                    clear HO HLI
                    go_wp2_with fail
                    go_loopw [15, 17] (fun nv i wj => ∃ j : Nat, j ≤ q ∧ i = .int .i64 j ∧ nv = .int .i64 (newJ xs l z.sh j : Int) ∧ Kp (fun _ => False) w1 wj ∧ wj.ownsRow w1.heap.size 3 1 (.slice PA k pc) k (PV.take k)) (fun _ i _ => q - (intOf i).toNat)
                    case atStart => exact ⟨0, by omega, rfl, by simp [newJ], HK.out, HP.out⟩
                    case round =>
                      clear HK HP
                      clear hszj
                      obtain ⟨j, hjq, rfl, rfl, hK, hP⟩ := hrel
                      have hszj := hK.size
                      have HK := Lib.hid hK
                      have HP := Lib.hid hP
                      clear hK hP
                      obtain ⟨nw, hnw⟩ : ∃ nw : Nat, nw = newJ xs l z.sh j := ⟨_, rfl⟩
                      have hnj : nw ≤ j := by rw [hnw]; exact newJ_le _ _ _ _
                      rw [← hnw]
                      have HN := Lib.hid hnw
                      clear hnw
                      by_cases hltq : j < q
                      · obtain ⟨u, hu⟩ : ∃ u, l[j]? = some u := ⟨_, List.getElem?_eq_getElem (by rw [← HQL.out]; exact hltq)⟩
                        have hns := newJ_snoc (xs := xs) (s := z.sh) hu
                        have hI := HK.out.own HI1.out (fun _ _ e => e.elim)
                        have ij : wr.cell? ⟨gi, j, none⟩ = some (.int .i64 (idOf xs u.key)) := (hI.cellAt j (by omega)).trans (by rw [List.getElem?_map, ids0_at hu]; rfl)
                        have hrow2 := HR2.out.keep (kept_below (kp_below HB1.out HK.out fun _ e => e.elim))
                        obtain ⟨bd', e', _, b0, b1, b2⟩ := it_at hrow2 HZ.out
                        obtain rfl := Option.some.inj e'
                        obtain ⟨bd', e', _, v0, v1, v2⟩ := it_at hrow2 hu
                        obtain rfl := Option.some.inj e'
                        have HC : Hid (AtCells [(⟨gi, j, none⟩, .int .i64 (idOf xs u.key)), (⟨(bd.add (j * 3)).block, (bd.add (j * 3)).off + 2, none⟩, sv u.sh), (⟨(bd.add (k * 3)).block, (bd.add (k * 3)).off + 2, none⟩, sv z.sh)] wr) := Lib.hid ⟨ij, v2, b2, trivial⟩
                        have hij : (0 : Int) ≤ (j : Int) ∧ (j : Int) < (q : Int) := ⟨by omega, by omega⟩
                        have HNS := Lib.hid hns
                        clear hns hu hI ij hrow2 e' b0 b1 b2 v0 v1 v2
                        go_wp2_with fail
                        by_cases h0 : idOf xs u.key = 0
                        · have h0b : (idOf xs u.key == 0) = true := by simpa using h0
                          by_cases e1 : u.sh = z.sh
                          · have e1' : (bs u.sh).toList = (bs z.sh).toList := by rw [e1]
                            have HS : Hid (newJ xs l z.sh (j + 1) = nw + 1) := Lib.hid (by rw [HNS.out, if_pos ⟨h0, e1⟩, ← HN.out])
                            clear e1 h0
                            refine wp_region_held' (AtCells [(⟨gi, j, none⟩, .int .i64 (idOf xs u.key)), (⟨(bd.add (j * 3)).block, (bd.add (j * 3)).off + 2, none⟩, sv u.sh), (⟨(bd.add (k * 3)).block, (bd.add (k * 3)).off + 2, none⟩, sv z.sh)]) [] [0, 1, 2, 3, 4, 5, 6, 7, 8, 9, 10, 11, 12, 13, 14, 15, 16, 17] [] [] (by kernel_rfl) (by kernel_rfl) ?sna ?hna
                            case sna => exact HC.out.below (Below.refl _ wr).drew
                            case hna =>
                            simp only [opsAt, List.filterMap_cons, List.filterMap_nil, List.getElem?_toArray, List.getElem?_cons_succ, List.getElem?_cons_zero]
                            refine wpFloat_nil ?_
                            refine wpLoad_step ?vna0 rfl (fun w' hS => ?yna0) ?kna0
                            case yna0 =>
                              obtain ⟨g0, g1, g2, _⟩ := hS
                              go_simp
                              try rfl
                            case kna0 =>
                            go_simp
                            refine wpLoad_step ?vna1 rfl (fun w' hS => ?yna1) ?kna1
                            case yna1 =>
                              obtain ⟨g0, g1, g2, _⟩ := hS
                              go_simp
                              try rfl
                            case kna1 =>
                            go_simp
                            refine wpLoad_step ?vna2 rfl (fun w' hS => ?yna2) ?kna2
                            case yna2 =>
                              obtain ⟨g0, g1, g2, _⟩ := hS
                              go_simp
                              try rfl
                            case kna2 =>
                            go_simp
                            refine wpLoad_step ?vna3 rfl (fun w' hS => ?yna3) ?kna3
                            case yna3 =>
                              obtain ⟨g0, g1, g2, _⟩ := hS
                              go_simp
                              try rfl
                            case kna3 =>
                            go_simp
                            refine wpLoad_step ?vna4 rfl (fun w' hS => ?yna4) ?kna4
                            case yna4 =>
                              obtain ⟨g0, g1, g2, _⟩ := hS
                              go_simp
                              try rfl
                            case kna4 =>
                            go_simp
                            refine wpLoad_step ?vna5 rfl (fun w' hS => ?yna5) ?kna5
                            case yna5 =>
                              obtain ⟨g0, g1, g2, _⟩ := hS
                              go_simp
                              try rfl
                            case kna5 =>
                            go_simp
                            refine wpLoad_step ?vna6 rfl (fun w' hS => ?yna6) ?kna6
                            case yna6 =>
                              obtain ⟨g0, g1, g2, _⟩ := hS
                              go_simp
                              try rfl
                            case kna6 =>
                            go_simp
                            refine wpLoad_step ?vna7 rfl (fun w' hS => ?yna7) ?kna7
                            case yna7 =>
                              obtain ⟨g0, g1, g2, _⟩ := hS
                              go_simp
                              try rfl
                            case kna7 =>
                            go_simp
                            refine wpLoad_step ?vna8 rfl (fun w' hS => ?yna8) ?kna8
                            case yna8 =>
                              obtain ⟨g0, g1, g2, _⟩ := hS
                              go_simp
                              try rfl
                            case kna8 =>
                            go_simp
                            refine wpLoad_step ?vna9 rfl (fun w' hS => ?yna9) ?kna9
                            case yna9 =>
                              obtain ⟨g0, g1, g2, _⟩ := hS
                              go_simp
                              try rfl
                            case kna9 =>
                            go_simp
                            refine wpLoad_step ?vna10 rfl (fun w' hS => ?yna10) ?kna10
                            case yna10 =>
                              obtain ⟨g0, g1, g2, _⟩ := hS
                              go_simp
                              try rfl
                            case kna10 =>
                            go_simp
                            refine wpLoad_step ?vna11 rfl (fun w' hS => ?yna11) ?kna11
                            case yna11 =>
                              obtain ⟨g0, g1, g2, _⟩ := hS
                              go_simp
                              try rfl
                            case kna11 =>
                            go_simp
                            refine wpLoad_step ?vna12 rfl (fun w' hS => ?yna12) ?kna12
                            case yna12 =>
                              obtain ⟨g0, g1, g2, _⟩ := hS
                              go_simp
                              try rfl
                            case kna12 =>
                            go_simp
                            refine wpLoad_step ?vna13 rfl (fun w' hS => ?yna13) ?kna13
                            case yna13 =>
                              obtain ⟨g0, g1, g2, _⟩ := hS
                              go_simp
                              try rfl
                            case kna13 =>
                            go_simp
                            refine wpLoad_step ?vna14 rfl (fun w' hS => ?yna14) ?kna14
                            case yna14 =>
                              obtain ⟨g0, g1, g2, _⟩ := hS
                              go_simp
                              try rfl
                            case kna14 =>
                            go_simp
                            refine wpLoad_step ?vna15 rfl (fun w' hS => ?yna15) ?kna15
                            case yna15 =>
                              obtain ⟨g0, g1, g2, _⟩ := hS
                              go_simp
                              try rfl
                            case kna15 =>
                            go_simp
                            refine wpLoad_step ?vna16 rfl (fun w' hS => ?yna16) ?kna16
                            case yna16 =>
                              obtain ⟨g0, g1, g2, _⟩ := hS
                              go_simp
                              try rfl
                            case kna16 =>
                            go_simp
                            refine wpLoad_step ?vna17 rfl (fun w' hS => ?yna17) ?kna17
                            case yna17 =>
                              obtain ⟨g0, g1, g2, _⟩ := hS
                              go_simp
                              try rfl
                            case kna17 =>
                            go_simp
                            refine wpLoad_nil ?_
                            refine wpKeep_nil ?_
                            go_wp2
                            refine NoPanic.normal ?_
                            go_wp2
                            go_roundw
                            case rel => exact ⟨j + 1, by omega, by go_num, by rw [HS.out]; go_num, HK.out.drew, (Kp.refl (fun _ => False) wr).drew.own HP.out (fun _ _ e => e.elim)⟩
                            case measure => simp [intOf]; omega
                          · have e1' : ¬ (bs u.sh).toList = (bs z.sh).toList := fun e => e1 (by rwa [bs_toList, bs_toList] at e)
                            have e1'' : ((bs u.sh).toList == (bs z.sh).toList) = false := by simpa using e1'
                            have HS : Hid (newJ xs l z.sh (j + 1) = newJ xs l z.sh j) := Lib.hid (by rw [HNS.out, if_neg (fun h => e1 h.2), Nat.add_zero])
                            clear e1 h0
                            refine wp_region_held' (AtCells [(⟨gi, j, none⟩, .int .i64 (idOf xs u.key)), (⟨(bd.add (j * 3)).block, (bd.add (j * 3)).off + 2, none⟩, sv u.sh), (⟨(bd.add (k * 3)).block, (bd.add (k * 3)).off + 2, none⟩, sv z.sh)]) [] [0, 1, 2, 3, 4, 5, 6, 7, 8, 9, 10, 11, 12, 13, 14, 15, 16, 17] [] [] (by kernel_rfl) (by kernel_rfl) ?snb ?hnb
                            case snb => exact HC.out.below (Below.refl _ wr).drew
                            case hnb =>
                            simp only [opsAt, List.filterMap_cons, List.filterMap_nil, List.getElem?_toArray, List.getElem?_cons_succ, List.getElem?_cons_zero]
                            refine wpFloat_nil ?_
                            refine wpLoad_step ?vnb0 rfl (fun w' hS => ?ynb0) ?knb0
                            case ynb0 =>
                              obtain ⟨g0, g1, g2, _⟩ := hS
                              go_simp
                              try rfl
                            case knb0 =>
                            go_simp
                            refine wpLoad_step ?vnb1 rfl (fun w' hS => ?ynb1) ?knb1
                            case ynb1 =>
                              obtain ⟨g0, g1, g2, _⟩ := hS
                              go_simp
                              try rfl
                            case knb1 =>
                            go_simp
                            refine wpLoad_step ?vnb2 rfl (fun w' hS => ?ynb2) ?knb2
                            case ynb2 =>
                              obtain ⟨g0, g1, g2, _⟩ := hS
                              go_simp
                              try rfl
                            case knb2 =>
                            go_simp
                            refine wpLoad_step ?vnb3 rfl (fun w' hS => ?ynb3) ?knb3
                            case ynb3 =>
                              obtain ⟨g0, g1, g2, _⟩ := hS
                              go_simp
                              try rfl
                            case knb3 =>
                            go_simp
                            refine wpLoad_step ?vnb4 rfl (fun w' hS => ?ynb4) ?knb4
                            case ynb4 =>
                              obtain ⟨g0, g1, g2, _⟩ := hS
                              go_simp
                              try rfl
                            case knb4 =>
                            go_simp
                            refine wpLoad_step ?vnb5 rfl (fun w' hS => ?ynb5) ?knb5
                            case ynb5 =>
                              obtain ⟨g0, g1, g2, _⟩ := hS
                              go_simp
                              try rfl
                            case knb5 =>
                            go_simp
                            refine wpLoad_step ?vnb6 rfl (fun w' hS => ?ynb6) ?knb6
                            case ynb6 =>
                              obtain ⟨g0, g1, g2, _⟩ := hS
                              go_simp
                              try rfl
                            case knb6 =>
                            go_simp
                            refine wpLoad_step ?vnb7 rfl (fun w' hS => ?ynb7) ?knb7
                            case ynb7 =>
                              obtain ⟨g0, g1, g2, _⟩ := hS
                              go_simp
                              try rfl
                            case knb7 =>
                            go_simp
                            refine wpLoad_step ?vnb8 rfl (fun w' hS => ?ynb8) ?knb8
                            case ynb8 =>
                              obtain ⟨g0, g1, g2, _⟩ := hS
                              go_simp
                              try rfl
                            case knb8 =>
                            go_simp
                            refine wpLoad_step ?vnb9 rfl (fun w' hS => ?ynb9) ?knb9
                            case ynb9 =>
                              obtain ⟨g0, g1, g2, _⟩ := hS
                              go_simp
                              try rfl
                            case knb9 =>
                            go_simp
                            refine wpLoad_step ?vnb10 rfl (fun w' hS => ?ynb10) ?knb10
                            case ynb10 =>
                              obtain ⟨g0, g1, g2, _⟩ := hS
                              go_simp
                              try rfl
                            case knb10 =>
                            go_simp
                            refine wpLoad_step ?vnb11 rfl (fun w' hS => ?ynb11) ?knb11
                            case ynb11 =>
                              obtain ⟨g0, g1, g2, _⟩ := hS
                              go_simp
                              try rfl
                            case knb11 =>
                            go_simp
                            refine wpLoad_step ?vnb12 rfl (fun w' hS => ?ynb12) ?knb12
                            case ynb12 =>
                              obtain ⟨g0, g1, g2, _⟩ := hS
                              go_simp
                              try rfl
                            case knb12 =>
                            go_simp
                            refine wpLoad_step ?vnb13 rfl (fun w' hS => ?ynb13) ?knb13
                            case ynb13 =>
                              obtain ⟨g0, g1, g2, _⟩ := hS
                              go_simp
                              try rfl
                            case knb13 =>
                            go_simp
                            refine wpLoad_step ?vnb14 rfl (fun w' hS => ?ynb14) ?knb14
                            case ynb14 =>
                              obtain ⟨g0, g1, g2, _⟩ := hS
                              go_simp
                              try rfl
                            case knb14 =>
                            go_simp
                            refine wpLoad_step ?vnb15 rfl (fun w' hS => ?ynb15) ?knb15
                            case ynb15 =>
                              obtain ⟨g0, g1, g2, _⟩ := hS
                              go_simp
                              try rfl
                            case knb15 =>
                            go_simp
                            refine wpLoad_step ?vnb16 rfl (fun w' hS => ?ynb16) ?knb16
                            case ynb16 =>
                              obtain ⟨g0, g1, g2, _⟩ := hS
                              go_simp
                              try rfl
                            case knb16 =>
                            go_simp
                            refine wpLoad_step ?vnb17 rfl (fun w' hS => ?ynb17) ?knb17
                            case ynb17 =>
                              obtain ⟨g0, g1, g2, _⟩ := hS
                              go_simp
                              try rfl
                            case knb17 =>
                            go_simp
                            refine wpLoad_nil ?_
                            refine wpKeep_nil ?_
                            go_wp2
                            refine NoPanic.normal ?_
                            go_wp2
                            go_roundw
                            case rel => exact ⟨j + 1, by omega, by go_num, by rw [HS.out, ← HN.out], HK.out.drew, (Kp.refl (fun _ => False) wr).drew.own HP.out (fun _ _ e => e.elim)⟩
                            case measure => simp [intOf]; omega
                        · have h0b : (idOf xs u.key == 0) = false := by simpa using h0
                          have HS : Hid (newJ xs l z.sh (j + 1) = newJ xs l z.sh j) := Lib.hid (by rw [HNS.out, if_neg (fun h => h0 h.1), Nat.add_zero])
                          clear h0
                          refine wp_region_held' (AtCells [(⟨gi, j, none⟩, .int .i64 (idOf xs u.key)), (⟨(bd.add (j * 3)).block, (bd.add (j * 3)).off + 2, none⟩, sv u.sh), (⟨(bd.add (k * 3)).block, (bd.add (k * 3)).off + 2, none⟩, sv z.sh)]) [] [0, 1, 2, 3, 4, 5, 6, 7, 8, 9, 10, 11, 12, 13, 14, 15, 16, 17] [] [] (by kernel_rfl) (by kernel_rfl) ?snc ?hnc
                          case snc => exact HC.out.below (Below.refl _ wr).drew
                          case hnc =>
                          simp only [opsAt, List.filterMap_cons, List.filterMap_nil, List.getElem?_toArray, List.getElem?_cons_succ, List.getElem?_cons_zero]
                          refine wpFloat_nil ?_
                          refine wpLoad_step ?vnc0 rfl (fun w' hS => ?ync0) ?knc0
                          case ync0 =>
                            obtain ⟨g0, g1, g2, _⟩ := hS
                            go_simp
                            try rfl
                          case knc0 =>
                          go_simp
                          refine wpLoad_step ?vnc1 rfl (fun w' hS => ?ync1) ?knc1
                          case ync1 =>
                            obtain ⟨g0, g1, g2, _⟩ := hS
                            go_simp
                            try rfl
                          case knc1 =>
                          go_simp
                          refine wpLoad_step ?vnc2 rfl (fun w' hS => ?ync2) ?knc2
                          case ync2 =>
                            obtain ⟨g0, g1, g2, _⟩ := hS
                            go_simp
                            try rfl
                          case knc2 =>
                          go_simp
                          refine wpLoad_step ?vnc3 rfl (fun w' hS => ?ync3) ?knc3
                          case ync3 =>
                            obtain ⟨g0, g1, g2, _⟩ := hS
                            go_simp
                            try rfl
                          case knc3 =>
                          go_simp
                          refine wpLoad_step ?vnc4 rfl (fun w' hS => ?ync4) ?knc4
                          case ync4 =>
                            obtain ⟨g0, g1, g2, _⟩ := hS
                            go_simp
                            try rfl
                          case knc4 =>
                          go_simp
                          refine wpLoad_step ?vnc5 rfl (fun w' hS => ?ync5) ?knc5
                          case ync5 =>
                            obtain ⟨g0, g1, g2, _⟩ := hS
                            go_simp
                            try rfl
                          case knc5 =>
                          go_simp
                          refine wpLoad_skip rfl ?_
                          go_simp
                          refine wpLoad_skip rfl ?_
                          go_simp
                          refine wpLoad_skip rfl ?_
                          go_simp
                          refine wpLoad_skip rfl ?_
                          go_simp
                          refine wpLoad_skip rfl ?_
                          go_simp
                          refine wpLoad_skip rfl ?_
                          go_simp
                          refine wpLoad_skip rfl ?_
                          go_simp
                          refine wpLoad_skip rfl ?_
                          go_simp
                          refine wpLoad_skip rfl ?_
                          go_simp
                          refine wpLoad_skip rfl ?_
                          go_simp
                          refine wpLoad_skip rfl ?_
                          go_simp
                          refine wpLoad_step ?vnc17 rfl (fun w' hS => ?ync17) ?knc17
                          case ync17 =>
                            obtain ⟨g0, g1, g2, _⟩ := hS
                            go_simp
                            try rfl
                          case knc17 =>
                          go_simp
                          refine wpLoad_nil ?_
                          refine wpKeep_nil ?_
                          go_wp2
                          refine NoPanic.normal ?_
                          go_wp2
                          go_roundw
                          case rel => exact ⟨j + 1, by omega, by go_num, by rw [HS.out, ← HN.out], HK.out.drew, (Kp.refl (fun _ => False) wr).drew.own HP.out (fun _ _ e => e.elim)⟩
                          case measure => simp [intOf]; omega
                      · have hje : j = q := by omega
                        subst hje
                        have hpi := HPI.out nw HN.out
                        by_cases ho1 : o = 1
                        · by_cases hn1 : nw = 1
                          · have HPT : Hid (PV.take (k + 1) = PV.take k ++ [.int .i64 li]) := Lib.hid (by rw [HPT.out, hpi, if_pos ⟨ho1, hn1⟩])
                            have hob : ((o : Int) != 1) = false := by simp; omega
                            have hnb : ((nw : Int) != 1) = false := by simp; omega
                            clear hpi ho1 hn1
                            go_wp2_with (at_builtin; refine wpList_append_lies _ rfl _ _ 22 rfl w1.heap.size 3 ii _ 1 8 Try.underlying22 hii hy0 hy1 hy2 rfl (by omega) _ k (PV.take k) rfl (HP.out.alloc _) ⟨wr.heap.size, 0, none⟩ 1 1 [.int .i64 li] rfl rfl ?d1x ?d2x (by omega) ?d3x ?d4x ?d5x _ rfl ?_)
                            case d1x => exact World.news_of_block (cs := #[.int .i64 li]) (alloc1 wr _)
                            case d2x => intro v hv; simp at hv; subst hv; rfl
                            case d3x => unfold maxLen; omega
                            case d4x => omega
                            case d5x => simp; omega
                            intro g cap w5 hown5 hgrow hat _
                            have hmb : ∀ r, (Value.slice PA k pc).ownBlock = some r → w1.heap.size ≤ r := fun r hr => (HP.out.lt r hr).1
                            have hk5 : Kp (fun y => w1.heap.size ≤ y) wr w5 := ((Kp.refl (fun y => w1.heap.size ≤ y) wr).alloc _).grown hgrow (fun r hr _ => hmb r hr)
                            have HK5 := Lib.hid (show Kp (fun _ => False) w1 w5 from ⟨hk5.os.trans HK.out.os, hk5.tape.trans HK.out.tape, hk5.output.trans HK.out.output, Nat.le_trans HK.out.size hk5.size, fun b hb hm => (hk5.block b (Nat.lt_of_lt_of_le hb HK.out.size) (by omega)).trans (HK.out.block b hb hm)⟩)
                            have HO5 := Lib.hid hown5
                            clear hown5 hgrow hat hmb hk5
                            go_wp2
                            go_roundw
                            case rel =>
                              refine ⟨k + 1, by omega, by go_num, HK5.out, ?_⟩
                              rw [HPT.out]
                              exact HO5.out
                            case measure => simp [intOf]; omega
                          · have HPT : Hid (PV.take (k + 1) = PV.take k ++ [.int .i64 0]) := Lib.hid (by rw [HPT.out, hpi, if_neg (fun h => hn1 h.2)])
                            have hob : ((o : Int) != 1) = false := by simp; omega
                            have hnb : ((nw : Int) != 1) = true := by simp; omega
                            clear hpi ho1 hn1
                            go_wp2_with (at_builtin; refine wpList_append_lies _ rfl _ _ 22 rfl w1.heap.size 3 ii _ 1 8 Try.underlying22 hii hy0 hy1 hy2 rfl (by omega) _ k (PV.take k) rfl (HP.out.alloc _) ⟨wr.heap.size, 0, none⟩ 1 1 [.int .i64 0] rfl rfl ?d1y ?d2y (by omega) ?d3y ?d4y ?d5y _ rfl ?_)
                            case d1y => exact World.news_of_block (cs := #[.int .i64 0]) (alloc1 wr _)
                            case d2y => intro v hv; simp at hv; subst hv; rfl
                            case d3y => unfold maxLen; omega
                            case d4y => omega
                            case d5y => simp; omega
                            intro g cap w5 hown5 hgrow hat _
                            have hmb : ∀ r, (Value.slice PA k pc).ownBlock = some r → w1.heap.size ≤ r := fun r hr => (HP.out.lt r hr).1
                            have hk5 : Kp (fun y => w1.heap.size ≤ y) wr w5 := ((Kp.refl (fun y => w1.heap.size ≤ y) wr).alloc _).grown hgrow (fun r hr _ => hmb r hr)
                            have HK5 := Lib.hid (show Kp (fun _ => False) w1 w5 from ⟨hk5.os.trans HK.out.os, hk5.tape.trans HK.out.tape, hk5.output.trans HK.out.output, Nat.le_trans HK.out.size hk5.size, fun b hb hm => (hk5.block b (Nat.lt_of_lt_of_le hb HK.out.size) (by omega)).trans (HK.out.block b hb hm)⟩)
                            have HO5 := Lib.hid hown5
                            clear hown5 hgrow hat hmb hk5
                            go_wp2
                            go_roundw
                            case rel =>
                              refine ⟨k + 1, by omega, by go_num, HK5.out, ?_⟩
                              rw [HPT.out]
                              exact HO5.out
                            case measure => simp [intOf]; omega
                        · have HPT : Hid (PV.take (k + 1) = PV.take k ++ [.int .i64 0]) := Lib.hid (by rw [HPT.out, hpi, if_neg (fun h => ho1 h.1)])
                          have hob : ((o : Int) != 1) = true := by simp; omega
                          clear hpi ho1
                          go_wp2_with (at_builtin; refine wpList_append_lies _ rfl _ _ 22 rfl w1.heap.size 3 ii _ 1 8 Try.underlying22 hii hy0 hy1 hy2 rfl (by omega) _ k (PV.take k) rfl (HP.out.alloc _) ⟨wr.heap.size, 0, none⟩ 1 1 [.int .i64 0] rfl rfl ?d1z ?d2z (by omega) ?d3z ?d4z ?d5z _ rfl ?_)
                          case d1z => exact World.news_of_block (cs := #[.int .i64 0]) (alloc1 wr _)
                          case d2z => intro v hv; simp at hv; subst hv; rfl
                          case d3z => unfold maxLen; omega
                          case d4z => omega
                          case d5z => simp; omega
                          intro g cap w5 hown5 hgrow hat _
                          have hmb : ∀ r, (Value.slice PA k pc).ownBlock = some r → w1.heap.size ≤ r := fun r hr => (HP.out.lt r hr).1
                          have hk5 : Kp (fun y => w1.heap.size ≤ y) wr w5 := ((Kp.refl (fun y => w1.heap.size ≤ y) wr).alloc _).grown hgrow (fun r hr _ => hmb r hr)
                          have HK5 := Lib.hid (show Kp (fun _ => False) w1 w5 from ⟨hk5.os.trans HK.out.os, hk5.tape.trans HK.out.tape, hk5.output.trans HK.out.output, Nat.le_trans HK.out.size hk5.size, fun b hb hm => (hk5.block b (Nat.lt_of_lt_of_le hb HK.out.size) (by omega)).trans (HK.out.block b hb hm)⟩)
                          have HO5 := Lib.hid hown5
                          clear hown5 hgrow hat hmb hk5
                          go_wp2
                          go_roundw
                          case rel =>
                            refine ⟨k + 1, by omega, by go_num, HK5.out, ?_⟩
                            rw [HPT.out]
                            exact HO5.out
                          case measure => simp [intOf]; omega
              · have h0b : (idOf xs z.key != 0) = true := by simpa using h0
                have HPT : Hid (PV.take (k + 1) = PV.take k ++ [.int .i64 0]) := Lib.hid (by rw [HPT.out, if_neg h0])
                go_wp2_with (at_builtin; refine wpList_append_lies _ rfl _ _ 22 rfl w1.heap.size 3 ii _ 1 8 Try.underlying22 hii hy0 hy1 hy2 rfl (by omega) _ k (PV.take k) rfl (HP.out.alloc _) ⟨wr.heap.size, 0, none⟩ 1 1 [.int .i64 0] rfl rfl ?d1n ?d2n (by omega) ?d3n ?d4n ?d5n _ rfl ?_)
                case d1n => exact World.news_of_block (cs := #[.int .i64 0]) (alloc1 wr _)
                case d2n => intro v hv; simp at hv; subst hv; rfl
                case d3n => unfold maxLen; omega
                case d4n => omega
                case d5n => simp; omega
                intro g cap w5 hown5 hgrow hat _
                have hmb : ∀ r, (Value.slice PA k pc).ownBlock = some r → w1.heap.size ≤ r := fun r hr => (HP.out.lt r hr).1
                have hk5 : Kp (fun y => w1.heap.size ≤ y) wr w5 := ((Kp.refl (fun y => w1.heap.size ≤ y) wr).alloc _).grown hgrow (fun r hr _ => hmb r hr)
                have HK5 := Lib.hid (show Kp (fun _ => False) w1 w5 from ⟨hk5.os.trans HK.out.os, hk5.tape.trans HK.out.tape, hk5.output.trans HK.out.output, Nat.le_trans HK.out.size hk5.size, fun b hb hm => (hk5.block b (Nat.lt_of_lt_of_le hb HK.out.size) (by omega)).trans (HK.out.block b hb hm)⟩)
                have HO5 := Lib.hid hown5
                clear hown5 hgrow hat hmb hk5
                go_wp2
                go_roundw
                case rel =>
                  refine ⟨k + 1, by omega, by go_num, HK5.out, ?_⟩
                  rw [HPT.out]
                  exact HO5.out
                case measure => simp [intOf]; omega
            · have hke : q = k := by omega
              subst hke
              have hPVl : PV.length = q := by rw [HPV.out, List.length_map, prd_len, HQL.out]
              have hrp : Row wr (Fr w1.heap.size wr.heap.size) PA PV := by
                have := Row.ofOwn (S := Fr w1.heap.size wr.heap.size) HP.out fun g _ h3 h4 => ⟨h3, h4⟩
                rwa [List.take_of_length_le (by omega)] at this
              obtain ⟨w2, hw2⟩ : ∃ w2, w2 = wr.alloc (.cells #[.int .i64 n, .slice none 0 0] 29) := ⟨_, rfl⟩
              obtain ⟨ob, hob⟩ : ∃ ob, ob = wr.heap.size := ⟨_, rfl⟩
              have ho2 : w2.heap[ob]? = some (.cells #[.int .i64 n, .slice none 0 0] 29 (0, 0)) := by rw [hw2, hob]; exact alloc1 _ _
              have hk2 : Kp (fun _ => False) w1 w2 := by rw [hw2]; exact HK.out.alloc _
              have hr2 : Row w2 (Fr w1.heap.size ob) PA PV := by rw [hw2, hob]; exact hrp.keep (kept_below ((Below.refl wr.heap.size wr).alloc (Nat.le_refl _) _) |>.sub fun b hb => hb.2)
              have hs2 : w2.heap.size = ob + 1 := by rw [hw2, hob]; simp
              have x0 : wr.cell? ⟨w.heap.size, 0, none⟩ = some (.int .i64 n) := (Lib.cell_of_heap (HK.out.heap HX1.out fun e => e) _).trans rfl
              have HO2 := Lib.hid ho2
              have HB2 := Lib.hid (kp_below HB1.out hk2 fun _ e => e.elim)
              have HX2 := Lib.hid (hk2.heap HX1.out fun e => e)
              have HR2r := Lib.hid (hk2.heap HR1.out fun e => e)
              have HI2 := Lib.hid (hk2.own HI1.out (fun _ _ e => e.elim))
              have HPR := Lib.hid hr2
              have HW2 := Lib.hid hw2
              have hob1 : w1.heap.size ≤ ob := by rw [hob]; exact hszk
              have HS2 := Lib.hid hs2
              have HOB := Lib.hid hob
              clear hrp ho2 hk2 hr2 hs2 hPVl hw2 hob hszk hpcn
              clear HK HP
              go_wp2_with fail
              rw [← HW2.out, ← HOB.out]
              clear HW2 HOB x0
              have hs2 := HS2.out
              clear HS2
              have hcur : splice (ids2 n xs l) (ids0 xs l) 0 = ids0 xs l := splice_zero _ _
              go_loopw [19] (fun i wj => ∃ k : Nat, k ≤ q ∧ i = .int .i64 k ∧ Kp (fun y => y = gi ∨ y = ob) w2 wj ∧ wj.ownsRow gi 3 1 (.slice (some ⟨gi, 0, none⟩) q q) q ((splice (ids2 n xs l) (ids0 xs l) k).map (Value.int .i64)) ∧ wj.heap[ob]? = some (.cells #[.int .i64 (n + (zeros ((ids1 xs l).take k) : Int)), .slice none 0 0] 29 (0, 0)) ∧ n + (zeros ((ids1 xs l).take k) : Int) ≤ top) (fun i _ => q - (intOf i).toNat)
              case atStart =>
                refine ⟨0, by omega, rfl, Kp.refl _ _, ?_, ?_, ?_⟩
                · rw [hcur]
                  exact HI2.out
                · have := HO2.out
                  simpa [zeros] using this
                · have := HCHK.out.2.1
                  simpa [zeros] using this
              case round =>
                clear hcur HO2 HI2
                obtain ⟨k, hkq, rfl, hK, hI, hO, hT⟩ := hrel
                have hszk := hK.size
                have HK := Lib.hid hK
                have HI := Lib.hid hI
                have HO := Lib.hid hO
                have HT := Lib.hid hT
                clear hK hI hO hT
                by_cases hltk : k < q
                ·
                  obtain ⟨z, hz⟩ : ∃ z, l[k]? = some z := ⟨_, List.getElem?_eq_getElem (by rw [← HQL.out]; exact hltk)⟩
                  have hik : (0 : Int) ≤ (k : Int) ∧ (k : Int) < (q : Int) := ⟨by omega, by omega⟩
                  have hi1 := ids1_of (xs := xs) hz
                  have ik : wr.cell? ⟨gi, k, none⟩ = some (.int .i64 (idOf xs z.key)) := (HI.out.cellAt k (by omega)).trans (by rw [List.getElem?_map, splice_at (by rw [ids2_length]; rw [← HQL.out]; omega) (ids0_at hz)]; rfl)
                  have fz := HI.out.frozenAt k
                  have hpv : PV[k]? = some (.int .i64 (if idOf xs z.key = 0 then pid xs l z.sh else 0)) := by rw [HPV.out, List.getElem?_map, prd_at hz]; rfl
                  obtain ⟨pad, rfl, _, pk⟩ := (HPR.out.keep (HK.out.kept fun b hb => ⟨by have := hb.2; omega, by have := hb.1; have := hb.2; omega⟩)).at_ hpv
                  obtain ⟨nx, hnx⟩ : ∃ nx, nx = n + (zeros ((ids1 xs l).take k) : Int) := ⟨_, rfl⟩
                  have hO := HO.out
                  have hT := HT.out
                  rw [← hnx] at hO hT
                  have hn1 := HCHK.out.1
                  have hnx1 : 1 ≤ nx := by omega
                  have o0 : wr.cell? ⟨ob, 0, none⟩ = some (.int .i64 nx) := (Lib.cell_of_heap hO _).trans rfl
                  have fo : wr.frozen? ⟨ob, 0, none⟩ = false := Lib.frozen_of_heap hO 0
                  have hgo : gi ≠ ob := by omega
                  have hog : ob ≠ gi := by omega
                  have HZ := Lib.hid hz
                  have HNX := Lib.hid hnx
                  have HO' := Lib.hid hO
                  have HT' := Lib.hid (show nx ≤ 1099511627776 from hT)
                  clear hz hpv hnx hO hT HO HT hn1
                  have hqk : k < (ids0 xs l).length := by rw [ids0_len, ← HQL.out]; exact hltk
                  have HQK := Lib.hid hqk
                  clear hqk
                  by_cases h0 : idOf xs z.key = 0
                  · rw [if_pos h0] at hi1 pk
                    have h0b : (idOf xs z.key == 0) = true := by simpa using h0
                    obtain ⟨pv, hpv⟩ : ∃ pv, pv = pid xs l z.sh := ⟨_, rfl⟩
                    rw [← hpv] at hi1 pk
                    rw [h0] at ik
                    have h2 := ids2_of (n := n) hi1
                    have hzs := zeros_step hi1
                    have hst := HI.out.stored k (.int .i64 pv)
                    have hk8 : Kp (fun y => y = gi) wr (wr.setCell ⟨gi, k, none⟩ (.int .i64 pv)) := Kp.setCell (M := fun y => y = gi) (Kp.refl _ _) (fun _ => rfl) _
                    by_cases hp0 : pv = 0
                    · subst hp0
                      rw [if_pos rfl] at h2 hzs
                      by_cases htop : nx = 1099511627776
                      · have htb : (nx == 1099511627776) = true := by simpa using htop
                        have HUPD : Hid (Upd 1 3 n xs l n xs 3) := Lib.hid (.inr (.inl ⟨HCHK.out, HASC.out, by
                          have h5 := zeros_take_le hi1
                          have h6 := HNX.out
                          unfold nextOf top
                          omega, rfl, rfl, rfl⟩))
                        have hfr : ∀ y, (y = gi ∨ y = ob) → w.heap.size ≤ y := fun y e => by omega
                        have hk9 := HK.out.trans hk8 (fun _ _ e => .inl e)
                        obtain ⟨wv, hwv⟩ : ∃ wv, wv = wr.setCell ⟨gi, k, none⟩ (.int .i64 0) := ⟨_, rfl⟩
                        rw [← hwv] at hk9
                        have HBv := Lib.hid (kp_below HB2.out hk9 hfr)
                        have HXv := Lib.hid (hk9.heap HX2.out (by omega))
                        have HRv := Lib.hid (hk9.heap HR2r.out (by omega))
                        have hX := HK.out.heap HX2.out (by omega)
                        have y0 : wr.cell? ⟨w.heap.size, 0, none⟩ = some (.int .i64 n) := (Lib.cell_of_heap hX _).trans rfl
                        have y1 : wr.cell? ⟨w.heap.size, 1, none⟩ = some (.slice A m c) := (Lib.cell_of_heap hX _).trans rfl
                        have hgw : w.heap.size ≠ gi := by omega
                        have hgw2 : gi ≠ w.heap.size := by omega
                        have HWV := Lib.hid hwv
                        subst htop
                        clear hk9 hX hwv hfr hst hk8 hi1 h2 hzs hpv h0
                        go_wp2_with fail
                        rw [← HWV.out]
                        clear ik pk fz o0 fo y0 y1 HWV
                        have hlx := lt_of_heap HXv.out
                        have hlr := lt_of_heap HRv.out
                        have x0 : wv.cell? ⟨w.heap.size, 0, none⟩ = some (.int .i64 n) := (Lib.cell_of_heap HXv.out _).trans rfl
                        have x1 : wv.cell? ⟨w.heap.size, 1, none⟩ = some (.slice A m c) := (Lib.cell_of_heap HXv.out _).trans rfl
                        have HCP := Lib.hid (copy_any n xs A c wv (by rw [← HM.out]; exact hl) ((HR.out.keep (kept_below HBv.out)).more fun b hb => by have := HBv.out.size; unfold Lt at hb ⊢; omega))
                        have hcp := HCP.out
                        rw [← HM.out] at hcp
                        refine hcp.mono ?_
                        rintro e wc ⟨CA, cc, rfl, hCA, hcrow, hcb⟩
                        rw [← HM.out] at hcrow ⊢
                        have hcr := (hcb.block _ hlr).trans HRv.out
                        have z0 : wc.cell? ⟨w.heap.size + 1, 0, none⟩ = some (.int .i64 0) := (Lib.cell_of_heap hcr _).trans rfl
                        have z1 : wc.cell? ⟨w.heap.size + 1, 1, none⟩ = some (.slice none 0 0) := (Lib.cell_of_heap hcr _).trans rfl
                        have f0 : wc.frozen? ⟨w.heap.size + 1, 0, none⟩ = false := Lib.frozen_of_heap hcr 0
                        have f1 : wc.frozen? ⟨w.heap.size + 1, 1, none⟩ = false := Lib.frozen_of_heap hcr 1
                        obtain ⟨w9, hw9⟩ : ∃ w9, w9 = (wc.setCell ⟨w.heap.size + 1, 0, none⟩ (.int .i64 n)).setCell ⟨w.heap.size + 1, 1, none⟩ (.slice CA m cc) := ⟨_, rfl⟩
                        have h9 : w9.heap[w.heap.size + 1]? = some (.cells #[.int .i64 n, .slice CA m cc] 29 (0, 0)) := by rw [hw9]; exact setCell_heap (o := 1) (v := .slice CA m cc) (setCell_heap (o := 0) (v := .int .i64 n) hcr)
                        have hk9 : Kp (fun y => y = w.heap.size + 1) wc w9 := by rw [hw9]; exact Kp.setCell (M := fun y => y = w.heap.size + 1) (Kp.setCell (M := fun y => y = w.heap.size + 1) (Kp.refl _ _) (fun _ => rfl) _) (fun _ => rfl) _
                        have q0 : w9.cell? ⟨w.heap.size + 1, 0, none⟩ = some (.int .i64 n) := (Lib.cell_of_heap h9 _).trans rfl
                        have q1 : w9.cell? ⟨w.heap.size + 1, 1, none⟩ = some (.slice CA m cc) := (Lib.cell_of_heap h9 _).trans rfl
                        have HW9 := Lib.hid hw9
                        have HK9 := Lib.hid hk9
                        have HCB := Lib.hid hcb
                        have HCROW := Lib.hid hcrow
                        have HCAN := Lib.hid hCA
                        clear hcp hcr hw9 h9 hk9 hcb hcrow hCA x0 x1
                        go_wp2_with fail
                        rw [← HW9.out]
                        refine bodyPost_ret (v := .tuple #[.agg #[.int .i64 n, .slice CA m cc], .int .i64 3]) ?_ rfl ?_
                        · clear HW9 HK9 HCB HCROW HCAN
                          simp [results, Try.results9, go_sem, q0, q1]
                        · rw [HQ.out]
                          have hs1 := HBv.out.size
                          have hs2 := HCB.out.size
                          have hs3 := HK9.out.size
                          refine ⟨n, xs, CA, cc, 3, by rw [HM.out], HCAN.out, by rw [← HM.out]; exact ownMono (HK9.out.own HCROW.out fun g hg e => by have := (HCROW.out.lt g hg).1; omega) (by omega), HUPD.out, ?_⟩
                          have hb := HBv.out.trans (HCB.out.mono hs1)
                          exact ⟨HK9.out.os.trans hb.os, HK9.out.tape.trans hb.tape, HK9.out.output.trans hb.output, Nat.le_trans hb.size HK9.out.size, fun b hb' => (HK9.out.block b (by omega) (by omega)).trans (hb.block b hb')⟩
                      · have htb : (nx == 1099511627776) = false := by simpa using htop
                        have HT2 := Lib.hid (show nx + 1 ≤ top by unfold top; have := HT'.out; omega)
                        have hwr : IntKind.i64.wrap (nx + 1) = nx + 1 := by rw [IntKind.wrap_i64]; have := HT'.out; omega
                        have hst2 := hst.1.stored k (.int .i64 nx)
                        have hk9 : Kp (fun y => y = gi) (wr.setCell ⟨gi, k, none⟩ (.int .i64 0)) ((wr.setCell ⟨gi, k, none⟩ (.int .i64 0)).setCell ⟨gi, k, none⟩ (.int .i64 nx)) := Kp.setCell (M := fun y => y = gi) (Kp.refl _ _) (fun _ => rfl) _
                        have hkk := hk8.trans hk9 (fun _ _ e => e)
                        have ho9 := setCell_heap (o := 0) (v := .int .i64 (nx + 1)) (hkk.heap HO'.out (by omega))
                        have hk10 : Kp (fun y => y = ob) ((wr.setCell ⟨gi, k, none⟩ (.int .i64 0)).setCell ⟨gi, k, none⟩ (.int .i64 nx)) (((wr.setCell ⟨gi, k, none⟩ (.int .i64 0)).setCell ⟨gi, k, none⟩ (.int .i64 nx)).setCell ⟨ob, 0, none⟩ (.int .i64 (nx + 1))) := Kp.setCell (M := fun y => y = ob) (Kp.refl _ _) (fun _ => rfl) _
                        have hi9 := hk10.own hst2.1 (fun g hg e => by have h9 : gi = g := Option.some.inj hg; omega)
                        have h2' : (ids2 n xs l)[k]? = some nx := by rw [h2, HNX.out]
                        have hsp : (((splice (ids2 n xs l) (ids0 xs l) k).map (Value.int .i64)).set k (.int .i64 0)).set k (.int .i64 nx) = (splice (ids2 n xs l) (ids0 xs l) (k + 1)).map (Value.int .i64) := by
                          rw [List.set_set, ← splice_set h2' HQK.out, List.map_set]
                        rw [hsp] at hi9
                        have HI9 := Lib.hid hi9
                        have HO9 := Lib.hid ho9
                        have HK9 := Lib.hid (HK.out.trans ((hkk.more fun _ _ e => .inl e : Kp (fun y => y = gi ∨ y = ob) _ _).trans hk10 (fun _ _ e => .inr e)) (fun _ _ e => e))
                        have HZS := Lib.hid hzs
                        clear hst hst2 hk8 hk9 hkk ho9 hk10 hi9 h2 h2' hsp hi1 hzs hpv h0
                        go_wp2
                        go_roundw
                        case rel =>
                          refine ⟨k + 1, by omega, by go_num, HK9.out, HI9.out, ?_, ?_⟩
                          · have := HO9.out
                            rw [HZS.out, Int.natCast_add, ← Int.add_assoc, ← HNX.out]
                            exact this
                          · rw [HZS.out, Int.natCast_add, ← Int.add_assoc, ← HNX.out]
                            exact HT2.out
                        case measure => simp [intOf]; omega
                    · have hpb : (pv == 0) = false := by simpa using hp0
                      rw [if_neg hp0] at h2 hzs
                      have HI8 := Lib.hid (show (wr.setCell ⟨gi, k, none⟩ (.int .i64 pv)).ownsRow gi 3 1 (.slice (some ⟨gi, 0, none⟩) q q) q ((splice (ids2 n xs l) (ids0 xs l) (k + 1)).map (Value.int .i64)) by rw [← splice_set h2 HQK.out, List.map_set]; exact hst.1)
                      have HO8 := Lib.hid (hk8.heap HO'.out (by omega))
                      have HK8 := Lib.hid (HK.out.trans hk8 (fun _ _ e => .inl e))
                      have HZS := Lib.hid hzs
                      clear hst hk8 hi1 h2 hzs hpv h0
                      go_wp2
                      go_roundw
                      case rel =>
                        refine ⟨k + 1, by omega, by go_num, HK8.out, HI8.out, ?_, ?_⟩
                        · rw [HZS.out, Nat.add_zero, ← HNX.out]
                          exact HO8.out
                        · rw [HZS.out, Nat.add_zero, ← HNX.out]
                          exact HT'.out
                      case measure => simp [intOf]; omega
                  · rw [if_neg h0] at hi1
                    have h0b : (idOf xs z.key == 0) = false := by simpa using h0
                    have h2 := ids2_of (n := n) hi1
                    have hzs := zeros_step hi1
                    rw [if_neg h0] at h2 hzs
                    have HSP := Lib.hid (splice_same h2 (ids0_at HZ.out))
                    have HZS := Lib.hid hzs
                    clear h2 hzs hi1 pk h0
                    go_wp2
                    go_roundw
                    case rel =>
                      refine ⟨k + 1, by omega, by go_num, HK.out, ?_, ?_, ?_⟩
                      · rw [HSP.out]
                        exact HI.out
                      · rw [HZS.out, Nat.add_zero, ← HNX.out]
                        exact HO'.out
                      · rw [HZS.out, Nat.add_zero, ← HNX.out]
                        exact HT'.out
                    case measure => simp [intOf]; omega
                · have hke : q = k := by omega
                  subst hke
                  have hid2 : (ids2 n xs l).length = q := by rw [ids2_length, HQL.out]
                  have hi3 := HI.out
                  rw [splice_end (by omega) (by rw [ids0_len, HQL.out]; omega)] at hi3
                  have hzt : (ids1 xs l).take q = ids1 xs l := List.take_of_length_le (by rw [ids1_length, HQL.out]; omega)
                  have ho3 := HO.out
                  have ht3 := HT.out
                  rw [hzt] at ho3 ht3
                  obtain ⟨nx, hnx⟩ : ∃ nx, nx = nextOf n xs l := ⟨_, rfl⟩
                  rw [← show nx = n + (zeros (ids1 xs l) : Int) from hnx] at ho3 ht3
                  obtain ⟨zs, hzs⟩ : ∃ zs, zs = zipI (ids2 n xs l) l := ⟨_, rfl⟩
                  have hzl : zs.length = q := by rw [hzs, zipI_length (by rw [ids2_length]), HQL.out]
                  have hfr : ∀ y, (y = gi ∨ y = ob) → w.heap.size ≤ y := fun y e => by omega
                  obtain ⟨w3, rfl⟩ : ∃ w3, w3 = wr := ⟨_, rfl⟩
                  have HB3 := Lib.hid (kp_below HB2.out HK.out hfr)
                  have HR3 := Lib.hid (HK.out.heap HR2r.out (by omega))
                  have HI3 := Lib.hid hi3
                  have HO3 := Lib.hid ho3
                  have HT3 := Lib.hid ht3
                  have HNX := Lib.hid hnx
                  have HZS := Lib.hid hzs
                  have hob3 := lt_of_heap ho3
                  clear HK HI HO HT hi3 ho3 ht3 hnx hzs hfr hzt hid2 HX2 HB2 HR2r HPR
                  go_wp2_with fail
                  go_loopw [20] (fun i wj => ∃ k : Nat, k ≤ q ∧ i = .int .i64 k ∧ Kp (fun y => y = ob) w3 wj ∧ OutIs w3.heap.size ob nx zs k wj) (fun i _ => q - (intOf i).toNat)
                  case atStart => exact ⟨0, by omega, rfl, Kp.refl _ _, none, 0, [], rfl, fun _ => rfl, HO3.out, World.ownsRow_nil _ _ _ _, by simp, .nil⟩
                  case round =>
                    clear HO3
                    obtain ⟨k, hkq, rfl, hK, OA, oc, ys, hyl, hOA, hO, hY, hyp, hys⟩ := hrel
                    have hszk := hK.size
                    have HK := Lib.hid hK
                    have HO := Lib.hid hO
                    have HY := Lib.hid hY
                    have HYL := Lib.hid hyl
                    have HOA := Lib.hid hOA
                    have HYP := Lib.hid hyp
                    have HYS := Lib.hid hys
                    clear hK hO hY hyl hOA hyp hys
                    by_cases hltk : k < q
                    · obtain ⟨z, hz⟩ : ∃ z, l[k]? = some z := ⟨_, List.getElem?_eq_getElem (by rw [← HQL.out]; exact hltk)⟩
                      obtain ⟨ide, hide⟩ : ∃ ide, (ids2 n xs l)[k]? = some ide := ⟨_, List.getElem?_eq_getElem (by rw [ids2_length, ← HQL.out]; exact hltk)⟩
                      have hzk : zs[k]? = some ⟨ide, z⟩ := by rw [HZS.out, zipI_at, hide, hz]; rfl
                      have HZT : Hid (zs.take (k + 1) = zs.take k ++ [⟨ide, z⟩]) := Lib.hid (by rw [List.take_add_one, hzk]; rfl)
                      have HID := Lib.hid hide
                      have HZ := Lib.hid hz
                      have hik : (0 : Int) ≤ (k : Int) ∧ (k : Int) < (q : Int) := ⟨by omega, by omega⟩
                      have s1 : wr.cell? ⟨ob, 1, none⟩ = some (.slice OA k oc) := (Lib.cell_of_heap HO.out _).trans rfl
                      clear hz hide hzk
                      go_wp2_with fail
                      clear s1
                      go_loopw [21] (fun a wj => ∃ j : Nat, j ≤ k ∧ a = .int .i64 j ∧ Kp (fun y => y = ob) w3 wj ∧ wj.heap[ob]? = some (.cells #[.int .i64 nx, .slice OA k oc] 29 (0, 0)) ∧ wj.ownsRow w3.heap.size 39 4 (.slice OA k oc) k (flt idC ys) ∧ ∀ u ∈ ys.drop j, ide < u.id) (fun a _ => (intOf a).toNat)
                      case atStart => exact ⟨k, Nat.le_refl _, rfl, HK.out, HO.out, HY.out, fun u hu => by rw [List.drop_eq_nil_of_le (by rw [HYL.out]; exact Nat.le_refl _)] at hu; cases hu⟩
                      case round =>
                        clear HK HO HY hszk
                        obtain ⟨j, hjk, rfl, hK, hO, hY, hlt⟩ := hrel
                        have hszk := hK.size
                        have HK := Lib.hid hK
                        have HO := Lib.hid hO
                        have HY := Lib.hid hY
                        have HLT := Lib.hid hlt
                        clear hK hO hY hlt
                        have s1 : wr.cell? ⟨ob, 1, none⟩ = some (.slice OA k oc) := (Lib.cell_of_heap HO.out _).trans rfl
                        by_cases hj0 : j = 0
                        · have hjb : decide ((j : Int) > 0) = false := by simp; omega
                          have hjb2 : ¬ (0 : Int) < (j : Int) := by omega
                          have hjb3 : ¬ 0 < j := by omega
                          have HJ0 := Lib.hid hj0
                          clear hj0
                          go_wp2_with fail
                          refine wp_region_held' (AtCells [(⟨ob, 1, none⟩, .slice OA k oc)]) [] [0, 1, 2, 3, 4, 5, 6, 7, 8, 9, 10, 11, 12, 13, 14, 15] [] [] (by kernel_rfl) (by kernel_rfl) ?ska ?hka
                          case ska => exact ⟨s1, trivial⟩
                          case hka =>
                          simp only [opsAt, List.filterMap_cons, List.filterMap_nil, List.getElem?_toArray, List.getElem?_cons_succ, List.getElem?_cons_zero]
                          refine wpFloat_nil ?_
                          refine wpLoad_step ?vka0 rfl (fun w' hS => ?yka0) ?kka0
                          case yka0 =>
                            obtain ⟨g0, _⟩ := hS
                            go_simp
                            try rfl
                          case kka0 =>
                          go_simp
                          refine wpLoad_step ?vka1 rfl (fun w' hS => ?yka1) ?kka1
                          case yka1 =>
                            obtain ⟨g0, _⟩ := hS
                            go_simp
                            try rfl
                          case kka1 =>
                          go_simp
                          refine wpLoad_step ?vka2 rfl (fun w' hS => ?yka2) ?kka2
                          case yka2 =>
                            obtain ⟨g0, _⟩ := hS
                            go_simp
                            try rfl
                          case kka2 =>
                          go_simp
                          refine wpLoad_skip rfl ?_
                          go_simp
                          refine wpLoad_skip rfl ?_
                          go_simp
                          refine wpLoad_skip rfl ?_
                          go_simp
                          refine wpLoad_skip rfl ?_
                          go_simp
                          refine wpLoad_skip rfl ?_
                          go_simp
                          refine wpLoad_skip rfl ?_
                          go_simp
                          refine wpLoad_skip rfl ?_
                          go_simp
                          refine wpLoad_skip rfl ?_
                          go_simp
                          refine wpLoad_skip rfl ?_
                          go_simp
                          refine wpLoad_skip rfl ?_
                          go_simp
                          refine wpLoad_skip rfl ?_
                          go_simp
                          refine wpLoad_skip rfl ?_
                          go_simp
                          refine wpLoad_step ?vka15 rfl (fun w' hS => ?yka15) ?kka15
                          case yka15 =>
                            obtain ⟨g0, _⟩ := hS
                            go_simp
                            try rfl
                          case kka15 =>
                          go_simp
                          refine wpLoad_nil ?_
                          refine wpKeep_nil ?_
                          go_wp2
                          refine NoPanic.normal ?_
                          go_wp2_with fail
                          have HINS : Hid (j = 0 ∨ ∃ z, ys[j - 1]? = some z ∧ z.id ≤ ide) := Lib.hid (.inl HJ0.out)
                          clear HJ0
                          clear s1
                          have hown0 := HY.out
                          have hkoc := (own_le hown0).1
                          have hocm := (own_le hown0).2
                          have hF := ownFront hown0 (j := j) hjk
                          rw [flt_take idC_len] at hF
                          have hrowY : Row wr (Lt wr.heap.size) OA (flt idC ys) := Row.ofOwn hown0 fun g _ _ h4 => h4
                          have hsl := back_row idC_len hrowY HYL.out hkoc j
                          obtain ⟨SB, hSB⟩ : ∃ SB, SB = backOf OA 4 oc j := ⟨_, rfl⟩
                          rw [← hSB] at hsl
                          have hBw := kp_below HB3.out HK.out (fun y (e : y = ob) => by omega)
                          obtain ⟨bd, hbd, _, t0, t1, t2⟩ := it_at (HR2.out.keep (kept_below hBw)) HZ.out
                          have gk : wr.cell? ⟨gi, k, none⟩ = some (.int .i64 ide) := ((HK.out.own HI3.out (fun g hg e => by have h9 : gi = g := Option.some.inj hg; omega)).cellAt k (by omega)).trans (by rw [List.getElem?_map, HID.out]; rfl)
                          have s1 : wr.cell? ⟨ob, 1, none⟩ = some (.slice OA k oc) := (Lib.cell_of_heap HO.out _).trans rfl
                          have HCI : Hid (AtCells [(⟨ob, 1, none⟩, .slice OA k oc), (⟨gi, k, none⟩, .int .i64 ide), (bd.add (k * 3), sv z.md), (⟨(bd.add (k * 3)).block, (bd.add (k * 3)).off + 1, none⟩, sv z.nm), (⟨(bd.add (k * 3)).block, (bd.add (k * 3)).off + 2, none⟩, sv z.sh)] wr) := Lib.hid ⟨s1, gk, t0, t1, t2, trivial⟩
                          have HFR := Lib.hid hF
                          have HSL := Lib.hid hsl
                          have HSB := Lib.hid hSB
                          clear hSB hown0 hF hrowY hsl hBw t0 t1 t2 gk s1
                          subst hbd
                          have hij : (0 : Int) ≤ (j : Int) ∧ (j : Int) ≤ (oc : Int) ∧ (j : Int) ≤ (k : Int) := ⟨by omega, by omega, by omega⟩
                          refine wp_region_held' (AtCells [(⟨ob, 1, none⟩, .slice OA k oc), (⟨gi, k, none⟩, .int .i64 ide), (bd.add (k * 3), sv z.md), (⟨(bd.add (k * 3)).block, (bd.add (k * 3)).off + 1, none⟩, sv z.nm), (⟨(bd.add (k * 3)).block, (bd.add (k * 3)).off + 2, none⟩, sv z.sh)]) [] [0, 1, 2, 3, 4, 5, 6, 7, 8, 9, 10, 11, 12, 14, 15, 16, 17] [13, 18] [19, 20, 21] (by kernel_rfl) (by kernel_rfl) ?siA ?hiA
                          case siA => exact HCI.out.below (Below.refl _ wr).drew
                          case hiA =>
                          simp only [opsAt, List.filterMap_cons, List.filterMap_nil, List.getElem?_toArray, List.getElem?_cons_succ, List.getElem?_cons_zero]
                          refine wpFloat_nil ?_
                          refine wpLoad_step ?vliA0 rfl (fun w' hS => ?yliA0) ?kliA0
                          case yliA0 =>
                            obtain ⟨g0, g1, g2, g3, g4, _⟩ := hS
                            go_simp
                            try rfl
                          case kliA0 =>
                          go_simp
                          refine wpLoad_step ?vliA1 rfl (fun w' hS => ?yliA1) ?kliA1
                          case yliA1 =>
                            obtain ⟨g0, g1, g2, g3, g4, _⟩ := hS
                            go_simp
                            try rfl
                          case kliA1 =>
                          go_simp
                          refine wpLoad_step ?vliA2 rfl (fun w' hS => ?yliA2) ?kliA2
                          case yliA2 =>
                            obtain ⟨g0, g1, g2, g3, g4, _⟩ := hS
                            go_simp
                            try rfl
                          case kliA2 =>
                          go_simp
                          refine wpLoad_step (.slice OA j oc) rfl (fun w' hS => ?yliA3) ?kliA3
                          case yliA3 =>
                            go_simp
                            try simp only [← front_of OA j oc 4]
                            try rfl
                          case kliA3 =>
                          go_simp
                          refine wpLoad_step ?vliA4 rfl (fun w' hS => ?yliA4) ?kliA4
                          case yliA4 =>
                            obtain ⟨g0, g1, g2, g3, g4, _⟩ := hS
                            go_simp
                            try rfl
                          case kliA4 =>
                          go_simp
                          refine wpLoad_step ?vliA5 rfl (fun w' hS => ?yliA5) ?kliA5
                          case yliA5 =>
                            obtain ⟨g0, g1, g2, g3, g4, _⟩ := hS
                            go_simp
                            try rfl
                          case kliA5 =>
                          go_simp
                          refine wpLoad_step ?vliA6 rfl (fun w' hS => ?yliA6) ?kliA6
                          case yliA6 =>
                            obtain ⟨g0, g1, g2, g3, g4, _⟩ := hS
                            go_simp
                            try rfl
                          case kliA6 =>
                          go_simp
                          refine wpLoad_step ?vliA7 rfl (fun w' hS => ?yliA7) ?kliA7
                          case yliA7 =>
                            obtain ⟨g0, g1, g2, g3, g4, _⟩ := hS
                            go_simp
                            try rfl
                          case kliA7 =>
                          go_simp
                          refine wpLoad_step ?vliA8 rfl (fun w' hS => ?yliA8) ?kliA8
                          case yliA8 =>
                            obtain ⟨g0, g1, g2, g3, g4, _⟩ := hS
                            go_simp
                            try rfl
                          case kliA8 =>
                          go_simp
                          refine wpLoad_step ?vliA9 rfl (fun w' hS => ?yliA9) ?kliA9
                          case yliA9 =>
                            obtain ⟨g0, g1, g2, g3, g4, _⟩ := hS
                            go_simp
                            try rfl
                          case kliA9 =>
                          go_simp
                          refine wpLoad_step ?vliA10 rfl (fun w' hS => ?yliA10) ?kliA10
                          case yliA10 =>
                            obtain ⟨g0, g1, g2, g3, g4, _⟩ := hS
                            go_simp
                            try rfl
                          case kliA10 =>
                          go_simp
                          refine wpLoad_step ?vliA11 rfl (fun w' hS => ?yliA11) ?kliA11
                          case yliA11 =>
                            obtain ⟨g0, g1, g2, g3, g4, _⟩ := hS
                            go_simp
                            try rfl
                          case kliA11 =>
                          go_simp
                          refine wpLoad_step ?vliA12 rfl (fun w' hS => ?yliA12) ?kliA12
                          case yliA12 =>
                            obtain ⟨g0, g1, g2, g3, g4, _⟩ := hS
                            go_simp
                            try rfl
                          case kliA12 =>
                          go_simp
                          refine wpLoad_step ?vliA14 rfl (fun w' hS => ?yliA14) ?kliA14
                          case yliA14 =>
                            obtain ⟨g0, g1, g2, g3, g4, _⟩ := hS
                            go_simp
                            try rfl
                          case kliA14 =>
                          go_simp
                          refine wpLoad_step ?vliA15 rfl (fun w' hS => ?yliA15) ?kliA15
                          case yliA15 =>
                            obtain ⟨g0, g1, g2, g3, g4, _⟩ := hS
                            go_simp
                            try rfl
                          case kliA15 =>
                          go_simp
                          refine wpLoad_step ?vliA16 rfl (fun w' hS => ?yliA16) ?kliA16
                          case yliA16 =>
                            obtain ⟨g0, g1, g2, g3, g4, _⟩ := hS
                            go_simp
                            try rfl
                          case kliA16 =>
                          go_simp
                          refine wpLoad_step (.slice SB (k - j) (oc - j)) rfl (fun w' hS => ?yliA17) ?kliA17
                          case yliA17 =>
                            go_simp
                            rw [HSB.out]
                            try rfl
                          case kliA17 =>
                          go_simp
                          refine wpLoad_nil ?_
                          refine wpKeep_step rfl ?_
                          go_simp
                          refine ⟨HCI.out.below ((Below.refl _ wr).alloc (Nat.le_refl _) _).drew, ?_⟩
                          refine wpKeep_step rfl ?_
                          refine (wp_append_row _ _ 27 rfl wr.heap.size 39 i0 _ 4 56 Try.underlying27 hi hz0 hz1 hz2 rfl (by omega) (.slice (some ⟨wr.heap.size, 0, none⟩) 1 1) 1 (idC ⟨ide, z⟩) rfl (own_lit wr #[.int .i64 ide, sv z.md, sv z.nm, sv z.sh] _ 4 1 rfl (by unfold maxLen; omega)) (Lt wr.heap.size) SB (k - j) (oc - j) (flt idC (ys.drop j)) rfl ?e1A ?e2A (flt_one' idC_one _) ?e3A (by omega) ?e4A ?_)
                          case e1A => rw [flt_length idC_len, List.length_drop, HYL.out]
                          case e2A => exact HSL.out.keep (kept_below ((Below.refl _ wr).alloc (Nat.le_refl _) _).drew.drew)
                          case e3A => unfold maxLen; omega
                          case e4A => exact Nat.le_trans (Nat.le_succ _) (Nat.le_of_eq (by simp [World.drew]))
                          intro v6 w6 hown6 hg6 _
                          have hb6 : Below wr.heap.size wr w6 := ((Below.refl _ wr).alloc (Nat.le_refl _) (.cells #[.int .i64 ide, sv z.md, sv z.nm, sv z.sh] 39)).drew.drew.grown hg6 (by simp [World.drew]) (fun r hr => by obtain rfl : wr.heap.size = r := Option.some.inj hr; exact Nat.le_refl _)
                          refine ⟨HCI.out.below hb6, ?_⟩
                          refine wpKeep_nil ?_
                          obtain ⟨A6, c6, hv6, _⟩ := own_slice hown6
                          subst hv6
                          have hs6 := hb6.size
                          have hk6 : Kp (fun _ => False) wr w6 := Kp.ofBelow hb6
                          have HF6 := Lib.hid (hk6.own HFR.out fun _ _ e => e)
                          have HR6 : Hid (Row w6 (Lt w6.heap.size) A6 (idC ⟨ide, z⟩ ++ flt idC (ys.drop j))) := Lib.hid (Row.ofOwn hown6 fun g _ _ h4 => h4)
                          have hl6 : (idC ⟨ide, z⟩ ++ flt idC (ys.drop j)).length = (1 + (k - j)) * 4 := hown6.1
                          have HBB6 := Lib.hid hb6
                          have HL6 := Lib.hid hl6
                          clear hown6 hg6 hb6 hl6 hk6
                          refine (wpList_append_row rfl _ _ 27 rfl w3.heap.size 39 i0 _ 4 56 Try.underlying27 hi hz0 hz1 hz2 rfl (by omega) (.slice OA j oc) j (flt idC (ys.take j)) rfl HF6.out (Lt w6.heap.size) A6 (1 + (k - j)) c6 (idC ⟨ide, z⟩ ++ flt idC (ys.drop j)) rfl HL6.out HR6.out ?e5A ?e6A (by omega) (by omega) ?_)
                          case e5A =>
                            intro u hu
                            rcases List.mem_append.1 hu with hu | hu
                            · exact idC_one _ u hu
                            · exact flt_one' idC_one _ u hu
                          case e6A => unfold maxLen; omega
                          intro v7 w7 hown7 hg7 _
                          obtain ⟨YN, hYN⟩ : ∃ YN, YN = ys.take j ++ ⟨ide, z⟩ :: ys.drop j := ⟨_, rfl⟩
                          rw [show flt idC (ys.take j) ++ (idC ⟨ide, z⟩ ++ flt idC (ys.drop j)) = flt idC YN by rw [hYN, flt_append, flt_cons], show j + (1 + (k - j)) = k + 1 by omega] at hown7
                          obtain ⟨A7, c7, hv7, hA7⟩ := own_slice hown7
                          subst hv7
                          have hlt6 := HF6.out.lt
                          have hk7 : Kp (fun y => w3.heap.size ≤ y) wr w7 := ((Kp.ofBelow HBB6.out : Kp (fun _ => False) wr w6).more fun _ _ e => e.elim).grown hg7 (fun r hr _ => (hlt6 r hr).1)
                          have hO7 := hk7.heap HO.out (by omega)
                          have s1 : w7.cell? ⟨ob, 1, none⟩ = some (.slice OA k oc) := (Lib.cell_of_heap hO7 _).trans rfl
                          have f1 : w7.frozen? ⟨ob, 1, none⟩ = false := Lib.frozen_of_heap hO7 1
                          obtain ⟨w8, hw8⟩ : ∃ w8, w8 = w7.setCell ⟨ob, 1, none⟩ (.slice A7 (k + 1) c7) := ⟨_, rfl⟩
                          have hk8 : Kp (fun y => y = ob) w7 w8 := by rw [hw8]; exact Kp.setCell (M := fun y => y = ob) (Kp.refl _ _) (fun _ => rfl) _
                          have HO8 : Hid (w8.heap[ob]? = some (.cells #[.int .i64 nx, .slice A7 (k + 1) c7] 29 (0, 0))) := Lib.hid (by rw [hw8]; exact setCell_heap (o := 1) (v := .slice A7 (k + 1) c7) hO7)
                          have HY8 := Lib.hid (hk8.own hown7 fun g hg e => by have := (hown7.lt g hg).1; omega)
                          have HK8 : Hid (Kp (fun y => y = ob) w3 w8) := Lib.hid ⟨hk8.os.trans (hk7.os.trans HK.out.os), hk8.tape.trans (hk7.tape.trans HK.out.tape), hk8.output.trans (hk7.output.trans HK.out.output), Nat.le_trans HK.out.size (Nat.le_trans hk7.size hk8.size), fun b hb hm => (hk8.block b (by have := hk7.size; omega) hm).trans ((hk7.block b (by omega) (by omega)).trans (HK.out.block b hb hm))⟩
                          have HW8 := Lib.hid hw8
                          have HYN := Lib.hid hYN
                          have HA7 := Lib.hid hA7
                          clear hown7 hg7 hlt6 hk7 hO7 hk8 hw8 hYN hA7 HF6 HR6 HL6 HBB6 HFR HSL HCI
                          go_wp2
                          refine NoPanic.normal ?_
                          go_wp2_with fail
                          rw [← HW8.out]
                          go_roundw
                          case rel =>
                            refine ⟨k + 1, by omega, by go_num, HK8.out, A7, c7, YN, ?_, HA7.out, HO8.out, HY8.out, ?_, ?_⟩
                            · rw [HYN.out, List.length_append, List.length_cons, List.length_take, List.length_drop, HYL.out]
                              omega
                            · rw [HYN.out, HZT.out]
                              exact ins_perm j HYP.out
                            · rw [HYN.out]
                              exact ins_sorted HYS.out HLT.out HINS.out
                          case measure => simp [intOf]; omega
                        · obtain ⟨j0, hj1⟩ : ∃ j0, j = j0 + 1 := ⟨j - 1, by omega⟩
                          obtain ⟨v, hv⟩ : ∃ v, ys[j0]? = some v := ⟨_, List.getElem?_eq_getElem (by rw [HYL.out]; omega)⟩
                          obtain ⟨od, rfl, _, a0, _⟩ := id_at (Row.ofOwn (S := Lt wr.heap.size) HY.out fun g _ _ h4 => h4) hv
                          have gk : wr.cell? ⟨gi, k, none⟩ = some (.int .i64 ide) := ((HK.out.own HI3.out (fun g hg e => by have h9 : gi = g := Option.some.inj hg; omega)).cellAt k (by omega)).trans (by rw [List.getElem?_map, HID.out]; rfl)
                          have hjb : decide ((j : Int) > 0) = true := by simp; omega
                          have hjb2 : (0 : Int) < (j : Int) := by omega
                          have hjb3 : 0 < j := by omega
                          have hwr : IntKind.i64.wrap ((j0 : Nat) : Int) = ((j0 : Nat) : Int) := by rw [IntKind.wrap_i64]; omega
                          have hsub : ((j : Int) - 1) = ((j0 : Nat) : Int) := by omega
                          have hij0 : (0 : Int) ≤ (j0 : Int) ∧ (j0 : Int) < (k : Int) := ⟨by omega, by omega⟩
                          have HC : Hid (AtCells [(⟨ob, 1, none⟩, .slice (some od) k oc), (od.add (j0 * 4), .int .i64 v.id), (⟨gi, k, none⟩, .int .i64 ide)] wr) := Lib.hid ⟨s1, a0, gk, trivial⟩
                          have HV := Lib.hid hv
                          have HJ := Lib.hid hj1
                          clear hj1 hv a0 gk s1 hj0
                          go_wp2_with fail
                          by_cases hgt : ide < v.id
                          · refine wp_region_held' (AtCells [(⟨ob, 1, none⟩, .slice (some od) k oc), (od.add (j0 * 4), .int .i64 v.id), (⟨gi, k, none⟩, .int .i64 ide)]) [] [0, 1, 2, 3, 4, 5, 6, 7, 8, 9, 10, 11, 12, 13, 14, 15] [] [] (by kernel_rfl) (by kernel_rfl) ?skb ?hkb
                            case skb => exact HC.out.below (Below.refl _ wr).drew
                            case hkb =>
                            simp only [opsAt, List.filterMap_cons, List.filterMap_nil, List.getElem?_toArray, List.getElem?_cons_succ, List.getElem?_cons_zero]
                            refine wpFloat_nil ?_
                            refine wpLoad_step ?vkb0 rfl (fun w' hS => ?ykb0) ?kkb0
                            case ykb0 =>
                              obtain ⟨g0, g1, g2, _⟩ := hS
                              go_simp
                              try rfl
                            case kkb0 =>
                            go_simp
                            refine wpLoad_step ?vkb1 rfl (fun w' hS => ?ykb1) ?kkb1
                            case ykb1 =>
                              obtain ⟨g0, g1, g2, _⟩ := hS
                              go_simp
                              try rfl
                            case kkb1 =>
                            go_simp
                            refine wpLoad_step ?vkb2 rfl (fun w' hS => ?ykb2) ?kkb2
                            case ykb2 =>
                              obtain ⟨g0, g1, g2, _⟩ := hS
                              go_simp
                              try rfl
                            case kkb2 =>
                            go_simp
                            refine wpLoad_step ?vkb3 rfl (fun w' hS => ?ykb3) ?kkb3
                            case ykb3 =>
                              obtain ⟨g0, g1, g2, _⟩ := hS
                              go_simp
                              try rfl
                            case kkb3 =>
                            go_simp
                            refine wpLoad_step ?vkb4 rfl (fun w' hS => ?ykb4) ?kkb4
                            case ykb4 =>
                              obtain ⟨g0, g1, g2, _⟩ := hS
                              go_simp
                              try rfl
                            case kkb4 =>
                            go_simp
                            refine wpLoad_step ?vkb5 rfl (fun w' hS => ?ykb5) ?kkb5
                            case ykb5 =>
                              obtain ⟨g0, g1, g2, _⟩ := hS
                              go_simp
                              try rfl
                            case kkb5 =>
                            go_simp
                            refine wpLoad_step ?vkb6 rfl (fun w' hS => ?ykb6) ?kkb6
                            case ykb6 =>
                              obtain ⟨g0, g1, g2, _⟩ := hS
                              go_simp
                              try rfl
                            case kkb6 =>
                            go_simp
                            refine wpLoad_step ?vkb7 rfl (fun w' hS => ?ykb7) ?kkb7
                            case ykb7 =>
                              obtain ⟨g0, g1, g2, _⟩ := hS
                              go_simp
                              try rfl
                            case kkb7 =>
                            go_simp
                            refine wpLoad_step ?vkb8 rfl (fun w' hS => ?ykb8) ?kkb8
                            case ykb8 =>
                              obtain ⟨g0, g1, g2, _⟩ := hS
                              go_simp
                              try rfl
                            case kkb8 =>
                            go_simp
                            refine wpLoad_step ?vkb9 rfl (fun w' hS => ?ykb9) ?kkb9
                            case ykb9 =>
                              obtain ⟨g0, g1, g2, _⟩ := hS
                              go_simp
                              try rfl
                            case kkb9 =>
                            go_simp
                            refine wpLoad_step ?vkb10 rfl (fun w' hS => ?ykb10) ?kkb10
                            case ykb10 =>
                              obtain ⟨g0, g1, g2, _⟩ := hS
                              go_simp
                              try rfl
                            case kkb10 =>
                            go_simp
                            refine wpLoad_step ?vkb11 rfl (fun w' hS => ?ykb11) ?kkb11
                            case ykb11 =>
                              obtain ⟨g0, g1, g2, _⟩ := hS
                              go_simp
                              try rfl
                            case kkb11 =>
                            go_simp
                            refine wpLoad_step ?vkb12 rfl (fun w' hS => ?ykb12) ?kkb12
                            case ykb12 =>
                              obtain ⟨g0, g1, g2, _⟩ := hS
                              go_simp
                              try rfl
                            case kkb12 =>
                            go_simp
                            refine wpLoad_step ?vkb13 rfl (fun w' hS => ?ykb13) ?kkb13
                            case ykb13 =>
                              obtain ⟨g0, g1, g2, _⟩ := hS
                              go_simp
                              try rfl
                            case kkb13 =>
                            go_simp
                            refine wpLoad_step ?vkb14 rfl (fun w' hS => ?ykb14) ?kkb14
                            case ykb14 =>
                              obtain ⟨g0, g1, g2, _⟩ := hS
                              go_simp
                              try rfl
                            case kkb14 =>
                            go_simp
                            refine wpLoad_step ?vkb15 rfl (fun w' hS => ?ykb15) ?kkb15
                            case ykb15 =>
                              obtain ⟨g0, g1, g2, _⟩ := hS
                              go_simp
                              try rfl
                            case kkb15 =>
                            go_simp
                            refine wpLoad_nil ?_
                            refine wpKeep_nil ?_
                            go_wp2
                            refine NoPanic.normal ?_
                            go_wp2
                            go_roundw
                            case rel =>
                              refine ⟨j0, by omega, by go_num, HK.out.drew, HO.out, (Kp.refl (fun _ => False) wr).drew.own HY.out (fun _ _ e => e.elim), fun u hu => ?_⟩
                              obtain ⟨p1, p2⟩ := List.getElem?_eq_some_iff.1 HV.out
                              rw [List.drop_eq_getElem_cons p1] at hu
                              rcases List.mem_cons.1 hu with rfl | hu
                              · rw [p2]
                                exact hgt
                              · rw [← HJ.out] at hu
                                exact HLT.out u hu
                            case measure => simp [intOf]; omega
                          · refine wp_region_held' (AtCells [(⟨ob, 1, none⟩, .slice (some od) k oc), (od.add (j0 * 4), .int .i64 v.id), (⟨gi, k, none⟩, .int .i64 ide)]) [] [0, 1, 2, 3, 4, 5, 6, 7, 8, 9, 10, 11, 12, 13, 14, 15] [] [] (by kernel_rfl) (by kernel_rfl) ?skc ?hkc
                            case skc => exact HC.out.below (Below.refl _ wr).drew
                            case hkc =>
                            simp only [opsAt, List.filterMap_cons, List.filterMap_nil, List.getElem?_toArray, List.getElem?_cons_succ, List.getElem?_cons_zero]
                            refine wpFloat_nil ?_
                            refine wpLoad_step ?vkc0 rfl (fun w' hS => ?ykc0) ?kkc0
                            case ykc0 =>
                              obtain ⟨g0, g1, g2, _⟩ := hS
                              go_simp
                              try rfl
                            case kkc0 =>
                            go_simp
                            refine wpLoad_step ?vkc1 rfl (fun w' hS => ?ykc1) ?kkc1
                            case ykc1 =>
                              obtain ⟨g0, g1, g2, _⟩ := hS
                              go_simp
                              try rfl
                            case kkc1 =>
                            go_simp
                            refine wpLoad_step ?vkc2 rfl (fun w' hS => ?ykc2) ?kkc2
                            case ykc2 =>
                              obtain ⟨g0, g1, g2, _⟩ := hS
                              go_simp
                              try rfl
                            case kkc2 =>
                            go_simp
                            refine wpLoad_step ?vkc3 rfl (fun w' hS => ?ykc3) ?kkc3
                            case ykc3 =>
                              obtain ⟨g0, g1, g2, _⟩ := hS
                              go_simp
                              try rfl
                            case kkc3 =>
                            go_simp
                            refine wpLoad_step ?vkc4 rfl (fun w' hS => ?ykc4) ?kkc4
                            case ykc4 =>
                              obtain ⟨g0, g1, g2, _⟩ := hS
                              go_simp
                              try rfl
                            case kkc4 =>
                            go_simp
                            refine wpLoad_step ?vkc5 rfl (fun w' hS => ?ykc5) ?kkc5
                            case ykc5 =>
                              obtain ⟨g0, g1, g2, _⟩ := hS
                              go_simp
                              try rfl
                            case kkc5 =>
                            go_simp
                            refine wpLoad_step ?vkc6 rfl (fun w' hS => ?ykc6) ?kkc6
                            case ykc6 =>
                              obtain ⟨g0, g1, g2, _⟩ := hS
                              go_simp
                              try rfl
                            case kkc6 =>
                            go_simp
                            refine wpLoad_step ?vkc7 rfl (fun w' hS => ?ykc7) ?kkc7
                            case ykc7 =>
                              obtain ⟨g0, g1, g2, _⟩ := hS
                              go_simp
                              try rfl
                            case kkc7 =>
                            go_simp
                            refine wpLoad_step ?vkc8 rfl (fun w' hS => ?ykc8) ?kkc8
                            case ykc8 =>
                              obtain ⟨g0, g1, g2, _⟩ := hS
                              go_simp
                              try rfl
                            case kkc8 =>
                            go_simp
                            refine wpLoad_step ?vkc9 rfl (fun w' hS => ?ykc9) ?kkc9
                            case ykc9 =>
                              obtain ⟨g0, g1, g2, _⟩ := hS
                              go_simp
                              try rfl
                            case kkc9 =>
                            go_simp
                            refine wpLoad_step ?vkc10 rfl (fun w' hS => ?ykc10) ?kkc10
                            case ykc10 =>
                              obtain ⟨g0, g1, g2, _⟩ := hS
                              go_simp
                              try rfl
                            case kkc10 =>
                            go_simp
                            refine wpLoad_step ?vkc11 rfl (fun w' hS => ?ykc11) ?kkc11
                            case ykc11 =>
                              obtain ⟨g0, g1, g2, _⟩ := hS
                              go_simp
                              try rfl
                            case kkc11 =>
                            go_simp
                            refine wpLoad_step ?vkc12 rfl (fun w' hS => ?ykc12) ?kkc12
                            case ykc12 =>
                              obtain ⟨g0, g1, g2, _⟩ := hS
                              go_simp
                              try rfl
                            case kkc12 =>
                            go_simp
                            refine wpLoad_step ?vkc13 rfl (fun w' hS => ?ykc13) ?kkc13
                            case ykc13 =>
                              obtain ⟨g0, g1, g2, _⟩ := hS
                              go_simp
                              try rfl
                            case kkc13 =>
                            go_simp
                            refine wpLoad_step ?vkc14 rfl (fun w' hS => ?ykc14) ?kkc14
                            case ykc14 =>
                              obtain ⟨g0, g1, g2, _⟩ := hS
                              go_simp
                              try rfl
                            case kkc14 =>
                            go_simp
                            refine wpLoad_step ?vkc15 rfl (fun w' hS => ?ykc15) ?kkc15
                            case ykc15 =>
                              obtain ⟨g0, g1, g2, _⟩ := hS
                              go_simp
                              try rfl
                            case kkc15 =>
                            go_simp
                            refine wpLoad_nil ?_
                            refine wpKeep_nil ?_
                            go_wp2
                            refine NoPanic.normal ?_
                            go_wp2_with fail
                            have HINS : Hid (j = 0 ∨ ∃ z, ys[j - 1]? = some z ∧ z.id ≤ ide) := Lib.hid (.inr ⟨v, by rw [HJ.out, Nat.add_sub_cancel]; exact HV.out, by omega⟩)
                            obtain ⟨OA, hOA9⟩ : ∃ OA : Option Addr, OA = some od := ⟨_, rfl⟩
                            rw [← hOA9] at HO HY HOA ⊢
                            have s1 : True := trivial
                            clear hOA9 hgt hjb hjb2 hjb3 hwr hsub hij0 HJ HV HC
                            clear s1
                            have hown0 := HY.out
                            have hkoc := (own_le hown0).1
                            have hocm := (own_le hown0).2
                            have hF := ownFront hown0 (j := j) hjk
                            rw [flt_take idC_len] at hF
                            have hrowY : Row wr (Lt wr.heap.size) OA (flt idC ys) := Row.ofOwn hown0 fun g _ _ h4 => h4
                            have hsl := back_row idC_len hrowY HYL.out hkoc j
                            obtain ⟨SB, hSB⟩ : ∃ SB, SB = backOf OA 4 oc j := ⟨_, rfl⟩
                            rw [← hSB] at hsl
                            have hBw := kp_below HB3.out HK.out (fun y (e : y = ob) => by omega)
                            obtain ⟨bd, hbd, _, t0, t1, t2⟩ := it_at (HR2.out.keep (kept_below hBw)) HZ.out
                            have gk : wr.cell? ⟨gi, k, none⟩ = some (.int .i64 ide) := ((HK.out.own HI3.out (fun g hg e => by have h9 : gi = g := Option.some.inj hg; omega)).cellAt k (by omega)).trans (by rw [List.getElem?_map, HID.out]; rfl)
                            have s1 : wr.cell? ⟨ob, 1, none⟩ = some (.slice OA k oc) := (Lib.cell_of_heap HO.out _).trans rfl
                            have HCI : Hid (AtCells [(⟨ob, 1, none⟩, .slice OA k oc), (⟨gi, k, none⟩, .int .i64 ide), (bd.add (k * 3), sv z.md), (⟨(bd.add (k * 3)).block, (bd.add (k * 3)).off + 1, none⟩, sv z.nm), (⟨(bd.add (k * 3)).block, (bd.add (k * 3)).off + 2, none⟩, sv z.sh)] wr) := Lib.hid ⟨s1, gk, t0, t1, t2, trivial⟩
                            have HFR := Lib.hid hF
                            have HSL := Lib.hid hsl
                            have HSB := Lib.hid hSB
                            clear hSB hown0 hF hrowY hsl hBw t0 t1 t2 gk s1
                            subst hbd
                            have hij : (0 : Int) ≤ (j : Int) ∧ (j : Int) ≤ (oc : Int) ∧ (j : Int) ≤ (k : Int) := ⟨by omega, by omega, by omega⟩
                            refine wp_region_held' (AtCells [(⟨ob, 1, none⟩, .slice OA k oc), (⟨gi, k, none⟩, .int .i64 ide), (bd.add (k * 3), sv z.md), (⟨(bd.add (k * 3)).block, (bd.add (k * 3)).off + 1, none⟩, sv z.nm), (⟨(bd.add (k * 3)).block, (bd.add (k * 3)).off + 2, none⟩, sv z.sh)]) [] [0, 1, 2, 3, 4, 5, 6, 7, 8, 9, 10, 11, 12, 14, 15, 16, 17] [13, 18] [19, 20, 21] (by kernel_rfl) (by kernel_rfl) ?siB ?hiB
                            case siB => exact HCI.out.below (Below.refl _ wr).drew
                            case hiB =>
                            simp only [opsAt, List.filterMap_cons, List.filterMap_nil, List.getElem?_toArray, List.getElem?_cons_succ, List.getElem?_cons_zero]
                            refine wpFloat_nil ?_
                            refine wpLoad_step ?vliB0 rfl (fun w' hS => ?yliB0) ?kliB0
                            case yliB0 =>
                              obtain ⟨g0, g1, g2, g3, g4, _⟩ := hS
                              go_simp
                              try rfl
                            case kliB0 =>
                            go_simp
                            refine wpLoad_step ?vliB1 rfl (fun w' hS => ?yliB1) ?kliB1
                            case yliB1 =>
                              obtain ⟨g0, g1, g2, g3, g4, _⟩ := hS
                              go_simp
                              try rfl
                            case kliB1 =>
                            go_simp
                            refine wpLoad_step ?vliB2 rfl (fun w' hS => ?yliB2) ?kliB2
                            case yliB2 =>
                              obtain ⟨g0, g1, g2, g3, g4, _⟩ := hS
                              go_simp
                              try rfl
                            case kliB2 =>
                            go_simp
                            refine wpLoad_step (.slice OA j oc) rfl (fun w' hS => ?yliB3) ?kliB3
                            case yliB3 =>
                              go_simp
                              try simp only [← front_of OA j oc 4]
                              try rfl
                            case kliB3 =>
                            go_simp
                            refine wpLoad_step ?vliB4 rfl (fun w' hS => ?yliB4) ?kliB4
                            case yliB4 =>
                              obtain ⟨g0, g1, g2, g3, g4, _⟩ := hS
                              go_simp
                              try rfl
                            case kliB4 =>
                            go_simp
                            refine wpLoad_step ?vliB5 rfl (fun w' hS => ?yliB5) ?kliB5
                            case yliB5 =>
                              obtain ⟨g0, g1, g2, g3, g4, _⟩ := hS
                              go_simp
                              try rfl
                            case kliB5 =>
                            go_simp
                            refine wpLoad_step ?vliB6 rfl (fun w' hS => ?yliB6) ?kliB6
                            case yliB6 =>
                              obtain ⟨g0, g1, g2, g3, g4, _⟩ := hS
                              go_simp
                              try rfl
                            case kliB6 =>
                            go_simp
                            refine wpLoad_step ?vliB7 rfl (fun w' hS => ?yliB7) ?kliB7
                            case yliB7 =>
                              obtain ⟨g0, g1, g2, g3, g4, _⟩ := hS
                              go_simp
                              try rfl
                            case kliB7 =>
                            go_simp
                            refine wpLoad_step ?vliB8 rfl (fun w' hS => ?yliB8) ?kliB8
                            case yliB8 =>
                              obtain ⟨g0, g1, g2, g3, g4, _⟩ := hS
                              go_simp
                              try rfl
                            case kliB8 =>
                            go_simp
                            refine wpLoad_step ?vliB9 rfl (fun w' hS => ?yliB9) ?kliB9
                            case yliB9 =>
                              obtain ⟨g0, g1, g2, g3, g4, _⟩ := hS
                              go_simp
                              try rfl
                            case kliB9 =>
                            go_simp
                            refine wpLoad_step ?vliB10 rfl (fun w' hS => ?yliB10) ?kliB10
                            case yliB10 =>
                              obtain ⟨g0, g1, g2, g3, g4, _⟩ := hS
                              go_simp
                              try rfl
                            case kliB10 =>
                            go_simp
                            refine wpLoad_step ?vliB11 rfl (fun w' hS => ?yliB11) ?kliB11
                            case yliB11 =>
                              obtain ⟨g0, g1, g2, g3, g4, _⟩ := hS
                              go_simp
                              try rfl
                            case kliB11 =>
                            go_simp
                            refine wpLoad_step ?vliB12 rfl (fun w' hS => ?yliB12) ?kliB12
                            case yliB12 =>
                              obtain ⟨g0, g1, g2, g3, g4, _⟩ := hS
                              go_simp
                              try rfl
                            case kliB12 =>
                            go_simp
                            refine wpLoad_step ?vliB14 rfl (fun w' hS => ?yliB14) ?kliB14
                            case yliB14 =>
                              obtain ⟨g0, g1, g2, g3, g4, _⟩ := hS
                              go_simp
                              try rfl
                            case kliB14 =>
                            go_simp
                            refine wpLoad_step ?vliB15 rfl (fun w' hS => ?yliB15) ?kliB15
                            case yliB15 =>
                              obtain ⟨g0, g1, g2, g3, g4, _⟩ := hS
                              go_simp
                              try rfl
                            case kliB15 =>
                            go_simp
                            refine wpLoad_step ?vliB16 rfl (fun w' hS => ?yliB16) ?kliB16
                            case yliB16 =>
                              obtain ⟨g0, g1, g2, g3, g4, _⟩ := hS
                              go_simp
                              try rfl
                            case kliB16 =>
                            go_simp
                            refine wpLoad_step (.slice SB (k - j) (oc - j)) rfl (fun w' hS => ?yliB17) ?kliB17
                            case yliB17 =>
                              go_simp
                              rw [HSB.out]
                              try rfl
                            case kliB17 =>
                            go_simp
                            refine wpLoad_nil ?_
                            refine wpKeep_step rfl ?_
                            go_simp
                            refine ⟨HCI.out.below ((Below.refl _ wr).alloc (Nat.le_refl _) _).drew, ?_⟩
                            refine wpKeep_step rfl ?_
                            refine (wp_append_row _ _ 27 rfl wr.heap.size 39 i0 _ 4 56 Try.underlying27 hi hz0 hz1 hz2 rfl (by omega) (.slice (some ⟨wr.heap.size, 0, none⟩) 1 1) 1 (idC ⟨ide, z⟩) rfl (own_lit wr #[.int .i64 ide, sv z.md, sv z.nm, sv z.sh] _ 4 1 rfl (by unfold maxLen; omega)) (Lt wr.heap.size) SB (k - j) (oc - j) (flt idC (ys.drop j)) rfl ?e1B ?e2B (flt_one' idC_one _) ?e3B (by omega) ?e4B ?_)
                            case e1B => rw [flt_length idC_len, List.length_drop, HYL.out]
                            case e2B => exact HSL.out.keep (kept_below ((Below.refl _ wr).alloc (Nat.le_refl _) _).drew.drew)
                            case e3B => unfold maxLen; omega
                            case e4B => exact Nat.le_trans (Nat.le_succ _) (Nat.le_of_eq (by simp [World.drew]))
                            intro v6 w6 hown6 hg6 _
                            have hb6 : Below wr.heap.size wr w6 := ((Below.refl _ wr).alloc (Nat.le_refl _) (.cells #[.int .i64 ide, sv z.md, sv z.nm, sv z.sh] 39)).drew.drew.grown hg6 (by simp [World.drew]) (fun r hr => by obtain rfl : wr.heap.size = r := Option.some.inj hr; exact Nat.le_refl _)
                            refine ⟨HCI.out.below hb6, ?_⟩
                            refine wpKeep_nil ?_
                            obtain ⟨A6, c6, hv6, _⟩ := own_slice hown6
                            subst hv6
                            have hs6 := hb6.size
                            have hk6 : Kp (fun _ => False) wr w6 := Kp.ofBelow hb6
                            have HF6 := Lib.hid (hk6.own HFR.out fun _ _ e => e)
                            have HR6 : Hid (Row w6 (Lt w6.heap.size) A6 (idC ⟨ide, z⟩ ++ flt idC (ys.drop j))) := Lib.hid (Row.ofOwn hown6 fun g _ _ h4 => h4)
                            have hl6 : (idC ⟨ide, z⟩ ++ flt idC (ys.drop j)).length = (1 + (k - j)) * 4 := hown6.1
                            have HBB6 := Lib.hid hb6
                            have HL6 := Lib.hid hl6
                            clear hown6 hg6 hb6 hl6 hk6
                            refine (wpList_append_row rfl _ _ 27 rfl w3.heap.size 39 i0 _ 4 56 Try.underlying27 hi hz0 hz1 hz2 rfl (by omega) (.slice OA j oc) j (flt idC (ys.take j)) rfl HF6.out (Lt w6.heap.size) A6 (1 + (k - j)) c6 (idC ⟨ide, z⟩ ++ flt idC (ys.drop j)) rfl HL6.out HR6.out ?e5B ?e6B (by omega) (by omega) ?_)
                            case e5B =>
                              intro u hu
                              rcases List.mem_append.1 hu with hu | hu
                              · exact idC_one _ u hu
                              · exact flt_one' idC_one _ u hu
                            case e6B => unfold maxLen; omega
                            intro v7 w7 hown7 hg7 _
                            obtain ⟨YN, hYN⟩ : ∃ YN, YN = ys.take j ++ ⟨ide, z⟩ :: ys.drop j := ⟨_, rfl⟩
                            rw [show flt idC (ys.take j) ++ (idC ⟨ide, z⟩ ++ flt idC (ys.drop j)) = flt idC YN by rw [hYN, flt_append, flt_cons], show j + (1 + (k - j)) = k + 1 by omega] at hown7
                            obtain ⟨A7, c7, hv7, hA7⟩ := own_slice hown7
                            subst hv7
                            have hlt6 := HF6.out.lt
                            have hk7 : Kp (fun y => w3.heap.size ≤ y) wr w7 := ((Kp.ofBelow HBB6.out : Kp (fun _ => False) wr w6).more fun _ _ e => e.elim).grown hg7 (fun r hr _ => (hlt6 r hr).1)
                            have hO7 := hk7.heap HO.out (by omega)
                            have s1 : w7.cell? ⟨ob, 1, none⟩ = some (.slice OA k oc) := (Lib.cell_of_heap hO7 _).trans rfl
                            have f1 : w7.frozen? ⟨ob, 1, none⟩ = false := Lib.frozen_of_heap hO7 1
                            obtain ⟨w8, hw8⟩ : ∃ w8, w8 = w7.setCell ⟨ob, 1, none⟩ (.slice A7 (k + 1) c7) := ⟨_, rfl⟩
                            have hk8 : Kp (fun y => y = ob) w7 w8 := by rw [hw8]; exact Kp.setCell (M := fun y => y = ob) (Kp.refl _ _) (fun _ => rfl) _
                            have HO8 : Hid (w8.heap[ob]? = some (.cells #[.int .i64 nx, .slice A7 (k + 1) c7] 29 (0, 0))) := Lib.hid (by rw [hw8]; exact setCell_heap (o := 1) (v := .slice A7 (k + 1) c7) hO7)
                            have HY8 := Lib.hid (hk8.own hown7 fun g hg e => by have := (hown7.lt g hg).1; omega)
                            have HK8 : Hid (Kp (fun y => y = ob) w3 w8) := Lib.hid ⟨hk8.os.trans (hk7.os.trans HK.out.os), hk8.tape.trans (hk7.tape.trans HK.out.tape), hk8.output.trans (hk7.output.trans HK.out.output), Nat.le_trans HK.out.size (Nat.le_trans hk7.size hk8.size), fun b hb hm => (hk8.block b (by have := hk7.size; omega) hm).trans ((hk7.block b (by omega) (by omega)).trans (HK.out.block b hb hm))⟩
                            have HW8 := Lib.hid hw8
                            have HYN := Lib.hid hYN
                            have HA7 := Lib.hid hA7
                            clear hown7 hg7 hlt6 hk7 hO7 hk8 hw8 hYN hA7 HF6 HR6 HL6 HBB6 HFR HSL HCI
                            go_wp2
                            refine NoPanic.normal ?_
                            go_wp2_with fail
                            rw [← HW8.out]
                            go_roundw
                            case rel =>
                              refine ⟨k + 1, by omega, by go_num, HK8.out, A7, c7, YN, ?_, HA7.out, HO8.out, HY8.out, ?_, ?_⟩
                              · rw [HYN.out, List.length_append, List.length_cons, List.length_take, List.length_drop, HYL.out]
                                omega
                              · rw [HYN.out, HZT.out]
                                exact ins_perm j HYP.out
                              · rw [HYN.out]
                                exact ins_sorted HYS.out HLT.out HINS.out
                            case measure => simp [intOf]; omega
                    · have hke : q = k := by omega
                      subst hke
                      have hR := HK.out.heap HR3.out (by omega)
                      have s0 : wr.cell? ⟨ob, 0, none⟩ = some (.int .i64 nx) := (Lib.cell_of_heap HO.out _).trans rfl
                      have s1 : wr.cell? ⟨ob, 1, none⟩ = some (.slice OA q oc) := (Lib.cell_of_heap HO.out _).trans rfl
                      have z0 : wr.cell? ⟨w.heap.size + 1, 0, none⟩ = some (.int .i64 0) := (Lib.cell_of_heap hR _).trans rfl
                      have z1 : wr.cell? ⟨w.heap.size + 1, 1, none⟩ = some (.slice none 0 0) := (Lib.cell_of_heap hR _).trans rfl
                      have f0 : wr.frozen? ⟨w.heap.size + 1, 0, none⟩ = false := Lib.frozen_of_heap hR 0
                      have f1 : wr.frozen? ⟨w.heap.size + 1, 1, none⟩ = false := Lib.frozen_of_heap hR 1
                      obtain ⟨w9, hw9⟩ : ∃ w9, w9 = (wr.setCell ⟨w.heap.size + 1, 0, none⟩ (.int .i64 nx)).setCell ⟨w.heap.size + 1, 1, none⟩ (.slice OA q oc) := ⟨_, rfl⟩
                      have h9 : w9.heap[w.heap.size + 1]? = some (.cells #[.int .i64 nx, .slice OA q oc] 29 (0, 0)) := by rw [hw9]; exact setCell_heap (o := 1) (v := .slice OA q oc) (setCell_heap (o := 0) (v := .int .i64 nx) hR)
                      have hk9 : Kp (fun y => y = w.heap.size + 1) wr w9 := by rw [hw9]; exact Kp.setCell (M := fun y => y = w.heap.size + 1) (Kp.setCell (M := fun y => y = w.heap.size + 1) (Kp.refl _ _) (fun _ => rfl) _) (fun _ => rfl) _
                      have q0 : w9.cell? ⟨w.heap.size + 1, 0, none⟩ = some (.int .i64 nx) := (Lib.cell_of_heap h9 _).trans rfl
                      have q1 : w9.cell? ⟨w.heap.size + 1, 1, none⟩ = some (.slice OA q oc) := (Lib.cell_of_heap h9 _).trans rfl
                      have hfr : ∀ y, y = ob → w.heap.size ≤ y := fun y e => by omega
                      have HBW := Lib.hid (kp_below HB3.out HK.out hfr)
                      have HW9 := Lib.hid hw9
                      have HK9 := Lib.hid hk9
                      clear hR hw9 h9 hk9 hfr
                      go_wp2_with fail
                      rw [← HW9.out]
                      refine bodyPost_ret (v := .tuple #[.agg #[.int .i64 nx, .slice OA q oc], .int .i64 0]) ?_ rfl ?_
                      · clear HW9 HK9 HBW HK HO HY HYP HYS
                        simp [results, Try.results9, go_sem, q0, q1]
                      · rw [HQ.out]
                        have hown9 := HK9.out.own HY.out (fun g hg e => by have := (HY.out.lt g hg).1; omega)
                        have hzk : zs.take q = zs := List.take_of_length_le (by omega)
                        have hyp := HYP.out
                        rw [hzk, HZS.out] at hyp
                        refine ⟨nx, ys, OA, oc, 0, by rw [HYL.out], HOA.out, by rw [HYL.out]; exact ownMono hown9 (by omega), .inr (.inr ⟨HCHK.out, HASC.out, by rw [← HNX.out]; exact HT3.out, HNX.out, hyp, HYS.out, rfl⟩), ?_⟩
                        have hb := HBW.out
                        have hb9 := HK9.out
                        exact ⟨hb9.os.trans hb.os, hb9.tape.trans hb.tape, hb9.output.trans hb.output, Nat.le_trans hb.size hb9.size, fun b hb' => (hb9.block b (by have := hb.size; omega) (by omega)).trans (hb.block b hb')⟩
end Go.Proofs.Ytmnhgkhidepojaa
