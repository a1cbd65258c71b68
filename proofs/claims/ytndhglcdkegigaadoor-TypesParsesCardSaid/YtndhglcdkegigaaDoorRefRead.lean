/-
  The walk of recompileref09.read.
  Conditions: the text is at most 4000000 bytes long.
-/
import Derived.Test.YtndhglcdkegigaaDoorParseW
namespace Go.Proofs.YtndhglcdkegigaaDoor
open Go.RowKit

theorem nm_free {d : List UInt8} {j : Nat} {c : UInt8} (h : (nm d)[j]? = some c) : sep c = false := by
  have := List.all_eq_true.1 (List.all_takeWhile (p := fun c => !sep c) (l := d)) c (List.mem_of_getElem? h)
  simpa using this
theorem rs_head : ∀ {d r : List UInt8} {c : UInt8}, rs d = c :: r → sep c = true
  | [], r, c, h => by simp [rs] at h
  | x :: d, r, c, h => by
    unfold rs at h
    rw [List.dropWhile_cons] at h
    split at h
    · exact rs_head (d := d) h
    · rename_i hx
      cases h
      simpa using hx
theorem at_free {s : List UInt8} {at_ e : Nat} (h1 : at_ ≤ e) (h2 : e < at_ + (nm (s.drop at_)).length) : ∃ c, s[e]? = some c ∧ sep c = false := by
  have hd := nm_rs (s.drop at_)
  have hj : e - at_ < (nm (s.drop at_)).length := by omega
  refine ⟨(nm (s.drop at_))[e - at_], ?_, nm_free (List.getElem?_eq_getElem hj)⟩
  have : (s.drop at_)[e - at_]? = some ((nm (s.drop at_))[e - at_]) := by
    conv => lhs; rw [← hd]
    rw [List.getElem?_append_left hj]
    exact List.getElem?_eq_getElem hj
  rw [List.getElem?_drop, show at_ + (e - at_) = e by omega] at this
  exact this
theorem d_sep {d r : List UInt8} {c : UInt8} (h : rs d = c :: r) : d[(nm d).length]? = some c ∧ d.drop ((nm d).length + 1) = r ∧ d.drop (nm d).length = c :: r := by
  have hd := nm_rs d
  rw [h] at hd
  obtain ⟨a, ha⟩ : ∃ a, a = nm d := ⟨_, rfl⟩
  rw [← ha] at hd ⊢
  clear ha h
  subst hd
  refine ⟨?_, ?_, ?_⟩
  · rw [List.getElem?_append_right (Nat.le_refl _)]
    simp
  · rw [List.drop_append]
    simp
  · simp
theorem at_sep {s r : List UInt8} {at_ : Nat} {c : UInt8} (h : rs (s.drop at_) = c :: r) : s[at_ + (nm (s.drop at_)).length]? = some c ∧ s.drop (at_ + (nm (s.drop at_)).length + 1) = r ∧ s.drop (at_ + (nm (s.drop at_)).length) = c :: r := by
  obtain ⟨h1, h2, h3⟩ := d_sep h
  refine ⟨by rwa [List.getElem?_drop] at h1, by rwa [List.drop_drop, ← Nat.add_assoc] at h2, by rwa [List.drop_drop] at h3⟩
theorem bs_at {s : List UInt8} {e : Nat} {c : UInt8} (h : s[e]? = some c) : ∃ he : e < (bs s).size, (bs s)[e]'he = c := by
  have he : e < (bs s).size := by rw [bs_size]; exact (List.getElem?_eq_some_iff.1 h).1
  refine ⟨he, ?_⟩
  have := Lib.data_getElem? (bs s) e he
  rw [bs_data, h] at this
  exact (Option.some.inj this).symm
theorem byte_ne {c x : UInt8} (h : c ≠ x) : (((c.toNat : Nat) : Int) != ((x.toNat : Nat) : Int)) = true := by
  rw [bne_iff_ne]
  intro e
  exact h (UInt8.toNat_inj.1 (by omega))
theorem byte_eq (x : UInt8) : (((x.toNat : Nat) : Int) != ((x.toNat : Nat) : Int)) = false := by simp
theorem byte_eqq {c x : UInt8} (h : c ≠ x) : (((c.toNat : Nat) : Int) == ((x.toNat : Nat) : Int)) = false := by
  rw [beq_eq_false_iff_ne]
  intro e
  exact h (UInt8.toNat_inj.1 (by omega))
theorem cut_mid {s : List UInt8} {at_ k : Nat} (hk : k = (nm (s.drop at_)).length) : (bs s).extract at_ (at_ + k) = bs (nm (s.drop at_)) := by
  apply ByteArray.ext
  simp only [bs, ByteArray.data_extract, List.extract_toArray, List.extract_eq_take_drop]
  congr 1
  have hd := nm_rs (s.drop at_)
  rw [show at_ + k - at_ = k by omega]
  conv => lhs; rw [← hd]
  rw [hk, List.take_left]

def ReadYes (t : Ty) (rest s : List UInt8) (w : World) (e : Ending) (w' : World) : Prop :=
  ∃ (u v : Value) (nx : Nat), e = .returned (.tuple #[.agg #[u, v], .int .i64 (nx : Int), .bool true]) ∧ nx ≤ s.length ∧ s.drop nx = rest ∧ TyIs w' (Fr w.heap.size w'.heap.size) t u v ∧ Below w.heap.size w w'
def ReadNo (w : World) (e : Ending) (w' : World) : Prop := ∃ (x : List UInt8) (a : Option Addr × Nat × Nat), e = .returned (.tuple #[.agg #[sv x, .slice a.1 a.2.1 a.2.2], .int .i64 0, .bool false]) ∧ Below w.heap.size w w'
def ReadRes (r : Option (Ty × List UInt8)) (s : List UInt8) (w : World) (e : Ending) (w' : World) : Prop :=
  match r with
  | some (t, rest) => ReadYes t rest s w e w'
  | none => ReadNo w e w'

set_option maxHeartbeats 16000000 in
set_option maxRecDepth 100000 in
theorem read_any (s : List UInt8) (hs : s.length ≤ 4000000) : ∀ (n at_ : Nat) (i : Int) (w : World), i = (at_ : Int) → at_ ≤ s.length → 2 * (s.length - at_) + 1 ≤ n →
    Calls Tryd.prog 31 #[.string (bs s), .int .i64 i] w (ReadRes (rd n (s.drop at_)) s w) := by
  intro n
  induction n using Nat.strongRecOn with | ind n ih => ?_
  intro at_ i w hi hat hn
  subst hi
  obtain ⟨n, rfl⟩ : ∃ m, n = m + 1 := ⟨n - 1, by omega⟩
  obtain ⟨k, hk⟩ : ∃ k, k = (nm (s.drop at_)).length := ⟨_, rfl⟩
  have hlen := nm_len (s.drop at_)
  rw [← hk, List.length_drop] at hlen
  have HK := Lib.hid hk
  have HCM := Lib.hid (cut_mid hk)
  have HFREE := Lib.hid (fun e h1 h2 => at_free (s := s) (at_ := at_) (e := e) h1 (by rw [← hk]; exact h2))
  have IH := Lib.hid ih
  have hbz : (bs s).size = s.length := bs_size s
  have hZ0 : (w.alloc (.cells #[.string ⟨#[]⟩, .slice none 0 0] 30)).heap[w.heap.size]? = some (.cells #[.string ⟨#[]⟩, .slice none 0 0] 30 (0, 0)) := alloc1 _ _
  have hb0 : Below w.heap.size w (w.alloc (.cells #[.string ⟨#[]⟩, .slice none 0 0] 30)) := (Below.refl _ _).alloc (Nat.le_refl _) _
  have HZ0 := Lib.hid hZ0
  have HB0 := Lib.hid hb0
  have HBZ := Lib.hid hbz
  clear hk ih hZ0 hb0 hbz
  go_enter Tryd.func31, Tryd.ntmps31
  go_wp2_with fail
  go_loopg [7] k (fun g i wx => ∃ e : Nat, e + g = at_ + k ∧ at_ ≤ e ∧ i = .int .i64 (e : Int) ∧ wx = w.alloc (.cells #[.string ⟨#[]⟩, .slice none 0 0] 30))
  case atStart => exact ⟨at_, rfl, Nat.le_refl _, rfl, rfl⟩
  case round =>
    obtain ⟨e, heg, hae, rfl, rfl⟩ := hrel
    by_cases hek : e < at_ + k
    · obtain ⟨c, hc, hsc⟩ := HFREE.out e hae hek
      obtain ⟨he, hce⟩ := bs_at hc
      simp only [sep, Bool.or_eq_false_iff, beq_eq_false_iff_ne] at hsc
      have b1 := byte_ne hsc.1.1
      have b2 := byte_ne hsc.1.2
      have b3 := byte_ne hsc.2
      rw [← hce] at b1 b2 b3
      have b1' : ((((bs s)[e]'he).toNat : Int) != 60) = true := b1
      have b2' : ((((bs s)[e]'he).toNat : Int) != 62) = true := b2
      have b3' : ((((bs s)[e]'he).toNat : Int) != 44) = true := b3
      have hel : (e : Int) < ((bs s).size : Int) := by omega
      clear hc hsc b1 b2 b3 hce
      go_wp2
      go_roundg (gk - 1)
      case measure => omega
      case rel => exact ⟨e + 1, by omega, by omega, by go_num, rfl⟩
    · obtain rfl : e = at_ + k := by omega
      have hcm := HCM.out
      obtain ⟨h2a, h2b⟩ := alloc2 w (.cells #[.string ⟨#[]⟩, .slice none 0 0] 30) (.cells #[sv (nm (s.drop at_)), .slice none 0 0] 30)
      have hb2 : Below w.heap.size w ((w.alloc (.cells #[.string ⟨#[]⟩, .slice none 0 0] 30)).alloc (.cells #[sv (nm (s.drop at_)), .slice none 0 0] 30)) := ((Below.refl _ _).alloc (Nat.le_refl _) _).alloc (by simp) _
      have C0 : Hid (∀ x y : Value, ((((w.alloc (.cells #[.string ⟨#[]⟩, .slice none 0 0] 30)).alloc (.cells #[sv (nm (s.drop at_)), .slice none 0 0] 30)).setCell ⟨w.heap.size, 0, none⟩ x).setCell ⟨w.heap.size, 1, none⟩ y).cell? ⟨w.heap.size, 0, none⟩ = some x) := Lib.hid fun x y => (Lib.cell_of_heap (setCell_heap (setCell_heap h2a)) _).trans rfl
      have H2A := Lib.hid h2a
      have H2B := Lib.hid h2b
      have HB2 := Lib.hid hb2
      clear h2a h2b hb2
      have hlo : at_ ≤ at_ + k := by omega
      have hup : at_ + k ≤ (bs s).size := by have := HBZ.out; omega
      rcases hr : rs (s.drop at_) with _ | ⟨c, r⟩
      · skip
        have HR := Lib.hid hr
        have hend : at_ + k = s.length := by rw [hr] at hlen; simp at hlen; omega
        have hlt : ¬ ((at_ : Int) + (k : Int) < ((bs s).size : Int)) := by have := HBZ.out; omega
        have heqq : ((at_ : Int) + (k : Int) == ((bs s).size : Int)) = true := by have := HBZ.out; simp; omega
        have HEND := Lib.hid hend
        clear hr hend
        by_cases hk0 : k = 0
        · have hq : ((at_ : Int) + (k : Int) == (at_ : Int)) = true := by simp; omega
          have hnm : nm (s.drop at_) = [] := List.eq_nil_of_length_eq_zero (by rw [← HK.out]; exact hk0)
          have HN := Lib.hid hnm
          clear hk0 hnm
          go_wp2
          refine bodyPost_ret (v := .tuple #[.agg #[sv (nm (s.drop at_)), .slice none 0 0], .int .i64 0, .bool false]) (by simp [results, Tryd.results31, go_sem]) rfl ?_
          rw [rd_none HN.out]
          exact ⟨nm (s.drop at_), (none, 0, 0), rfl, ((Below.refl _ _).alloc (Nat.le_refl _) _).alloc (by simp) _⟩
        · have hq : ((at_ : Int) + (k : Int) == (at_ : Int)) = false := by simp; omega
          have hnm : nm (s.drop at_) ≠ [] := fun e => hk0 (by rw [HK.out, e]; rfl)
          have HN := Lib.hid hnm
          clear hk0 hnm
          go_wp2
          refine bodyPost_ret (v := .tuple #[.agg #[sv (nm (s.drop at_)), .slice none 0 0], .int .i64 ((at_ + k : Nat) : Int), .bool true]) (by simp [results, Tryd.results31, go_sem]) rfl ?_
          rw [rd_end HN.out HR.out]
          exact ⟨_, _, at_ + k, rfl, by have := HEND.out; omega, by rw [HEND.out]; simp, wide_leaf _ _ _ (by have := HK.out; omega), ((Below.refl _ _).alloc (Nat.le_refl _) _).alloc (by simp) _⟩
      · have hsc := rs_head hr
        simp only [sep, Bool.or_eq_true, beq_iff_eq] at hsc
        rcases hsc with (rfl | rfl) | rfl
        · skip
          have HR := Lib.hid hr
          obtain ⟨hc1, hc2, hc3⟩ := at_sep hr
          rw [← HK.out] at hc1 hc2 hc3
          obtain ⟨he, hce⟩ := bs_at hc1
          have b1 : ((((bs s)[at_ + k]'he).toNat : Int) != 60) = false := by rw [hce]; rfl
          have b2 : ((((bs s)[at_ + k]'he).toNat : Int) != 62) = true := by rw [hce]; rfl
          have b3 : ((((bs s)[at_ + k]'he).toNat : Int) != 44) = true := by rw [hce]; rfl
          have hlt : (at_ : Int) + (k : Int) < ((bs s).size : Int) := by omega
          have heqq : ((at_ : Int) + (k : Int) == ((bs s).size : Int)) = false := by simp; omega
          have HC2 := Lib.hid hc2
          have HC3 := Lib.hid hc3
          clear hr hc1 hc2 hc3 hce
          by_cases hk0 : k = 0
          · have hq : ((at_ : Int) + (k : Int) == (at_ : Int)) = true := by simp; omega
            have hnm : nm (s.drop at_) = [] := List.eq_nil_of_length_eq_zero (by rw [← HK.out]; exact hk0)
            have HN := Lib.hid hnm
            clear hk0 hnm
            go_wp2
            refine bodyPost_ret (v := .tuple #[.agg #[sv (nm (s.drop at_)), .slice none 0 0], .int .i64 0, .bool false]) (by simp [results, Tryd.results31, go_sem]) rfl ?_
            rw [rd_none HN.out]
            exact ⟨nm (s.drop at_), (none, 0, 0), rfl, ((Below.refl _ _).alloc (Nat.le_refl _) _).alloc (by simp) _⟩
          · have hq : ((at_ : Int) + (k : Int) == (at_ : Int)) = false := by simp; omega
            have hnm : nm (s.drop at_) ≠ [] := fun e => hk0 (by rw [HK.out, e]; rfl)
            have HN := Lib.hid hnm
            clear hk0 hnm
            have HRD := Lib.hid (rd_kids (n := n) HN.out HR.out)
            have HO2 := Lib.hid (OutIs.fresh H2B.out)
            go_wp2_with fail
            clear hcm
            go_loopg [7] (s.length - (at_ + k)) (fun g i wx => ∃ (m e : Nat) (ts : List Ty), e + g = s.length ∧ i = .int .i64 (e : Int) ∧ e < s.length ∧ 2 * (s.length - (e + 1)) + 2 ≤ m ∧ m ≤ n ∧ ts.length ≤ e ∧ rdK n r = (rdK m (s.drop (e + 1))).map (fun p => (ts ++ p.1, p.2)) ∧ OutIs (w.heap.size + 1) (nm (s.drop at_)) ts wx ∧ wx.heap[w.heap.size]? = some (.cells #[.string ⟨#[]⟩, .slice none 0 0] 30 (0, 0)) ∧ Below w.heap.size w wx)
            case atStart => exact ⟨n, at_ + k, [], by have := HBZ.out; omega, by go_num, by have := HBZ.out; omega, by have := HBZ.out; omega, Nat.le_refl _, by simp, by rw [HC2.out]; simp, HO2.out, H2A.out, HB2.out⟩
            case round =>
              obtain ⟨m, e, ts, hg, rfl, hel, hm, hmn, htl, hrk, hOr, hZr, hBr⟩ := hrel
              obtain ⟨m, rfl⟩ : ∃ m', m = m' + 1 := ⟨m - 1, by omega⟩
              have HKI := Lib.hid (IH.out m (by omega) (e + 1) ((e : Int) + 1) wr (by simp) (by omega) (by omega))
              have HRK := Lib.hid hrk
              have HOR := Lib.hid hOr
              have HZR := Lib.hid hZr
              have HBR := Lib.hid hBr
              have HRL := Lib.hid (rd_len m).1
              have hsr := hBr.size
              clear hrk hOr hZr hBr
              go_wp2_with fail
              refine HKI.out.mono ?_
              intro e' w5 hk5
              rcases hrm : rd m (s.drop (e + 1)) with _ | ⟨t, rest⟩
              · rw [hrm] at hk5
                obtain ⟨x, a, rfl, hbx⟩ := hk5
                have HBX := Lib.hid hbx
                have hnone : rd (n + 1) (s.drop at_) = none := by rw [HRD.out, HRK.out, rdK_none hrm]; rfl
                have HNO := Lib.hid hnone
                have hO5 := HOR.out.below HBX.out
                obtain ⟨ov, vs, hO⟩ := hO5
                obtain ⟨av, rfl⟩ := hO.shape
                have hZ5 := (HBX.out.block _ (lt_of_heap HZR.out)).trans HZR.out
                have x0 : w5.cell? ⟨w.heap.size + 1, 0, none⟩ = some (sv (nm (s.drop at_))) := (Lib.cell_of_heap hO.blk _).trans rfl
                have x1 : w5.cell? ⟨w.heap.size + 1, 1, none⟩ = some (.slice av.1 av.2.1 av.2.2) := (Lib.cell_of_heap hO.blk _).trans rfl
                have xb := lt_of_heap hO.blk
                have HB5 := Lib.hid (HBR.out.trans (HBX.out.mono HBR.out.size))
                have z0 : w5.cell? ⟨w.heap.size, 0, none⟩ = some (.string ⟨#[]⟩) := (Lib.cell_of_heap hZ5 _).trans rfl
                have z1 : w5.cell? ⟨w.heap.size, 1, none⟩ = some (.slice none 0 0) := (Lib.cell_of_heap hZ5 _).trans rfl
                have y0 : w5.frozen? ⟨w.heap.size, 0, none⟩ = false := Lib.frozen_of_heap hZ5 0
                have y1 : w5.frozen? ⟨w.heap.size, 1, none⟩ = false := Lib.frozen_of_heap hZ5 1
                have hz5 := lt_of_heap hZ5
                have C0 : Hid (∀ x y : Value, ((w5.setCell ⟨w.heap.size, 0, none⟩ x).setCell ⟨w.heap.size, 1, none⟩ y).cell? ⟨w.heap.size, 0, none⟩ = some x) := Lib.hid fun x y => (Lib.cell_of_heap (setCell_heap (setCell_heap hZ5)) _).trans rfl
                have C1 : Hid (∀ x y : Value, ((w5.setCell ⟨w.heap.size, 0, none⟩ x).setCell ⟨w.heap.size, 1, none⟩ y).cell? ⟨w.heap.size, 1, none⟩ = some y) := Lib.hid fun x y => (Lib.cell_of_heap (setCell_heap (setCell_heap hZ5)) _).trans rfl
                clear hrm hnone hbx hZ5 hO
                go_wp2
                refine bodyPost_ret (v := .tuple #[.agg #[sv (nm (s.drop at_)), .slice av.1 av.2.1 av.2.2], .int .i64 0, .bool false]) (by simp [results, Tryd.results31, go_sem, C0.out, C1.out, hz5]) rfl ?_
                rw [HNO.out]
                exact ⟨nm (s.drop at_), av, rfl, ((HB5.out.setCell (by simp) _).setCell (by simp) _).alloc (by simp; omega) _⟩
              · rw [hrm] at hk5
                obtain ⟨u, v, nx, rfl, hnx, hdr, hT5, hbx⟩ := hk5
                obtain ⟨un, va, rfl, rfl⟩ := hT5.shape
                have HBX := Lib.hid hbx
                have hlr := HRL.out _ t rest hrm
                have htp : 0 < t.size := by obtain ⟨_, _⟩ := t; simp only [Ty.size]; omega
                rw [List.length_drop] at hlr
                cases rest with
                | nil =>
                  have hnone : rd (n + 1) (s.drop at_) = none := by rw [HRD.out, HRK.out, rdK_bad hrm (by simp) (by simp)]; rfl
                  have HNO := Lib.hid hnone
                  have hnl : nx = s.length := by have := congrArg List.length hdr; simp at this; omega
                  have hqe : ((nx : Int) == ((bs s).size : Int)) = true := by have := HBZ.out; simp; omega
                  have hO5 := HOR.out.below HBX.out
                  obtain ⟨ov, vs, hO⟩ := hO5
                  obtain ⟨av, rfl⟩ := hO.shape
                  have hZ5 := (HBX.out.block _ (lt_of_heap HZR.out)).trans HZR.out
                  have x0 : w5.cell? ⟨w.heap.size + 1, 0, none⟩ = some (sv (nm (s.drop at_))) := (Lib.cell_of_heap hO.blk _).trans rfl
                  have x1 : w5.cell? ⟨w.heap.size + 1, 1, none⟩ = some (.slice av.1 av.2.1 av.2.2) := (Lib.cell_of_heap hO.blk _).trans rfl
                  have xb := lt_of_heap hO.blk
                  have HB5 := Lib.hid (HBR.out.trans (HBX.out.mono HBR.out.size))
                  have z0 : w5.cell? ⟨w.heap.size, 0, none⟩ = some (.string ⟨#[]⟩) := (Lib.cell_of_heap hZ5 _).trans rfl
                  have z1 : w5.cell? ⟨w.heap.size, 1, none⟩ = some (.slice none 0 0) := (Lib.cell_of_heap hZ5 _).trans rfl
                  have y0 : w5.frozen? ⟨w.heap.size, 0, none⟩ = false := Lib.frozen_of_heap hZ5 0
                  have y1 : w5.frozen? ⟨w.heap.size, 1, none⟩ = false := Lib.frozen_of_heap hZ5 1
                  have hz5 := lt_of_heap hZ5
                  have C0 : Hid (∀ x y : Value, ((w5.setCell ⟨w.heap.size, 0, none⟩ x).setCell ⟨w.heap.size, 1, none⟩ y).cell? ⟨w.heap.size, 0, none⟩ = some x) := Lib.hid fun x y => (Lib.cell_of_heap (setCell_heap (setCell_heap hZ5)) _).trans rfl
                  have C1 : Hid (∀ x y : Value, ((w5.setCell ⟨w.heap.size, 0, none⟩ x).setCell ⟨w.heap.size, 1, none⟩ y).cell? ⟨w.heap.size, 1, none⟩ = some y) := Lib.hid fun x y => (Lib.cell_of_heap (setCell_heap (setCell_heap hZ5)) _).trans rfl
                  clear hrm hnone hbx hZ5 hO hnl hdr hT5
                  go_wp2
                  refine bodyPost_ret (v := .tuple #[.agg #[sv (nm (s.drop at_)), .slice av.1 av.2.1 av.2.2], .int .i64 0, .bool false]) (by simp [results, Tryd.results31, go_sem, C0.out, C1.out, hz5]) rfl ?_
                  rw [HNO.out]
                  exact ⟨nm (s.drop at_), av, rfl, ((HB5.out.setCell (by simp) _).setCell (by simp) _).alloc (by simp; omega) _⟩
                | cons c2 r2 =>
                  have hcx : s[nx]? = some c2 := by
                    have := congrArg (fun l => l[0]?) hdr
                    simpa using this
                  have hdr2 : s.drop (nx + 1) = r2 := by
                    have := congrArg (List.drop 1) hdr
                    simpa using this
                  have hrl2 : nx + (r2.length + 1) = s.length := by have := congrArg List.length hdr; simp at this; omega
                  obtain ⟨hne, hce⟩ := bs_at hcx
                  have hqe : ((nx : Int) == ((bs s).size : Int)) = false := by simp; omega
                  by_cases h44 : c2 = 44
                  · subst h44
                    have b2 : ((((bs s)[nx]'hne).toNat : Int) == 62) = false := by rw [hce]; rfl
                    have b1 : ((((bs s)[nx]'hne).toNat : Int) != 44) = false := by rw [hce]; rfl
                    have hsx := hbx.size
                    obtain ⟨q, hq⟩ : ∃ q, q = ts.length := ⟨_, rfl⟩
                    obtain ⟨ov, vs, hO⟩ := HOR.out
                    have hor := lt_of_heap hO.blk
                    have hO5 := hO.kept (grownOfBelow hbx) (.inl rfl)
                    have hZ5 := (hbx.block _ (lt_of_heap HZR.out)).trans HZR.out
                    have hz5 := lt_of_heap hZ5
                    have hown5 := hO5.own
                    rw [← hq] at hown5
                    have x0 : w5.cell? ⟨w.heap.size + 1, 0, none⟩ = some (sv (nm (s.drop at_))) := (Lib.cell_of_heap hO5.blk _).trans rfl
                    have x1 : w5.cell? ⟨w.heap.size + 1, 1, none⟩ = some ov := (Lib.cell_of_heap hO5.blk _).trans rfl
                    have xb := lt_of_heap hO5.blk
                    obtain ⟨i0, hi, hz0, hz1, hz2⟩ := info_parts infoT
                    have hb6 : Below w5.heap.size w5 ((w5.alloc (.cells #[sv un, .slice va.1 va.2.1 va.2.2] 30)).alloc (.cells #[sv un, .slice va.1 va.2.1 va.2.2] 30)) := ((Below.refl _ _).alloc (Nat.le_refl _) _).alloc (by simp) _
                    have HQ := Lib.hid hq
                    have HRM := Lib.hid hrm
                    have HT5 := Lib.hid hT5
                    have HZ5 := Lib.hid ((hb6.block _ hz5).trans hZ5)
                    have HB5 := Lib.hid (HBR.out.trans ((hbx.trans (hb6.mono hsx)).mono HBR.out.size))
                    have HO6 := Lib.hid (hO5.kept (grownOfBelow hb6) (.inl rfl))
                    have HOW := Lib.hid ((hown5.alloc (.cells #[sv un, .slice va.1 va.2.1 va.2.2] 30)).alloc (.cells #[sv un, .slice va.1 va.2.1 va.2.2] 30))
                    have HOL := Lib.hid hO.own.lt
                    have HDR := Lib.hid hdr
                    have HDR2 := Lib.hid hdr2
                    clear hq hrm hT5 hZ5 hO hO5 hown5 hb6 hdr hdr2 hcx hbx HOR HZR hce
                    go_wp2_with (at_builtin; refine wpList_append_lies _ rfl _ _ 28 rfl (w.heap.size + 1 + 1) 30 i0 _ 2 40 Tryd.underlying28 hi hz0 hz1 hz2 rfl (by omega) ov q (flat2 vs) rfl HOW.out ⟨w5.heap.size + 1, 0, none⟩ 1 1 [sv un, .slice va.1 va.2.1 va.2.2] rfl rfl ?c1a ?c2a (by omega) ?c3a ?c4a ?c5a _ rfl ?_)
                    case c1a => exact World.news_of_block (cs := #[sv un, .slice va.1 va.2.1 va.2.2]) (by have := alloc1 (w5.alloc (.cells #[sv un, .slice va.1 va.2.1 va.2.2] 30)) (.cells #[sv un, .slice va.1 va.2.1 va.2.2] 30); simpa using this)
                    case c2a => simp [Value.oneCell']
                    case c3a => have := HQ.out; unfold maxLen; omega
                    case c4a => have := HQ.out; omega
                    case c5a => simp; omega
                    intro g cap w7 hown7 hgrow hat7 _
                    have hgb := hown7.lt g rfl
                    have hne7 : ∀ y, y ≤ w.heap.size + 1 → some y ≠ ov.ownBlock := fun y hy e => by have := (HOW.out.lt _ e.symm).1; omega
                    have hO7 := (hgrow.block (w.heap.size + 1) (by simp; omega) (hne7 _ (Nat.le_refl _))).trans HO6.out.blk
                    have hZ7 : (w7.setCell ⟨w.heap.size + 1, 1, none⟩ (.slice (some ⟨g, 0, none⟩) (q + 1) cap)).heap[w.heap.size]? = some (.cells #[.string ⟨#[]⟩, .slice none 0 0] 30 (0, 0)) := by
                      rw [Below.heap_setCell _ _ _ _ (by simp)]
                      exact (hgrow.block w.heap.size (by simp; omega) (hne7 _ (by omega))).trans HZ5.out
                    have hB7 : Below w.heap.size w (w7.setCell ⟨w.heap.size + 1, 1, none⟩ (.slice (some ⟨g, 0, none⟩) (q + 1) cap)) := (HB5.out.grown hgrow (by simp; omega) (fun x e => by have := (HOW.out.lt _ e).1; omega)).setCell (by simp) _
                    have hN : OutIs (w.heap.size + 1) (nm (s.drop at_)) (ts ++ [t]) (w7.setCell ⟨w.heap.size + 1, 1, none⟩ (.slice (some ⟨g, 0, none⟩) (q + 1) cap)) := by
                      have := HO6.out.push (t := t) (u := sv un) (v := .slice va.1 va.2.1 va.2.2) (w' := w7) (g := g) (cap := cap) ?_ (by rw [← HQ.out]; exact hown7) hgrow (hat7.imp id fun e => by rw [e]; simp)
                      · rw [← HQ.out] at this
                        exact this
                      · refine (HT5.out.keep (keptGrown (grownOfBelow (((Below.refl w5.heap.size w5).alloc (Nat.le_refl _) (.cells #[sv un, .slice va.1 va.2.1 va.2.2] 30)).alloc (by simp) (.cells #[sv un, .slice va.1 va.2.1 va.2.2] 30))) fun x hx => ⟨hx.2, by simp⟩)).more fun x hx => ⟨?_, ?_, ?_⟩
                        · have := hx.1; omega
                        · have := hx.2; simp; omega
                        · intro e
                          have := (HOL.out x e.symm).2
                          have h5 := hx.1
                          omega
                    have t1 : w7.cell? ⟨w.heap.size + 1, 1, none⟩ = some ov := (Lib.cell_of_heap hO7 _).trans rfl
                    have t2 : w7.frozen? ⟨w.heap.size + 1, 1, none⟩ = false := Lib.frozen_of_heap hO7 1
                    have HZ7 := Lib.hid hZ7
                    have HB7 := Lib.hid hB7
                    have HN7 := Lib.hid hN
                    have hsz7 := hB7.size
                    have hrk2 : rdK n r = (rdK m (s.drop (nx + 1))).map (fun p => ((ts ++ [t]) ++ p.1, p.2)) := by
                      rw [HRK.out, rdK_more HRM.out, Option.map_map, HDR2.out]
                      congr 1
                      funext p
                      simp
                    have HRK2 := Lib.hid hrk2
                    have hl9 : r2.length + 1 + t.size ≤ s.length - (e + 1) := by simp only [List.length_cons] at hlr; omega
                    clear hown7 hgrow hat7 hgb hne7 hO7 hZ7 hB7 hN HO6 HOW HOL HT5 HZ5 HB5 x0 x1 hrk2 hlr
                    go_wp2_with fail
                    go_roundg (s.length - nx)
                    case measure => omega
                    case rel => exact ⟨m, nx, ts ++ [t], by omega, rfl, by omega, by omega, by omega, by simp; omega, HRK2.out, HN7.out, HZ7.out, HB7.out⟩
                  · by_cases h62 : c2 = 62
                    · subst h62
                      have b2 : ((((bs s)[nx]'hne).toNat : Int) == 62) = true := by rw [hce]; rfl
                      have b1 : ((((bs s)[nx]'hne).toNat : Int) != 44) = true := by rw [hce]; rfl
                      have b3 : ((((bs s)[nx]'hne).toNat : Int) != 62) = false := by rw [hce]; rfl
                      have hsx := hbx.size
                      obtain ⟨q, hq⟩ : ∃ q, q = ts.length := ⟨_, rfl⟩
                      obtain ⟨ov, vs, hO⟩ := HOR.out
                      have hor := lt_of_heap hO.blk
                      have hO5 := hO.kept (grownOfBelow hbx) (.inl rfl)
                      have hZ5 := (hbx.block _ (lt_of_heap HZR.out)).trans HZR.out
                      have hz5 := lt_of_heap hZ5
                      have hown5 := hO5.own
                      rw [← hq] at hown5
                      have x0 : w5.cell? ⟨w.heap.size + 1, 0, none⟩ = some (sv (nm (s.drop at_))) := (Lib.cell_of_heap hO5.blk _).trans rfl
                      have x1 : w5.cell? ⟨w.heap.size + 1, 1, none⟩ = some ov := (Lib.cell_of_heap hO5.blk _).trans rfl
                      have xb := lt_of_heap hO5.blk
                      obtain ⟨i0, hi, hz0, hz1, hz2⟩ := info_parts infoT
                      have hb6 : Below w5.heap.size w5 ((w5.alloc (.cells #[sv un, .slice va.1 va.2.1 va.2.2] 30)).alloc (.cells #[sv un, .slice va.1 va.2.1 va.2.2] 30)) := ((Below.refl _ _).alloc (Nat.le_refl _) _).alloc (by simp) _
                      have HQ := Lib.hid hq
                      have HRM := Lib.hid hrm
                      have HT5 := Lib.hid hT5
                      have HZ5 := Lib.hid ((hb6.block _ hz5).trans hZ5)
                      have HB5 := Lib.hid (HBR.out.trans ((hbx.trans (hb6.mono hsx)).mono HBR.out.size))
                      have HO6 := Lib.hid (hO5.kept (grownOfBelow hb6) (.inl rfl))
                      have HOW := Lib.hid ((hown5.alloc (.cells #[sv un, .slice va.1 va.2.1 va.2.2] 30)).alloc (.cells #[sv un, .slice va.1 va.2.1 va.2.2] 30))
                      have HOL := Lib.hid hO.own.lt
                      have HDR := Lib.hid hdr
                      have HDR2 := Lib.hid hdr2
                      clear hq hrm hT5 hZ5 hO hO5 hown5 hb6 hdr hdr2 hcx hbx HOR HZR hce
                      go_wp2_with (at_builtin; refine wpList_append_lies _ rfl _ _ 28 rfl (w.heap.size + 1 + 1) 30 i0 _ 2 40 Tryd.underlying28 hi hz0 hz1 hz2 rfl (by omega) ov q (flat2 vs) rfl HOW.out ⟨w5.heap.size + 1, 0, none⟩ 1 1 [sv un, .slice va.1 va.2.1 va.2.2] rfl rfl ?c1b ?c2b (by omega) ?c3b ?c4b ?c5b _ rfl ?_)
                      case c1b => exact World.news_of_block (cs := #[sv un, .slice va.1 va.2.1 va.2.2]) (by have := alloc1 (w5.alloc (.cells #[sv un, .slice va.1 va.2.1 va.2.2] 30)) (.cells #[sv un, .slice va.1 va.2.1 va.2.2] 30); simpa using this)
                      case c2b => simp [Value.oneCell']
                      case c3b => have := HQ.out; unfold maxLen; omega
                      case c4b => have := HQ.out; omega
                      case c5b => simp; omega
                      intro g cap w7 hown7 hgrow hat7 _
                      have hgb := hown7.lt g rfl
                      have hne7 : ∀ y, y ≤ w.heap.size + 1 → some y ≠ ov.ownBlock := fun y hy e => by have := (HOW.out.lt _ e.symm).1; omega
                      have hO7 := (hgrow.block (w.heap.size + 1) (by simp; omega) (hne7 _ (Nat.le_refl _))).trans HO6.out.blk
                      have hZ7 : (w7.setCell ⟨w.heap.size + 1, 1, none⟩ (.slice (some ⟨g, 0, none⟩) (q + 1) cap)).heap[w.heap.size]? = some (.cells #[.string ⟨#[]⟩, .slice none 0 0] 30 (0, 0)) := by
                        rw [Below.heap_setCell _ _ _ _ (by simp)]
                        exact (hgrow.block w.heap.size (by simp; omega) (hne7 _ (by omega))).trans HZ5.out
                      have hB7 : Below w.heap.size w (w7.setCell ⟨w.heap.size + 1, 1, none⟩ (.slice (some ⟨g, 0, none⟩) (q + 1) cap)) := (HB5.out.grown hgrow (by simp; omega) (fun x e => by have := (HOW.out.lt _ e).1; omega)).setCell (by simp) _
                      have hN : OutIs (w.heap.size + 1) (nm (s.drop at_)) (ts ++ [t]) (w7.setCell ⟨w.heap.size + 1, 1, none⟩ (.slice (some ⟨g, 0, none⟩) (q + 1) cap)) := by
                        have := HO6.out.push (t := t) (u := sv un) (v := .slice va.1 va.2.1 va.2.2) (w' := w7) (g := g) (cap := cap) ?_ (by rw [← HQ.out]; exact hown7) hgrow (hat7.imp id fun e => by rw [e]; simp)
                        · rw [← HQ.out] at this
                          exact this
                        · refine (HT5.out.keep (keptGrown (grownOfBelow (((Below.refl w5.heap.size w5).alloc (Nat.le_refl _) (.cells #[sv un, .slice va.1 va.2.1 va.2.2] 30)).alloc (by simp) (.cells #[sv un, .slice va.1 va.2.1 va.2.2] 30))) fun x hx => ⟨hx.2, by simp⟩)).more fun x hx => ⟨?_, ?_, ?_⟩
                          · have := hx.1; omega
                          · have := hx.2; simp; omega
                          · intro e
                            have := (HOL.out x e.symm).2
                            have h5 := hx.1
                            omega
                      have t1 : w7.cell? ⟨w.heap.size + 1, 1, none⟩ = some ov := (Lib.cell_of_heap hO7 _).trans rfl
                      have t2 : w7.frozen? ⟨w.heap.size + 1, 1, none⟩ = false := Lib.frozen_of_heap hO7 1
                      have HZ7 := Lib.hid hZ7
                      have HB7 := Lib.hid hB7
                      have HN7 := Lib.hid hN
                      have hsz7 := hB7.size
                      have hres : rd (n + 1) (s.drop at_) = some (.mk (nm (s.drop at_)) (ts ++ [t]), r2) := by
                        rw [HRD.out, HRK.out, rdK_last HRM.out]
                        rfl
                      have HRES := Lib.hid hres
                      obtain ⟨ov8, vs8, hO8⟩ := hN
                      obtain ⟨av, hav⟩ := hO8.shape
                      obtain ⟨w8, hw8⟩ : ∃ w8, w8 = w7.setCell ⟨w.heap.size + 1, 1, none⟩ (.slice (some ⟨g, 0, none⟩) (q + 1) cap) := ⟨_, rfl⟩
                      subst hav
                      rw [← hw8] at hO8
                      have v0 : w8.cell? ⟨w.heap.size + 1, 0, none⟩ = some (sv (nm (s.drop at_))) := (Lib.cell_of_heap hO8.blk _).trans rfl
                      have v1 : w8.cell? ⟨w.heap.size + 1, 1, none⟩ = some (.slice av.1 av.2.1 av.2.2) := (Lib.cell_of_heap hO8.blk _).trans rfl
                      have HTY := Lib.hid (hO8.done (by have := HK.out; omega) (by simp; omega))
                      rw [hw8] at v0 v1
                      have z0 : (w7.setCell ⟨w.heap.size + 1, 1, none⟩ (.slice (some ⟨g, 0, none⟩) (q + 1) cap)).cell? ⟨w.heap.size, 0, none⟩ = some (.string ⟨#[]⟩) := (Lib.cell_of_heap HZ7.out _).trans rfl
                      have z1 : (w7.setCell ⟨w.heap.size + 1, 1, none⟩ (.slice (some ⟨g, 0, none⟩) (q + 1) cap)).cell? ⟨w.heap.size, 1, none⟩ = some (.slice none 0 0) := (Lib.cell_of_heap HZ7.out _).trans rfl
                      have y0 : (w7.setCell ⟨w.heap.size + 1, 1, none⟩ (.slice (some ⟨g, 0, none⟩) (q + 1) cap)).frozen? ⟨w.heap.size, 0, none⟩ = false := Lib.frozen_of_heap HZ7.out 0
                      have y1 : (w7.setCell ⟨w.heap.size + 1, 1, none⟩ (.slice (some ⟨g, 0, none⟩) (q + 1) cap)).frozen? ⟨w.heap.size, 1, none⟩ = false := Lib.frozen_of_heap HZ7.out 1
                      have C0 : Hid (∀ x y : Value, (((w7.setCell ⟨w.heap.size + 1, 1, none⟩ (.slice (some ⟨g, 0, none⟩) (q + 1) cap)).setCell ⟨w.heap.size, 0, none⟩ x).setCell ⟨w.heap.size, 1, none⟩ y).cell? ⟨w.heap.size, 0, none⟩ = some x) := Lib.hid fun x y => (Lib.cell_of_heap (setCell_heap (setCell_heap HZ7.out)) _).trans rfl
                      have C1 : Hid (∀ x y : Value, (((w7.setCell ⟨w.heap.size + 1, 1, none⟩ (.slice (some ⟨g, 0, none⟩) (q + 1) cap)).setCell ⟨w.heap.size, 0, none⟩ x).setCell ⟨w.heap.size, 1, none⟩ y).cell? ⟨w.heap.size, 1, none⟩ = some y) := Lib.hid fun x y => (Lib.cell_of_heap (setCell_heap (setCell_heap HZ7.out)) _).trans rfl
                      have hZ8 : w8.heap[w.heap.size]? = some (.cells #[.string ⟨#[]⟩, .slice none 0 0] 30 (0, 0)) := by rw [hw8]; exact HZ7.out
                      have hB8 : Below w.heap.size w w8 := by rw [hw8]; exact HB7.out
                      have HB8 := Lib.hid hB8
                      have HZ8 := Lib.hid hZ8
                      have HW8 := Lib.hid hw8
                      clear hown7 hgrow hat7 hgb hne7 hO7 hZ7 hB7 HO6 HOW HOL HT5 HZ5 HB5 x0 x1 hlr hres hO8 hw8 hZ8 hB8
                      go_wp2_with fail
                      refine bodyPost_ret (v := .tuple #[.agg #[sv (nm (s.drop at_)), .slice av.1 av.2.1 av.2.2], .int .i64 ((nx + 1 : Nat) : Int), .bool true]) (by simp [results, Tryd.results31, go_sem, C0.out, C1.out]) rfl ?_
                      rw [HRES.out, ← HW8.out]
                      refine ⟨_, _, nx + 1, rfl, by omega, HDR2.out, (HTY.out.keep (Kept.trans (keptGrown (row := some w.heap.size) grownSet fun x hx => ⟨hx.2, fun e => by injection e; have := hx.1; omega⟩) (keptGrown (row := some w.heap.size) grownSet fun x hx => ⟨by rw [sizeSet]; exact hx.2, fun e => by injection e; have := hx.1; omega⟩))).more fun x hx => ⟨by have := hx.1; omega, by rw [sizeSet, sizeSet]; exact hx.2⟩, (HB8.out.setCell (by simp) _).setCell (by simp) _⟩
                    · have hnone : rd (n + 1) (s.drop at_) = none := by rw [HRD.out, HRK.out, rdK_bad hrm (by simpa using h44) (by simpa using h62)]; rfl
                      have HNO := Lib.hid hnone
                      have b1 : ((((bs s)[nx]'hne).toNat : Int) != 44) = true := by rw [hce]; exact byte_ne h44
                      have b2 : ((((bs s)[nx]'hne).toNat : Int) != 62) = true := by rw [hce]; exact byte_ne h62
                      have hO5 := HOR.out.below HBX.out
                      obtain ⟨ov, vs, hO⟩ := hO5
                      obtain ⟨av, rfl⟩ := hO.shape
                      have hZ5 := (HBX.out.block _ (lt_of_heap HZR.out)).trans HZR.out
                      have x0 : w5.cell? ⟨w.heap.size + 1, 0, none⟩ = some (sv (nm (s.drop at_))) := (Lib.cell_of_heap hO.blk _).trans rfl
                      have x1 : w5.cell? ⟨w.heap.size + 1, 1, none⟩ = some (.slice av.1 av.2.1 av.2.2) := (Lib.cell_of_heap hO.blk _).trans rfl
                      have xb := lt_of_heap hO.blk
                      have HB5 := Lib.hid (HBR.out.trans (HBX.out.mono HBR.out.size))
                      have z0 : w5.cell? ⟨w.heap.size, 0, none⟩ = some (.string ⟨#[]⟩) := (Lib.cell_of_heap hZ5 _).trans rfl
                      have z1 : w5.cell? ⟨w.heap.size, 1, none⟩ = some (.slice none 0 0) := (Lib.cell_of_heap hZ5 _).trans rfl
                      have y0 : w5.frozen? ⟨w.heap.size, 0, none⟩ = false := Lib.frozen_of_heap hZ5 0
                      have y1 : w5.frozen? ⟨w.heap.size, 1, none⟩ = false := Lib.frozen_of_heap hZ5 1
                      have hz5 := lt_of_heap hZ5
                      have C0 : Hid (∀ x y : Value, ((w5.setCell ⟨w.heap.size, 0, none⟩ x).setCell ⟨w.heap.size, 1, none⟩ y).cell? ⟨w.heap.size, 0, none⟩ = some x) := Lib.hid fun x y => (Lib.cell_of_heap (setCell_heap (setCell_heap hZ5)) _).trans rfl
                      have C1 : Hid (∀ x y : Value, ((w5.setCell ⟨w.heap.size, 0, none⟩ x).setCell ⟨w.heap.size, 1, none⟩ y).cell? ⟨w.heap.size, 1, none⟩ = some y) := Lib.hid fun x y => (Lib.cell_of_heap (setCell_heap (setCell_heap hZ5)) _).trans rfl
                      clear hrm hnone hbx hZ5 hO hdr hT5 hcx hdr2 hce h44 h62
                      go_wp2
                      refine bodyPost_ret (v := .tuple #[.agg #[sv (nm (s.drop at_)), .slice av.1 av.2.1 av.2.2], .int .i64 0, .bool false]) (by simp [results, Tryd.results31, go_sem, C0.out, C1.out, hz5]) rfl ?_
                      rw [HNO.out]
                      exact ⟨nm (s.drop at_), av, rfl, ((HB5.out.setCell (by simp) _).setCell (by simp) _).alloc (by simp; omega) _⟩
        · skip
          have HR := Lib.hid hr
          obtain ⟨hc1, hc2, hc3⟩ := at_sep hr
          rw [← HK.out] at hc1 hc2 hc3
          obtain ⟨he, hce⟩ := bs_at hc1
          have b1 : ((((bs s)[at_ + k]'he).toNat : Int) != 60) = true := by rw [hce]; rfl
          have b2 : ((((bs s)[at_ + k]'he).toNat : Int) != 62) = false := by rw [hce]; rfl
          have b3 : ((((bs s)[at_ + k]'he).toNat : Int) != 44) = true := by rw [hce]; rfl
          have hlt : (at_ : Int) + (k : Int) < ((bs s).size : Int) := by omega
          have heqq : ((at_ : Int) + (k : Int) == ((bs s).size : Int)) = false := by simp; omega
          have HC2 := Lib.hid hc2
          have HC3 := Lib.hid hc3
          clear hr hc1 hc2 hc3 hce
          by_cases hk0 : k = 0
          · have hq : ((at_ : Int) + (k : Int) == (at_ : Int)) = true := by simp; omega
            have hnm : nm (s.drop at_) = [] := List.eq_nil_of_length_eq_zero (by rw [← HK.out]; exact hk0)
            have HN := Lib.hid hnm
            clear hk0 hnm
            go_wp2
            refine bodyPost_ret (v := .tuple #[.agg #[sv (nm (s.drop at_)), .slice none 0 0], .int .i64 0, .bool false]) (by simp [results, Tryd.results31, go_sem]) rfl ?_
            rw [rd_none HN.out]
            exact ⟨nm (s.drop at_), (none, 0, 0), rfl, ((Below.refl _ _).alloc (Nat.le_refl _) _).alloc (by simp) _⟩
          · have hq : ((at_ : Int) + (k : Int) == (at_ : Int)) = false := by simp; omega
            have hnm : nm (s.drop at_) ≠ [] := fun e => hk0 (by rw [HK.out, e]; rfl)
            have HN := Lib.hid hnm
            clear hk0 hnm
            go_wp2
            refine bodyPost_ret (v := .tuple #[.agg #[sv (nm (s.drop at_)), .slice none 0 0], .int .i64 ((at_ + k : Nat) : Int), .bool true]) (by simp [results, Tryd.results31, go_sem]) rfl ?_
            rw [rd_leaf HN.out HR.out (by decide)]
            exact ⟨_, _, at_ + k, rfl, by omega, HC3.out, wide_leaf _ _ _ (by have := HK.out; omega), ((Below.refl _ _).alloc (Nat.le_refl _) _).alloc (by simp) _⟩
        · skip
          have HR := Lib.hid hr
          obtain ⟨hc1, hc2, hc3⟩ := at_sep hr
          rw [← HK.out] at hc1 hc2 hc3
          obtain ⟨he, hce⟩ := bs_at hc1
          have b1 : ((((bs s)[at_ + k]'he).toNat : Int) != 60) = true := by rw [hce]; rfl
          have b2 : ((((bs s)[at_ + k]'he).toNat : Int) != 62) = true := by rw [hce]; rfl
          have b3 : ((((bs s)[at_ + k]'he).toNat : Int) != 44) = false := by rw [hce]; rfl
          have hlt : (at_ : Int) + (k : Int) < ((bs s).size : Int) := by omega
          have heqq : ((at_ : Int) + (k : Int) == ((bs s).size : Int)) = false := by simp; omega
          have HC2 := Lib.hid hc2
          have HC3 := Lib.hid hc3
          clear hr hc1 hc2 hc3 hce
          by_cases hk0 : k = 0
          · have hq : ((at_ : Int) + (k : Int) == (at_ : Int)) = true := by simp; omega
            have hnm : nm (s.drop at_) = [] := List.eq_nil_of_length_eq_zero (by rw [← HK.out]; exact hk0)
            have HN := Lib.hid hnm
            clear hk0 hnm
            go_wp2
            refine bodyPost_ret (v := .tuple #[.agg #[sv (nm (s.drop at_)), .slice none 0 0], .int .i64 0, .bool false]) (by simp [results, Tryd.results31, go_sem]) rfl ?_
            rw [rd_none HN.out]
            exact ⟨nm (s.drop at_), (none, 0, 0), rfl, ((Below.refl _ _).alloc (Nat.le_refl _) _).alloc (by simp) _⟩
          · have hq : ((at_ : Int) + (k : Int) == (at_ : Int)) = false := by simp; omega
            have hnm : nm (s.drop at_) ≠ [] := fun e => hk0 (by rw [HK.out, e]; rfl)
            have HN := Lib.hid hnm
            clear hk0 hnm
            go_wp2
            refine bodyPost_ret (v := .tuple #[.agg #[sv (nm (s.drop at_)), .slice none 0 0], .int .i64 ((at_ + k : Nat) : Int), .bool true]) (by simp [results, Tryd.results31, go_sem]) rfl ?_
            rw [rd_leaf HN.out HR.out (by decide)]
            exact ⟨_, _, at_ + k, rfl, by omega, HC3.out, wide_leaf _ _ _ (by have := HK.out; omega), ((Below.refl _ _).alloc (Nat.le_refl _) _).alloc (by simp) _⟩
end Go.Proofs.YtndhglcdkegigaaDoor
