/-
  A type that is being made, whose arguments may lie anywhere.
  Conditions: those of each theorem.
  The walks of recompileref09.parameter and Put.
  Conditions: the arguments read as a type, names and types.
-/
import Derived.Test.YtiijlecidepneaaPutN
namespace Go.Proofs.Ytiijlecidepneaa
section
open Go.RowKit
structure OutG (P : Nat → Prop) (b : Nat) (n : List UInt8) (ts : List Ty) (ov : Value) (vs : List (Value × Value)) (w : World) : Prop where
  blk : w.heap[b]? = some (.cells #[sv n, ov] 35 (0, 0))
  own : w.ownsRow (b + 1) 35 2 ov ts.length (flat2 vs)
  len : vs.length = ts.length
  each : ∀ (i : Nat) (t : Ty) (p : Value × Value), ts[i]? = some t → vs[i]? = some p → TyIs w (fun x => P x ∧ x < w.heap.size ∧ x ≠ b ∧ some x ≠ ov.ownBlock) t p.1 p.2
theorem OutG.fresh {P : Nat → Prop} {b : Nat} {n : List UInt8} {w : World} (h : w.heap[b]? = some (.cells #[sv n, .slice none 0 0] 35 (0, 0))) : OutG P b n [] (.slice none 0 0) [] w :=
  ⟨h, World.ownsRow_nil w _ _ _, rfl, fun i t p ht => by simp at ht⟩
theorem OutG.below {P : Nat → Prop} {b : Nat} {n : List UInt8} {ts : List Ty} {ov : Value} {vs : List (Value × Value)} {w w' : World} (h : OutG P b n ts ov vs w) (hb : Below w.heap.size w w') : OutG P b n ts ov vs w' :=
  ⟨(hb.block b (lt_of_heap h.blk)).trans h.blk, h.own.kept (grownOfBelow hb) (ownNone _), h.len, fun i t p ht hp => ((h.each i t p ht hp).keep ((kept_below hb).sub fun _ hx => hx.2.1)).more fun _ hx => ⟨hx.1, Nat.lt_of_lt_of_le hx.2.1 hb.size, hx.2.2⟩⟩
theorem OutG.shape {P : Nat → Prop} {b : Nat} {n : List UInt8} {ts : List Ty} {ov : Value} {vs : List (Value × Value)} {w : World} (h : OutG P b n ts ov vs w) : ∃ A c, ov = .slice A ts.length c ∧ ts.length ≤ c ∧ c ≤ maxLen := by
  rcases h.own.2 with ⟨hv, h0⟩ | ⟨g, cap, cur, hv, _, _, h1, h2, _⟩
  · exact ⟨none, 0, by rw [hv, h0], by omega, Nat.zero_le _⟩
  · exact ⟨_, cap, hv, h1, h2⟩
/-- One more argument. -/
theorem OutG.push {P : Nat → Prop} {b : Nat} {n : List UInt8} {ts : List Ty} {ov : Value} {vs : List (Value × Value)} {w w' : World} {t : Ty} {u v : Value} {g cap : Nat} (h : OutG P b n ts ov vs w)
    (ht : TyIs w (fun x => P x ∧ x < w.heap.size ∧ x ≠ b ∧ some x ≠ ov.ownBlock) t u v)
    (hown : w'.ownsRow (b + 1) 35 2 (.slice (some ⟨g, 0, none⟩) (ts.length + 1) cap) (ts.length + 1) (flat2 vs ++ [u, v])) (hg : w.grownBy w' ov.ownBlock) (hat : ov.ownBlock = some g ∨ g = w.heap.size) :
    OutG P b n (ts ++ [t]) (.slice (some ⟨g, 0, none⟩) (ts.length + 1) cap) (vs ++ [(u, v)]) (w'.setCell ⟨b, 1, none⟩ (.slice (some ⟨g, 0, none⟩) (ts.length + 1) cap)) := by
  have hbl := lt_of_heap h.blk
  have hbg : b < g := by have := (hown.lt g rfl).1; omega
  have hbo : some b ≠ ov.ownBlock := fun e => by have := (h.own.lt b e.symm).1; omega
  have hb' : w'.heap[b]? = some (.cells #[sv n, ov] 35 (0, 0)) := (hg.block b hbl hbo).trans h.blk
  have hmv : ∀ {t : Ty} {x y : Value}, TyIs w (fun x => P x ∧ x < w.heap.size ∧ x ≠ b ∧ some x ≠ ov.ownBlock) t x y → TyIs (w'.setCell ⟨b, 1, none⟩ (.slice (some ⟨g, 0, none⟩) (ts.length + 1) cap)) (fun x => P x ∧ x < (w'.setCell ⟨b, 1, none⟩ (.slice (some ⟨g, 0, none⟩) (ts.length + 1) cap)).heap.size ∧ x ≠ b ∧ some x ≠ (Value.slice (some ⟨g, 0, none⟩) (ts.length + 1) cap).ownBlock) t x y := fun hh => by
    refine (hh.keep (Kept.trans (keptGrown hg fun x hx => ⟨hx.2.1, hx.2.2.2⟩) (keptGrown (row := some b) grownSet fun x hx => ⟨Nat.lt_of_lt_of_le hx.2.1 hg.size, fun e => hx.2.2.1 (Option.some.inj e)⟩))).more fun x hx => ⟨hx.1, ?_, hx.2.2.1, ?_⟩
    · rw [sizeSet]; exact Nat.lt_of_lt_of_le hx.2.1 hg.size
    · intro e
      have e' : x = g := Option.some.inj e
      rcases hat with hat | hat
      · exact hx.2.2.2 (by rw [hat, e'])
      · have := hx.2.1; omega
  refine ⟨setCell_heap hb', ?_, by simp [h.len], fun i t' p ht' hp => ?_⟩
  · rw [List.length_append, List.length_singleton, flat2_append]
    exact hown.kept grownSet (.inr (by simp [Value.ownBlock]; omega))
  · rcases Nat.lt_or_ge i ts.length with hi | hi
    · rw [List.getElem?_append_left hi] at ht'
      rw [List.getElem?_append_left (by rw [h.len]; exact hi)] at hp
      exact hmv (h.each i t' p ht' hp)
    · have hi0 : i - ts.length = 0 := by
        have := (List.getElem?_eq_some_iff.1 ht').1
        simp at this
        omega
      rw [List.getElem?_append_right hi, hi0] at ht'
      rw [List.getElem?_append_right (by rw [h.len]; exact hi), h.len, hi0] at hp
      simp at ht' hp
      subst ht' hp
      exact hmv ht
theorem OutG.done {P : Nat → Prop} {b : Nat} {n : List UInt8} {ts : List Ty} {ov : Value} {vs : List (Value × Value)} {w : World} (h : OutG P b n ts ov vs w) (hn : n.length ≤ 140737488355328) (hz : ts.length ≤ 3518437208883) (hP : ∀ y, b < y → P y) : TyIs w (fun x => P x ∧ x < w.heap.size ∧ x ≠ b) (.mk n ts) (sv n) ov := by
  obtain ⟨A, c, rfl, h1, h2⟩ := h.shape
  refine Tys.close (vs := vs) ⟨h.len, Row.ofOwn h.own fun g _ h3 h4 => ⟨hP g (by omega), h4, by omega⟩, fun i t p ht hp => (h.each i t p ht hp).more fun x hx => ⟨hx.1, hx.2.1, hx.2.2.1⟩⟩ hn hz ⟨h1, h2⟩
end

section
open Go.RowKit
theorem first36 {n : List UInt8} : (parW n 0).2 = true ↔ ∃ r, n = 36 :: r := by
  cases n with
  | nil => simp [parW, cutD]
  | cons c r =>
    by_cases hc : c = 36
    · subst hc; simp [parW, cutD]
    · simp [parW, cutD, hc]
def ParRes (n : List UInt8) (k : Nat) (w : World) (e : Ending) (w' : World) : Prop :=
  Below w.heap.size w w' ∧ ((parW n k).2 = true → e = .returned (.tuple #[sv (parW n k).1, .bool true])) ∧ ((parW n k).2 = false → e = .returned (.tuple #[.string ⟨#[]⟩, .bool false]))

set_option maxHeartbeats 2000000 in
set_option maxRecDepth 100000 in
theorem refPar_any (n : List UInt8) (A : Option Addr) (k c : Nat) (w : World) (hk : k ≤ 3518437208883) (hn : n.length ≤ 140737488355328) : Calls Try.prog 40 #[.agg #[sv n, .slice A k c]] w (ParRes n k w) := by
  have hb1 : Below w.heap.size w (w.alloc (.cells #[sv n, .slice A k c] 35)) := (Below.refl _ _).alloc (Nat.le_refl _) _
  cases n with
  | nil =>
    have h0 : ParRes [] k w (.returned (.tuple #[.string ⟨#[]⟩, .bool false])) (w.alloc (.cells #[sv [], .slice A k c] 35)) := ⟨hb1, fun h => by
      unfold parW at h
      by_cases hk : 0 < k <;> simp [hk, cutD] at h, fun _ => rfl⟩
    have H0 := Lib.hid h0
    clear h0 hb1
    go_enter Try.func40, Try.ntmps40
    go_wp2
    go_ret2
    exact H0.out
  | cons x r =>
    have hs1 : (bs (x :: r)).size = r.length + 1 := by rw [bs_size]; rfl
    have hs : 0 < (bs (x :: r)).size := by omega
    have hs0 : (0 : Int) < ((bs (x :: r)).size : Int) := by omega
    have hsl : (bs (x :: r)).size ≤ 140737488355329 := by rw [hs1]; simp at hn; omega
    have hx : ∀ h : 0 < (bs (x :: r)).size, (bs (x :: r))[0]'h = x := fun h => rfl
    have he : (bs (x :: r)).extract 1 (r.length + 1) = bs r := by
      rw [← hs1]
      apply ByteArray.ext
      rw [ByteArray.data_extract]
      simp [bs, ByteArray.size]
    by_cases hx36 : x = 36
    · have hxb : ((x.toNat : Int) == 36) = true := by rw [hx36]; rfl
      by_cases hk0 : k = 0
      · have h0 : ParRes (x :: r) k w (.returned (.tuple #[sv r, .bool true])) (w.alloc (.cells #[sv (x :: r), .slice A k c] 35)) := ⟨hb1, fun _ => by simp [parW, hk0, cutD, hx36], fun h => by simp [parW, hk0, cutD, hx36] at h⟩
        have H0 := Lib.hid h0
        subst hk0
        clear h0 hb1 hx36
        go_enter Try.func40, Try.ntmps40
        go_wp2
        go_ret2
        exact H0.out
      · have h0 : ParRes (x :: r) k w (.returned (.tuple #[.string ⟨#[]⟩, .bool false])) (w.alloc (.cells #[sv (x :: r), .slice A k c] 35)) := ⟨hb1, (fun h => by
          unfold parW at h
          rw [if_pos (Nat.pos_of_ne_zero hk0)] at h
          cases h), fun _ => rfl⟩
        have hkb : ((k : Int) == 0) = false := by simp; omega
        have H0 := Lib.hid h0
        clear h0 hb1 hx36 hk0
        go_enter Try.func40, Try.ntmps40
        go_wp2
        go_ret2
        exact H0.out
    · have hxb : ((x.toNat : Int) == 36) = false := by
        rw [beq_eq_false_iff_ne]
        intro e
        exact hx36 (UInt8.toNat.inj (by rw [show (36 : UInt8).toNat = 36 from rfl]; omega))
      have h0 : ParRes (x :: r) k w (.returned (.tuple #[.string ⟨#[]⟩, .bool false])) (w.alloc (.cells #[sv (x :: r), .slice A k c] 35)) := ⟨hb1, fun h => by
        unfold parW at h
        by_cases hk : 0 < k <;> simp [hk, cutD, hx36] at h, fun _ => rfl⟩
      have H0 := Lib.hid h0
      clear h0 hb1 hx36
      go_enter Try.func40, Try.ntmps40
      go_wp2
      go_ret2
      exact H0.out
def RefPutRes (S : Nat → Prop) (t : Ty) (w : World) (e : Ending) (w' : World) : Prop := ∃ u v, e = .returned (.agg #[u, v]) ∧ TyIs w' (fun y => S y ∨ Fr w.heap.size w'.heap.size y) t u v ∧ Below w.heap.size w w'

set_option maxHeartbeats 8000000 in
set_option maxRecDepth 100000 in
theorem refPut_any (S : Nat → Prop) (ns : List (List UInt8)) (ls : List Ty) (hns : ns.length ≤ 3518437208883) (t : Ty) : ∀ (u v : Value) (NA LA : Option Addr) (NC LC : Nat) (lvs : List (Value × Value)) (w : World), (∀ y, S y → y < w.heap.size) → TyIs w S t u v → Row w S NA (ns.map sv) → Tys w S LA ls lvs →
    Calls Try.prog 21 #[.agg #[u, v], .slice NA ns.length NC, .slice LA ls.length LC] w (RefPutRes S (putN ns ls t) w) := by
  obtain ⟨a, ha⟩ : ∃ a, a = ns.length := ⟨_, rfl⟩
  obtain ⟨b, hb⟩ : ∃ b, b = ls.length := ⟨_, rfl⟩
  rw [← ha] at hns
  rw [← ha, ← hb]
  have HA := Lib.hid ha
  have HB := Lib.hid hb
  clear ha hb
  induction t using Ty.ind with | h n ks ih => ?_
  intro u v NA LA NC LC lvs w hSw ht hNA hLA
  obtain ⟨A, c, vs, rfl, rfl, hn, hz, hc1, hc2, hT⟩ := ht.open_
  simp only [Ty.name, Ty.args] at hn hz hc1 hT ht ⊢
  obtain ⟨m, hm⟩ : ∃ m, m = ks.length := ⟨_, rfl⟩
  rw [← hm] at ht ⊢
  rw [← hm] at hz hc1
  obtain ⟨L, hL⟩ : ∃ L, L = ks.map (putN ns ls) := ⟨_, rfl⟩
  have hLL : m = L.length := by rw [hL, List.length_map]; exact hm
  have HM := Lib.hid hm
  have HL := Lib.hid hL
  have HLL := Lib.hid hLL
  have IH := Lib.hid ih
  have HNA := Lib.hid hNA
  have HLA := Lib.hid hLA
  have HSW := Lib.hid hSw
  have HTT := Lib.hid ht
  clear hm ht hL hLL ih hNA hLA hSw
  obtain ⟨i0, hi, hz0, hz1, hz2⟩ := info_parts infoT
  obtain ⟨x, bb, hpw⟩ : ∃ x bb, parW n m = (x, bb) := ⟨_, _, rfl⟩
  have HPW := Lib.hid hpw
  clear hpw
  go_enter Try.func21, Try.ntmps21
  go_wp2_with fail
  refine (refPar_any n A m c _ hz hn).mono ?_
  unfold ParRes
  rw [HPW.out]
  rintro e w1 ⟨hb1, hy1, hn1⟩
  have hb2 : Below w.heap.size w ((w.alloc (.cells #[sv n, .slice A m c] 35)).alloc (.cells #[.string ⟨#[]⟩, .slice none 0 0] 35)) := ((Below.refl _ _).alloc (Nat.le_refl _) _).alloc (by simp) _
  have hb3 : Below w.heap.size w w1 := hb2.trans (hb1.mono (by simp; omega))
  have hq := alloc2 w (.cells #[sv n, .slice A m c] 35) (.cells #[.string ⟨#[]⟩, .slice none 0 0] 35)
  have hq1 := (hb1.block w.heap.size (by simp; omega)).trans hq.1
  have hq2 := (hb1.block (w.heap.size + 1) (by simp)).trans hq.2
  have t0 : w1.cell? ⟨w.heap.size, 0, none⟩ = some (sv n) := by rw [Lib.cell_of_heap hq1]; rfl
  have t1 : w1.cell? ⟨w.heap.size, 1, none⟩ = some (.slice A m c) := by rw [Lib.cell_of_heap hq1]; rfl
  have r0 : w1.cell? ⟨w.heap.size + 1, 0, none⟩ = some (.string ⟨#[]⟩) := by rw [Lib.cell_of_heap hq2]; rfl
  have r1 : w1.cell? ⟨w.heap.size + 1, 1, none⟩ = some (.slice none 0 0) := by rw [Lib.cell_of_heap hq2]; rfl
  have g0 : w1.frozen? ⟨w.heap.size + 1, 0, none⟩ = false := Lib.frozen_of_heap hq2 0
  have g1 : w1.frozen? ⟨w.heap.size + 1, 1, none⟩ = false := Lib.frozen_of_heap hq2 1
  have hsz1 : w.heap.size + 1 < w1.heap.size := lt_of_heap hq2
  have HQ1 := Lib.hid hq1
  have HQ2 := Lib.hid hq2
  clear hq hq1 hq2
  have t1' : (w1.alloc (.cells #[.string (bs n), .slice none 0 0] 35)).cell? ⟨w.heap.size, 1, none⟩ = some (.slice A m c) := (cellAlloc (by omega)).trans t1
  -- what is returned out of memory that was there
  have back : ∀ (q : List UInt8) (a : Option Addr × Nat × Nat) (T : Ty), TyIs w S T (sv q) (.slice a.1 a.2.1 a.2.2) → putN ns ls (.mk n ks) = T →
      RefPutRes S (putN ns ls (.mk n ks)) w (.returned (.agg #[sv q, .slice a.1 a.2.1 a.2.2])) ((w1.setCell ⟨w.heap.size + 1, 0, none⟩ (sv q)).setCell ⟨w.heap.size + 1, 1, none⟩ (.slice a.1 a.2.1 a.2.2)) ∧
      ((w1.setCell ⟨w.heap.size + 1, 0, none⟩ (sv q)).setCell ⟨w.heap.size + 1, 1, none⟩ (.slice a.1 a.2.1 a.2.2)).cell? ⟨w.heap.size + 1, 0, none⟩ = some (sv q) ∧ ((w1.setCell ⟨w.heap.size + 1, 0, none⟩ (sv q)).setCell ⟨w.heap.size + 1, 1, none⟩ (.slice a.1 a.2.1 a.2.2)).cell? ⟨w.heap.size + 1, 1, none⟩ = some (.slice a.1 a.2.1 a.2.2) := by
    intro q a T hT hp
    have hR2 : ((w1.setCell ⟨w.heap.size + 1, 0, none⟩ (sv q)).setCell ⟨w.heap.size + 1, 1, none⟩ (.slice a.1 a.2.1 a.2.2)).heap[w.heap.size + 1]? = some (.cells #[sv q, .slice a.1 a.2.1 a.2.2] 35 (0, 0)) := setCell_heap (setCell_heap HQ2.out)
    have hbb : Below w.heap.size w ((w1.setCell ⟨w.heap.size + 1, 0, none⟩ (sv q)).setCell ⟨w.heap.size + 1, 1, none⟩ (.slice a.1 a.2.1 a.2.2)) := (hb3.setCell (by simp) _).setCell (by simp) _
    refine ⟨⟨_, _, rfl, ?_, hbb⟩, (Lib.cell_of_heap hR2 _).trans rfl, (Lib.cell_of_heap hR2 _).trans rfl⟩
    rw [hp]
    exact (hT.keep ((kept_below hbb).sub fun y hy => HSW.out y hy)).more fun y hy => .inl hy
  have BACK := Lib.hid back
  clear back
  cases bb with
  | true =>
    obtain rfl := hy1 rfl
    clear hy1 hn1
    go_wp2_with fail
    go_loop [9] (fun i => ∃ k : Nat, k ≤ a ∧ i = .int .i64 k ∧ idx (ns.drop k) x k = idx ns x 0) (fun i => a - (intOf i).toNat)
    case atStart => exact ⟨0, Nat.zero_le _, rfl, by simp⟩
    case round =>
      obtain ⟨k, hk, rfl, hx⟩ := hrel
      have HX := Lib.hid hx
      clear hx
      by_cases hlt : k < a
      · have hl : k < ns.length := by rw [← HA.out]; exact hlt
        have hNA := (HNA.out.keep ((kept_below hb3).sub fun y hy => HSW.out y hy))
        obtain ⟨ad, rfl, _, hc⟩ := hNA.at_ (k := k) (u := sv ns[k]) (by simp [hl])
        have HD := Lib.hid (List.drop_eq_getElem_cons hl)
        by_cases he : ns[k] = x
        · have hbq := bytesEq he
          have hix : idx ns x 0 = (k : Int) := by rw [← HX.out, HD.out, idx, if_pos he]
          by_cases hkb : k < b
          · have hjl2 : k < ls.length := by rw [← HB.out]; exact hkb
            have hpx : putN ns ls (.mk n ks) = ls[k] := putN_some (by unfold parIx; rw [← HM.out, HPW.out]; dsimp only; rw [if_pos rfl, hix, if_pos (by omega), Int.toNat_natCast]; exact List.getElem?_eq_getElem hjl2)
            obtain ⟨ad2, u, v, rfl, hS, e0, e1, hty⟩ := HLA.out.at_ (List.getElem?_eq_getElem hjl2)
            obtain ⟨u, v, rfl, rfl⟩ := hty.shape
            have hadl := HSW.out _ hS
            have e0' : w1.cell? (ad2.add (k * 2)) = some (sv u) := ((kept_below hb3) _ (by rw [blkAdd]; exact hadl)).trans e0
            have e1' : w1.cell? ⟨(ad2.add (k * 2)).block, (ad2.add (k * 2)).off + 1, none⟩ = some (.slice v.1 v.2.1 v.2.2) := ((kept_below hb3) ⟨(ad2.add (k * 2)).block, (ad2.add (k * 2)).off + 1, none⟩ (by show Lt _ (ad2.add (k * 2)).block; rw [blkAdd]; exact hadl)).trans e1
            obtain ⟨hres, q0, q1⟩ := BACK.out u v _ hty hpx
            have HRES := Lib.hid hres
            clear hpx hty hres e0 e1 hix
            go_wp2
            refine bodyPost_ret (v := .agg #[sv u, .slice v.1 v.2.1 v.2.2]) ?_ rfl HRES.out
            simp [results, Try.results21, go_sem, q0, q1]
          · have hpx : putN ns ls (.mk n ks) = .mk n (ks.map (putN ns ls)) := putN_none (by unfold parIx; rw [← HM.out, HPW.out]; dsimp only; rw [if_pos rfl, hix, if_pos (by omega), Int.toNat_natCast]; exact List.getElem?_eq_none (by rw [← HB.out]; omega))
            have hks : ks = [] := List.length_eq_zero_iff.1 (by rw [← HM.out]; exact parW_args (n := n) (by rw [HPW.out]))
            obtain ⟨hres, q0, q1⟩ := BACK.out n (A, m, c) (.mk n ks) HTT.out (by rw [hpx, hks]; rfl)
            have HRES := Lib.hid hres
            clear hpx hres hix hks
            go_wp2
            refine bodyPost_ret (v := .agg #[sv n, .slice A m c]) ?_ rfl HRES.out
            simp [results, Try.results21, go_sem, q0, q1]
        · have hbq := bytesNe he
          go_wp2
          go_round
          case rel =>
            refine ⟨k + 1, by omega, by go_num, ?_⟩
            rw [← HX.out, HD.out, idx, if_neg he]
          case measure => simp [intOf]; omega
      · have hka : a = k := by omega
        have HKA := Lib.hid hka
        have hg : ¬ k < a := hlt
        have hix : idx ns x 0 = -1 := by
          rw [← HX.out, List.drop_eq_nil_of_le (by rw [← HA.out, hka]; exact Nat.le_refl _)]
          rfl
        have hpx : putN ns ls (.mk n ks) = .mk n (ks.map (putN ns ls)) := putN_none (by unfold parIx; rw [← HM.out, HPW.out]; dsimp only; rw [if_pos rfl, hix]; rfl)
        have hks : ks = [] := List.length_eq_zero_iff.1 (by rw [← HM.out]; exact parW_args (n := n) (by rw [HPW.out]))
        obtain ⟨hres, q0, q1⟩ := BACK.out n (A, m, c) (.mk n ks) HTT.out (by rw [hpx, hks]; rfl)
        have HRES := Lib.hid hres
        clear hpx hres hix hks hka
        go_wp2
        refine bodyPost_ret (v := .agg #[sv n, .slice A m c]) ?_ rfl HRES.out
        simp [results, Try.results21, go_sem, q0, q1]
  | false =>
    obtain rfl := hn1 rfl
    clear hy1 hn1
    have hpx : putN ns ls (.mk n ks) = .mk n (ks.map (putN ns ls)) := putN_none (by unfold parIx; rw [← HM.out, HPW.out]; rfl)
    have HPUT := Lib.hid hpx
    clear hpx
    go_wp2_with fail
    go_loopw [11] (fun i wr => ∃ k : Nat, k ≤ m ∧ i = .int .i64 k ∧ (∃ ov vs', OutG (fun y => S y ∨ w1.heap.size ≤ y) w1.heap.size n (L.take k) ov vs' wr) ∧ Below w1.heap.size w1 wr) (fun i _ => m - (intOf i).toNat)
    case atStart => exact ⟨0, Nat.zero_le _, rfl, ⟨_, _, OutG.fresh (alloc1 _ _)⟩, (Below.refl _ _).alloc (Nat.le_refl _) _⟩
    case round =>
      obtain ⟨k, hk, rfl, ⟨ov, vs', ho'⟩, hbr⟩ := hrel
      have hB := ho'.blk
      obtain ⟨OA, oc, rfl, _, _⟩ := ho'.shape
      have hb : Below w.heap.size w wr := hb3.trans (hbr.mono hb3.size)
      have hr1 : wr.heap[w.heap.size]? = some (.cells #[sv n, .slice A m c] 35 (0, 0)) := (hbr.block _ (by omega)).trans HQ1.out
      have hr : wr.heap[w.heap.size + 1]? = some (.cells #[.string ⟨#[]⟩, .slice none 0 0] 35 (0, 0)) := (hbr.block _ hsz1).trans HQ2.out
      have hlk : (L.take k).length = k := by rw [List.length_take, ← HLL.out]; omega
      rw [hlk] at ho' hB
      have c0 : wr.cell? ⟨w1.heap.size, 0, none⟩ = some (sv n) := by rw [Lib.cell_of_heap hB]; rfl
      have c1 : wr.cell? ⟨w1.heap.size, 1, none⟩ = some (.slice OA k oc) := by rw [Lib.cell_of_heap hB]; rfl
      have f1 : wr.frozen? ⟨w1.heap.size, 1, none⟩ = false := Lib.frozen_of_heap hB 1
      have p1 : wr.cell? ⟨w.heap.size, 1, none⟩ = some (.slice A m c) := by rw [Lib.cell_of_heap hr1]; rfl
      have hsr := hbr.size
      have hlt2 := lt_of_heap hB
      have HO := Lib.hid ho'
      have HR := Lib.hid hr
      have HLK := Lib.hid hlk
      clear t0 t1 t1' r0 r1 g0 g1 hlk
      by_cases hlt : k < m
      · have hki : k < ks.length := by rw [← HM.out]; exact hlt
        obtain ⟨ad, u, v, rfl, hS, e0, e1, hty⟩ := (hT.keep ((kept_below hb).sub fun y hy => HSW.out y hy)).at_ (List.getElem?_eq_getElem hki)
        obtain ⟨u, v, rfl, rfl⟩ := hty.shape
        have hsz := hb.size
        have hbd : Below w.heap.size w wr.drew := hb.drew
        have hbd2 : Below wr.heap.size wr wr.drew := (Below.refl _ _).drew
        have hSr : ∀ y, S y → y < wr.drew.heap.size := fun y hy => Nat.lt_of_lt_of_le (HSW.out y hy) hbd.size
        have CALL := Lib.hid (IH.out ks[k] (List.getElem_mem hki) _ _ NA LA NC LC lvs wr.drew hSr (hty.keep ((kept_below hbd2).sub fun y hy => hSr y hy)) (HNA.out.keep ((kept_below hbd).sub fun y hy => HSW.out y hy)) (HLA.out.keep ((kept_below hbd).sub fun y hy => HSW.out y hy)))
        have hadl := HSW.out _ hS
        have hik : (0 : Int) ≤ (k : Int) ∧ (k : Int) < (m : Int) := ⟨by omega, by omega⟩
        clear hB ho' hr hr1 hbd hty hbd2 hSr
        go_wp2_with fail
        refine wp_region_held' (fun w' => w'.cell? ⟨w1.heap.size, 1, none⟩ = some (.slice OA k oc) ∧ w'.cell? ⟨w.heap.size, 1, none⟩ = some (.slice (some ad) m c) ∧ w'.cell? (ad.add (k * 2)) = some (sv u) ∧ w'.cell? ⟨(ad.add (k * 2)).block, (ad.add (k * 2)).off + 1, none⟩ = some (.slice v.1 v.2.1 v.2.2)) [] [0, 1, 2, 3, 4, 5, 6, 7, 8] [9, 10] [11, 12, 13] (by kernel_rfl) (by kernel_rfl) ?sz ?hz
        case sz => exact ⟨c1, p1, e0, e1⟩
        case hz =>
        simp only [opsAt, List.filterMap_cons, List.filterMap_nil, List.getElem?_toArray, List.getElem?_cons_succ, List.getElem?_cons_zero]
        refine wpFloat_nil ?_
        refine wpLoad_step ?vz0 rfl (fun w' hS => ?yz0) ?kz0
        case yz0 =>
          obtain ⟨h1, h2, h3, h4⟩ := hS
          go_simp
          try rfl
        case kz0 =>
        go_simp
        refine wpLoad_step ?vz1 rfl (fun w' hS => ?yz1) ?kz1
        case yz1 =>
          obtain ⟨h1, h2, h3, h4⟩ := hS
          go_simp
          try rfl
        case kz1 =>
        go_simp
        refine wpLoad_step ?vz2 rfl (fun w' hS => ?yz2) ?kz2
        case yz2 =>
          obtain ⟨h1, h2, h3, h4⟩ := hS
          go_simp
          try rfl
        case kz2 =>
        go_simp
        refine wpLoad_step ?vz3 rfl (fun w' hS => ?yz3) ?kz3
        case yz3 =>
          obtain ⟨h1, h2, h3, h4⟩ := hS
          go_simp
          try rfl
        case kz3 =>
        go_simp
        refine wpLoad_step ?vz4 rfl (fun w' hS => ?yz4) ?kz4
        case yz4 =>
          obtain ⟨h1, h2, h3, h4⟩ := hS
          go_simp
          try rfl
        case kz4 =>
        go_simp
        refine wpLoad_step ?vz5 rfl (fun w' hS => ?yz5) ?kz5
        case yz5 =>
          obtain ⟨h1, h2, h3, h4⟩ := hS
          go_simp
          try rfl
        case kz5 =>
        go_simp
        refine wpLoad_step ?vz6 rfl (fun w' hS => ?yz6) ?kz6
        case yz6 =>
          obtain ⟨h1, h2, h3, h4⟩ := hS
          go_simp
          try rfl
        case kz6 =>
        go_simp
        refine wpLoad_step ?vz7 rfl (fun w' hS => ?yz7) ?kz7
        case yz7 =>
          obtain ⟨h1, h2, h3, h4⟩ := hS
          go_simp
          try rfl
        case kz7 =>
        go_simp
        refine wpLoad_step ?vz8 rfl (fun w' hS => ?yz8) ?kz8
        case yz8 =>
          obtain ⟨h1, h2, h3, h4⟩ := hS
          go_simp
          try rfl
        case kz8 =>
        go_simp
        refine wpLoad_nil ?_
        refine wpKeep_step rfl ?_
        go_simp
        refine CALL.out.mono ?_
        rintro e w4 ⟨u1, v1, rfl, hT1, hb4⟩
        obtain ⟨u1, v1, rfl, rfl⟩ := hT1.shape
        obtain ⟨hc, hf⟩ := belowCell hb4
        have hzw : wr.heap.size ≤ w4.heap.size := hb4.size
        have HT1 := Lib.hid hT1
        clear hT1
        have d1 : w4.cell? ⟨w1.heap.size, 1, none⟩ = some (.slice OA k oc) := (hc _ _ hlt2).trans c1
        have d2 : w4.cell? ⟨w.heap.size, 1, none⟩ = some (.slice (some ad) m c) := (hc _ _ (by show w.heap.size < wr.heap.size; omega)).trans p1
        have d3 : w4.cell? (ad.add (k * 2)) = some (sv u) := ((kept_below hb4) _ (by rw [blkAdd]; exact Nat.lt_of_lt_of_le hadl hsz)).trans e0
        have d4 : w4.cell? ⟨(ad.add (k * 2)).block, (ad.add (k * 2)).off + 1, none⟩ = some (.slice v.1 v.2.1 v.2.2) := ((kept_below hb4) ⟨(ad.add (k * 2)).block, (ad.add (k * 2)).off + 1, none⟩ (by show Lt _ (ad.add (k * 2)).block; rw [blkAdd]; exact Nat.lt_of_lt_of_le hadl hsz)).trans e1
        refine ⟨⟨d1, d2, d3, d4⟩, ?_⟩
        refine wpKeep_step rfl ?_
        go_simp
        have hbW : Below wr.heap.size wr (w4.alloc (.cells #[sv u1, .slice v1.1 v1.2.1 v1.2.2] 35)) := (((Below.refl wr.heap.size wr).drew).trans hb4).alloc hzw _
        have hal : ∀ (y i : Nat) (z : Value), y < w4.heap.size → w4.cell? ⟨y, i, none⟩ = some z → (w4.alloc (.cells #[sv u1, .slice v1.1 v1.2.1 v1.2.2] 35)).cell? ⟨y, i, none⟩ = some z := fun y i z hy h => (cellAlloc hy).trans h
        have hal2 : ∀ (p : Addr) (z : Value), p.block < w4.heap.size → w4.cell? p = some z → (w4.alloc (.cells #[sv u1, .slice v1.1 v1.2.1 v1.2.2] 35)).cell? p = some z := fun p z hy h => (World.cell?_of_block (heap_alloc_old w4 _ hy)).trans h
        have hadw : ad.block < w4.heap.size := Nat.lt_of_lt_of_le hadl (Nat.le_trans hsz hzw)
        refine ⟨⟨hal _ _ _ (by omega) d1, hal _ _ _ (by omega) d2, hal2 _ _ (by rw [blkAdd]; exact hadw) d3, hal2 _ _ (by show (ad.add (k * 2)).block < _; rw [blkAdd]; exact hadw) d4⟩, ?_⟩
        refine wpKeep_nil ?_
        have hO2 := HO.out.below hbW
        have hown2 := hO2.own
        rw [HLK.out] at hown2
        have HO2 := Lib.hid hO2
        clear hO2 hal hal2
        refine wpList_append_lies _ rfl _ _ 33 rfl (w1.heap.size + 1) 35 i0 _ 2 40 Try.underlying33 hi hz0 hz1 hz2 rfl (by omega) _ k (flat2 vs') rfl hown2 ⟨w4.heap.size, 0, none⟩ 1 1 [sv u1, .slice v1.1 v1.2.1 v1.2.2] rfl rfl ?c1z ?c2z (by omega) ?c3z ?c4z ?c5z _ rfl ?_
        case c1z => exact World.news_of_block (cs := #[sv u1, .slice v1.1 v1.2.1 v1.2.2]) (alloc1 w4 _)
        case c2z => simp [Value.oneCell']
        case c3z => unfold maxLen; omega
        case c4z => omega
        case c5z => simp; omega
        intro g cap w5 hown3 hgrow hat _
        have hb2 := (hgrow.block w1.heap.size (by simp; omega) (fun e => by have := (hown2.lt _ e.symm).1; omega)).trans HO2.out.blk
        have e1' : w5.cell? ⟨w1.heap.size, 1, none⟩ = some (.slice OA k oc) := by rw [Lib.cell_of_heap hb2]; rfl
        have f2 : w5.frozen? ⟨w1.heap.size, 1, none⟩ = false := Lib.frozen_of_heap hb2 1
        have HN : Hid (OutG (fun y => S y ∨ w1.heap.size ≤ y) w1.heap.size n (L.take k ++ [putN ns ls ks[k]]) (.slice (some ⟨g, 0, none⟩) (k + 1) cap) (vs' ++ [(sv u1, .slice v1.1 v1.2.1 v1.2.2)]) (w5.setCell ⟨w1.heap.size, 1, none⟩ (.slice (some ⟨g, 0, none⟩) (k + 1) cap))) := by
          have := Lib.hid (HO2.out.push (t := putN ns ls ks[k]) (u := sv u1) (v := .slice v1.1 v1.2.1 v1.2.2) (w' := w5) (g := g) (cap := cap) ?_ (by rw [HLK.out]; exact hown3) hgrow hat)
          · rw [HLK.out] at this
            exact this
          · have hlow : ∀ y, S y ∨ Fr wr.drew.heap.size w4.heap.size y → y < w4.heap.size := fun y hy => by
              rcases hy with hy | hy
              · have := HSW.out y hy; omega
              · exact hy.2
            refine (HT1.out.keep (keptGrown (World.grownBy_alloc w4 _ none) fun x hx => ⟨hlow x hx, by simp⟩)).more fun x hx => ⟨hx.imp_right fun h => Nat.le_trans hsr h.1, ?_, ?_, ?_⟩
            · have := hlow x hx; simp; omega
            · rcases hx with hx | hx
              · have := HSW.out x hx; omega
              · have h5 : wr.heap.size ≤ x := hx.1; omega
            · intro e
              have h6 := HO.out.own.lt x e.symm
              rcases hx with hx | hx
              · have := HSW.out x hx; omega
              · have h5 : wr.heap.size ≤ x := hx.1; omega
        have hb5 : Below w1.heap.size w1 w5 := (hbr.trans (hbW.mono hsr)).grown hgrow (by simp; omega) (fun x e => by have := (hown2.lt _ e).1; omega)
        have hk1 : L[k]? = some (putN ns ls ks[k]) := by rw [HL.out, List.getElem?_map, List.getElem?_eq_getElem hki]; rfl
        have HK1 := Lib.hid hk1
        clear hb2 hk1
        go_wp2
        refine NoPanic.normal ?_
        go_wp2
        go_roundw
        case rel =>
          refine ⟨k + 1, by omega, by go_num, ?_, hb5.setCell (Nat.le_refl _) _⟩
          rw [List.take_add_one, HK1.out]
          exact ⟨_, _, HN.out⟩
        case measure => simp [intOf]; omega
      · have r0 : wr.cell? ⟨w.heap.size + 1, 0, none⟩ = some (.string ⟨#[]⟩) := by rw [Lib.cell_of_heap hr]; rfl
        have r1 : wr.cell? ⟨w.heap.size + 1, 1, none⟩ = some (.slice none 0 0) := by rw [Lib.cell_of_heap hr]; rfl
        have g0 : wr.frozen? ⟨w.heap.size + 1, 0, none⟩ = false := Lib.frozen_of_heap hr 0
        have g1 : wr.frozen? ⟨w.heap.size + 1, 1, none⟩ = false := Lib.frozen_of_heap hr 1
        clear hB ho' hr hr1
        go_wp2_with fail
        have hR2 : ((wr.setCell ⟨w.heap.size + 1, 0, none⟩ (.string (bs n))).setCell ⟨w.heap.size + 1, 1, none⟩ (.slice OA k oc)).heap[w.heap.size + 1]? = some (.cells #[sv n, .slice OA k oc] 35 (0, 0)) := setCell_heap (setCell_heap HR.out)
        have q0 : ((wr.setCell ⟨w.heap.size + 1, 0, none⟩ (.string (bs n))).setCell ⟨w.heap.size + 1, 1, none⟩ (.slice OA k oc)).cell? ⟨w.heap.size + 1, 0, none⟩ = some (sv n) := by rw [Lib.cell_of_heap hR2]; rfl
        have q1 : ((wr.setCell ⟨w.heap.size + 1, 0, none⟩ (.string (bs n))).setCell ⟨w.heap.size + 1, 1, none⟩ (.slice OA k oc)).cell? ⟨w.heap.size + 1, 1, none⟩ = some (.slice OA k oc) := by rw [Lib.cell_of_heap hR2]; rfl
        refine bodyPost_ret (v := .agg #[sv n, .slice OA k oc]) ?_ rfl ?_
        · clear HO HR hT hb hR2
          simp [results, Try.results21, go_sem, q0, q1]
        · obtain rfl : k = m := by omega
          have hx : L.take k = L := List.take_of_length_le (by rw [← HLL.out]; exact Nat.le_refl _)
          have hd := HO.out
          rw [hx] at hd
          have hD := hd.done hn (by rw [← HLL.out]; exact hz) (fun y hy => .inr (by omega))
          have hbb : Below w.heap.size w ((wr.setCell ⟨w.heap.size + 1, 0, none⟩ (.string (bs n))).setCell ⟨w.heap.size + 1, 1, none⟩ (.slice OA k oc)) := (hb.setCell (by simp) _).setCell (by simp) _
          rw [HPUT.out, ← HL.out]
          refine ⟨_, _, rfl, ?_, hbb⟩
          have hne : ∀ x, (S x ∨ w1.heap.size ≤ x) → x ≠ w.heap.size + 1 := fun x hx e => by
            rcases hx with hx | hx
            · have := HSW.out x hx; omega
            · omega
          refine (hD.keep (Kept.trans (keptGrown (row := some (w.heap.size + 1)) grownSet fun x hx => ⟨hx.2.1, fun e => hne x hx.1 (Option.some.inj e)⟩) (keptGrown (row := some (w.heap.size + 1)) grownSet fun x hx => ⟨by rw [sizeSet]; exact hx.2.1, fun e => hne x hx.1 (Option.some.inj e)⟩))).more fun x hx => hx.1.imp_right fun h => ⟨by omega, ?_⟩
          rw [sizeSet, sizeSet]
          exact hx.2.1
end
end Go.Proofs.Ytiijlecidepneaa
