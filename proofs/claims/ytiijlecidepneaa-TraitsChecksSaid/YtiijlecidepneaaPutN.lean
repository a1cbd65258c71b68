/-
  What Put makes, with names: no program is in sight.
  Conditions: those of each theorem.
  The walk of types.Put: a type in new memory.
  Conditions: the arguments read as a type, names and types.
-/
import Derived.Test.YtiijlecidepneaaMatchE
namespace Go.Proofs.Ytiijlecidepneaa
section

/-- What a parameter stands for: nothing, if it has no name or no type. -/
def parIx (ns : List (List UInt8)) (ls : List Ty) (n : List UInt8) (k : Nat) : Option Ty :=
  if (parW n k).2 = true then if 0 ≤ idx ns (parW n k).1 0 then ls[(idx ns (parW n k).1 0).toNat]? else none else none
mutual
def putN (ns : List (List UInt8)) (ls : List Ty) : Ty → Ty
  | .mk n ks => match parIx ns ls n ks.length with
    | some t => t
    | none => .mk n (putL ns ls ks)
def putL (ns : List (List UInt8)) (ls : List Ty) : List Ty → List Ty
  | [] => []
  | a :: r => putN ns ls a :: putL ns ls r
end
theorem putL_map (ns : List (List UInt8)) (ls : List Ty) : ∀ ks, putL ns ls ks = ks.map (putN ns ls)
  | [] => by simp [putL]
  | a :: r => by simp [putL, putL_map ns ls r]
theorem putN_some {ns : List (List UInt8)} {ls : List Ty} {n : List UInt8} {ks : List Ty} {t : Ty} (h : parIx ns ls n ks.length = some t) : putN ns ls (.mk n ks) = t := by simp [putN, h]
theorem putN_none {ns : List (List UInt8)} {ls : List Ty} {n : List UInt8} {ks : List Ty} (h : parIx ns ls n ks.length = none) : putN ns ls (.mk n ks) = .mk n (ks.map (putN ns ls)) := by simp [putN, h, putL_map]
/-- A parameter has no arguments. -/
theorem parW_args {n : List UInt8} {k : Nat} (h : (parW n k).2 = true) : k = 0 := by
  unfold parW at h
  by_cases hk : 0 < k
  · rw [if_pos hk] at h; cases h
  · omega
theorem idx_at : ∀ (ns : List (List UInt8)) (x : List UInt8) (k : Nat), 0 ≤ idx ns x k → k ≤ (idx ns x k).toNat ∧ ns[(idx ns x k).toNat - k]? = some x
  | [], x, k, h => by simp [idx] at h
  | a :: r, x, k, h => by
    unfold idx at h ⊢
    by_cases ha : a = x
    · rw [if_pos ha] at h ⊢
      simp [ha]
    · rw [if_neg ha] at h ⊢
      obtain ⟨h1, h2⟩ := idx_at r x (k + 1) h
      refine ⟨by omega, ?_⟩
      have e : (idx r x (k + 1)).toNat - k = ((idx r x (k + 1)).toNat - (k + 1)) + 1 := by omega
      rw [e, List.getElem?_cons_succ]
      exact h2
theorem idx_mem : ∀ (ns : List (List UInt8)) (x : List UInt8) (k : Nat), x ∈ ns → 0 ≤ idx ns x k
  | a :: r, x, k, h => by
    unfold idx
    by_cases ha : a = x
    · rw [if_pos ha]; omega
    · rw [if_neg ha]
      exact idx_mem r x (k + 1) ((List.mem_cons.1 h).resolve_left fun e => ha e.symm)
theorem idx_not {ns : List (List UInt8)} {x : List UInt8} {k : Nat} (h : ¬ 0 ≤ idx ns x k) : x ∉ ns := fun hm => h (idx_mem ns x k hm)

/-! ### Match finds what Put put in -/

/-- What is found so far agrees with θ: each name once, its type what θ says. -/
structure Good (θ : List UInt8 → Ty) (s : Found) : Prop where
  len : s.1.length = s.2.length
  once : s.1.Nodup
  ty : ∀ (i : Nat) (x : List UInt8), s.1[i]? = some x → s.2[i]? = some (θ x)
/-- A type with θ put in for its parameters. -/
def IsPut (θ : List UInt8 → Ty) (ns : List (List UInt8)) (ls : List Ty) : Prop := ∀ n : List UInt8, (parW n 0).2 = true → putN ns ls (.mk n []) = θ (parW n 0).1

theorem found_more {θ : List UInt8 → Ty} {s : Found} {x : List UInt8} (h : Good θ s) (hx : x ∉ s.1) : Good θ (s.1 ++ [x], s.2 ++ [θ x]) := by
  refine ⟨by simp [h.len], ?_, fun i y hy => ?_⟩
  · rw [List.nodup_append]
    exact ⟨h.once, by simp, fun a ha b hb => by simp at hb; subst hb; exact fun e => hx (e ▸ ha)⟩
  · dsimp only at hy ⊢
    rcases Nat.lt_or_ge i s.1.length with hi | hi
    · rw [List.getElem?_append_left hi] at hy
      rw [List.getElem?_append_left (by rw [← h.len]; exact hi)]
      exact h.ty i y hy
    · rw [List.getElem?_append_right hi] at hy
      rw [List.getElem?_append_right (by rw [← h.len]; exact hi), ← h.len]
      have h0 : i - s.1.length = 0 := by
        have := (List.getElem?_eq_some_iff.1 hy).1
        simp at this
        omega
      rw [h0] at hy ⊢
      simp at hy ⊢
      rw [hy]

/-- Names that are parameters of a type. -/
inductive HasPar (x : List UInt8) : Ty → Prop
  | here (n : List UInt8) (h : (parW n 0).2 = true) (hx : (parW n 0).1 = x) : HasPar x (.mk n [])
  | arg (n : List UInt8) (ks : List Ty) (a : Ty) (ha : a ∈ ks) (h : HasPar x a) : HasPar x (.mk n ks)

/-- What Match does with a pattern and what was made of it. -/
def MatchOk (θ : List UInt8 → Ty) (p : Ty) (s : Found) (r : Bool × Found) : Prop := r.1 = true ∧ Good θ r.2 ∧ (∀ x ∈ s.1, x ∈ r.2.1) ∧ ∀ x, HasPar x p → x ∈ r.2.1

theorem mtch_put {θ : List UInt8 → Ty} {ns : List (List UInt8)} {ls : List Ty} (hθ : IsPut θ ns ls) (p : Ty) : ∀ s, Good θ s → MatchOk θ p s (mtch p (putN ns ls p) s) := by
  induction p using Ty.ind with | h n ks ih => ?_
  intro s hs
  by_cases hp : (parW n ks.length).2 = true
  · have hk : ks = [] := List.length_eq_zero_iff.1 (parW_args hp)
    subst hk
    have hp0 : (parW n 0).2 = true := hp
    have hm : mtch (.mk n []) (putN ns ls (.mk n [])) s = oneName s.1 s.2 (parW n 0).1 (θ (parW n 0).1) := by
      rw [hθ n hp0, mtch]
      simp only [List.length_nil]
      rw [if_pos hp0]
    rw [hm]
    unfold oneName
    by_cases hi : 0 ≤ idx s.1 (parW n 0).1 0
    · rw [if_pos hi]
      obtain ⟨_, h2⟩ := idx_at s.1 (parW n 0).1 0 hi
      rw [Nat.sub_zero] at h2
      rw [hs.ty _ _ h2]
      refine ⟨(eqb_iff _ _).2 rfl, hs, fun x hx => hx, fun x hx => ?_⟩
      cases hx with
      | here _ h hx => rw [← hx]; exact List.mem_of_getElem? h2
      | arg _ _ a ha _ => cases ha
    · rw [if_neg hi]
      refine ⟨rfl, found_more hs (idx_not hi), fun x hx => List.mem_append.2 (.inl hx), fun x hx => ?_⟩
      cases hx with
      | here _ h hx => rw [← hx]; simp
      | arg _ _ a ha _ => cases ha
  · have hnone : parIx ns ls n ks.length = none := by unfold parIx; rw [if_neg hp]
    rw [putN_none hnone, mtch, if_neg hp]
    have hc : (n == (Ty.mk n (ks.map (putN ns ls))).name && ks.length == (Ty.mk n (ks.map (putN ns ls))).args.length) = true := by simp [Ty.name, Ty.args]
    rw [if_pos hc]
    have hL : ∀ (l : List Ty), (∀ a ∈ l, ∀ s, Good θ s → MatchOk θ a s (mtch a (putN ns ls a) s)) → ∀ s, Good θ s → (mtchL l (l.map (putN ns ls)) s).1 = true ∧ Good θ (mtchL l (l.map (putN ns ls)) s).2 ∧ (∀ x ∈ s.1, x ∈ (mtchL l (l.map (putN ns ls)) s).2.1) ∧ ∀ a ∈ l, ∀ x, HasPar x a → x ∈ (mtchL l (l.map (putN ns ls)) s).2.1 := by
      intro l
      induction l with
      | nil => intro _ s hs; simp [mtchL, hs]
      | cons a r ihr =>
        intro h s hs
        obtain ⟨h1, h2, h3, h4⟩ := h a (by simp) s hs
        rw [List.map_cons, mtchL]
        obtain ⟨b, s', hbs⟩ : ∃ b s', mtch a (putN ns ls a) s = (b, s') := ⟨_, _, rfl⟩
        rw [hbs] at h1 h2 h3 h4 ⊢
        dsimp only at h1 h2 h3 h4 ⊢
        subst h1
        obtain ⟨g1, g2, g3, g4⟩ := ihr (fun x hx => h x (by simp [hx])) s' h2
        dsimp only
        refine ⟨g1, g2, fun x hx => g3 x (h3 x hx), fun y hy x hx => ?_⟩
        rcases List.mem_cons.1 hy with rfl | hy
        · exact g3 x (h4 x hx)
        · exact g4 y hy x hx
    obtain ⟨g1, g2, g3, g4⟩ := hL ks ih s hs
    refine ⟨g1, g2, g3, fun x hx => ?_⟩
    cases hx with
    | here _ h hx => exact absurd h hp
    | arg _ _ a ha h => exact g4 a ha x h

/-- Put with what was found makes the same. -/
theorem put_found {θ : List UInt8 → Ty} {ns : List (List UInt8)} {ls : List Ty} (hθ : IsPut θ ns ls) {s : Found} (hs : Good θ s) (p : Ty) : (∀ x, HasPar x p → x ∈ s.1) → putN s.1 s.2 p = putN ns ls p := by
  induction p using Ty.ind with | h n ks ih => ?_
  intro hx
  by_cases hp : (parW n ks.length).2 = true
  · have hk : ks = [] := List.length_eq_zero_iff.1 (parW_args hp)
    subst hk
    have hp0 : (parW n 0).2 = true := hp
    rw [hθ n hp0]
    have hm := hx (parW n 0).1 (.here n hp0 rfl)
    have hi := idx_mem s.1 (parW n 0).1 0 hm
    obtain ⟨_, h2⟩ := idx_at s.1 (parW n 0).1 0 hi
    rw [Nat.sub_zero] at h2
    refine putN_some ?_
    unfold parIx
    rw [if_pos hp, List.length_nil, if_pos hi, hs.ty _ _ h2]
  · have h1 : parIx ns ls n ks.length = none := by unfold parIx; rw [if_neg hp]
    have h2 : parIx s.1 s.2 n ks.length = none := by unfold parIx; rw [if_neg hp]
    rw [putN_none h1, putN_none h2]
    congr 1
    exact List.map_congr_left fun a ha => ih a ha fun x hxa => hx x (.arg n ks a ha hxa)
theorem good_nil (θ : List UInt8 → Ty) : Good θ ([], []) := ⟨rfl, by simp, fun i x h => by simp at h⟩
theorem isPut (ns : List (List UInt8)) (ls : List Ty) : IsPut (fun x => putN ns ls (.mk (36 :: x) [])) ns ls := by
  intro n hn
  cases n with
  | nil => simp [parW, cutD] at hn
  | cons c r =>
    by_cases hc : c = 36
    · subst hc
      simp [parW, cutD]
    · simp [parW, cutD, hc] at hn
end

section
open Go.RowKit
set_option maxHeartbeats 8000000 in
set_option maxRecDepth 100000 in
theorem putN_any (ns : List (List UInt8)) (ls : List Ty) (hns : ns.length ≤ 3518437208883) (t : Ty) : ∀ (u v : Value) (NA LA : Option Addr) (NC LC : Nat) (lvs : List (Value × Value)) (w : World), TyIs w (Lt w.heap.size) t u v → Row w (Lt w.heap.size) NA (ns.map sv) → Tys w (Lt w.heap.size) LA ls lvs →
    Calls Try.prog 32 #[.agg #[u, v], .slice NA ns.length NC, .slice LA ls.length LC] w (MadeTy (putN ns ls t) w) := by
  obtain ⟨a, ha⟩ : ∃ a, a = ns.length := ⟨_, rfl⟩
  obtain ⟨b, hb⟩ : ∃ b, b = ls.length := ⟨_, rfl⟩
  rw [← ha] at hns
  rw [← ha, ← hb]
  have HA := Lib.hid ha
  have HB := Lib.hid hb
  clear ha hb
  induction t using Ty.ind with | h n ks ih => ?_
  intro u v NA LA NC LC lvs w ht hNA hLA
  obtain ⟨A, c, vs, rfl, rfl, hn, hz, hc1, hc2, hT⟩ := ht.open_
  simp only [Ty.name, Ty.args] at hn hz hc1 hT ⊢
  obtain ⟨m, hm⟩ : ∃ m, m = ks.length := ⟨_, rfl⟩
  rw [← hm]
  rw [← hm] at hz hc1
  obtain ⟨L, hL⟩ : ∃ L, L = ks.map (putN ns ls) := ⟨_, rfl⟩
  have hLL : m = L.length := by rw [hL, List.length_map]; exact hm
  have HM := Lib.hid hm
  have HL := Lib.hid hL
  have HLL := Lib.hid hLL
  have IH := Lib.hid ih
  have HNA := Lib.hid hNA
  have HLA := Lib.hid hLA
  clear hm ht hL hLL ih hNA hLA
  obtain ⟨i0, hi, hz0, hz1, hz2⟩ := info_parts infoT
  obtain ⟨x, bb, hpw⟩ : ∃ x bb, parW n m = (x, bb) := ⟨_, _, rfl⟩
  have HPW := Lib.hid hpw
  clear hpw
  go_enter Try.func32, Try.ntmps32
  go_wp2_with fail
  refine (parameter_any n A m c _ hz).mono ?_
  rw [HPW.out]
  rintro e w1 ⟨rfl, hb1⟩
  have hb2 : Below w.heap.size w ((w.alloc (.cells #[sv n, .slice A m c] 35)).alloc (.cells #[.string ⟨#[]⟩, .slice none 0 0] 35)) := ((Below.refl _ _).alloc (Nat.le_refl _) _).alloc (by simp) _
  have hb3 : Below w.heap.size w w1 := hb2.trans (hb1.mono (by simp; omega))
  have hq := alloc2 w (.cells #[sv n, .slice A m c] 35) (.cells #[.string ⟨#[]⟩, .slice none 0 0] 35)
  have hq1 := (hb1.block w.heap.size (by simp; omega)).trans hq.1
  have hq2 := (hb1.block (w.heap.size + 1) (by simp)).trans hq.2
  have t0 : w1.cell? ⟨w.heap.size, 0, none⟩ = some (sv n) := by rw [Lib.cell_of_heap hq1]; rfl
  have t1 : w1.cell? ⟨w.heap.size, 1, none⟩ = some (.slice A m c) := by rw [Lib.cell_of_heap hq1]; rfl
  have hsz1 : w.heap.size + 1 < w1.heap.size := lt_of_heap hq2
  have HQ2 := Lib.hid hq2
  clear hq hq1 hq2
  have t1' : (w1.alloc (.cells #[.string (bs n), .slice none 0 0] 35)).cell? ⟨w.heap.size, 1, none⟩ = some (.slice A m c) := (cellAlloc (by omega)).trans t1
  cases bb with
  | false =>
    have hpx : putN ns ls (.mk n ks) = .mk n (ks.map (putN ns ls)) := putN_none (by unfold parIx; rw [← HM.out, HPW.out]; rfl)
    have HPUT := Lib.hid hpx
    clear hpx
    go_wp2_with fail
    go_loopw [41] (fun i wr => ∃ k : Nat, k ≤ m ∧ i = .int .i64 k ∧ OutIs w1.heap.size n (L.take k) wr ∧ Below w1.heap.size w1 wr) (fun i _ => m - (intOf i).toNat)
    case atStart => exact ⟨0, Nat.zero_le _, rfl, OutIs.fresh (alloc1 _ _), (Below.refl _ _).alloc (Nat.le_refl _) _⟩
    case round =>
      obtain ⟨k, hk, rfl, ho, hbr⟩ := hrel
      obtain ⟨ov, vs', ho'⟩ := ho
      have hB := ho'.blk
      obtain ⟨ov, rfl⟩ := ho'.shape
      have hb : Below w.heap.size w wr := hb3.trans (hbr.mono hb3.size)
      have hr : wr.heap[w.heap.size + 1]? = some (.cells #[.string ⟨#[]⟩, .slice none 0 0] 35 (0, 0)) := (hbr.block _ hsz1).trans HQ2.out
      have c0 : wr.cell? ⟨w1.heap.size, 0, none⟩ = some (sv n) := by rw [Lib.cell_of_heap hB]; rfl
      have c1 : wr.cell? ⟨w1.heap.size, 1, none⟩ = some (.slice ov.1 ov.2.1 ov.2.2) := by rw [Lib.cell_of_heap hB]; rfl
      have f1 : wr.frozen? ⟨w1.heap.size, 1, none⟩ = false := Lib.frozen_of_heap hB 1
      have hsr := hbr.size
      have hlt2 := lt_of_heap hB
      have HO := Lib.hid ho'
      have HR := Lib.hid hr
      by_cases hlt : k < m
      · have hki : k < ks.length := by rw [← HM.out]; exact hlt
        obtain ⟨ad, u, v, rfl, hS, e0, e1, hty⟩ := (hT.keep (kept_below hb)).at_ (List.getElem?_eq_getElem hki)
        obtain ⟨u, v, rfl, rfl⟩ := hty.shape
        have hsz := hb.size
        have hbd : Below w.heap.size w (wr.alloc (.cells #[sv u, .slice v.1 v.2.1 v.2.2] 35)).drew := (hb.alloc hsz _).drew
        have HNA2 := Lib.hid ((HNA.out.keep (kept_below hbd)).more fun y hy => (Nat.lt_of_lt_of_le hy hbd.size : Lt _ y))
        have HLA2 := Lib.hid ((HLA.out.keep (kept_below hbd)).more fun y hy => (Nat.lt_of_lt_of_le hy hbd.size : Lt _ y))
        have CALL := Lib.hid (IH.out ks[k] (List.getElem_mem hki) _ _ NA LA NC LC lvs _ (hty.now hsz (((Below.refl wr.heap.size wr).alloc (Nat.le_refl _) (.cells #[sv u, .slice v.1 v.2.1 v.2.2] 35)).drew)) HNA2.out HLA2.out)
        clear hB ho' hr hbd
        go_wp2_with fail
        refine wp_region_held' (fun w' => w'.cell? ⟨w1.heap.size, 1, none⟩ = some (.slice ov.1 ov.2.1 ov.2.2) ∧ w'.cell? ⟨wr.heap.size, 0, none⟩ = some (sv u) ∧ w'.cell? ⟨wr.heap.size, 1, none⟩ = some (.slice v.1 v.2.1 v.2.2)) [] [0, 1, 2, 3, 4] [5, 6] [7, 8, 9] (by kernel_rfl) (by kernel_rfl) ?sf ?hf
        case sf => exact ⟨(cellAlloc hlt2).trans c1, by simp, by simp⟩
        case hf =>
        simp only [opsAt, List.filterMap_cons, List.filterMap_nil, List.getElem?_toArray, List.getElem?_cons_succ, List.getElem?_cons_zero]
        refine wpFloat_nil ?_
        refine wpLoad_step ?vf0 rfl (fun w' hS => ?yf0) ?kf0
        case yf0 =>
          obtain ⟨h1, h2, h3⟩ := hS
          go_simp
          try rfl
        case kf0 =>
        go_simp
        refine wpLoad_step ?vf1 rfl (fun w' hS => ?yf1) ?kf1
        case yf1 =>
          obtain ⟨h1, h2, h3⟩ := hS
          go_simp
          try rfl
        case kf1 =>
        go_simp
        refine wpLoad_step ?vf2 rfl (fun w' hS => ?yf2) ?kf2
        case yf2 =>
          obtain ⟨h1, h2, h3⟩ := hS
          go_simp
          try rfl
        case kf2 =>
        go_simp
        refine wpLoad_step ?vf3 rfl (fun w' hS => ?yf3) ?kf3
        case yf3 =>
          obtain ⟨h1, h2, h3⟩ := hS
          go_simp
          try rfl
        case kf3 =>
        go_simp
        refine wpLoad_step ?vf4 rfl (fun w' hS => ?yf4) ?kf4
        case yf4 =>
          obtain ⟨h1, h2, h3⟩ := hS
          go_simp
          try rfl
        case kf4 =>
        go_simp
        refine wpLoad_nil ?_
        refine wpKeep_step rfl ?_
        go_simp
        refine CALL.out.mono ?_
        rintro e w4 ⟨u1, v1, rfl, hT1, hb4⟩
        obtain ⟨u1, v1, rfl, rfl⟩ := hT1.shape
        obtain ⟨hc, hf⟩ := belowCell hb4
        have hzw : wr.heap.size + 1 ≤ w4.heap.size := by have := hb4.size; simpa using this
        have HT1 := Lib.hid hT1
        clear hT1
        have d1 : w4.cell? ⟨w1.heap.size, 1, none⟩ = some (.slice ov.1 ov.2.1 ov.2.2) := (hc _ _ (by simp; omega)).trans ((cellAlloc hlt2).trans c1)
        have d2 : w4.cell? ⟨wr.heap.size, 0, none⟩ = some (sv u) := by rw [hc _ _ (by simp)]; simp
        have d3 : w4.cell? ⟨wr.heap.size, 1, none⟩ = some (.slice v.1 v.2.1 v.2.2) := by rw [hc _ _ (by simp)]; simp
        refine ⟨⟨d1, d2, d3⟩, ?_⟩
        refine wpKeep_step rfl ?_
        go_simp
        refine ⟨⟨(cellAlloc (by omega)).trans d1, (cellAlloc (by omega)).trans d2, (cellAlloc (by omega)).trans d3⟩, ?_⟩
        refine wpKeep_nil ?_
        have hbW : Below wr.heap.size wr (w4.alloc (.cells #[sv u1, .slice v1.1 v1.2.1 v1.2.2] 35)) := (((((Below.refl _ _).alloc (Nat.le_refl _) _).drew).trans (hb4.mono (by simp)))).alloc (by omega) _
        have hO2 := HO.out.kept (grownOfBelow hbW) (.inl rfl)
        have hlk : (L.take k).length = k := by rw [List.length_take, ← HLL.out]; omega
        have hown2 := hO2.own
        rw [hlk] at hown2
        have HO2 := Lib.hid hO2
        have HLK := Lib.hid hlk
        clear hO2 hlk
        refine wpList_append_lies _ rfl _ _ 33 rfl (w1.heap.size + 1) 35 i0 _ 2 40 Try.underlying33 hi hz0 hz1 hz2 rfl (by omega) _ k (flat2 vs') rfl hown2 ⟨w4.heap.size, 0, none⟩ 1 1 [sv u1, .slice v1.1 v1.2.1 v1.2.2] rfl rfl ?c1f ?c2f (by omega) ?c3f ?c4f ?c5f _ rfl ?_
        case c1f => exact World.news_of_block (cs := #[sv u1, .slice v1.1 v1.2.1 v1.2.2]) (alloc1 w4 _)
        case c2f => simp [Value.oneCell']
        case c3f => unfold maxLen; omega
        case c4f => omega
        case c5f => simp; omega
        intro g cap w5 hown3 hgrow hat _
        have hb2 := (hgrow.block w1.heap.size (by simp; omega) (fun e => by have := (hown2.lt _ e.symm).1; omega)).trans HO2.out.blk
        have e1' : w5.cell? ⟨w1.heap.size, 1, none⟩ = some (.slice ov.1 ov.2.1 ov.2.2) := by rw [Lib.cell_of_heap hb2]; rfl
        have f2 : w5.frozen? ⟨w1.heap.size, 1, none⟩ = false := Lib.frozen_of_heap hb2 1
        have HN : Hid (OutIs w1.heap.size n (L.take k ++ [putN ns ls ks[k]]) (w5.setCell ⟨w1.heap.size, 1, none⟩ (.slice (some ⟨g, 0, none⟩) (k + 1) cap))) := by
          have := Lib.hid (HO2.out.push (t := putN ns ls ks[k]) (u := sv u1) (v := .slice v1.1 v1.2.1 v1.2.2) (w' := w5) (g := g) (cap := cap) ?_ (by rw [HLK.out]; exact hown3) hgrow hat)
          · rw [HLK.out] at this
            exact this
          · refine (HT1.out.keep (keptGrown (World.grownBy_alloc w4 _ none) fun x hx => ⟨hx.2, by simp⟩)).more fun x hx => ⟨?_, ?_, ?_⟩
            · have := hx.1; simp at *; omega
            · have := hx.2; simp; omega
            · intro e
              have := (HO.out.own.lt x e.symm).2
              have h5 := hx.1
              simp at *; omega
        have hb5 : Below w1.heap.size w1 w5 := (hbr.trans (hbW.mono hsr)).grown hgrow (by simp; omega) (fun x e => by have := (hown2.lt _ e).1; omega)
        have hk1 : L[k]? = some (putN ns ls ks[k]) := by rw [HL.out, List.getElem?_map, List.getElem?_eq_getElem hki]; rfl
        have HK1 := Lib.hid hk1
        clear hb2 hk1
        go_wp2
        refine NoPanic.normal ?_
        go_wp2
        go_roundw
        case rel =>
          refine ⟨k + 1, by omega, by go_num, ?_, ?_⟩
          · have := HN.out
            rw [List.take_add_one, HK1.out]
            exact this
          · exact hb5.setCell (Nat.le_refl _) _
        case measure => simp [intOf]; omega
      · have r0 : wr.cell? ⟨w.heap.size + 1, 0, none⟩ = some (.string ⟨#[]⟩) := by rw [Lib.cell_of_heap hr]; rfl
        have r1 : wr.cell? ⟨w.heap.size + 1, 1, none⟩ = some (.slice none 0 0) := by rw [Lib.cell_of_heap hr]; rfl
        have g0 : wr.frozen? ⟨w.heap.size + 1, 0, none⟩ = false := Lib.frozen_of_heap hr 0
        have g1 : wr.frozen? ⟨w.heap.size + 1, 1, none⟩ = false := Lib.frozen_of_heap hr 1
        clear hB ho' hr
        go_wp2_with fail
        have hR2 : ((wr.setCell ⟨w.heap.size + 1, 0, none⟩ (.string (bs n))).setCell ⟨w.heap.size + 1, 1, none⟩ (.slice ov.1 ov.2.1 ov.2.2)).heap[w.heap.size + 1]? = some (.cells #[sv n, .slice ov.1 ov.2.1 ov.2.2] 35 (0, 0)) := setCell_heap (setCell_heap HR.out)
        have q0 : ((wr.setCell ⟨w.heap.size + 1, 0, none⟩ (.string (bs n))).setCell ⟨w.heap.size + 1, 1, none⟩ (.slice ov.1 ov.2.1 ov.2.2)).cell? ⟨w.heap.size + 1, 0, none⟩ = some (sv n) := by rw [Lib.cell_of_heap hR2]; rfl
        have q1 : ((wr.setCell ⟨w.heap.size + 1, 0, none⟩ (.string (bs n))).setCell ⟨w.heap.size + 1, 1, none⟩ (.slice ov.1 ov.2.1 ov.2.2)).cell? ⟨w.heap.size + 1, 1, none⟩ = some (.slice ov.1 ov.2.1 ov.2.2) := by rw [Lib.cell_of_heap hR2]; rfl
        refine bodyPost_ret (v := .agg #[sv n, .slice ov.1 ov.2.1 ov.2.2]) ?_ rfl ?_
        · clear HO HR hT hb hR2
          simp [results, Try.results32, go_sem, q0, q1]
        · obtain rfl : k = m := by omega
          have hx : L.take k = L := List.take_of_length_le (by rw [← HLL.out]; exact Nat.le_refl _)
          have hd := HO.out
          rw [hx] at hd
          have hD := hd.done hn (by rw [← HLL.out]; exact hz)
          have hlt3 := lt_of_heap hd.blk
          rw [HPUT.out, ← HL.out]
          refine ⟨_, _, rfl, ?_, (hb.setCell (by simp) _).setCell (by simp) _⟩
          refine (hD.keep (Kept.trans (keptGrown (row := some (w.heap.size + 1)) grownSet fun x hx => ⟨hx.2, ?_⟩) (keptGrown (row := some (w.heap.size + 1)) grownSet fun x hx => ⟨by rw [sizeSet]; exact hx.2, ?_⟩))).more fun x hx => ⟨?_, ?_⟩
          · intro e; injection e; omega
          · intro e; injection e; omega
          · have := hx.1; omega
          · rw [sizeSet, sizeSet]; exact hx.2
  | true =>
    have hb1w : Below w.heap.size w w1 := hb3
    have hix := idx_range ns x 0
    go_wp2_with fail
    rw [HA.out]
    refine (index_any NA NC _ ns x _ (HNA.out.keep (kept_below hb3)) (by rw [← HA.out]; exact hns)).mono ?_
    rw [← HA.out]
    rintro e w2 ⟨rfl, rfl⟩
    rcases hix with hix | ⟨j, hj, hix⟩
    · rw [hix]
      have hpx : putN ns ls (.mk n ks) = .mk n (ks.map (putN ns ls)) := putN_none (by unfold parIx; rw [← HM.out, HPW.out]; dsimp only; rw [hix]; rfl)
      have HPUT := Lib.hid hpx
      clear hpx hix
      go_wp2_with fail
      go_loopw [41] (fun i wr => ∃ k : Nat, k ≤ m ∧ i = .int .i64 k ∧ OutIs w1.heap.size n (L.take k) wr ∧ Below w1.heap.size w1 wr) (fun i _ => m - (intOf i).toNat)
      case atStart => exact ⟨0, Nat.zero_le _, rfl, OutIs.fresh (alloc1 _ _), (Below.refl _ _).alloc (Nat.le_refl _) _⟩
      case round =>
        obtain ⟨k, hk, rfl, ho, hbr⟩ := hrel
        obtain ⟨ov, vs', ho'⟩ := ho
        have hB := ho'.blk
        obtain ⟨ov, rfl⟩ := ho'.shape
        have hb : Below w.heap.size w wr := hb3.trans (hbr.mono hb3.size)
        have hr : wr.heap[w.heap.size + 1]? = some (.cells #[.string ⟨#[]⟩, .slice none 0 0] 35 (0, 0)) := (hbr.block _ hsz1).trans HQ2.out
        have c0 : wr.cell? ⟨w1.heap.size, 0, none⟩ = some (sv n) := by rw [Lib.cell_of_heap hB]; rfl
        have c1 : wr.cell? ⟨w1.heap.size, 1, none⟩ = some (.slice ov.1 ov.2.1 ov.2.2) := by rw [Lib.cell_of_heap hB]; rfl
        have f1 : wr.frozen? ⟨w1.heap.size, 1, none⟩ = false := Lib.frozen_of_heap hB 1
        have hsr := hbr.size
        have hlt2 := lt_of_heap hB
        have HO := Lib.hid ho'
        have HR := Lib.hid hr
        by_cases hlt : k < m
        · have hki : k < ks.length := by rw [← HM.out]; exact hlt
          obtain ⟨ad, u, v, rfl, hS, e0, e1, hty⟩ := (hT.keep (kept_below hb)).at_ (List.getElem?_eq_getElem hki)
          obtain ⟨u, v, rfl, rfl⟩ := hty.shape
          have hsz := hb.size
          have hbd : Below w.heap.size w (wr.alloc (.cells #[sv u, .slice v.1 v.2.1 v.2.2] 35)).drew := (hb.alloc hsz _).drew
          have HNA2 := Lib.hid ((HNA.out.keep (kept_below hbd)).more fun y hy => (Nat.lt_of_lt_of_le hy hbd.size : Lt _ y))
          have HLA2 := Lib.hid ((HLA.out.keep (kept_below hbd)).more fun y hy => (Nat.lt_of_lt_of_le hy hbd.size : Lt _ y))
          have CALL := Lib.hid (IH.out ks[k] (List.getElem_mem hki) _ _ NA LA NC LC lvs _ (hty.now hsz (((Below.refl wr.heap.size wr).alloc (Nat.le_refl _) (.cells #[sv u, .slice v.1 v.2.1 v.2.2] 35)).drew)) HNA2.out HLA2.out)
          clear hB ho' hr hbd
          go_wp2_with fail
          refine wp_region_held' (fun w' => w'.cell? ⟨w1.heap.size, 1, none⟩ = some (.slice ov.1 ov.2.1 ov.2.2) ∧ w'.cell? ⟨wr.heap.size, 0, none⟩ = some (sv u) ∧ w'.cell? ⟨wr.heap.size, 1, none⟩ = some (.slice v.1 v.2.1 v.2.2)) [] [0, 1, 2, 3, 4] [5, 6] [7, 8, 9] (by kernel_rfl) (by kernel_rfl) ?sg ?hg
          case sg => exact ⟨(cellAlloc hlt2).trans c1, by simp, by simp⟩
          case hg =>
          simp only [opsAt, List.filterMap_cons, List.filterMap_nil, List.getElem?_toArray, List.getElem?_cons_succ, List.getElem?_cons_zero]
          refine wpFloat_nil ?_
          refine wpLoad_step ?vg0 rfl (fun w' hS => ?yg0) ?kg0
          case yg0 =>
            obtain ⟨h1, h2, h3⟩ := hS
            go_simp
            try rfl
          case kg0 =>
          go_simp
          refine wpLoad_step ?vg1 rfl (fun w' hS => ?yg1) ?kg1
          case yg1 =>
            obtain ⟨h1, h2, h3⟩ := hS
            go_simp
            try rfl
          case kg1 =>
          go_simp
          refine wpLoad_step ?vg2 rfl (fun w' hS => ?yg2) ?kg2
          case yg2 =>
            obtain ⟨h1, h2, h3⟩ := hS
            go_simp
            try rfl
          case kg2 =>
          go_simp
          refine wpLoad_step ?vg3 rfl (fun w' hS => ?yg3) ?kg3
          case yg3 =>
            obtain ⟨h1, h2, h3⟩ := hS
            go_simp
            try rfl
          case kg3 =>
          go_simp
          refine wpLoad_step ?vg4 rfl (fun w' hS => ?yg4) ?kg4
          case yg4 =>
            obtain ⟨h1, h2, h3⟩ := hS
            go_simp
            try rfl
          case kg4 =>
          go_simp
          refine wpLoad_nil ?_
          refine wpKeep_step rfl ?_
          go_simp
          refine CALL.out.mono ?_
          rintro e w4 ⟨u1, v1, rfl, hT1, hb4⟩
          obtain ⟨u1, v1, rfl, rfl⟩ := hT1.shape
          obtain ⟨hc, hf⟩ := belowCell hb4
          have hzw : wr.heap.size + 1 ≤ w4.heap.size := by have := hb4.size; simpa using this
          have HT1 := Lib.hid hT1
          clear hT1
          have d1 : w4.cell? ⟨w1.heap.size, 1, none⟩ = some (.slice ov.1 ov.2.1 ov.2.2) := (hc _ _ (by simp; omega)).trans ((cellAlloc hlt2).trans c1)
          have d2 : w4.cell? ⟨wr.heap.size, 0, none⟩ = some (sv u) := by rw [hc _ _ (by simp)]; simp
          have d3 : w4.cell? ⟨wr.heap.size, 1, none⟩ = some (.slice v.1 v.2.1 v.2.2) := by rw [hc _ _ (by simp)]; simp
          refine ⟨⟨d1, d2, d3⟩, ?_⟩
          refine wpKeep_step rfl ?_
          go_simp
          refine ⟨⟨(cellAlloc (by omega)).trans d1, (cellAlloc (by omega)).trans d2, (cellAlloc (by omega)).trans d3⟩, ?_⟩
          refine wpKeep_nil ?_
          have hbW : Below wr.heap.size wr (w4.alloc (.cells #[sv u1, .slice v1.1 v1.2.1 v1.2.2] 35)) := (((((Below.refl _ _).alloc (Nat.le_refl _) _).drew).trans (hb4.mono (by simp)))).alloc (by omega) _
          have hO2 := HO.out.kept (grownOfBelow hbW) (.inl rfl)
          have hlk : (L.take k).length = k := by rw [List.length_take, ← HLL.out]; omega
          have hown2 := hO2.own
          rw [hlk] at hown2
          have HO2 := Lib.hid hO2
          have HLK := Lib.hid hlk
          clear hO2 hlk
          refine wpList_append_lies _ rfl _ _ 33 rfl (w1.heap.size + 1) 35 i0 _ 2 40 Try.underlying33 hi hz0 hz1 hz2 rfl (by omega) _ k (flat2 vs') rfl hown2 ⟨w4.heap.size, 0, none⟩ 1 1 [sv u1, .slice v1.1 v1.2.1 v1.2.2] rfl rfl ?c1g ?c2g (by omega) ?c3g ?c4g ?c5g _ rfl ?_
          case c1g => exact World.news_of_block (cs := #[sv u1, .slice v1.1 v1.2.1 v1.2.2]) (alloc1 w4 _)
          case c2g => simp [Value.oneCell']
          case c3g => unfold maxLen; omega
          case c4g => omega
          case c5g => simp; omega
          intro g cap w5 hown3 hgrow hat _
          have hb2 := (hgrow.block w1.heap.size (by simp; omega) (fun e => by have := (hown2.lt _ e.symm).1; omega)).trans HO2.out.blk
          have e1' : w5.cell? ⟨w1.heap.size, 1, none⟩ = some (.slice ov.1 ov.2.1 ov.2.2) := by rw [Lib.cell_of_heap hb2]; rfl
          have f2 : w5.frozen? ⟨w1.heap.size, 1, none⟩ = false := Lib.frozen_of_heap hb2 1
          have HN : Hid (OutIs w1.heap.size n (L.take k ++ [putN ns ls ks[k]]) (w5.setCell ⟨w1.heap.size, 1, none⟩ (.slice (some ⟨g, 0, none⟩) (k + 1) cap))) := by
            have := Lib.hid (HO2.out.push (t := putN ns ls ks[k]) (u := sv u1) (v := .slice v1.1 v1.2.1 v1.2.2) (w' := w5) (g := g) (cap := cap) ?_ (by rw [HLK.out]; exact hown3) hgrow hat)
            · rw [HLK.out] at this
              exact this
            · refine (HT1.out.keep (keptGrown (World.grownBy_alloc w4 _ none) fun x hx => ⟨hx.2, by simp⟩)).more fun x hx => ⟨?_, ?_, ?_⟩
              · have := hx.1; simp at *; omega
              · have := hx.2; simp; omega
              · intro e
                have := (HO.out.own.lt x e.symm).2
                have h5 := hx.1
                simp at *; omega
          have hb5 : Below w1.heap.size w1 w5 := (hbr.trans (hbW.mono hsr)).grown hgrow (by simp; omega) (fun x e => by have := (hown2.lt _ e).1; omega)
          have hk1 : L[k]? = some (putN ns ls ks[k]) := by rw [HL.out, List.getElem?_map, List.getElem?_eq_getElem hki]; rfl
          have HK1 := Lib.hid hk1
          clear hb2 hk1
          go_wp2
          refine NoPanic.normal ?_
          go_wp2
          go_roundw
          case rel =>
            refine ⟨k + 1, by omega, by go_num, ?_, ?_⟩
            · have := HN.out
              rw [List.take_add_one, HK1.out]
              exact this
            · exact hb5.setCell (Nat.le_refl _) _
          case measure => simp [intOf]; omega
        · have r0 : wr.cell? ⟨w.heap.size + 1, 0, none⟩ = some (.string ⟨#[]⟩) := by rw [Lib.cell_of_heap hr]; rfl
          have r1 : wr.cell? ⟨w.heap.size + 1, 1, none⟩ = some (.slice none 0 0) := by rw [Lib.cell_of_heap hr]; rfl
          have g0 : wr.frozen? ⟨w.heap.size + 1, 0, none⟩ = false := Lib.frozen_of_heap hr 0
          have g1 : wr.frozen? ⟨w.heap.size + 1, 1, none⟩ = false := Lib.frozen_of_heap hr 1
          clear hB ho' hr
          go_wp2_with fail
          have hR2 : ((wr.setCell ⟨w.heap.size + 1, 0, none⟩ (.string (bs n))).setCell ⟨w.heap.size + 1, 1, none⟩ (.slice ov.1 ov.2.1 ov.2.2)).heap[w.heap.size + 1]? = some (.cells #[sv n, .slice ov.1 ov.2.1 ov.2.2] 35 (0, 0)) := setCell_heap (setCell_heap HR.out)
          have q0 : ((wr.setCell ⟨w.heap.size + 1, 0, none⟩ (.string (bs n))).setCell ⟨w.heap.size + 1, 1, none⟩ (.slice ov.1 ov.2.1 ov.2.2)).cell? ⟨w.heap.size + 1, 0, none⟩ = some (sv n) := by rw [Lib.cell_of_heap hR2]; rfl
          have q1 : ((wr.setCell ⟨w.heap.size + 1, 0, none⟩ (.string (bs n))).setCell ⟨w.heap.size + 1, 1, none⟩ (.slice ov.1 ov.2.1 ov.2.2)).cell? ⟨w.heap.size + 1, 1, none⟩ = some (.slice ov.1 ov.2.1 ov.2.2) := by rw [Lib.cell_of_heap hR2]; rfl
          refine bodyPost_ret (v := .agg #[sv n, .slice ov.1 ov.2.1 ov.2.2]) ?_ rfl ?_
          · clear HO HR hT hb hR2
            simp [results, Try.results32, go_sem, q0, q1]
          · obtain rfl : k = m := by omega
            have hx : L.take k = L := List.take_of_length_le (by rw [← HLL.out]; exact Nat.le_refl _)
            have hd := HO.out
            rw [hx] at hd
            have hD := hd.done hn (by rw [← HLL.out]; exact hz)
            have hlt3 := lt_of_heap hd.blk
            rw [HPUT.out, ← HL.out]
            refine ⟨_, _, rfl, ?_, (hb.setCell (by simp) _).setCell (by simp) _⟩
            refine (hD.keep (Kept.trans (keptGrown (row := some (w.heap.size + 1)) grownSet fun x hx => ⟨hx.2, ?_⟩) (keptGrown (row := some (w.heap.size + 1)) grownSet fun x hx => ⟨by rw [sizeSet]; exact hx.2, ?_⟩))).more fun x hx => ⟨?_, ?_⟩
            · intro e; injection e; omega
            · intro e; injection e; omega
            · have := hx.1; omega
            · rw [sizeSet, sizeSet]; exact hx.2
    · rw [Nat.zero_add] at hix
      rw [hix]
      by_cases hjl : j < b
      · have hjl2 : j < ls.length := by rw [← HB.out]; exact hjl
        have hpx : putN ns ls (.mk n ks) = ls[j] := putN_some (by unfold parIx; rw [← HM.out, HPW.out]; dsimp only; rw [if_pos rfl, hix, if_pos (by omega), Int.toNat_natCast]; exact List.getElem?_eq_getElem hjl2)
        have HPUT := Lib.hid hpx
        clear hpx hix
        obtain ⟨ad, u, v, rfl, hS, e0, e1, hty⟩ := (HLA.out.keep (kept_below hb3)).at_ (List.getElem?_eq_getElem hjl2)
        obtain ⟨u, v, rfl, rfl⟩ := hty.shape
        have CP := Lib.hid (copied_any ls[j] _ _ w1 (hty.more fun y hy => (Nat.lt_of_lt_of_le hy hb3.size : Lt _ y)))
        have hik : (0 : Int) ≤ (j : Int) ∧ (j : Int) < (b : Int) := ⟨by omega, by omega⟩
        clear hty
        go_wp2_with fail
        refine CP.out.mono ?_
        rintro e w4 ⟨u1, v1, rfl, hT1, hb4⟩
        obtain ⟨u1, v1, rfl, rfl⟩ := hT1.shape
        have hr := (hb4.block _ hsz1).trans HQ2.out
        have r0 : w4.cell? ⟨w.heap.size + 1, 0, none⟩ = some (.string ⟨#[]⟩) := by rw [Lib.cell_of_heap hr]; rfl
        have r1 : w4.cell? ⟨w.heap.size + 1, 1, none⟩ = some (.slice none 0 0) := by rw [Lib.cell_of_heap hr]; rfl
        have g0 : w4.frozen? ⟨w.heap.size + 1, 0, none⟩ = false := Lib.frozen_of_heap hr 0
        have g1 : w4.frozen? ⟨w.heap.size + 1, 1, none⟩ = false := Lib.frozen_of_heap hr 1
        have hR2 : ((w4.setCell ⟨w.heap.size + 1, 0, none⟩ (sv u1)).setCell ⟨w.heap.size + 1, 1, none⟩ (.slice v1.1 v1.2.1 v1.2.2)).heap[w.heap.size + 1]? = some (.cells #[sv u1, .slice v1.1 v1.2.1 v1.2.2] 35 (0, 0)) := setCell_heap (setCell_heap hr)
        have HR2 := Lib.hid hR2
        have HT1 := Lib.hid hT1
        have HB4 := Lib.hid (hb3.trans (hb4.mono hb3.size))
        clear hr hR2 hT1 hb4
        go_wp2_with fail
        have q0 := (Lib.cell_of_heap HR2.out 0).trans rfl
        have q1 := (Lib.cell_of_heap HR2.out 1).trans rfl
        refine bodyPost_ret (v := .agg #[sv u1, .slice v1.1 v1.2.1 v1.2.2]) ?_ rfl ?_
        · simp [results, Try.results32, go_sem, q0, q1]
        · rw [HPUT.out]
          refine ⟨_, _, rfl, ?_, (HB4.out.setCell (by simp) _).setCell (by simp) _⟩
          refine (HT1.out.keep (Kept.trans (keptGrown (row := some (w.heap.size + 1)) grownSet fun x hx => ⟨hx.2, ?_⟩) (keptGrown (row := some (w.heap.size + 1)) grownSet fun x hx => ⟨by rw [sizeSet]; exact hx.2, ?_⟩))).more fun x hx => ⟨?_, ?_⟩
          · intro e; injection e with e; have := hx.1; omega
          · intro e; injection e with e; have := hx.1; omega
          · have := hx.1; omega
          · rw [sizeSet, sizeSet]; exact hx.2
      · have hpx : putN ns ls (.mk n ks) = .mk n (ks.map (putN ns ls)) := putN_none (by unfold parIx; rw [← HM.out, HPW.out]; dsimp only; rw [if_pos rfl, hix, if_pos (by omega), Int.toNat_natCast]; exact List.getElem?_eq_none (by rw [← HB.out]; omega))
        have HPUT := Lib.hid hpx
        have hjn : ¬ (j : Int) < (b : Int) := by omega
        clear hpx hix
        go_wp2_with fail
        go_loopw [41] (fun i wr => ∃ k : Nat, k ≤ m ∧ i = .int .i64 k ∧ OutIs w1.heap.size n (L.take k) wr ∧ Below w1.heap.size w1 wr) (fun i _ => m - (intOf i).toNat)
        case atStart => exact ⟨0, Nat.zero_le _, rfl, OutIs.fresh (alloc1 _ _), (Below.refl _ _).alloc (Nat.le_refl _) _⟩
        case round =>
          obtain ⟨k, hk, rfl, ho, hbr⟩ := hrel
          obtain ⟨ov, vs', ho'⟩ := ho
          have hB := ho'.blk
          obtain ⟨ov, rfl⟩ := ho'.shape
          have hb : Below w.heap.size w wr := hb3.trans (hbr.mono hb3.size)
          have hr : wr.heap[w.heap.size + 1]? = some (.cells #[.string ⟨#[]⟩, .slice none 0 0] 35 (0, 0)) := (hbr.block _ hsz1).trans HQ2.out
          have c0 : wr.cell? ⟨w1.heap.size, 0, none⟩ = some (sv n) := by rw [Lib.cell_of_heap hB]; rfl
          have c1 : wr.cell? ⟨w1.heap.size, 1, none⟩ = some (.slice ov.1 ov.2.1 ov.2.2) := by rw [Lib.cell_of_heap hB]; rfl
          have f1 : wr.frozen? ⟨w1.heap.size, 1, none⟩ = false := Lib.frozen_of_heap hB 1
          have hsr := hbr.size
          have hlt2 := lt_of_heap hB
          have HO := Lib.hid ho'
          have HR := Lib.hid hr
          by_cases hlt : k < m
          · have hki : k < ks.length := by rw [← HM.out]; exact hlt
            obtain ⟨ad, u, v, rfl, hS, e0, e1, hty⟩ := (hT.keep (kept_below hb)).at_ (List.getElem?_eq_getElem hki)
            obtain ⟨u, v, rfl, rfl⟩ := hty.shape
            have hsz := hb.size
            have hbd : Below w.heap.size w (wr.alloc (.cells #[sv u, .slice v.1 v.2.1 v.2.2] 35)).drew := (hb.alloc hsz _).drew
            have HNA2 := Lib.hid ((HNA.out.keep (kept_below hbd)).more fun y hy => (Nat.lt_of_lt_of_le hy hbd.size : Lt _ y))
            have HLA2 := Lib.hid ((HLA.out.keep (kept_below hbd)).more fun y hy => (Nat.lt_of_lt_of_le hy hbd.size : Lt _ y))
            have CALL := Lib.hid (IH.out ks[k] (List.getElem_mem hki) _ _ NA LA NC LC lvs _ (hty.now hsz (((Below.refl wr.heap.size wr).alloc (Nat.le_refl _) (.cells #[sv u, .slice v.1 v.2.1 v.2.2] 35)).drew)) HNA2.out HLA2.out)
            clear hB ho' hr hbd
            go_wp2_with fail
            refine wp_region_held' (fun w' => w'.cell? ⟨w1.heap.size, 1, none⟩ = some (.slice ov.1 ov.2.1 ov.2.2) ∧ w'.cell? ⟨wr.heap.size, 0, none⟩ = some (sv u) ∧ w'.cell? ⟨wr.heap.size, 1, none⟩ = some (.slice v.1 v.2.1 v.2.2)) [] [0, 1, 2, 3, 4] [5, 6] [7, 8, 9] (by kernel_rfl) (by kernel_rfl) ?sh ?hh
            case sh => exact ⟨(cellAlloc hlt2).trans c1, by simp, by simp⟩
            case hh =>
            simp only [opsAt, List.filterMap_cons, List.filterMap_nil, List.getElem?_toArray, List.getElem?_cons_succ, List.getElem?_cons_zero]
            refine wpFloat_nil ?_
            refine wpLoad_step ?vh0 rfl (fun w' hS => ?yh0) ?kh0
            case yh0 =>
              obtain ⟨h1, h2, h3⟩ := hS
              go_simp
              try rfl
            case kh0 =>
            go_simp
            refine wpLoad_step ?vh1 rfl (fun w' hS => ?yh1) ?kh1
            case yh1 =>
              obtain ⟨h1, h2, h3⟩ := hS
              go_simp
              try rfl
            case kh1 =>
            go_simp
            refine wpLoad_step ?vh2 rfl (fun w' hS => ?yh2) ?kh2
            case yh2 =>
              obtain ⟨h1, h2, h3⟩ := hS
              go_simp
              try rfl
            case kh2 =>
            go_simp
            refine wpLoad_step ?vh3 rfl (fun w' hS => ?yh3) ?kh3
            case yh3 =>
              obtain ⟨h1, h2, h3⟩ := hS
              go_simp
              try rfl
            case kh3 =>
            go_simp
            refine wpLoad_step ?vh4 rfl (fun w' hS => ?yh4) ?kh4
            case yh4 =>
              obtain ⟨h1, h2, h3⟩ := hS
              go_simp
              try rfl
            case kh4 =>
            go_simp
            refine wpLoad_nil ?_
            refine wpKeep_step rfl ?_
            go_simp
            refine CALL.out.mono ?_
            rintro e w4 ⟨u1, v1, rfl, hT1, hb4⟩
            obtain ⟨u1, v1, rfl, rfl⟩ := hT1.shape
            obtain ⟨hc, hf⟩ := belowCell hb4
            have hzw : wr.heap.size + 1 ≤ w4.heap.size := by have := hb4.size; simpa using this
            have HT1 := Lib.hid hT1
            clear hT1
            have d1 : w4.cell? ⟨w1.heap.size, 1, none⟩ = some (.slice ov.1 ov.2.1 ov.2.2) := (hc _ _ (by simp; omega)).trans ((cellAlloc hlt2).trans c1)
            have d2 : w4.cell? ⟨wr.heap.size, 0, none⟩ = some (sv u) := by rw [hc _ _ (by simp)]; simp
            have d3 : w4.cell? ⟨wr.heap.size, 1, none⟩ = some (.slice v.1 v.2.1 v.2.2) := by rw [hc _ _ (by simp)]; simp
            refine ⟨⟨d1, d2, d3⟩, ?_⟩
            refine wpKeep_step rfl ?_
            go_simp
            refine ⟨⟨(cellAlloc (by omega)).trans d1, (cellAlloc (by omega)).trans d2, (cellAlloc (by omega)).trans d3⟩, ?_⟩
            refine wpKeep_nil ?_
            have hbW : Below wr.heap.size wr (w4.alloc (.cells #[sv u1, .slice v1.1 v1.2.1 v1.2.2] 35)) := (((((Below.refl _ _).alloc (Nat.le_refl _) _).drew).trans (hb4.mono (by simp)))).alloc (by omega) _
            have hO2 := HO.out.kept (grownOfBelow hbW) (.inl rfl)
            have hlk : (L.take k).length = k := by rw [List.length_take, ← HLL.out]; omega
            have hown2 := hO2.own
            rw [hlk] at hown2
            have HO2 := Lib.hid hO2
            have HLK := Lib.hid hlk
            clear hO2 hlk
            refine wpList_append_lies _ rfl _ _ 33 rfl (w1.heap.size + 1) 35 i0 _ 2 40 Try.underlying33 hi hz0 hz1 hz2 rfl (by omega) _ k (flat2 vs') rfl hown2 ⟨w4.heap.size, 0, none⟩ 1 1 [sv u1, .slice v1.1 v1.2.1 v1.2.2] rfl rfl ?c1h ?c2h (by omega) ?c3h ?c4h ?c5h _ rfl ?_
            case c1h => exact World.news_of_block (cs := #[sv u1, .slice v1.1 v1.2.1 v1.2.2]) (alloc1 w4 _)
            case c2h => simp [Value.oneCell']
            case c3h => unfold maxLen; omega
            case c4h => omega
            case c5h => simp; omega
            intro g cap w5 hown3 hgrow hat _
            have hb2 := (hgrow.block w1.heap.size (by simp; omega) (fun e => by have := (hown2.lt _ e.symm).1; omega)).trans HO2.out.blk
            have e1' : w5.cell? ⟨w1.heap.size, 1, none⟩ = some (.slice ov.1 ov.2.1 ov.2.2) := by rw [Lib.cell_of_heap hb2]; rfl
            have f2 : w5.frozen? ⟨w1.heap.size, 1, none⟩ = false := Lib.frozen_of_heap hb2 1
            have HN : Hid (OutIs w1.heap.size n (L.take k ++ [putN ns ls ks[k]]) (w5.setCell ⟨w1.heap.size, 1, none⟩ (.slice (some ⟨g, 0, none⟩) (k + 1) cap))) := by
              have := Lib.hid (HO2.out.push (t := putN ns ls ks[k]) (u := sv u1) (v := .slice v1.1 v1.2.1 v1.2.2) (w' := w5) (g := g) (cap := cap) ?_ (by rw [HLK.out]; exact hown3) hgrow hat)
              · rw [HLK.out] at this
                exact this
              · refine (HT1.out.keep (keptGrown (World.grownBy_alloc w4 _ none) fun x hx => ⟨hx.2, by simp⟩)).more fun x hx => ⟨?_, ?_, ?_⟩
                · have := hx.1; simp at *; omega
                · have := hx.2; simp; omega
                · intro e
                  have := (HO.out.own.lt x e.symm).2
                  have h5 := hx.1
                  simp at *; omega
            have hb5 : Below w1.heap.size w1 w5 := (hbr.trans (hbW.mono hsr)).grown hgrow (by simp; omega) (fun x e => by have := (hown2.lt _ e).1; omega)
            have hk1 : L[k]? = some (putN ns ls ks[k]) := by rw [HL.out, List.getElem?_map, List.getElem?_eq_getElem hki]; rfl
            have HK1 := Lib.hid hk1
            clear hb2 hk1
            go_wp2
            refine NoPanic.normal ?_
            go_wp2
            go_roundw
            case rel =>
              refine ⟨k + 1, by omega, by go_num, ?_, ?_⟩
              · have := HN.out
                rw [List.take_add_one, HK1.out]
                exact this
              · exact hb5.setCell (Nat.le_refl _) _
            case measure => simp [intOf]; omega
          · have r0 : wr.cell? ⟨w.heap.size + 1, 0, none⟩ = some (.string ⟨#[]⟩) := by rw [Lib.cell_of_heap hr]; rfl
            have r1 : wr.cell? ⟨w.heap.size + 1, 1, none⟩ = some (.slice none 0 0) := by rw [Lib.cell_of_heap hr]; rfl
            have g0 : wr.frozen? ⟨w.heap.size + 1, 0, none⟩ = false := Lib.frozen_of_heap hr 0
            have g1 : wr.frozen? ⟨w.heap.size + 1, 1, none⟩ = false := Lib.frozen_of_heap hr 1
            clear hB ho' hr
            go_wp2_with fail
            have hR2 : ((wr.setCell ⟨w.heap.size + 1, 0, none⟩ (.string (bs n))).setCell ⟨w.heap.size + 1, 1, none⟩ (.slice ov.1 ov.2.1 ov.2.2)).heap[w.heap.size + 1]? = some (.cells #[sv n, .slice ov.1 ov.2.1 ov.2.2] 35 (0, 0)) := setCell_heap (setCell_heap HR.out)
            have q0 : ((wr.setCell ⟨w.heap.size + 1, 0, none⟩ (.string (bs n))).setCell ⟨w.heap.size + 1, 1, none⟩ (.slice ov.1 ov.2.1 ov.2.2)).cell? ⟨w.heap.size + 1, 0, none⟩ = some (sv n) := by rw [Lib.cell_of_heap hR2]; rfl
            have q1 : ((wr.setCell ⟨w.heap.size + 1, 0, none⟩ (.string (bs n))).setCell ⟨w.heap.size + 1, 1, none⟩ (.slice ov.1 ov.2.1 ov.2.2)).cell? ⟨w.heap.size + 1, 1, none⟩ = some (.slice ov.1 ov.2.1 ov.2.2) := by rw [Lib.cell_of_heap hR2]; rfl
            refine bodyPost_ret (v := .agg #[sv n, .slice ov.1 ov.2.1 ov.2.2]) ?_ rfl ?_
            · clear HO HR hT hb hR2
              simp [results, Try.results32, go_sem, q0, q1]
            · obtain rfl : k = m := by omega
              have hx : L.take k = L := List.take_of_length_le (by rw [← HLL.out]; exact Nat.le_refl _)
              have hd := HO.out
              rw [hx] at hd
              have hD := hd.done hn (by rw [← HLL.out]; exact hz)
              have hlt3 := lt_of_heap hd.blk
              rw [HPUT.out, ← HL.out]
              refine ⟨_, _, rfl, ?_, (hb.setCell (by simp) _).setCell (by simp) _⟩
              refine (hD.keep (Kept.trans (keptGrown (row := some (w.heap.size + 1)) grownSet fun x hx => ⟨hx.2, ?_⟩) (keptGrown (row := some (w.heap.size + 1)) grownSet fun x hx => ⟨by rw [sizeSet]; exact hx.2, ?_⟩))).more fun x hx => ⟨?_, ?_⟩
              · intro e; injection e; omega
              · intro e; injection e; omega
              · have := hx.1; omega
              · rw [sizeSet, sizeSet]; exact hx.2
end
end Go.Proofs.Ytiijlecidepneaa
