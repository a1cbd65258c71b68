/-
  The walk of recompilelaw09.awake: two variables and an int.
  Conditions: none.
-/
import Derived.Test.YtndhglcdkegigaaDoorSolve
import Derived.Test.YtndhglcdkegigaaDoorDice
import Derived.Test.YtndhglcdkegigaaDoorParseW
import Derived.Test.YtndhglcdkegigaaDoorPrint
namespace Go.Proofs.YtndhglcdkegigaaDoor
open Go.RowKit

def tInt : Ty := .mk [105, 110, 116] []
def tVar (n : Nat) : Ty := .mk (vname n) []
theorem varOf_tVar (n : Nat) : varOf (tVar n) = some n := by simp [tVar, varOf, vnum_name]
theorem varOf_tInt : varOf tInt = none := by simp [tInt, varOf, vnum]

/-- What the two equations give. -/
theorem awake_sol {rs : List Bool} {G : Gv} (h : Chain [(tVar 0, tVar 1), (tVar 1, tInt)] rs G) : drops rs 0 = [] ∧ solL G = [tInt, tVar 0] := by
  have key : ∃ rs1 r1 r2 G1, rs = (rs1 ++ [r1]) ++ [r2] ∧ rs1 = [] ∧ Step [] G1 (tVar 0) (tVar 1) r1 ∧ Step G1 G (tVar 1) tInt r2 := by
    generalize hE : [(tVar 0, tVar 1), (tVar 1, tInt)] = E at h
    cases h with
    | nil => cases hE
    | @snoc E1 rs1 G1 _ t u r h1 hs =>
      have e1 := List.append_inj' (s₁ := [(tVar 0, tVar 1)]) (t₁ := [(tVar 1, tInt)]) (s₂ := E1) (t₂ := [(t, u)]) hE rfl
      obtain ⟨rfl, e2⟩ := e1
      obtain ⟨rfl, rfl⟩ := Prod.mk.inj (List.cons.inj e2).1
      generalize hE2 : [(tVar 0, tVar 1)] = E2 at h1
      cases h1 with
      | nil => cases hE2
      | @snoc E3 rs3 G3 _ t u r3 h3 hs3 =>
        have e3 := List.append_inj' (s₁ := ([] : List (Ty × Ty))) (t₁ := [(tVar 0, tVar 1)]) (s₂ := E3) (t₂ := [(t, u)]) hE2 rfl
        obtain ⟨rfl, e4⟩ := e3
        obtain ⟨rfl, rfl⟩ := Prod.mk.inj (List.cons.inj e4).1
        generalize hE5 : ([] : List (Ty × Ty)) = E5 at h3
        cases h3 with
        | nil => exact ⟨[], r3, r, G1, rfl, rfl, hs3, hs⟩
        | snoc _ _ => simp at hE5
  obtain ⟨rs1, r1, r2, G1, rfl, rfl, h1, h2⟩ := key
  obtain ⟨a1, a2⟩ := h1.head 1 (tVar 0) (.right (tVar 0) (tVar 1) 1 (.stop _ fun _ _ => rfl) (.stop _ fun _ _ => rfl) (varOf_tVar 1) fun m hm => by rw [varOf_tVar] at hm; cases hm; omega)
  have hr1 : r1 = true := a1.2 fun hoc => by
    have := (Occ.free (varOf_tVar 0) rfl).1 hoc
    omega
  obtain ⟨q1, rfl⟩ := a2 hr1
  have hs1 : solOf ([] ++ [(1, q1, tVar 0)]) 1 = some (tVar 0) := rfl
  have hs0 : solOf ([] ++ [(1, q1, tVar 0)]) 0 = none := rfl
  obtain ⟨b1, b2⟩ := h2.head 0 tInt (.left (tVar 0) tInt 0 (.step _ (tVar 0) _ 1 (varOf_tVar 1) hs1 (.stop _ fun k hk => by rw [varOf_tVar] at hk; cases hk; exact hs0)) (.stop _ fun k hk => by rw [varOf_tInt] at hk; cases hk) (varOf_tVar 0) fun n hn => by rw [varOf_tInt] at hn; cases hn)
  have hr2 : r2 = true := b1.2 fun hoc => by
    obtain ⟨a, ha, _⟩ := (Occ.node varOf_tInt).1 hoc
    simp [tInt, Ty.args] at ha
  obtain ⟨q2, rfl⟩ := b2 hr2
  subst hr1 hr2
  exact ⟨rfl, rfl⟩

set_option maxHeartbeats 4000000 in
set_option maxRecDepth 100000 in
theorem digit_at (n : Nat) (h : n < 10) (w : World) : Calls Tryd.prog 48 #[.int .i64 (n : Int)] w fun e w' => e = .returned (sv (Lib.decDigits n)) ∧ Below w.heap.size w w' := by
  have hcv : (convert 26 9 (.slice (some ⟨w.heap.size, 0, none⟩) 1 1)).run Tryd.prog (w.alloc (.cells #[.int .u8 (48 + (n : Int))] 5)) = .ok (sv (Lib.decDigits n)) (w.alloc (.cells #[.int .u8 (48 + (n : Int))] 5)) := by
    rw [Lib.decDigits_one h]
    exact run_convert_bytes_back _ _ _ 5 _ 1 [UInt8.ofNat (48 + n)] Tryd.underlying26 Tryd.underlying5 Tryd.underlying9 (fun j hj => by
      have : j = 0 := by simpa using hj
      subst this
      simp [go_sem]
      omega)
  go_enter Tryd.func48, Tryd.ntmps48
  go_wp2
  go_ret
  exact ⟨rfl, (Below.refl _ _).alloc (Nat.le_refl _) _⟩

theorem vname_bs (l : List UInt8) : (⟨#[63]⟩ : ByteArray) ++ bs l = bs (63 :: l) := by
  unfold bs
  apply ByteArray.ext
  simp

set_option maxHeartbeats 4000000 in
set_option maxRecDepth 100000 in
theorem v_at (n : Nat) (h : n < 10) (w : World) : Calls Tryd.prog 24 #[.int .i64 (n : Int)] w fun e w' => e = .returned (.agg #[sv (vname n), .slice none 0 0]) ∧ Below w.heap.size w w' := by
  have hl : (bs (Lib.decDigits n)).size ≤ 100 := by rw [bs_size, Lib.decDigits_one h]; simp
  go_enter Tryd.func24, Tryd.ntmps24
  go_wp2_with fail
  refine (digit_at n h _).mono ?_
  rintro e w1 ⟨rfl, hb1⟩
  have hB := (hb1.block w.heap.size (by simp)).trans (alloc1 w (.cells #[.string ⟨#[]⟩, .slice none 0 0] 30))
  have c0 : w1.cell? ⟨w.heap.size, 0, none⟩ = some (.string ⟨#[]⟩) := (Lib.cell_of_heap hB _).trans rfl
  have c1 : w1.cell? ⟨w.heap.size, 1, none⟩ = some (.slice none 0 0) := (Lib.cell_of_heap hB _).trans rfl
  have z0 : w1.frozen? ⟨w.heap.size, 0, none⟩ = false := Lib.frozen_of_heap hB 0
  have z1 : w1.frozen? ⟨w.heap.size, 1, none⟩ = false := Lib.frozen_of_heap hB 1
  have hn : (⟨#[63]⟩ : ByteArray) ++ bs (Lib.decDigits n) = bs (vname n) := vname_bs _
  have HB1 := Lib.hid hb1
  clear hB hb1
  go_wp2
  have hb0 : Below w.heap.size w w1 := ((Below.refl _ _).alloc (Nat.le_refl _) (.cells #[.string ⟨#[]⟩, .slice none 0 0] 30)).trans (HB1.out.mono (by simp))
  have hb2 : Below w.heap.size w ((w1.setCell ⟨w.heap.size, 0, none⟩ (.string (⟨#[63]⟩ ++ bs (Lib.decDigits n)))).setCell ⟨w.heap.size, 1, none⟩ (.slice none 0 0)) := ⟨hb0.os, hb0.tape, hb0.output, by simpa [sizeSet] using hb0.size, fun y hy => by
    rw [Below.heap_setCell _ _ _ _ (by dsimp only; omega), Below.heap_setCell _ _ _ _ (by dsimp only; omega)]
    exact hb0.block y hy⟩
  have HB2 := Lib.hid hb2
  clear hb2 hb0
  refine bodyPost_ret (v := .agg #[sv (vname n), .slice none 0 0]) (by simp [results, Tryd.results24, go_sem, c0, c1]) rfl ?_
  exact ⟨rfl, HB2.out⟩

def QA (t : Ty) : Prop := t = tVar 0 ∨ t = tVar 1 ∨ t = tInt
theorem QA_down : DownN QA := by
  refine ⟨⟨?_, ?_⟩, ?_⟩
  · rintro t (rfl | rfl | rfl)
    · exact .inr ⟨0, by omega, rfl⟩
    · exact .inr ⟨1, by omega, rfl⟩
    · exact .inl rfl
  · rintro t a (rfl | rfl | rfl) ha
    · simp [tVar, Ty.args] at ha
    · simp [tVar, Ty.args] at ha
    · simp [tInt, Ty.args] at ha
  · rintro t (rfl | rfl | rfl)
    · simp [tVar, Ty.name, vname]
    · simp [tVar, Ty.name, vname]
    · simp [tInt, Ty.name]

/-- The two equations in a block of their own. -/
theorem awake_solve (w : World) : Calls Tryd.prog 22 #[.slice (some ⟨w.heap.size, 0, none⟩) 2 2] (w.alloc (.cells #[sv (vname 0), .slice none 0 0, sv (vname 1), .slice none 0 0, sv (vname 1), .slice none 0 0, sv [105, 110, 116], .slice none 0 0] 47))
    (SolRes QA [(tVar 0, tVar 1), (tVar 1, tInt)] (w.alloc (.cells #[sv (vname 0), .slice none 0 0, sv (vname 1), .slice none 0 0, sv (vname 1), .slice none 0 0, sv [105, 110, 116], .slice none 0 0] 47))) := by
  have hB := alloc1 w (.cells #[sv (vname 0), .slice none 0 0, sv (vname 1), .slice none 0 0, sv (vname 1), .slice none 0 0, sv [105, 110, 116], .slice none 0 0] 47)
  have hsz : (w.alloc (.cells #[sv (vname 0), .slice none 0 0, sv (vname 1), .slice none 0 0, sv (vname 1), .slice none 0 0, sv [105, 110, 116], .slice none 0 0] 47)).heap.size = w.heap.size + 1 := by simp
  generalize w.alloc (.cells #[sv (vname 0), .slice none 0 0, sv (vname 1), .slice none 0 0, sv (vname 1), .slice none 0 0, sv [105, 110, 116], .slice none 0 0] 47) = w1 at *
  have hc : ∀ i, w1.cell? ⟨w.heap.size, i, none⟩ = _ := fun i => Lib.cell_of_heap hB i
  have leaf : ∀ (n : List UInt8), n.length ≤ 4000000 → TyIs w1 (fun y => y = w.heap.size) (.mk n []) (sv n) (.slice none 0 0) := fun n hn => (Tys.nil w1 _ none).close hn (Nat.zero_le _) ⟨Nat.le_refl _, Nat.zero_le _⟩
  have p0 : PtTy w1 (fun y => y = w.heap.size) ⟨w.heap.size, 0, none⟩ (tVar 0) := ⟨_, _, rfl, (hc 0).trans rfl, (hc 1).trans rfl, leaf _ (by simp [vname, Lib.decDigits_one])⟩
  have p2 : PtTy w1 (fun y => y = w.heap.size) ⟨w.heap.size, 2, none⟩ (tVar 1) := ⟨_, _, rfl, (hc 2).trans rfl, (hc 3).trans rfl, leaf _ (by simp [vname, Lib.decDigits_one])⟩
  have p4 : PtTy w1 (fun y => y = w.heap.size) ⟨w.heap.size, 4, none⟩ (tVar 1) := ⟨_, _, rfl, (hc 4).trans rfl, (hc 5).trans rfl, leaf _ (by simp [vname, Lib.decDigits_one])⟩
  have p6 : PtTy w1 (fun y => y = w.heap.size) ⟨w.heap.size, 6, none⟩ tInt := ⟨_, _, rfl, (hc 6).trans rfl, (hc 7).trans rfl, leaf _ (by decide)⟩
  refine solve_any w1.heap.size (fun y => y = w.heap.size) QA QA_down [⟨w.heap.size, 0, none⟩, ⟨w.heap.size, 2, none⟩, ⟨w.heap.size, 4, none⟩, ⟨w.heap.size, 6, none⟩] (by simp) [(tVar 0, tVar 1), (tVar 1, tInt)] _ 2 w1 ⟨fun b hb => by omega, fun b hb => ⟨_, _, hb ▸ hB⟩⟩ (Nat.le_refl _) ⟨?_, ?_⟩ ⟨?_⟩ (by simp)
  · intro p hp
    simp only [List.mem_cons, List.not_mem_nil, or_false] at hp
    rcases hp with rfl | rfl | rfl | rfl
    · exact ⟨_, p0, .inl rfl⟩
    · exact ⟨_, p2, .inr (.inl rfl)⟩
    · exact ⟨_, p4, .inr (.inl rfl)⟩
    · exact ⟨_, p6, .inr (.inr rfl)⟩
  · intro p hp ad n c i hcell hi
    exfalso
    simp only [List.mem_cons, List.not_mem_nil, or_false] at hp
    have hnil : ∀ j, w1.cell? ⟨w.heap.size, j, none⟩ = some (.slice none 0 0) → w1.cell? ⟨w.heap.size, j, none⟩ ≠ some (.slice (some ad) n c) := fun j h1 h2 => by
      rw [h1] at h2
      cases h2
    rcases hp with rfl | rfl | rfl | rfl
    · exact hnil 1 ((hc 1).trans rfl) hcell
    · exact hnil 3 ((hc 3).trans rfl) hcell
    · exact hnil 5 ((hc 5).trans rfl) hcell
    · exact hnil 7 ((hc 7).trans rfl) hcell
  · intro i x hx
    match i, hx with
    | 0, hx =>
      obtain rfl := Option.some.inj hx
      exact ⟨⟨w.heap.size, 0, none⟩, rfl, p0, p2, by simp [Addr.add], by simp [Addr.add]⟩
    | 1, hx =>
      obtain rfl := Option.some.inj hx
      exact ⟨⟨w.heap.size, 0, none⟩, rfl, p4, p6, by simp [Addr.add], by simp [Addr.add]⟩
    | k + 2, hx => simp at hx

def pText : List UInt8 := [97, 58, 58, 80, 60, 105, 110, 116, 44, 36, 84, 62]
def pTy : Ty := .mk [97, 58, 58, 80] [tInt, .mk [36, 84] []]
theorem parse_pText : parse pText = some pTy := by rfl
theorem prn_pTy : prn pTy = pText := by decide

set_option maxHeartbeats 4000000 in
set_option maxRecDepth 100000 in
theorem awake_any (w : World) : Calls Tryd.prog 9 #[] w fun e w' => e = .returned (.bool true) ∧ Below w.heap.size w w' := by
  go_enter Tryd.func9, Tryd.ntmps9
  go_wp2_with fail
  refine (v_at 0 (by omega) w).mono ?_
  rintro e w1 ⟨rfl, hb1⟩
  go_wp2_with fail
  refine (v_at 1 (by omega) w1).mono ?_
  rintro e w2 ⟨rfl, hb2⟩
  go_wp2_with fail
  refine (v_at 1 (by omega) w2).mono ?_
  rintro e w3 ⟨rfl, hb3⟩
  go_wp2_with fail
  have SOL := Lib.hid (awake_solve w3)
  refine SOL.out.mono ?_
  rintro e w4 ⟨rs, G, A, A', c, c', vs, rfl, hch, hT, hc1, hc2, hR, hb4, _, _⟩
  obtain ⟨hd, hs⟩ := awake_sol hch
  have hlen : solLen G = 2 := by
    have : (solL G).length = 2 := by rw [hs]; rfl
    simpa [solL] using this
  rw [hs] at hT
  obtain ⟨ad, u0, v0, rfl, hS0, e00, e01, ht0⟩ := hT.at_ (i := 0) (t := tInt) rfl
  obtain ⟨_, u1, v1, hh, hS1, e10, e11, ht1⟩ := hT.at_ (i := 1) (t := tVar 0) rfl
  obtain rfl := Option.some.inj hh
  obtain ⟨_, _, _, rfl, rfl, _, _, _, _, _⟩ := ht0.open_
  obtain ⟨_, _, _, rfl, rfl, _, _, _, _, _⟩ := ht1.open_
  have hn1 : (tVar 0).name = [63, 48] := by simp [tVar, Ty.name, vname, Lib.decDigits_one]
  rw [hn1] at e10
  rw [hlen, hd]
  have hbw : Below w.heap.size w w4 := ((hb1.trans (hb2.mono hb1.size)).trans (hb3.mono (Nat.le_trans hb1.size hb2.size))).trans ((((Below.refl w3.heap.size w3).alloc (Nat.le_refl _) _).trans (hb4.mono (by simp))).mono (Nat.le_trans (Nat.le_trans hb1.size hb2.size) hb3.size))
  have HBW := Lib.hid hbw
  have HS0 : Hid (ad.block < w4.heap.size) := Lib.hid hS0.2
  clear hbw hch hT hR hb4 ht0 ht1 hb1 hb2 hb3 e01 e11
  go_wp2_with fail
  refine (parse_any pText w4 (by decide)).mono ?_
  rw [parse_pText]
  rintro e w5 ⟨u, v, rfl, hTy, hb5⟩
  obtain ⟨TA, tc, tvs, rfl, rfl, _, _, _, _, hTT⟩ := hTy.open_
  have hpn : pTy.name = [97, 58, 58, 80] := rfl
  have hpl : pTy.args.length = 2 := rfl
  have hal : ad.block < w5.heap.size := Nat.lt_of_lt_of_le HS0.out hb5.size
  have had : ∀ X : Obj, ∀ i v, w4.cell? (ad.add i) = some v → (w5.alloc X).cell? (ad.add i) = some v := fun X i v h => (World.cell?_of_block (heap_alloc_old w5 _ (by rw [blkAdd]; exact hal))).trans (((kept_below hb5) _ (by rw [blkAdd]; exact HS0.out)).trans h)
  have d0 : (w5.alloc (.cells #[.string (bs [97, 58, 58, 80]), .slice TA 2 tc] 30)).cell? ad = some (sv [105, 110, 116]) := had _ 0 _ e00
  have d1 : (w5.alloc (.cells #[.string (bs [97, 58, 58, 80]), .slice TA 2 tc] 30)).cell? ⟨ad.block, ad.off + 2, none⟩ = some (sv [63, 48]) := had _ 2 _ e10
  rw [hpn, hpl] at hTy ⊢
  have hTy6 := (hTy.more fun y hy => (hy.2 : Lt w5.heap.size y)).now (Nat.le_refl _) ((Below.refl w5.heap.size w5).alloc (Nat.le_refl _) (.cells #[.string (bs [97, 58, 58, 80]), .slice TA 2 tc] 30))
  have HTY := Lib.hid hTy6
  clear hTT hTy hTy6 e00 e10 had hpn hpl
  have hb63 : ((bs [63, 48]).toList == [63, 48]) = true := by rw [Lib.toList_data, bs_data]; rfl
  have hbint : ((bs [105, 110, 116]).toList == [105, 110, 116]) = true := by rw [Lib.toList_data, bs_data]; rfl
  have hbpt : ((bs pText).toList == [97, 58, 58, 80, 60, 105, 110, 116, 44, 36, 84, 62]) = true := by rw [Lib.toList_data, bs_data]; rfl
  have PR := print_any pTy _ _ _ HTY.out (by rw [prn_pTy]; decide)
  rw [prn_pTy] at PR
  have HPR := Lib.hid PR
  have HB5 := Lib.hid (HBW.out.trans ((hb5.trans (((Below.refl w5.heap.size w5).alloc (Nat.le_refl _) (.cells #[.string (bs [97, 58, 58, 80]), .slice TA 2 tc] 30)).mono hb5.size)).mono HBW.out.size))
  clear PR hb5
  go_wp2_with fail
  refine HPR.out.mono ?_
  rintro e w6 ⟨rfl, hb6⟩
  have HB6 := Lib.hid (HB5.out.trans (hb6.mono HB5.out.size))
  clear hb6
  go_wp2
  go_ret
  exact ⟨rfl, HB6.out⟩
end Go.Proofs.YtndhglcdkegigaaDoor
