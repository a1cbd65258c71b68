/-
  The walk of recompileref12.Check: its first loop.
  Conditions: the arguments read as a tree, a type and known signatures.
-/
import Derived.Test.YtiijlecidepneaaCkE
import Derived.Test.YtiijlecidepneaaBms
import Derived.Test.YtiijlecidepneaaRefPut
import Derived.Test.YtiijlecidepneaaBrow
namespace Go.Proofs.Ytiijlecidepneaa
open Go.RowKit Go.MapKept

/-- The state of Check: the boxes of the tree and of the type, the diagnostics so far. -/
structure RkSt (w w2 : World) (tree typ : Obj) (D : List Dg) (ov : Value) (wr : World) : Prop where
  bx : wr.heap[w.heap.size]? = some tree
  by_ : wr.heap[w.heap.size + 1]? = some typ
  own : wr.ownsRow w2.heap.size 61 3 ov D.length (flt dgC D)
  below : Below w.heap.size w wr
theorem RkSt.up {w w2 : World} {tree typ : Obj} {D : List Dg} {ov : Value} {wr w' : World} (h : RkSt w w2 tree typ D ov wr) (hb : Below wr.heap.size wr w') : RkSt w w2 tree typ D ov w' :=
  ⟨(hb.block _ (lt_of_heap h.bx)).trans h.bx, (hb.block _ (lt_of_heap h.by_)).trans h.by_, (Kp.ofBelow (M := fun _ => False) hb).own h.own fun _ _ e => e, h.below.trans (hb.mono h.below.size)⟩
/-- After an append. -/
theorem RkSt.app {w w2 : World} {tree typ : Obj} {D D' : List Dg} {ov ov' : Value} {wr w' : World} (h : RkSt w w2 tree typ D ov wr) (h2 : w2.heap.size = w.heap.size + 1 + 1) (hg : wr.grownBy w' ov.ownBlock) (hown : w'.ownsRow w2.heap.size 61 3 ov' D'.length (flt dgC D')) : RkSt w w2 tree typ D' ov' w' := by
  have hk : Kp (fun y => ov.ownBlock = some y) wr w' := (Kp.refl _ _).grown hg fun r hr _ => hr
  have hlt := h.own.lt
  exact ⟨(hk.block _ (lt_of_heap h.bx) fun e => by have := (hlt _ e).1; omega).trans h.bx, (hk.block _ (lt_of_heap h.by_) fun e => by have := (hlt _ e).1; omega).trans h.by_, hown, kp_below h.below hk fun y e => by have := (hlt _ e).1; omega⟩

/-- A row of types of its own, while it is gathered; what the types reach lies elsewhere. -/
structure ArR (B : Nat) (ts : List Ty) (av : Value) (vs : List (Value × Value)) (w : World) : Prop where
  own : w.ownsRow B 35 2 av ts.length (flat2 vs)
  len : vs.length = ts.length
  each : ∀ (i : Nat) (t : Ty) (p : Value × Value), ts[i]? = some t → vs[i]? = some p → TyIs w (fun x => x < w.heap.size ∧ some x ≠ av.ownBlock) t p.1 p.2
theorem ArR.none (B : Nat) (w : World) : ArR B [] (.slice none 0 0) [] w := ⟨World.ownsRow_nil _ _ _ _, rfl, fun i t p h => by simp at h⟩
theorem ArR.below {B : Nat} {ts : List Ty} {av : Value} {vs : List (Value × Value)} {w w' : World} (h : ArR B ts av vs w) (hb : Below w.heap.size w w') : ArR B ts av vs w' := by
  have hk := Kp.ofBelow (M := fun _ => False) hb
  exact ⟨hk.own h.own fun _ _ e => e, h.len, fun i t p ht hp => ((h.each i t p ht hp).keep (hk.kept fun x hx => ⟨hx.1, fun e => e⟩)).more fun x hx => ⟨Nat.lt_of_lt_of_le hx.1 hb.size, hx.2⟩⟩
theorem ArR.push {B : Nat} {ts : List Ty} {av av' : Value} {vs : List (Value × Value)} {w w' : World} {t : Ty} {u v : Value} (h : ArR B ts av vs w) (ht : TyIs w (fun x => x < w.heap.size ∧ some x ≠ av.ownBlock) t u v)
    (hown : w'.ownsRow B 35 2 av' (ts.length + 1) (flat2 vs ++ [u, v])) (hg : w.grownBy w' av.ownBlock) (hat : av'.ownBlock = av.ownBlock ∨ av'.ownBlock = some w.heap.size) : ArR B (ts ++ [t]) av' (vs ++ [(u, v)]) w' := by
  have hk : Kp (fun y => av.ownBlock = some y) w w' := (Kp.refl _ _).grown hg fun r hr _ => hr
  have hne : ∀ y, some y ≠ av.ownBlock → y < w.heap.size → some y ≠ av'.ownBlock := fun y h1 h2 e => by
    rcases hat with h3 | h3
    · exact h1 (e.trans h3)
    · rw [h3] at e
      injection e
      omega
  have hgo : ∀ {t : Ty} {u v : Value}, TyIs w (fun x => x < w.heap.size ∧ some x ≠ av.ownBlock) t u v → TyIs w' (fun x => x < w'.heap.size ∧ some x ≠ av'.ownBlock) t u v := fun h =>
    (h.keep (hk.kept fun y hy => ⟨hy.1, fun e => hy.2 e.symm⟩)).more fun y hy => ⟨Nat.lt_of_lt_of_le hy.1 hk.size, hne y hy.2 hy.1⟩
  refine ⟨by rw [flat2_append, List.length_append]; exact hown, by simp [h.len], fun i t' p ht' hp => ?_⟩
  rcases Nat.lt_trichotomy i ts.length with hi | hi | hi
  · rw [List.getElem?_append_left hi] at ht'
    rw [List.getElem?_append_left (by rw [h.len]; exact hi)] at hp
    exact hgo (h.each i t' p ht' hp)
  · subst hi
    rw [List.getElem?_append_right (Nat.le_refl _)] at ht'
    rw [List.getElem?_append_right (by rw [h.len]; exact Nat.le_refl _)] at hp
    simp [h.len] at ht' hp
    subst ht' hp
    exact hgo ht
  · have := (List.getElem?_eq_some_iff.1 ht').1
    simp at this
    omega
/-- Blocks below lo, and those from hi on that are there. -/
def Zs (lo hi : Nat) (z : World) (y : Nat) : Prop := y < lo ∨ (hi ≤ y ∧ y < z.heap.size)
theorem zs_go {lo hi : Nat} {z z' : World} {t : Ty} {u v : Value} (h : TyIs z (Zs lo hi z) t u v) (hlo : lo ≤ z.heap.size) (hb : Below z.heap.size z z') : TyIs z' (Zs lo hi z') t u v :=
  (h.keep (S := Zs lo hi z) ((kept_below hb).sub fun y hy => by unfold Lt; rcases hy with hy | hy <;> omega)).more fun y hy => by
    have := hb.size
    unfold Zs at hy ⊢
    omega
/-- What the operations yield that put a type in the place of Self. -/
def putPhi (lo hi : Nat) (su : List UInt8) (ss : Option Addr × Nat × Nat) (t : Ty) (k6 k8 k9 k10 : Nat) (i : Nat) (v : Value) (z : World) : Prop :=
  if i = k6 then ∃ b, v = .slice (some ⟨b, 0, none⟩) 1 1 ∧ z.heap[b]? = some (.cells #[.string ⟨#[83, 101, 108, 102]⟩] 9 (0, 0)) ∧ hi ≤ b ∧ lo ≤ b
  else if i = k8 then ∃ b, v = .slice (some ⟨b, 0, none⟩) 1 1 ∧ z.heap[b]? = some (.cells #[sv su, .slice ss.1 ss.2.1 ss.2.2] 35 (0, 0)) ∧ hi ≤ b ∧ lo ≤ b
  else if i = k9 then ∃ (u : List UInt8) (v' : Option Addr × Nat × Nat), v = .agg #[sv u, .slice v'.1 v'.2.1 v'.2.2] ∧ TyIs z (Zs lo hi z) t (sv u) (.slice v'.1 v'.2.1 v'.2.2) ∧ lo ≤ z.heap.size
  else if i = k10 then ∃ (b : Nat) (u : List UInt8) (v' : Option Addr × Nat × Nat), v = .slice (some ⟨b, 0, none⟩) 1 1 ∧ z.heap[b]? = some (.cells #[sv u, .slice v'.1 v'.2.1 v'.2.2] 35 (0, 0)) ∧ hi ≤ b ∧ TyIs z (Zs lo hi z) t (sv u) (.slice v'.1 v'.2.1 v'.2.2) ∧ lo ≤ z.heap.size
  else True
theorem putPhi_go {lo hi : Nat} {su : List UInt8} {ss : Option Addr × Nat × Nat} {t : Ty} {k6 k8 k9 k10 : Nat} (i : Nat) (v : Value) (z z' : World) (h : putPhi lo hi su ss t k6 k8 k9 k10 i v z) (hb : Below z.heap.size z z') : putPhi lo hi su ss t k6 k8 k9 k10 i v z' := by
  unfold putPhi at h ⊢
  by_cases e6 : i = k6
  · rw [if_pos e6] at h ⊢
    obtain ⟨b, h1, h2, h3⟩ := h
    exact ⟨b, h1, (hb.block _ (lt_of_heap h2)).trans h2, h3⟩
  · rw [if_neg e6] at h ⊢
    by_cases e8 : i = k8
    · rw [if_pos e8] at h ⊢
      obtain ⟨b, h1, h2, h3⟩ := h
      exact ⟨b, h1, (hb.block _ (lt_of_heap h2)).trans h2, h3⟩
    · rw [if_neg e8] at h ⊢
      by_cases e9 : i = k9
      · rw [if_pos e9] at h ⊢
        obtain ⟨u, v', h1, h2, h3⟩ := h
        exact ⟨u, v', h1, zs_go h2 h3 hb, Nat.le_trans h3 hb.size⟩
      · rw [if_neg e9] at h ⊢
        by_cases e10 : i = k10
        · rw [if_pos e10] at h ⊢
          obtain ⟨b, u, v', h1, h2, h3, h4, h5⟩ := h
          exact ⟨b, u, v', h1, (hb.block _ (lt_of_heap h2)).trans h2, h3, zs_go h4 h5 hb, Nat.le_trans h5 hb.size⟩
        · rw [if_neg e10]
          trivial

def samPhi (lo hi : Nat) (su : List UInt8) (ss : Option Addr × Nat × Nat) (t : Ty) (P : Prop) (i : Nat) (v : Value) (z : World) : Prop :=
  if i = 13 then ∃ r : Bool, v = .bool r ∧ (r = true ↔ P) else putPhi lo hi su ss t 7 9 10 99 i v z
theorem samPhi_go {lo hi : Nat} {su : List UInt8} {ss : Option Addr × Nat × Nat} {t : Ty} {P : Prop} (i : Nat) (v : Value) (z z' : World) (h : samPhi lo hi su ss t P i v z) (hb : Below z.heap.size z z') : samPhi lo hi su ss t P i v z' := by
  unfold samPhi at h ⊢
  by_cases e : i = 13
  · rw [if_pos e] at h ⊢
    exact h
  · rw [if_neg e] at h ⊢
    exact putPhi_go i v z z' h hb
/-- One more kid. -/
theorem hasFn_snoc {ps : List (Tr × Value)} {j : Nat} {f : Tr × Value} (h : ps.take (j + 1) = ps.take j ++ [f]) (d : List UInt8) : HasFn ((ps.take (j + 1)).map (·.1)) d ↔ HasFn ((ps.take j).map (·.1)) d ∨ (f.1.kind = 4 ∧ f.1.text = d) := by
  unfold HasFn
  rw [h]
  constructor
  · rintro ⟨t, ht, e⟩
    rw [List.map_append, List.mem_append] at ht
    rcases ht with ht | ht
    · exact .inl ⟨t, ht, e⟩
    · simp at ht
      subst ht
      exact .inr e
  · rintro (⟨t, ht, e⟩ | e)
    · exact ⟨t, by rw [List.map_append, List.mem_append]; exact .inl ht, e⟩
    · exact ⟨f.1, by simp, e⟩
set_option maxHeartbeats 4000000 in
set_option maxRecDepth 100000 in
theorem rcheck_any (tk ta : Int) (tx : List UInt8) (ps : List (Tr × Value)) (A L : Option Addr) (c lc : Nat) (l : List Kn) (qs : List KnV) (s : Ty) (su : List UInt8) (ss : Option Addr × Nat × Nat) (w : World) (hz : ps.length ≤ 4000000) (hl : l.length ≤ 4000000)
    (hT : Trs w (Lt w.heap.size) A ps) (hK : Kns w (Lt w.heap.size) L l qs) (hs : TyIs w (Lt w.heap.size) s (sv su) (.slice ss.1 ss.2.1 ss.2.2)) :
    Calls Try.prog 11 #[.agg #[.int .i64 tk, sv tx, .int .i64 ta, .slice A ps.length c], .agg #[sv su, .slice ss.1 ss.2.1 ss.2.2], .slice L l.length lc] w (DgRes (chk tk ta ps l s) w) := by
  obtain ⟨m, hm⟩ : ∃ m, m = ps.length := ⟨_, rfl⟩
  obtain ⟨n, hn⟩ : ∃ n, n = l.length := ⟨_, rfl⟩
  rw [← hm, ← hn]
  have hmz : m ≤ 4000000 := by omega
  have hnz : n ≤ 4000000 := by omega
  have HM := Lib.hid hm
  have HN := Lib.hid hn
  have HQL := Lib.hid hK.len
  clear hm hn hl
  by_cases hk7 : tk = 7
  · subst hk7
    have hchk : chk 7 ta ps l s = lacks (ps.map (·.1)) ta l ++ wrong l s ps := by unfold chk; rw [if_pos rfl]
    have HCHK := Lib.hid hchk
    clear hchk
    obtain ⟨w2, hw2⟩ : ∃ w2, w2 = (w.alloc (.cells #[.int .i64 7, sv tx, .int .i64 ta, .slice A m c] 25)).alloc (.cells #[sv su, .slice ss.1 ss.2.1 ss.2.2] 35) := ⟨_, rfl⟩
    obtain ⟨hx2, hy2⟩ := alloc2 w (.cells #[.int .i64 7, sv tx, .int .i64 ta, .slice A m c] 25) (.cells #[sv su, .slice ss.1 ss.2.1 ss.2.2] 35)
    have hb2 : Below w.heap.size w w2 := by rw [hw2]; exact ((Below.refl _ _).alloc (Nat.le_refl _) _).alloc (by simp) _
    rw [← hw2] at hx2 hy2
    have hs2 : w2.heap.size = w.heap.size + 1 + 1 := by rw [hw2]; simp
    have HW2 := Lib.hid hw2
    have HS2 := Lib.hid hs2
    have HST2 : Hid (RkSt w w2 (.cells #[.int .i64 7, sv tx, .int .i64 ta, .slice A m c] 25 (0, 0)) (.cells #[sv su, .slice ss.1 ss.2.1 ss.2.2] 35 (0, 0)) [] (.slice none 0 0) w2) := Lib.hid ⟨hx2, hy2, World.ownsRow_nil _ _ _ _, hb2⟩
    obtain ⟨i0, hi, hz0, hz1, hz2⟩ := info_parts infoDg
    obtain ⟨iT, hiT, hT0, hT1, hT2⟩ := info_parts infoT
    clear hw2 hx2 hy2 hb2 hs2
    go_enter Try.func11, Try.ntmps11
    go_wp2_with fail
    rw [← HW2.out]
    clear HW2
    go_loopw [8, 7] (fun i ov wr => ∃ k : Nat, k ≤ n ∧ i = .int .i64 k ∧ RkSt w w2 (.cells #[.int .i64 7, sv tx, .int .i64 ta, .slice A m c] 25 (0, 0)) (.cells #[sv su, .slice ss.1 ss.2.1 ss.2.2] 35 (0, 0)) (lacks (ps.map (·.1)) ta (l.take k)) ov wr) (fun i _ _ => n - (intOf i).toNat)
    case atStart => exact ⟨0, Nat.zero_le _, rfl, HST2.out⟩
    case round =>
      obtain ⟨k, hk, rfl, hS⟩ := hrel
      obtain ⟨NA, nc, rfl, _⟩ := own_slice hS.own
      have hnk := lacks_len (ps.map (·.1)) ta l k
      obtain ⟨n1, hn1⟩ : ∃ n, n = (lacks (ps.map (·.1)) ta (l.take k)).length := ⟨_, rfl⟩
      rw [← hn1] at hS hnk ⊢
      have HS := Lib.hid hS
      have HN1 := Lib.hid hn1
      clear hS hn1
      by_cases hlt : k < n
      ·
        obtain ⟨p, hp⟩ : ∃ p, l[k]? = some p := ⟨_, List.getElem?_eq_getElem (by rw [← HN.out]; exact hlt)⟩
        obtain ⟨q, hq⟩ : ∃ q, qs[k]? = some q := ⟨_, List.getElem?_eq_getElem (by rw [HQL.out, ← HN.out]; exact hlt)⟩
        have hKr := hK.now HS.out.below
        obtain ⟨kad, hA, hadl, a0, _⟩ := kn_at hKr.row hq
        obtain ⟨pd, pg⟩ := p
        obtain ⟨kx, qv⟩ := q
        have hpq := (hKr.each k _ _ hp hq).1
        simp only at hpq a0
        subst hpq
        have HLQ := Lib.hid hp
        have hikn : (0 : Int) ≤ (k : Int) ∧ (k : Int) < (n : Int) := ⟨by omega, by omega⟩
        rw [hA]
        have HAD := Lib.hid hA
        have HA0 := Lib.hid (And.intro hadl a0)
        clear hA hKr hp hq hadl a0
        obtain ⟨w5, hw5⟩ : ∃ w5, w5 = wr := ⟨_, rfl⟩
        rw [← hw5] at HS HA0 ⊢
        clear hw5
        go_wp2_with fail
        go_loopw [10, 9] (fun i bv wr => ∃ (j : Nat) (b : Bool), j ≤ m ∧ i = .int .i64 j ∧ bv = .bool b ∧ (b = true ↔ HasFn ((ps.take j).map (·.1)) pd) ∧ Below w5.heap.size w5 wr) (fun i _ _ => m - (intOf i).toNat)
        case atStart => exact ⟨0, false, Nat.zero_le _, rfl, rfl, ⟨(fun e => by cases e), fun ⟨t, ht, _⟩ => by simp at ht⟩, Below.refl _ _⟩
        case round =>
          obtain ⟨j, b, hj, rfl, rfl, hbj, hbr⟩ := hrel
          have HBJ := Lib.hid hbj
          have HBR := Lib.hid hbr
          have b3 : wr.cell? ⟨w.heap.size, 3, none⟩ = some (.slice A m c) := (Lib.cell_of_heap (HS.out.up hbr).bx 3).trans rfl
          clear hbj
          by_cases hjm : j < m
          · obtain ⟨f, hf⟩ : ∃ f, ps[j]? = some f := ⟨_, List.getElem?_eq_getElem (by rw [← HM.out]; exact hjm)⟩
            have hTr := hT.below (HS.out.up hbr).below
            obtain ⟨ad, hA, hadl, t0, t1, _, _⟩ := tr_at hTr.row hf
            have HF := Lib.hid (take_snoc hf)
            obtain ⟨⟨fk, fx, fa, fks⟩, fv⟩ := f
            simp only [Tr.kind, Tr.text, Tr.at_] at t0 t1
            have hij : (0 : Int) ≤ (j : Int) ∧ (j : Int) < (m : Int) := ⟨by omega, by omega⟩
            have k0 : wr.cell? (kad.add (k * 8)) = some (sv pd) := (hbr.cell (p := kad.add (k * 8)) (by rw [blkAdd]; exact HA0.out.1)).trans HA0.out.2
            have HAT := Lib.hid hA
            rw [hA] at b3 ⊢
            have HCL : Hid (AtCells [(⟨w.heap.size, 3, none⟩, .slice (some ad) m c), (ad.add (j * 4), .int .i64 fk), (⟨(ad.add (j * 4)).block, (ad.add (j * 4)).off + 1, none⟩, sv fx), (kad.add (k * 8), sv pd)] wr) := Lib.hid ⟨b3, t0, t1, k0, trivial⟩
            clear hTr hA hadl hf hbr t0 t1 k0
            go_wp2_with fail
            clear b3
            cases b with
            | true =>
              refine wp_region_held' (AtCells [(⟨w.heap.size, 3, none⟩, .slice (some ad) m c), (ad.add (j * 4), .int .i64 fk), (⟨(ad.add (j * 4)).block, (ad.add (j * 4)).off + 1, none⟩, sv fx), (kad.add (k * 8), sv pd)]) [] [0, 1, 2, 3, 4, 5, 6, 7, 8, 9, 10, 11, 12, 13, 14, 15, 16, 17, 18, 19, 20, 21, 22, 23] [] [24] (by kernel_rfl) (by kernel_rfl) ?sa ?ha
              case sa => exact HCL.out.below (Below.refl _ wr).drew
              case ha =>
              simp only [opsAt, List.filterMap_cons, List.filterMap_nil, List.getElem?_toArray, List.getElem?_cons_succ, List.getElem?_cons_zero]
              refine wpFloat_nil ?_
              refine wpLoad_step ?va0 rfl (fun w' hS => ?ya0) ?ka0
              case ya0 =>
                obtain ⟨g0, g1, g2, g3, _⟩ := hS
                go_simp
                try rfl
              case ka0 =>
              go_simp
              refine wpLoad_step ?va1 rfl (fun w' hS => ?ya1) ?ka1
              case ya1 =>
                obtain ⟨g0, g1, g2, g3, _⟩ := hS
                go_simp
                try rfl
              case ka1 =>
              go_simp
              refine wpLoad_skip rfl ?_
              go_simp
              refine wpLoad_skip rfl ?_
              go_simp
              refine wpLoad_skip rfl ?_
              go_simp
              refine wpLoad_skip rfl ?_
              go_simp
              refine wpLoad_skip rfl ?_
              go_simp
              refine wpLoad_skip rfl ?_
              go_simp
              refine wpLoad_skip rfl ?_
              go_simp
              refine wpLoad_skip rfl ?_
              go_simp
              refine wpLoad_skip rfl ?_
              go_simp
              refine wpLoad_skip rfl ?_
              go_simp
              refine wpLoad_skip rfl ?_
              go_simp
              refine wpLoad_skip rfl ?_
              go_simp
              refine wpLoad_skip rfl ?_
              go_simp
              refine wpLoad_skip rfl ?_
              go_simp
              refine wpLoad_skip rfl ?_
              go_simp
              refine wpLoad_skip rfl ?_
              go_simp
              refine wpLoad_skip rfl ?_
              go_simp
              refine wpLoad_skip rfl ?_
              go_simp
              refine wpLoad_skip rfl ?_
              go_simp
              refine wpLoad_skip rfl ?_
              go_simp
              refine wpLoad_skip rfl ?_
              go_simp
              refine wpLoad_step ?vaz23 rfl (fun w' hS => ?yaz23) ?kaz23
              case yaz23 =>
                obtain ⟨g0, g1, g2, g3, _⟩ := hS
                go_simp
                try rfl
              case kaz23 =>
              go_simp
              refine wpLoad_nil ?_
              refine wpKeep_nil ?_
              go_wp2
              refine NoPanic.normal ?_
              go_wp2
              try rw [← HAT.out]
              first | go_roundw | refine ⟨?rel, ?measure⟩
              case measure => simp [intOf]; omega
              case rel => exact ⟨j + 1, true, by omega, by go_num, rfl, ⟨fun _ => (hasFn_snoc HF.out pd).2 (.inl (HBJ.out.1 (by trivial))), fun _ => rfl⟩, HBR.out.drew⟩
            | false =>
              by_cases hkd : fk = 4
              · subst hkd
                by_cases hx : fx = pd
                · have hq1 := bytesEq hx
                  have HX := Lib.hid hx
                  clear hx
                  refine wp_region_held' (AtCells [(⟨w.heap.size, 3, none⟩, .slice (some ad) m c), (ad.add (j * 4), .int .i64 4), (⟨(ad.add (j * 4)).block, (ad.add (j * 4)).off + 1, none⟩, sv fx), (kad.add (k * 8), sv pd)]) [] [0, 1, 2, 3, 4, 5, 6, 7, 8, 9, 10, 11, 12, 13, 14, 15, 16, 17, 18, 19, 20, 21, 22, 23] [] [24] (by kernel_rfl) (by kernel_rfl) ?sb ?hb
                  case sb => exact HCL.out.below (Below.refl _ wr).drew
                  case hb =>
                  simp only [opsAt, List.filterMap_cons, List.filterMap_nil, List.getElem?_toArray, List.getElem?_cons_succ, List.getElem?_cons_zero]
                  refine wpFloat_nil ?_
                  refine wpLoad_step ?vb0 rfl (fun w' hS => ?yb0) ?kb0
                  case yb0 =>
                    obtain ⟨g0, g1, g2, g3, _⟩ := hS
                    go_simp
                    try rfl
                  case kb0 =>
                  go_simp
                  refine wpLoad_step ?vb1 rfl (fun w' hS => ?yb1) ?kb1
                  case yb1 =>
                    obtain ⟨g0, g1, g2, g3, _⟩ := hS
                    go_simp
                    try rfl
                  case kb1 =>
                  go_simp
                  refine wpLoad_step ?vb2 rfl (fun w' hS => ?yb2) ?kb2
                  case yb2 =>
                    obtain ⟨g0, g1, g2, g3, _⟩ := hS
                    go_simp
                    try rfl
                  case kb2 =>
                  go_simp
                  refine wpLoad_step ?vb3 rfl (fun w' hS => ?yb3) ?kb3
                  case yb3 =>
                    obtain ⟨g0, g1, g2, g3, _⟩ := hS
                    go_simp
                    try rfl
                  case kb3 =>
                  go_simp
                  refine wpLoad_step ?vb4 rfl (fun w' hS => ?yb4) ?kb4
                  case yb4 =>
                    obtain ⟨g0, g1, g2, g3, _⟩ := hS
                    go_simp
                    try rfl
                  case kb4 =>
                  go_simp
                  refine wpLoad_step ?vb5 rfl (fun w' hS => ?yb5) ?kb5
                  case yb5 =>
                    obtain ⟨g0, g1, g2, g3, _⟩ := hS
                    go_simp
                    try rfl
                  case kb5 =>
                  go_simp
                  refine wpLoad_step ?vb6 rfl (fun w' hS => ?yb6) ?kb6
                  case yb6 =>
                    obtain ⟨g0, g1, g2, g3, _⟩ := hS
                    go_simp
                    try rfl
                  case kb6 =>
                  go_simp
                  refine wpLoad_step ?vb7 rfl (fun w' hS => ?yb7) ?kb7
                  case yb7 =>
                    obtain ⟨g0, g1, g2, g3, _⟩ := hS
                    go_simp
                    try rfl
                  case kb7 =>
                  go_simp
                  refine wpLoad_step ?vb8 rfl (fun w' hS => ?yb8) ?kb8
                  case yb8 =>
                    obtain ⟨g0, g1, g2, g3, _⟩ := hS
                    go_simp
                    try rfl
                  case kb8 =>
                  go_simp
                  refine wpLoad_step ?vb9 rfl (fun w' hS => ?yb9) ?kb9
                  case yb9 =>
                    obtain ⟨g0, g1, g2, g3, _⟩ := hS
                    go_simp
                    try rfl
                  case kb9 =>
                  go_simp
                  refine wpLoad_step ?vb10 rfl (fun w' hS => ?yb10) ?kb10
                  case yb10 =>
                    obtain ⟨g0, g1, g2, g3, _⟩ := hS
                    go_simp
                    try rfl
                  case kb10 =>
                  go_simp
                  refine wpLoad_step ?vb11 rfl (fun w' hS => ?yb11) ?kb11
                  case yb11 =>
                    obtain ⟨g0, g1, g2, g3, _⟩ := hS
                    go_simp
                    try rfl
                  case kb11 =>
                  go_simp
                  refine wpLoad_step ?vb12 rfl (fun w' hS => ?yb12) ?kb12
                  case yb12 =>
                    obtain ⟨g0, g1, g2, g3, _⟩ := hS
                    go_simp
                    try rfl
                  case kb12 =>
                  go_simp
                  refine wpLoad_step ?vb13 rfl (fun w' hS => ?yb13) ?kb13
                  case yb13 =>
                    obtain ⟨g0, g1, g2, g3, _⟩ := hS
                    go_simp
                    try rfl
                  case kb13 =>
                  go_simp
                  refine wpLoad_step ?vb14 rfl (fun w' hS => ?yb14) ?kb14
                  case yb14 =>
                    obtain ⟨g0, g1, g2, g3, _⟩ := hS
                    go_simp
                    try rfl
                  case kb14 =>
                  go_simp
                  refine wpLoad_step ?vb15 rfl (fun w' hS => ?yb15) ?kb15
                  case yb15 =>
                    obtain ⟨g0, g1, g2, g3, _⟩ := hS
                    go_simp
                    try rfl
                  case kb15 =>
                  go_simp
                  refine wpLoad_step ?vb16 rfl (fun w' hS => ?yb16) ?kb16
                  case yb16 =>
                    obtain ⟨g0, g1, g2, g3, _⟩ := hS
                    go_simp
                    try rfl
                  case kb16 =>
                  go_simp
                  refine wpLoad_step ?vb17 rfl (fun w' hS => ?yb17) ?kb17
                  case yb17 =>
                    obtain ⟨g0, g1, g2, g3, _⟩ := hS
                    go_simp
                    try rfl
                  case kb17 =>
                  go_simp
                  refine wpLoad_step ?vb18 rfl (fun w' hS => ?yb18) ?kb18
                  case yb18 =>
                    obtain ⟨g0, g1, g2, g3, _⟩ := hS
                    go_simp
                    try rfl
                  case kb18 =>
                  go_simp
                  refine wpLoad_step ?vb19 rfl (fun w' hS => ?yb19) ?kb19
                  case yb19 =>
                    obtain ⟨g0, g1, g2, g3, _⟩ := hS
                    go_simp
                    try rfl
                  case kb19 =>
                  go_simp
                  refine wpLoad_step ?vb20 rfl (fun w' hS => ?yb20) ?kb20
                  case yb20 =>
                    obtain ⟨g0, g1, g2, g3, _⟩ := hS
                    go_simp
                    try rfl
                  case kb20 =>
                  go_simp
                  refine wpLoad_step ?vb21 rfl (fun w' hS => ?yb21) ?kb21
                  case yb21 =>
                    obtain ⟨g0, g1, g2, g3, _⟩ := hS
                    go_simp
                    try rfl
                  case kb21 =>
                  go_simp
                  refine wpLoad_step ?vb22 rfl (fun w' hS => ?yb22) ?kb22
                  case yb22 =>
                    obtain ⟨g0, g1, g2, g3, _⟩ := hS
                    go_simp
                    try rfl
                  case kb22 =>
                  go_simp
                  refine wpLoad_step ?vb23 rfl (fun w' hS => ?yb23) ?kb23
                  case yb23 =>
                    obtain ⟨g0, g1, g2, g3, _⟩ := hS
                    go_simp
                    try rfl
                  case kb23 =>
                  go_simp
                  refine wpLoad_nil ?_
                  refine wpKeep_nil ?_
                  go_wp2
                  refine NoPanic.normal ?_
                  go_wp2
                  try rw [← HAT.out]
                  first | go_roundw | refine ⟨?rel, ?measure⟩
                  case measure => simp [intOf]; omega
                  case rel => exact ⟨j + 1, true, by omega, by go_num, rfl, ⟨fun _ => (hasFn_snoc HF.out pd).2 (.inr ⟨rfl, HX.out⟩), fun _ => rfl⟩, HBR.out.drew⟩
                · have hq1 := bytesNe hx
                  have HX := Lib.hid hx
                  clear hx
                  refine wp_region_held' (AtCells [(⟨w.heap.size, 3, none⟩, .slice (some ad) m c), (ad.add (j * 4), .int .i64 4), (⟨(ad.add (j * 4)).block, (ad.add (j * 4)).off + 1, none⟩, sv fx), (kad.add (k * 8), sv pd)]) [] [0, 1, 2, 3, 4, 5, 6, 7, 8, 9, 10, 11, 12, 13, 14, 15, 16, 17, 18, 19, 20, 21, 22, 23] [] [24] (by kernel_rfl) (by kernel_rfl) ?sc ?hc
                  case sc => exact HCL.out.below (Below.refl _ wr).drew
                  case hc =>
                  simp only [opsAt, List.filterMap_cons, List.filterMap_nil, List.getElem?_toArray, List.getElem?_cons_succ, List.getElem?_cons_zero]
                  refine wpFloat_nil ?_
                  refine wpLoad_step ?vc0 rfl (fun w' hS => ?yc0) ?kc0
                  case yc0 =>
                    obtain ⟨g0, g1, g2, g3, _⟩ := hS
                    go_simp
                    try rfl
                  case kc0 =>
                  go_simp
                  refine wpLoad_step ?vc1 rfl (fun w' hS => ?yc1) ?kc1
                  case yc1 =>
                    obtain ⟨g0, g1, g2, g3, _⟩ := hS
                    go_simp
                    try rfl
                  case kc1 =>
                  go_simp
                  refine wpLoad_step ?vc2 rfl (fun w' hS => ?yc2) ?kc2
                  case yc2 =>
                    obtain ⟨g0, g1, g2, g3, _⟩ := hS
                    go_simp
                    try rfl
                  case kc2 =>
                  go_simp
                  refine wpLoad_step ?vc3 rfl (fun w' hS => ?yc3) ?kc3
                  case yc3 =>
                    obtain ⟨g0, g1, g2, g3, _⟩ := hS
                    go_simp
                    try rfl
                  case kc3 =>
                  go_simp
                  refine wpLoad_step ?vc4 rfl (fun w' hS => ?yc4) ?kc4
                  case yc4 =>
                    obtain ⟨g0, g1, g2, g3, _⟩ := hS
                    go_simp
                    try rfl
                  case kc4 =>
                  go_simp
                  refine wpLoad_step ?vc5 rfl (fun w' hS => ?yc5) ?kc5
                  case yc5 =>
                    obtain ⟨g0, g1, g2, g3, _⟩ := hS
                    go_simp
                    try rfl
                  case kc5 =>
                  go_simp
                  refine wpLoad_step ?vc6 rfl (fun w' hS => ?yc6) ?kc6
                  case yc6 =>
                    obtain ⟨g0, g1, g2, g3, _⟩ := hS
                    go_simp
                    try rfl
                  case kc6 =>
                  go_simp
                  refine wpLoad_step ?vc7 rfl (fun w' hS => ?yc7) ?kc7
                  case yc7 =>
                    obtain ⟨g0, g1, g2, g3, _⟩ := hS
                    go_simp
                    try rfl
                  case kc7 =>
                  go_simp
                  refine wpLoad_step ?vc8 rfl (fun w' hS => ?yc8) ?kc8
                  case yc8 =>
                    obtain ⟨g0, g1, g2, g3, _⟩ := hS
                    go_simp
                    try rfl
                  case kc8 =>
                  go_simp
                  refine wpLoad_step ?vc9 rfl (fun w' hS => ?yc9) ?kc9
                  case yc9 =>
                    obtain ⟨g0, g1, g2, g3, _⟩ := hS
                    go_simp
                    try rfl
                  case kc9 =>
                  go_simp
                  refine wpLoad_step ?vc10 rfl (fun w' hS => ?yc10) ?kc10
                  case yc10 =>
                    obtain ⟨g0, g1, g2, g3, _⟩ := hS
                    go_simp
                    try rfl
                  case kc10 =>
                  go_simp
                  refine wpLoad_step ?vc11 rfl (fun w' hS => ?yc11) ?kc11
                  case yc11 =>
                    obtain ⟨g0, g1, g2, g3, _⟩ := hS
                    go_simp
                    try rfl
                  case kc11 =>
                  go_simp
                  refine wpLoad_step ?vc12 rfl (fun w' hS => ?yc12) ?kc12
                  case yc12 =>
                    obtain ⟨g0, g1, g2, g3, _⟩ := hS
                    go_simp
                    try rfl
                  case kc12 =>
                  go_simp
                  refine wpLoad_step ?vc13 rfl (fun w' hS => ?yc13) ?kc13
                  case yc13 =>
                    obtain ⟨g0, g1, g2, g3, _⟩ := hS
                    go_simp
                    try rfl
                  case kc13 =>
                  go_simp
                  refine wpLoad_step ?vc14 rfl (fun w' hS => ?yc14) ?kc14
                  case yc14 =>
                    obtain ⟨g0, g1, g2, g3, _⟩ := hS
                    go_simp
                    try rfl
                  case kc14 =>
                  go_simp
                  refine wpLoad_step ?vc15 rfl (fun w' hS => ?yc15) ?kc15
                  case yc15 =>
                    obtain ⟨g0, g1, g2, g3, _⟩ := hS
                    go_simp
                    try rfl
                  case kc15 =>
                  go_simp
                  refine wpLoad_step ?vc16 rfl (fun w' hS => ?yc16) ?kc16
                  case yc16 =>
                    obtain ⟨g0, g1, g2, g3, _⟩ := hS
                    go_simp
                    try rfl
                  case kc16 =>
                  go_simp
                  refine wpLoad_step ?vc17 rfl (fun w' hS => ?yc17) ?kc17
                  case yc17 =>
                    obtain ⟨g0, g1, g2, g3, _⟩ := hS
                    go_simp
                    try rfl
                  case kc17 =>
                  go_simp
                  refine wpLoad_step ?vc18 rfl (fun w' hS => ?yc18) ?kc18
                  case yc18 =>
                    obtain ⟨g0, g1, g2, g3, _⟩ := hS
                    go_simp
                    try rfl
                  case kc18 =>
                  go_simp
                  refine wpLoad_step ?vc19 rfl (fun w' hS => ?yc19) ?kc19
                  case yc19 =>
                    obtain ⟨g0, g1, g2, g3, _⟩ := hS
                    go_simp
                    try rfl
                  case kc19 =>
                  go_simp
                  refine wpLoad_step ?vc20 rfl (fun w' hS => ?yc20) ?kc20
                  case yc20 =>
                    obtain ⟨g0, g1, g2, g3, _⟩ := hS
                    go_simp
                    try rfl
                  case kc20 =>
                  go_simp
                  refine wpLoad_step ?vc21 rfl (fun w' hS => ?yc21) ?kc21
                  case yc21 =>
                    obtain ⟨g0, g1, g2, g3, _⟩ := hS
                    go_simp
                    try rfl
                  case kc21 =>
                  go_simp
                  refine wpLoad_step ?vc22 rfl (fun w' hS => ?yc22) ?kc22
                  case yc22 =>
                    obtain ⟨g0, g1, g2, g3, _⟩ := hS
                    go_simp
                    try rfl
                  case kc22 =>
                  go_simp
                  refine wpLoad_step ?vc23 rfl (fun w' hS => ?yc23) ?kc23
                  case yc23 =>
                    obtain ⟨g0, g1, g2, g3, _⟩ := hS
                    go_simp
                    try rfl
                  case kc23 =>
                  go_simp
                  refine wpLoad_nil ?_
                  refine wpKeep_nil ?_
                  go_wp2
                  refine NoPanic.normal ?_
                  go_wp2
                  try rw [← HAT.out]
                  first | go_roundw | refine ⟨?rel, ?measure⟩
                  case measure => simp [intOf]; omega
                  case rel => exact ⟨j + 1, false, by omega, by go_num, rfl, ⟨(fun e => by cases e), fun e => by
                    rcases (hasFn_snoc HF.out pd).1 e with e | e
                    · exact HBJ.out.2 e
                    · exact absurd e.2 HX.out⟩, HBR.out.drew⟩
              · have hq1 : (fk == 4) = false := by simp [hkd]
                have HX := Lib.hid hkd
                clear hkd
                refine wp_region_held' (AtCells [(⟨w.heap.size, 3, none⟩, .slice (some ad) m c), (ad.add (j * 4), .int .i64 fk), (⟨(ad.add (j * 4)).block, (ad.add (j * 4)).off + 1, none⟩, sv fx), (kad.add (k * 8), sv pd)]) [] [0, 1, 2, 3, 4, 5, 6, 7, 8, 9, 10, 11, 12, 13, 14, 15, 16, 17, 18, 19, 20, 21, 22, 23] [] [24] (by kernel_rfl) (by kernel_rfl) ?sd ?hd
                case sd => exact HCL.out.below (Below.refl _ wr).drew
                case hd =>
                simp only [opsAt, List.filterMap_cons, List.filterMap_nil, List.getElem?_toArray, List.getElem?_cons_succ, List.getElem?_cons_zero]
                refine wpFloat_nil ?_
                refine wpLoad_step ?vd0 rfl (fun w' hS => ?yd0) ?kd0
                case yd0 =>
                  obtain ⟨g0, g1, g2, g3, _⟩ := hS
                  go_simp
                  try rfl
                case kd0 =>
                go_simp
                refine wpLoad_step ?vd1 rfl (fun w' hS => ?yd1) ?kd1
                case yd1 =>
                  obtain ⟨g0, g1, g2, g3, _⟩ := hS
                  go_simp
                  try rfl
                case kd1 =>
                go_simp
                refine wpLoad_step ?vd2 rfl (fun w' hS => ?yd2) ?kd2
                case yd2 =>
                  obtain ⟨g0, g1, g2, g3, _⟩ := hS
                  go_simp
                  try rfl
                case kd2 =>
                go_simp
                refine wpLoad_step ?vd3 rfl (fun w' hS => ?yd3) ?kd3
                case yd3 =>
                  obtain ⟨g0, g1, g2, g3, _⟩ := hS
                  go_simp
                  try rfl
                case kd3 =>
                go_simp
                refine wpLoad_step ?vd4 rfl (fun w' hS => ?yd4) ?kd4
                case yd4 =>
                  obtain ⟨g0, g1, g2, g3, _⟩ := hS
                  go_simp
                  try rfl
                case kd4 =>
                go_simp
                refine wpLoad_step ?vd5 rfl (fun w' hS => ?yd5) ?kd5
                case yd5 =>
                  obtain ⟨g0, g1, g2, g3, _⟩ := hS
                  go_simp
                  try rfl
                case kd5 =>
                go_simp
                refine wpLoad_step ?vd6 rfl (fun w' hS => ?yd6) ?kd6
                case yd6 =>
                  obtain ⟨g0, g1, g2, g3, _⟩ := hS
                  go_simp
                  try rfl
                case kd6 =>
                go_simp
                refine wpLoad_step ?vd7 rfl (fun w' hS => ?yd7) ?kd7
                case yd7 =>
                  obtain ⟨g0, g1, g2, g3, _⟩ := hS
                  go_simp
                  try rfl
                case kd7 =>
                go_simp
                refine wpLoad_step ?vd8 rfl (fun w' hS => ?yd8) ?kd8
                case yd8 =>
                  obtain ⟨g0, g1, g2, g3, _⟩ := hS
                  go_simp
                  try rfl
                case kd8 =>
                go_simp
                refine wpLoad_step ?vd9 rfl (fun w' hS => ?yd9) ?kd9
                case yd9 =>
                  obtain ⟨g0, g1, g2, g3, _⟩ := hS
                  go_simp
                  try rfl
                case kd9 =>
                go_simp
                refine wpLoad_skip rfl ?_
                go_simp
                refine wpLoad_skip rfl ?_
                go_simp
                refine wpLoad_skip rfl ?_
                go_simp
                refine wpLoad_skip rfl ?_
                go_simp
                refine wpLoad_skip rfl ?_
                go_simp
                refine wpLoad_skip rfl ?_
                go_simp
                refine wpLoad_skip rfl ?_
                go_simp
                refine wpLoad_skip rfl ?_
                go_simp
                refine wpLoad_skip rfl ?_
                go_simp
                refine wpLoad_skip rfl ?_
                go_simp
                refine wpLoad_skip rfl ?_
                go_simp
                refine wpLoad_skip rfl ?_
                go_simp
                refine wpLoad_step ?vdz22 rfl (fun w' hS => ?ydz22) ?kdz22
                case ydz22 =>
                  obtain ⟨g0, g1, g2, g3, _⟩ := hS
                  go_simp
                  try rfl
                case kdz22 =>
                go_simp
                refine wpLoad_step ?vdz23 rfl (fun w' hS => ?ydz23) ?kdz23
                case ydz23 =>
                  obtain ⟨g0, g1, g2, g3, _⟩ := hS
                  go_simp
                  try rfl
                case kdz23 =>
                go_simp
                refine wpLoad_nil ?_
                refine wpKeep_nil ?_
                go_wp2
                refine NoPanic.normal ?_
                go_wp2
                try rw [← HAT.out]
                first | go_roundw | refine ⟨?rel, ?measure⟩
                case measure => simp [intOf]; omega
                case rel => exact ⟨j + 1, false, by omega, by go_num, rfl, ⟨(fun e => by cases e), fun e => by
                  rcases (hasFn_snoc HF.out pd).1 e with e | e
                  · exact HBJ.out.2 e
                  · exact absurd e.1 HX.out⟩, HBR.out.drew⟩
          · obtain rfl : j = m := by omega
            have HBF : Hid (b = true ↔ HasFn (ps.map (·.1)) pd) := Lib.hid (by
              have h := HBJ.out
              rwa [List.take_of_length_le (by rw [← HM.out]; exact Nat.le_refl _)] at h)
            have HSR := Lib.hid (HS.out.up hbr)
            have k0 : wr.cell? (kad.add (k * 8)) = some (sv pd) := (hbr.cell (p := kad.add (k * 8)) (by rw [blkAdd]; exact HA0.out.1)).trans HA0.out.2
            have HK0 := Lib.hid k0
            clear HBJ k0 hbr HBR
            cases b with
            | true =>
              have hno := lacks_no (ks := ps.map (·.1)) (a := ta) HLQ.out (HBF.out.1 (by trivial))
              have HNO := Lib.hid hno
              clear hno
              go_wp2_with fail
              try rw [← HAD.out]
              first | go_roundw | refine ⟨?rel, ?measure⟩
              case rel => exact ⟨k + 1, by omega, by go_num, by rw [HNO.out]; exact HSR.out⟩
              case measure => simp [intOf]; omega
            | false =>
              have hyes := lacks_yes (ks := ps.map (·.1)) (a := ta) HLQ.out (fun e => by have := HBF.out.2 e; cases this)
              have HYES := Lib.hid hyes
              have b2 : wr.cell? ⟨w.heap.size, 2, none⟩ = some (.int .i64 ta) := (Lib.cell_of_heap HSR.out.bx 2).trans rfl
              have HCL : Hid (AtCells [(⟨w.heap.size, 2, none⟩, .int .i64 ta), (kad.add (k * 8), sv pd)] wr) := Lib.hid ⟨b2, HK0.out, trivial⟩
              clear hyes b2
              go_wp2_with fail
              clear b3
              refine wp_region_mix (AtCells [(⟨w.heap.size, 2, none⟩, .int .i64 ta), (kad.add (k * 8), sv pd)]) [(true, 0), (true, 1), (true, 2), (true, 3), (true, 4), (true, 5), (true, 6), (true, 7), (true, 8), (false, 9)] [10, 11] (by kernel_rfl) (by kernel_rfl) ?sm ?hm
              case sm => exact HCL.out.below (Below.refl _ wr).drew
              case hm =>
              simp only [mixAt, List.filterMap_cons, List.filterMap_nil, List.getElem?_toArray, List.getElem?_cons_succ, List.getElem?_cons_zero, Option.map_some]
              refine wpMix_load ?vm0 rfl (fun w' hS => ?ym0) ?km0
              case ym0 =>
                obtain ⟨g0, g1, _⟩ := hS
                go_simp
                try rfl
              case km0 =>
              go_simp
              refine wpMix_load ?vm1 rfl (fun w' hS => ?ym1) ?km1
              case ym1 =>
                obtain ⟨g0, g1, _⟩ := hS
                go_simp
                try rfl
              case km1 =>
              go_simp
              refine wpMix_load ?vm2 rfl (fun w' hS => ?ym2) ?km2
              case ym2 =>
                obtain ⟨g0, g1, _⟩ := hS
                go_simp
                try rfl
              case km2 =>
              go_simp
              refine wpMix_load ?vm3 rfl (fun w' hS => ?ym3) ?km3
              case ym3 =>
                obtain ⟨g0, g1, _⟩ := hS
                go_simp
                try rfl
              case km3 =>
              go_simp
              refine wpMix_load ?vm4 rfl (fun w' hS => ?ym4) ?km4
              case ym4 =>
                obtain ⟨g0, g1, _⟩ := hS
                go_simp
                try rfl
              case km4 =>
              go_simp
              refine wpMix_load ?vm5 rfl (fun w' hS => ?ym5) ?km5
              case ym5 =>
                obtain ⟨g0, g1, _⟩ := hS
                go_simp
                try rfl
              case km5 =>
              go_simp
              refine wpMix_load ?vm6 rfl (fun w' hS => ?ym6) ?km6
              case ym6 =>
                obtain ⟨g0, g1, _⟩ := hS
                go_simp
                try rfl
              case km6 =>
              go_simp
              refine wpMix_load ?vm7 rfl (fun w' hS => ?ym7) ?km7
              case ym7 =>
                obtain ⟨g0, g1, _⟩ := hS
                go_simp
                try rfl
              case km7 =>
              go_simp
              refine wpMix_load ?vm8 rfl (fun w' hS => ?ym8) ?km8
              case ym8 =>
                obtain ⟨g0, g1, _⟩ := hS
                go_simp
                try rfl
              case km8 =>
              go_simp
              refine wpMix_keep rfl ?_
              go_simp
              obtain ⟨wd, hwd⟩ : ∃ wd, wd = (wr.alloc (.cells #[.int .i64 13, .int .i64 ta, sv pd] 61)).drew := ⟨_, rfl⟩
              have hbd : Below wr.heap.size wr wd := by rw [hwd]; exact ((Below.refl _ _).alloc (Nat.le_refl _) _).drew
              have hblk : wd.heap[wr.heap.size]? = some (.cells #[.int .i64 13, .int .i64 ta, sv pd] 61 (0, 0)) := by rw [hwd]; exact alloc1 wr _
              try rw [← hwd]
              refine ⟨HCL.out.below hbd, ?_⟩
              refine wpMix_nil ?_
              have HSD := Lib.hid (HSR.out.up hbd)
              have hown := HSD.out.own
              rw [← HN1.out] at hown
              have hlw := lt_of_heap hblk
              clear hwd hbd
              simp only [opsAt, List.filterMap_cons, List.filterMap_nil, List.getElem?_toArray, List.getElem?_cons_succ, List.getElem?_cons_zero]
              refine (wpList_append_row rfl _ _ 43 rfl w2.heap.size 61 i0 _ 3 32 Try.underlying43 hi hz0 hz1 hz2 rfl (by omega) (.slice NA n1 nc) n1 (flt dgC (lacks (ps.map (·.1)) ta (l.take k))) rfl hown (fun y => y = wr.heap.size) (some ⟨wr.heap.size, 0, none⟩) 1 1 [.int .i64 13, .int .i64 ta, sv pd] rfl rfl (row_heap hblk rfl rfl) (fun u hu => by simp only [List.mem_cons, List.not_mem_nil, or_false] at hu; rcases hu with rfl | rfl | rfl <;> rfl) (by unfold maxLen; omega) (by omega) (by have h1 := HS2.out; have h2 := HSD.out.by_; have h3 := lt_of_heap h2; omega) ?_)
              intro v7 w7 hown7 hg7 _
              obtain ⟨A7, c7, rfl, _⟩ := own_slice hown7
              have HS7 : Hid (RkSt w w2 (.cells #[.int .i64 7, sv tx, .int .i64 ta, .slice A j c] 25 (0, 0)) (.cells #[sv su, .slice ss.1 ss.2.1 ss.2.2] 35 (0, 0)) (lacks (ps.map (·.1)) ta (l.take (k + 1))) (.slice A7 (n1 + 1) c7) w7) := Lib.hid (HSD.out.app HS2.out hg7 (by rw [HYES.out, List.length_append, ← HN1.out, flt_append, flt_one]; exact hown7))
              clear hown7 hg7 hown hblk
              go_wp2_with fail
              refine NoPanic.normal ?_
              go_wp2_with fail
              try rw [← HAD.out]
              first | go_roundw | refine ⟨?rel, ?measure⟩
              case rel => exact ⟨k + 1, by omega, by go_num, HS7.out⟩
              case measure => simp [intOf]; omega
      · have HS3 : Hid (RkSt w w2 (.cells #[.int .i64 7, sv tx, .int .i64 ta, .slice A m c] 25 (0, 0)) (.cells #[sv su, .slice ss.1 ss.2.1 ss.2.2] 35 (0, 0)) (lacks (ps.map (·.1)) ta l) (.slice NA n1 nc) wr) := Lib.hid (by
          have h := HS.out
          rwa [List.take_of_length_le (by rw [← HN.out]; omega)] at h)
        have HNL : Hid (n1 = (lacks (ps.map (·.1)) ta l).length) := Lib.hid (by
          have h := HN1.out
          rwa [List.take_of_length_le (by rw [← HN.out]; omega)] at h)
        have hn1z : n1 ≤ n := by omega
        clear HS HN1
        go_wp2_with fail
        obtain ⟨w5, hw5⟩ : ∃ w5, w5 = wr := ⟨_, rfl⟩
        rw [← hw5] at HS3 ⊢
        clear hw5
        go_loopw [11, 7] (fun i ov wr => ∃ j : Nat, j ≤ m ∧ i = .int .i64 j ∧ RkSt w w2 (.cells #[.int .i64 7, sv tx, .int .i64 ta, .slice A m c] 25 (0, 0)) (.cells #[sv su, .slice ss.1 ss.2.1 ss.2.2] 35 (0, 0)) (lacks (ps.map (·.1)) ta l ++ wrong l s (ps.take j)) ov wr) (fun i _ _ => m - (intOf i).toNat)
        case atStart => exact ⟨0, Nat.zero_le _, rfl, by simpa [wrong] using HS3.out⟩
        case round =>
          obtain ⟨j, hj, rfl, hS⟩ := hrel
          obtain ⟨NB, nd, rfl, _⟩ := own_slice hS.own
          have hnj := wrong_len l s ps j
          obtain ⟨n2, hn2⟩ : ∃ n, n = (lacks (ps.map (·.1)) ta l ++ wrong l s (ps.take j)).length := ⟨_, rfl⟩
          have hn12 : n2 = n1 + (wrong l s (ps.take j)).length := by rw [hn2, List.length_append, HNL.out]
          rw [← hn2] at hS ⊢
          have HS := Lib.hid hS
          have HN2 := Lib.hid hn2
          have hn2z : n2 ≤ n1 + j := by omega
          have b3 : wr.cell? ⟨w.heap.size, 3, none⟩ = some (.slice A m c) := (Lib.cell_of_heap hS.bx 3).trans rfl
          clear hS hn2 hn12 hnj
          by_cases hjm : j < m
          · obtain ⟨f, hf⟩ : ∃ f, ps[j]? = some f := ⟨_, List.getElem?_eq_getElem (by rw [← HM.out]; exact hjm)⟩
            have hTr := hT.below HS.out.below
            obtain ⟨ad, hA, hadl, a0, a1, a2, a3⟩ := tr_at hTr.row hf
            have hfi := hTr.each j f hf
            obtain ⟨FA, fc, fq, hfv, _⟩ := hfi.open_
            have HF := Lib.hid hf
            obtain ⟨⟨fk, fx, fa, fks⟩, fv⟩ := f
            simp only [Tr.kind, Tr.text, Tr.at_] at a0 a1 a2 a3 hfv hfi
            subst hfv
            obtain ⟨fl, hfl⟩ : ∃ fl, fl = fq.length := ⟨_, rfl⟩
            rw [← hfl] at a3 hfi
            have hfw : TrIs w (Lt w.heap.size) (.mk fk fx fa fks) (.slice FA fl fc) := by rw [hfl]; exact hT.each j _ HF.out
            have hijm : (0 : Int) ≤ (j : Int) ∧ (j : Int) < (m : Int) := ⟨by omega, by omega⟩
            have hba : Below wr.heap.size wr (wr.alloc (.cells #[.int .i64 fk, sv fx, .int .i64 fa, .slice FA fl fc] 25)) := (Below.refl _ _).alloc (Nat.le_refl _) _
            have HSA := Lib.hid (HS.out.up hba)
            have HKA := Lib.hid (alloc1 wr (.cells #[.int .i64 fk, sv fx, .int .i64 fa, .slice FA fl fc] 25))
            rw [hA] at b3 ⊢
            have HAD := Lib.hid hA
            have HFW := Lib.hid hfw
            clear hA hTr hf hba hfi hfl hfw
            by_cases hkd : fk = 4
            · subst hkd
              obtain ⟨wa, hwa⟩ : ∃ wa, wa = wr.alloc (.cells #[.int .i64 4, sv fx, .int .i64 fa, .slice FA fl fc] 25) := ⟨_, rfl⟩
              rw [← hwa] at HSA HKA
              have HWA := Lib.hid hwa
              have hsa : wr.heap.size < wa.heap.size := lt_of_heap HKA.out
              have HKW := Lib.hid (hK.now HSA.out.below)
              have HKC := Lib.hid (known_any qs L n lc (by rw [HQL.out, HN.out]) fx wa (by omega) HKW.out.row)
              clear hwa
              go_wp2_with fail
              rw [← HWA.out]
              clear b3 a0 a1 a2 a3 HWA
              refine HKC.out.mono ?_
              rintro e wb ⟨hkn, hbb⟩
              have HSB := Lib.hid (HSA.out.up hbb)
              have HKB := Lib.hid ((hbb.block _ (lt_of_heap HKA.out)).trans HKA.out)
              have hsb := hbb.size
              clear hbb HKC HSA HKA
              have hdich := first_is (A := L) HKW.out.names HKW.out.each fx
              have HDI := Lib.hid hdich
              clear hdich HKW
              rcases hkn with ⟨hn0, rfl⟩ | ⟨⟨jk, jP, jN, jA, ju, jw, jt⟩, hn0, rfl⟩
              ·
                have hl0 : firstOf l fx = none := by
                  rcases HDI.out with ⟨_, e2⟩ | ⟨q, g, e1, _⟩
                  · exact e2
                  · rw [hn0] at e1
                    cases e1
                have hyes : wrong l s (ps.take (j + 1)) = wrong l s (ps.take j) ++ [(13, fa, fx)] := wrong_yes HF.out ⟨rfl, fun ⟨g, h, _⟩ => by
                  have h' : firstOf l fx = some g := h
                  rw [hl0] at h'
                  cases h'⟩
                have HYES := Lib.hid hyes
                obtain ⟨wc, hwc⟩ : ∃ wc, wc = wb.alloc (.cells #[.int .i64 0, .slice none 0 0, .slice none 0 0, .slice none 0 0, .string ⟨#[]⟩, .slice none 0 0, .string ⟨#[]⟩] 39) := ⟨_, rfl⟩
                have hbc : Below wb.heap.size wb wc := by rw [hwc]; exact (Below.refl _ _).alloc (Nat.le_refl _) _
                have HSC := Lib.hid (HSB.out.up hbc)
                have hkc := (hbc.block _ (lt_of_heap HKB.out)).trans HKB.out
                have HKCc := Lib.hid hkc
                have x0 : wc.cell? ⟨wr.heap.size, 0, none⟩ = some (.int .i64 4) := (Lib.cell_of_heap hkc 0).trans rfl
                have x1 : wc.cell? ⟨wr.heap.size, 1, none⟩ = some (sv fx) := (Lib.cell_of_heap hkc 1).trans rfl
                have x2 : wc.cell? ⟨wr.heap.size, 2, none⟩ = some (.int .i64 fa) := (Lib.cell_of_heap hkc 2).trans rfl
                have x3 : wc.cell? ⟨wr.heap.size, 3, none⟩ = some (.slice FA fl fc) := (Lib.cell_of_heap hkc 3).trans rfl
                have HOF := Lib.hid (rof_any fx FA fa fl fc fks wc (HFW.out.under HSC.out.below) [])
                have HWC := Lib.hid hwc
                rw [hwc] at x0 x1 x2 x3
                clear hwc hbc hkc hyes hl0 hn0
                dsimp only [sigZ]
                go_wp2_with fail
                rw [← HWC.out]
                clear x0 x1 x2 x3 HWC
                refine HOF.out.mono ?_
                intro e wd hof
                obtain ⟨⟨ok, oP, oN, oA, ou, oo, ot⟩, rfl, _, hbd⟩ := SV.of_res hof
                obtain ⟨we, hwe⟩ : ∃ we, we = wd.alloc (.cells #[.int .i64 ok, .slice oP.1 oP.2.1 oP.2.2, .slice oN.1 oN.2.1 oN.2.2, .slice oA.1 oA.2.1 oA.2.2, sv ou, .slice oo.1 oo.2.1 oo.2.2, sv ot] 39) := ⟨_, rfl⟩
                have hbe : Below wd.heap.size wd we := by rw [hwe]; exact (Below.refl _ _).alloc (Nat.le_refl _) _
                have hbce := hbd.trans (hbe.mono hbd.size)
                have HSE := Lib.hid (HSC.out.up hbce)
                have hke := (hbce.block _ (lt_of_heap HKCc.out)).trans HKCc.out
                have k1 : we.cell? ⟨wr.heap.size, 1, none⟩ = some (sv fx) := (Lib.cell_of_heap hke 1).trans rfl
                have k2 : we.cell? ⟨wr.heap.size, 2, none⟩ = some (.int .i64 fa) := (Lib.cell_of_heap hke 2).trans rfl
                have hbf : Below we.heap.size we (we.alloc (.cells #[.int .i64 13, .int .i64 fa, sv fx] 61)) := (Below.refl _ _).alloc (Nat.le_refl _) _
                have HSZ := Lib.hid (HSE.out.up hbf)
                have hown := HSZ.out.own
                rw [← HN2.out] at hown
                have hnew := World.news_of_block (cs := #[.int .i64 13, .int .i64 fa, sv fx]) (alloc1 we (.cells #[.int .i64 13, .int .i64 fa, sv fx] 61))
                have hsze : we.heap.size = wd.heap.size + 1 := by rw [hwe]; simp
                have hdlt : wr.heap.size < we.heap.size := lt_of_heap hke
                rw [hsze] at hnew hdlt
                rw [hwe] at hown hnew k1 k2
                have HOWN := Lib.hid hown
                have HNEW := Lib.hid hnew
                have HWE := Lib.hid hwe
                clear hof hbd hwe hbe hbce hke hbf hown hnew hsze HOF HKCc HSC
                dsimp only [SV.val]
                go_wp2_with (at_builtin; go_loud (refine wpList_append_lies _ rfl _ _ 43 rfl w2.heap.size 61 i0 _ 3 32 Try.underlying43 hi hz0 hz1 hz2 rfl (by omega) (.slice NB n2 nd) n2 (flt dgC (lacks (ps.map (·.1)) ta l ++ wrong l s (ps.take j))) rfl HOWN.out ⟨wd.heap.size + 1, 0, none⟩ 1 1 [.int .i64 13, .int .i64 fa, sv fx] rfl rfl HNEW.out ?d2 (by omega) ?d3 ?d4 ?d5 _ rfl ?_))
                case d2 => first | exact ⟨rfl, rfl, rfl⟩ | exact rfl | exact fun u hu => by simp only [List.mem_cons, List.not_mem_nil, or_false] at hu; rcases hu with rfl | rfl | rfl <;> rfl
                case d3 => unfold maxLen; omega
                case d4 => omega
                case d5 =>
                  have h3s := HS2.out
                  have hml := lt_of_heap HS.out.by_
                  simp
                  omega
                rintro g cap w7 hown7 hg7 hgd hglt
                rw [← HWE.out] at hg7
                have HS7 : Hid (RkSt w w2 (.cells #[.int .i64 7, sv tx, .int .i64 ta, .slice A m c] 25 (0, 0)) (.cells #[sv su, .slice ss.1 ss.2.1 ss.2.2] 35 (0, 0)) (lacks (ps.map (·.1)) ta l ++ wrong l s (ps.take (j + 1))) (.slice (some ⟨g, 0, none⟩) (n2 + 1) cap) w7) := Lib.hid (HSZ.out.app HS2.out hg7 (by rw [HYES.out, ← List.append_assoc, List.length_append, ← HN2.out, flt_append, flt_one]; exact hown7))
                clear hown7 hg7
                go_wp2_with fail
                try rw [← HAD.out]
                first | go_roundw | refine ⟨?rel, ?measure⟩
                case rel => exact ⟨j + 1, by omega, by go_num, HS7.out⟩
                case measure => simp [intOf]; omega
              · have hgd : ∃ g, firstOf l fx = some g ∧ SgIs w (Lt w.heap.size) g ⟨jk, jP, jN, jA, ju, jw, jt⟩ := by
                  rcases first_is (A := L) hK.names hK.each fx with ⟨e1, _⟩ | ⟨q, g, e1, e2, hgi⟩
                  · rw [hn0] at e1
                    cases e1
                  · rw [hn0] at e1
                    obtain rfl := Option.some.inj e1
                    exact ⟨g, e2, hgi⟩
                obtain ⟨g, hlg, hgi⟩ := hgd
                obtain ⟨QA, ql, qc⟩ := jA
                have hql : ql = g.1.length := hgi.len
                have hqf := hgi.few
                rw [← hql] at hqf
                obtain ⟨gvs, hgt⟩ := hgi.args
                have HGT : Hid (Tys w (Lt w.heap.size) QA g.1 gvs) := Lib.hid hgt
                have HGR : Hid (TyIs w (Lt w.heap.size) g.2 (sv ju) (.slice jw.1 jw.2.1 jw.2.2)) := Lib.hid hgi.res
                have HQLL := Lib.hid hql
                have HLG := Lib.hid hlg
                obtain ⟨wc, hwc⟩ : ∃ wc, wc = wb.alloc (.cells #[.int .i64 jk, .slice jP.1 jP.2.1 jP.2.2, .slice jN.1 jN.2.1 jN.2.2, .slice QA ql qc, sv ju, .slice jw.1 jw.2.1 jw.2.2, sv jt] 39) := ⟨_, rfl⟩
                have hbc : Below wb.heap.size wb wc := by rw [hwc]; exact (Below.refl _ _).alloc (Nat.le_refl _) _
                have HSC := Lib.hid (HSB.out.up hbc)
                have hkc := (hbc.block _ (lt_of_heap HKB.out)).trans HKB.out
                have HKCc := Lib.hid hkc
                have HJC := Lib.hid (show wc.heap[wb.heap.size]? = some (.cells #[.int .i64 jk, .slice jP.1 jP.2.1 jP.2.2, .slice jN.1 jN.2.1 jN.2.2, .slice QA ql qc, sv ju, .slice jw.1 jw.2.1 jw.2.2, sv jt] 39 (0, 0)) by rw [hwc]; exact alloc1 _ _)
                have x0 : wc.cell? ⟨wr.heap.size, 0, none⟩ = some (.int .i64 4) := (Lib.cell_of_heap hkc 0).trans rfl
                have x1 : wc.cell? ⟨wr.heap.size, 1, none⟩ = some (sv fx) := (Lib.cell_of_heap hkc 1).trans rfl
                have x2 : wc.cell? ⟨wr.heap.size, 2, none⟩ = some (.int .i64 fa) := (Lib.cell_of_heap hkc 2).trans rfl
                have x3 : wc.cell? ⟨wr.heap.size, 3, none⟩ = some (.slice FA fl fc) := (Lib.cell_of_heap hkc 3).trans rfl
                have HOF := Lib.hid (rof_any fx FA fa fl fc fks wc (HFW.out.under HSC.out.below) [])
                have HWC := Lib.hid hwc
                rw [hwc] at x0 x1 x2 x3
                clear hwc hbc hkc hn0 hlg hgi hql hgt HDI
                dsimp only [SV.val]
                go_wp2_with fail
                rw [← HWC.out]
                clear x0 x1 x2 x3 HWC
                refine HOF.out.mono ?_
                intro e wd hof
                obtain ⟨⟨ok, oP, oN, ⟨OA, ol, oc⟩, ou, oo, ot⟩, rfl, hoi, hbd⟩ := SV.of_res hof
                obtain ⟨we, hwe⟩ : ∃ we, we = wd.alloc (.cells #[.int .i64 ok, .slice oP.1 oP.2.1 oP.2.2, .slice oN.1 oN.2.1 oN.2.2, .slice OA ol oc, sv ou, .slice oo.1 oo.2.1 oo.2.2, sv ot] 39) := ⟨_, rfl⟩
                have hbe : Below wd.heap.size wd we := by rw [hwe]; exact (Below.refl _ _).alloc (Nat.le_refl _) _
                have HOE := Lib.hid (hoi.now hbe)
                have HOX := Lib.hid (show we.heap[wd.heap.size]? = some (.cells #[.int .i64 ok, .slice oP.1 oP.2.1 oP.2.2, .slice oN.1 oN.2.1 oN.2.2, .slice OA ol oc, sv ou, .slice oo.1 oo.2.1 oo.2.2, sv ot] 39 (0, 0)) by rw [hwe]; exact alloc1 _ _)
                have hbce := hbd.trans (hbe.mono hbd.size)
                have HSE := Lib.hid (HSC.out.up hbce)
                have HKE := Lib.hid ((hbce.block _ (lt_of_heap HKCc.out)).trans HKCc.out)
                have HJE := Lib.hid ((hbce.block _ (lt_of_heap HJC.out)).trans HJC.out)
                have HWE := Lib.hid hwe
                have hol : ol = (argTT (kidT (.mk 4 fx fa fks) 1)).length := hoi.len
                have HOL := Lib.hid hol
                clear hof hbd hwe hbe hbce hoi hol HOF HKCc HSC HJC HSB HKB
                dsimp only [SV.val]
                obtain ⟨wp, hwp⟩ : ∃ wp, wp = wr := ⟨_, rfl⟩
                rw [← hwp] at HS HKE ⊢
                clear hwp
                go_wp2_with fail
                rw [← HWE.out]
                clear HWE
                go_loopw [17, 16] (fun i av wr => ∃ (x : Nat) (vs : List (Value × Value)), x ≤ ql ∧ i = .int .i64 x ∧ ArR we.heap.size ((g.1.take x).map (selfPut s)) av vs wr ∧ Below we.heap.size we wr) (fun i _ _ => ql - (intOf i).toNat)
                case atStart => exact ⟨0, [], Nat.zero_le _, rfl, ArR.none _ _, Below.refl _ _⟩
                case round =>
                  obtain ⟨x, vs, hxq, rfl, hAR, hbw⟩ := hrel
                  obtain ⟨VA, vc, rfl, _⟩ := own_slice hAR.own
                  have hlx : ((g.1.take x).map (selfPut s)).length = x := by rw [List.length_map, List.length_take, ← HQLL.out]; omega
                  rw [hlx] at hAR ⊢
                  have HSR := Lib.hid (HSE.out.up hbw)
                  have hjr := (hbw.block _ (lt_of_heap HJE.out)).trans HJE.out
                  have p3 : wr.cell? ⟨wb.heap.size, 3, none⟩ = some (.slice QA ql qc) := (Lib.cell_of_heap hjr 3).trans rfl
                  have HAR := Lib.hid hAR
                  have HBW := Lib.hid hbw
                  have HJR := Lib.hid hjr
                  have HLX := Lib.hid hlx
                  clear hAR hbw hjr hlx
                  by_cases hxl : x < ql
                  ·
                    obtain ⟨t0, ht0⟩ : ∃ t, g.1[x]? = some t := ⟨_, List.getElem?_eq_getElem (by rw [← HQLL.out]; exact hxl)⟩
                    obtain ⟨qad, tu, tv, hqa, hqad, c0, c1, hti⟩ := HGT.out.at_ ht0
                    obtain ⟨tu, tv, rfl, rfl⟩ := hti.shape
                    have hbw0 := HSR.out.below
                    have hpb : (qad.add (x * 2)).block < w.heap.size := by rw [blkAdd]; exact hqad
                    have HCL : Hid (AtCells [(⟨wb.heap.size, 3, none⟩, .slice (some qad) ql qc), (qad.add (x * 2), sv tu), (⟨(qad.add (x * 2)).block, (qad.add (x * 2)).off + 1, none⟩, .slice tv.1 tv.2.1 tv.2.2), (⟨w.heap.size + 1, 0, none⟩, sv su), (⟨w.heap.size + 1, 1, none⟩, .slice ss.1 ss.2.1 ss.2.2)] wr) := Lib.hid ⟨hqa ▸ p3, (hbw0.cell (p := qad.add (x * 2)) hpb).trans c0, (hbw0.cell (p := ⟨(qad.add (x * 2)).block, (qad.add (x * 2)).off + 1, none⟩) hpb).trans c1, (Lib.cell_of_heap HSR.out.by_ 0).trans rfl, (Lib.cell_of_heap HSR.out.by_ 1).trans rfl, trivial⟩
                    have HQA := Lib.hid hqa
                    rw [hqa] at p3 ⊢
                    have hixq : (0 : Int) ≤ (x : Int) ∧ (x : Int) < (ql : Int) := ⟨by omega, by omega⟩
                    have HT0 := Lib.hid (show (g.1.take (x + 1)).map (selfPut s) = (g.1.take x).map (selfPut s) ++ [selfPut s t0] by rw [take_snoc ht0, List.map_append]; rfl)
                    have HTI := Lib.hid hti
                    clear hqa hbw0 hpb c0 c1 hti ht0 hqad
                    go_wp2_with fail
                    clear p3
                    refine wp_region_mstab (fun u => Below wr.heap.size wr u ∧ AtCells [(⟨wb.heap.size, 3, none⟩, .slice (some qad) ql qc), (qad.add (x * 2), sv tu), (⟨(qad.add (x * 2)).block, (qad.add (x * 2)).off + 1, none⟩, .slice tv.1 tv.2.1 tv.2.2), (⟨w.heap.size + 1, 0, none⟩, sv su), (⟨w.heap.size + 1, 1, none⟩, .slice ss.1 ss.2.1 ss.2.2)] u) (fun u v => Below u.heap.size u v) (putPhi w.heap.size wr.heap.size su ss (selfPut s t0) 6 8 9 10) [(true, 0), (true, 1), (true, 2), (true, 3), (true, 4), (true, 5), (true, 7)] [(6, 109), (8, 111), (9, 112), (10, 113)] [11, 12] (by kernel_rfl) (by kernel_rfl) (by kernel_rfl) (fun a => Below.refl _ a) (fun a b c h h' => h.trans (h'.mono h.size)) putPhi_go ?sp ?hp
                    case sp => exact ⟨(Below.refl _ wr).drew, HCL.out.below (Below.refl _ wr).drew⟩
                    case hp =>
                    simp only [mixAt, List.filterMap_cons, List.filterMap_nil, List.getElem?_toArray, List.getElem?_cons_succ, List.getElem?_cons_zero, Option.map_some]
                    refine wpMix_load ?vpa0 rfl (fun w' hS => ?ypa0) ?kpa0
                    case ypa0 =>
                      obtain ⟨_, g0, g1, g2, g3, g4, _⟩ := hS
                      go_simp
                      try rfl
                    case kpa0 =>
                    go_simp
                    refine wpMix_load ?vpa1 rfl (fun w' hS => ?ypa1) ?kpa1
                    case ypa1 =>
                      obtain ⟨_, g0, g1, g2, g3, g4, _⟩ := hS
                      go_simp
                      try rfl
                    case kpa1 =>
                    go_simp
                    refine wpMix_load ?vpa2 rfl (fun w' hS => ?ypa2) ?kpa2
                    case ypa2 =>
                      obtain ⟨_, g0, g1, g2, g3, g4, _⟩ := hS
                      go_simp
                      try rfl
                    case kpa2 =>
                    go_simp
                    refine wpMix_load ?vpa3 rfl (fun w' hS => ?ypa3) ?kpa3
                    case ypa3 =>
                      obtain ⟨_, g0, g1, g2, g3, g4, _⟩ := hS
                      go_simp
                      try rfl
                    case kpa3 =>
                    go_simp
                    refine wpMix_load ?vpa4 rfl (fun w' hS => ?ypa4) ?kpa4
                    case ypa4 =>
                      obtain ⟨_, g0, g1, g2, g3, g4, _⟩ := hS
                      go_simp
                      try rfl
                    case kpa4 =>
                    go_simp
                    refine wpMix_load ?vpa5 rfl (fun w' hS => ?ypa5) ?kpa5
                    case ypa5 =>
                      obtain ⟨_, g0, g1, g2, g3, g4, _⟩ := hS
                      go_simp
                      try rfl
                    case kpa5 =>
                    go_simp
                    refine wpMix_load ?vpa6 rfl (fun w' hS => ?ypa6) ?kpa6
                    case ypa6 =>
                      obtain ⟨_, g0, g1, g2, g3, g4, _⟩ := hS
                      go_simp
                      try rfl
                    case kpa6 =>
                    go_simp
                    refine wpMix_nil ?_
                    refine ⟨?sz, ?st, ?fin⟩
                    case sz =>
                      intro x hx
                      simp only [List.mem_cons, List.not_mem_nil, or_false] at hx
                      rcases hx with rfl | rfl | rfl | rfl <;> simp
                    case st =>
                      have hkS : ∀ u u' : World, Below u.heap.size u u' → (Below wr.heap.size wr u ∧ AtCells [(⟨wb.heap.size, 3, none⟩, .slice (some qad) ql qc), (qad.add (x * 2), sv tu), (⟨(qad.add (x * 2)).block, (qad.add (x * 2)).off + 1, none⟩, .slice tv.1 tv.2.1 tv.2.2), (⟨w.heap.size + 1, 0, none⟩, sv su), (⟨w.heap.size + 1, 1, none⟩, .slice ss.1 ss.2.1 ss.2.2)] u) → (Below wr.heap.size wr u' ∧ AtCells [(⟨wb.heap.size, 3, none⟩, .slice (some qad) ql qc), (qad.add (x * 2), sv tu), (⟨(qad.add (x * 2)).block, (qad.add (x * 2)).off + 1, none⟩, .slice tv.1 tv.2.1 tv.2.2), (⟨w.heap.size + 1, 0, none⟩, sv su), (⟨w.heap.size + 1, 1, none⟩, .slice ss.1 ss.2.1 ss.2.2)] u') := fun u u' h h0 => ⟨h0.1.trans (h.mono h0.1.size), h0.2.below h⟩
                      have HKS := Lib.hid hkS
                      have HLO := Lib.hid HSR.out.below.size
                      clear hkS
                      intro x0 hx
                      simp only [List.mem_cons, List.not_mem_nil, or_false] at hx
                      rcases hx with rfl | rfl | rfl | rfl
                      · intro a' w7 K hI hK'
                        have hS := hI.hold
                        have hK : ∀ v w', Below w7.heap.size w7 w' → _ → (∃ b, v = .slice (some ⟨b, 0, none⟩) 1 1 ∧ w'.heap[b]? = some (.cells #[.string ⟨#[83, 101, 108, 102]⟩] 9 (0, 0)) ∧ wr.heap.size ≤ b ∧ w.heap.size ≤ b) → K (a'.put (some 109) v) w' := hK'
                        have hsz := hS.1.size
                        have hlo := HLO.out
                        have hk7 : Below w7.heap.size w7 (w7.alloc (.cells #[.string ⟨#[83, 101, 108, 102]⟩] 9)) := (Below.refl _ _).alloc (Nat.le_refl _) _
                        have ha7 := alloc1 w7 (.cells #[.string ⟨#[83, 101, 108, 102]⟩] 9)
                        clear hI hK'
                        refine wpOp_go rfl rfl ?_
                        go_simp
                        exact hK _ _ hk7 (HKS.out _ _ hk7 hS) ⟨_, rfl, ha7, hsz, by omega⟩
                      · intro a' w7 K hI hK'
                        have hS := hI.hold
                        have e110 := hI.old 110 _ rfl (by decide)
                        have hK : ∀ v w', Below w7.heap.size w7 w' → _ → (∃ b, v = .slice (some ⟨b, 0, none⟩) 1 1 ∧ w'.heap[b]? = some (.cells #[sv su, .slice ss.1 ss.2.1 ss.2.2] 35 (0, 0)) ∧ wr.heap.size ≤ b ∧ w.heap.size ≤ b) → K (a'.put (some 111) v) w' := hK'
                        have hsz := hS.1.size
                        have hlo := HLO.out
                        have hk7 : Below w7.heap.size w7 (w7.alloc (.cells #[sv su, .slice ss.1 ss.2.1 ss.2.2] 35)) := (Below.refl _ _).alloc (Nat.le_refl _) _
                        have ha7 := alloc1 w7 (.cells #[sv su, .slice ss.1 ss.2.1 ss.2.2] 35)
                        clear hI hK'
                        refine wpOp_go rfl rfl ?_
                        go_simp
                        exact hK _ _ hk7 (HKS.out _ _ hk7 hS) ⟨_, rfl, ha7, hsz, by omega⟩
                      · intro a' w7 K hI hK'
                        have hS := hI.hold
                        have e108 := hI.old 108 _ rfl (by decide)
                        obtain ⟨v6, e109, hv6⟩ := hI.new (6, 109) (by decide) (by kernel_rfl)
                        obtain ⟨v8, e111, hv8⟩ := hI.new (8, 111) (by decide) (by kernel_rfl)
                        obtain ⟨b6, rfl, hk6, hb6, hl6⟩ : ∃ b, v6 = .slice (some ⟨b, 0, none⟩) 1 1 ∧ w7.heap[b]? = some (.cells #[.string ⟨#[83, 101, 108, 102]⟩] 9 (0, 0)) ∧ wr.heap.size ≤ b ∧ w.heap.size ≤ b := hv6
                        obtain ⟨b8, rfl, hk8, hb8, hl8⟩ : ∃ b, v8 = .slice (some ⟨b, 0, none⟩) 1 1 ∧ w7.heap[b]? = some (.cells #[sv su, .slice ss.1 ss.2.1 ss.2.2] 35 (0, 0)) ∧ wr.heap.size ≤ b ∧ w.heap.size ≤ b := hv8
                        have hK : ∀ v w', Below w7.heap.size w7 w' → _ → (∃ (u : List UInt8) (v' : Option Addr × Nat × Nat), v = .agg #[sv u, .slice v'.1 v'.2.1 v'.2.2] ∧ TyIs w' (Zs w.heap.size wr.heap.size w') (selfPut s t0) (sv u) (.slice v'.1 v'.2.1 v'.2.2) ∧ w.heap.size ≤ w'.heap.size) → K (a'.put (some 112) v) w' := hK'
                        have hsz := hS.1.size
                        have hlo := HLO.out
                        have hw7 : Below w.heap.size w w7 := HSR.out.below.trans (hS.1.mono HSR.out.below.size)
                        have hup : ∀ {t : Ty} {u v : Value}, TyIs w (Lt w.heap.size) t u v → TyIs w7 (Zs w.heap.size wr.heap.size w7) t u v := fun h => (h.keep (kept_below hw7)).more fun y hy => .inl hy
                        have hZ : ∀ y, Zs w.heap.size wr.heap.size w7 y → y < w7.heap.size := fun y hy => by
                          unfold Zs at hy
                          have := hw7.size
                          omega
                        have HPUT := Lib.hid (refPut_any (Zs w.heap.size wr.heap.size w7) [[83, 101, 108, 102]] [s] (by simp) t0 (sv tu) (.slice tv.1 tv.2.1 tv.2.2) (some ⟨b6, 0, none⟩) (some ⟨b8, 0, none⟩) 1 1 [(sv su, .slice ss.1 ss.2.1 ss.2.2)] w7 hZ (hup HTI.out) (row_heap hk6 rfl (.inr ⟨hb6, lt_of_heap hk6⟩)) ⟨rfl, row_heap hk8 rfl (.inr ⟨hb8, lt_of_heap hk8⟩), fun i t p ht hp => by
                          rcases i with _ | i
                          · simp at ht hp
                            subst ht hp
                            exact hup hs
                          · simp at ht⟩)
                        clear hI hK' hk6 hk8 hup hZ
                        refine wpOp_go rfl rfl ?_
                        go_simp
                        refine HPUT.out.mono ?_
                        rintro e w8 ⟨u1, v1, rfl, hT1, hb78⟩
                        obtain ⟨u1, v1, rfl, rfl⟩ := hT1.shape
                        have hs78 := hb78.size
                        refine hK _ _ hb78 (HKS.out _ _ hb78 hS) ⟨u1, v1, rfl, hT1.more fun y hy => ?_, by have := hw7.size; omega⟩
                        unfold Zs Fr at hy
                        unfold Zs
                        omega
                      · intro a' w7 K hI hK'
                        have hS := hI.hold
                        obtain ⟨v9, e112, hv9⟩ := hI.new (9, 112) (by decide) (by kernel_rfl)
                        obtain ⟨u1, v1, rfl, ht9, hl9⟩ : ∃ (u : List UInt8) (v' : Option Addr × Nat × Nat), v9 = .agg #[sv u, .slice v'.1 v'.2.1 v'.2.2] ∧ TyIs w7 (Zs w.heap.size wr.heap.size w7) (selfPut s t0) (sv u) (.slice v'.1 v'.2.1 v'.2.2) ∧ w.heap.size ≤ w7.heap.size := hv9
                        have hK : ∀ v w', Below w7.heap.size w7 w' → _ → (∃ (b : Nat) (u : List UInt8) (v' : Option Addr × Nat × Nat), v = .slice (some ⟨b, 0, none⟩) 1 1 ∧ w'.heap[b]? = some (.cells #[sv u, .slice v'.1 v'.2.1 v'.2.2] 35 (0, 0)) ∧ wr.heap.size ≤ b ∧ TyIs w' (Zs w.heap.size wr.heap.size w') (selfPut s t0) (sv u) (.slice v'.1 v'.2.1 v'.2.2) ∧ w.heap.size ≤ w'.heap.size) → K (a'.put (some 113) v) w' := hK'
                        have hsz := hS.1.size
                        have hk7 : Below w7.heap.size w7 (w7.alloc (.cells #[sv u1, .slice v1.1 v1.2.1 v1.2.2] 35)) := (Below.refl _ _).alloc (Nat.le_refl _) _
                        have ha7 := alloc1 w7 (.cells #[sv u1, .slice v1.1 v1.2.1 v1.2.2] 35)
                        have HZZ := Lib.hid (And.intro (zs_go ht9 hl9 hk7) (Nat.le_trans hl9 hk7.size))
                        clear hI hK' ht9
                        refine wpOp_go rfl rfl ?_
                        go_simp
                        exact hK _ _ hk7 (HKS.out _ _ hk7 hS) ⟨_, u1, v1, rfl, ha7, hsz, HZZ.out.1, HZZ.out.2⟩
                    case fin =>
                      intro vs' w6 _ hS6 hΦ
                      obtain ⟨bn, u1, v1, e10, hblk, hbn, ht10, hl10⟩ : ∃ (b : Nat) (u : List UInt8) (v' : Option Addr × Nat × Nat), vs' 10 = .slice (some ⟨b, 0, none⟩) 1 1 ∧ w6.heap[b]? = some (.cells #[sv u, .slice v'.1 v'.2.1 v'.2.2] 35 (0, 0)) ∧ wr.heap.size ≤ b ∧ TyIs w6 (Zs w.heap.size wr.heap.size w6) (selfPut s t0) (sv u) (.slice v'.1 v'.2.1 v'.2.2) ∧ w.heap.size ≤ w6.heap.size := hΦ (10, 113) (by decide)
                      simp only [putD, e10]
                      clear e10 hΦ
                      generalize vs' 6 = z6
                      generalize vs' 8 = z8
                      generalize vs' 9 = z9
                      clear vs'
                      have hAR6 := HAR.out.below hS6.1
                      have hown := hAR6.own
                      rw [HLX.out] at hown
                      have hb6 := HBW.out.trans (hS6.1.mono HBW.out.size)
                      have hwl := HAR.out.own.lt
                      have hew : w.heap.size ≤ we.heap.size := HSE.out.below.size
                      go_simp
                      simp only [opsAt, List.filterMap_cons, List.filterMap_nil, List.getElem?_toArray, List.getElem?_cons_succ, List.getElem?_cons_zero]
                      refine (wpList_append_row rfl _ _ 33 rfl we.heap.size 35 iT _ 2 40 Try.underlying33 hiT hT0 hT1 hT2 rfl (by omega) (.slice VA x vc) x (flat2 vs) rfl hown (fun y => y = bn) (some ⟨bn, 0, none⟩) 1 1 [sv u1, .slice v1.1 v1.2.1 v1.2.2] rfl rfl (row_heap hblk rfl rfl) (fun u hu => by simp only [List.mem_cons, List.not_mem_nil, or_false] at hu; rcases hu with rfl | rfl <;> rfl) (by unfold maxLen; omega) (by omega) (by have := hb6.size; omega) ?_)
                      intro v7 w7 hown7 hg7 hat7
                      obtain ⟨A7, c7, rfl, _⟩ := own_slice hown7
                      have hAR7 := hAR6.push (t := selfPut s t0) (u := sv u1) (v := .slice v1.1 v1.2.1 v1.2.2) (ht10.more fun y hy => ⟨by unfold Zs at hy; omega, fun e => by have := hwl y e.symm; unfold Zs at hy; omega⟩) (by rw [HLX.out]; exact hown7) hg7 hat7
                      rw [← HT0.out] at hAR7
                      have hk7 : Kp (fun y => (Value.slice VA x vc).ownBlock = some y) w6 w7 := (Kp.refl _ _).grown hg7 fun r hr _ => hr
                      have hb7 : Below we.heap.size we w7 := kp_below hb6 hk7 fun y e => (hwl y e).1
                      have HAR7 := Lib.hid hAR7
                      have HB7 := Lib.hid hb7
                      clear hAR6 hown hb6 hown7 hg7 hat7 hAR7 hk7 hb7 hblk ht10 hS6
                      go_wp2_with fail
                      refine NoPanic.normal ?_
                      go_wp2_with fail
                      try rw [← HQA.out]
                      first | go_roundw | refine ⟨?rel, ?measure⟩
                      case rel => exact ⟨x + 1, _, by omega, by go_num, HAR7.out, HB7.out⟩
                      case measure => simp [intOf]; omega
                  · have hxe : x = ql := by omega
                    have hfull : (g.1.take x).map (selfPut s) = g.1.map (selfPut s) := by rw [List.take_of_length_le (by rw [← HQLL.out]; omega)]
                    have hvo := HAR.out.own
                    rw [HLX.out] at hvo
                    have hTV : Tys wr (Lt wr.heap.size) VA (g.1.map (selfPut s)) vs := by
                      have h := HAR.out
                      rw [hfull] at h
                      exact ⟨h.len, Row.ofOwn hvo fun _ _ _ h2 => h2, fun i t p ht hp => (h.each i t p ht hp).more fun y hy => hy.1⟩
                    have hvl := own_le hvo
                    have hlx' : (g.1.map (selfPut s)).length = x := by rw [← hfull]; exact HLX.out
                    have HEV0 := Lib.hid HBW.out
                    have HSL : Hid (∀ z, Below wr.heap.size wr z → Calls Try.prog 22 #[.slice VA x vc, .slice OA ol oc] z (Says (g.1.map (selfPut s) = argTT (kidT (.mk 4 fx fa fks) 1)) z)) := Lib.hid fun z hz => by
                      obtain ⟨vs', hv'⟩ := HOE.out.args
                      have hbz := HBW.out.trans (hz.mono HBW.out.size)
                      have h := sameList_any (g.1.map (selfPut s)) (argTT (kidT (.mk 4 fx fa fks) 1)) VA OA vc oc vs vs' z (hTV.now (Nat.le_refl _) hz) (hv'.now (Nat.le_refl _) hbz) (by rw [hlx']; omega) HOE.out.few (by rw [hlx']; exact ⟨hvl.1, hvl.2⟩) HOE.out.cap
                      rw [hlx', ← HOL.out] at h
                      exact h
                    have HSM : Hid (∀ z, Below wr.heap.size wr z → ∀ u v, TyIs z (Lt z.heap.size) (selfPut s g.2) u v → Calls Try.prog 23 #[.agg #[u, v], .agg #[sv ou, .slice oo.1 oo.2.1 oo.2.2]] z (Says (selfPut s g.2 = tyOf (kidT (.mk 4 fx fa fks) 2)) z)) := Lib.hid fun z hz u v huv => refSame_any _ _ _ _ _ _ z huv (HOE.out.res.now (Nat.le_refl _) (HBW.out.trans (hz.mono HBW.out.size)))
                    have hox := (HBW.out.block _ (lt_of_heap HOX.out)).trans HOX.out
                    have HCL : Hid (AtCells [(⟨wd.heap.size, 3, none⟩, .slice OA ol oc), (⟨wd.heap.size, 4, none⟩, sv ou), (⟨wd.heap.size, 5, none⟩, .slice oo.1 oo.2.1 oo.2.2), (⟨wb.heap.size, 4, none⟩, sv ju), (⟨wb.heap.size, 5, none⟩, .slice jw.1 jw.2.1 jw.2.2), (⟨w.heap.size + 1, 0, none⟩, sv su), (⟨w.heap.size + 1, 1, none⟩, .slice ss.1 ss.2.1 ss.2.2)] wr) := Lib.hid ⟨(Lib.cell_of_heap hox 3).trans rfl, (Lib.cell_of_heap hox 4).trans rfl, (Lib.cell_of_heap hox 5).trans rfl, (Lib.cell_of_heap HJR.out 4).trans rfl, (Lib.cell_of_heap HJR.out 5).trans rfl, (Lib.cell_of_heap HSR.out.by_ 0).trans rfl, (Lib.cell_of_heap HSR.out.by_ 1).trans rfl, trivial⟩
                    clear hxe hfull hTV hvl hlx' hox HAR hvo
                    go_wp2_with fail
                    clear p3
                    by_cases hP : g.1.map (selfPut s) = argTT (kidT (.mk 4 fx fa fks) 1)
                    · refine wp_region_mstab (fun u => Below wr.heap.size wr u ∧ AtCells [(⟨wd.heap.size, 3, none⟩, .slice OA ol oc), (⟨wd.heap.size, 4, none⟩, sv ou), (⟨wd.heap.size, 5, none⟩, .slice oo.1 oo.2.1 oo.2.2), (⟨wb.heap.size, 4, none⟩, sv ju), (⟨wb.heap.size, 5, none⟩, .slice jw.1 jw.2.1 jw.2.2), (⟨w.heap.size + 1, 0, none⟩, sv su), (⟨w.heap.size + 1, 1, none⟩, .slice ss.1 ss.2.1 ss.2.2)] u) (fun u v => Below u.heap.size u v) (samPhi w.heap.size wr.heap.size su ss (selfPut s g.2) (selfPut s g.2 = tyOf (kidT (.mk 4 fx fa fks) 2))) [(true, 0), (true, 1), (true, 2), (false, 3), (true, 4), (true, 5), (true, 6), (true, 8), (true, 11), (true, 12)] [(7, 122), (9, 124), (10, 125), (13, 128)] [14, 15] (by kernel_rfl) (by kernel_rfl) (by kernel_rfl) (fun a => Below.refl _ a) (fun a b c h h' => h.trans (h'.mono h.size)) samPhi_go ?sq ?hq
                      case sq => exact ⟨(Below.refl _ wr).drew, HCL.out.below (Below.refl _ wr).drew⟩
                      case hq =>
                      simp only [mixAt, List.filterMap_cons, List.filterMap_nil, List.getElem?_toArray, List.getElem?_cons_succ, List.getElem?_cons_zero, Option.map_some]
                      refine wpMix_load ?vqa0 rfl (fun w' hS => ?yqa0) ?kqa0
                      case yqa0 =>
                        obtain ⟨_, g0, g1, g2, g3, g4, g5, g6, _⟩ := hS
                        go_simp
                        try rfl
                      case kqa0 =>
                      go_simp
                      refine wpMix_load ?vqa1 rfl (fun w' hS => ?yqa1) ?kqa1
                      case yqa1 =>
                        obtain ⟨_, g0, g1, g2, g3, g4, g5, g6, _⟩ := hS
                        go_simp
                        try rfl
                      case kqa1 =>
                      go_simp
                      refine wpMix_load ?vqa2 rfl (fun w' hS => ?yqa2) ?kqa2
                      case yqa2 =>
                        obtain ⟨_, g0, g1, g2, g3, g4, g5, g6, _⟩ := hS
                        go_simp
                        try rfl
                      case kqa2 =>
                      go_simp
                      have hb7 : Below wr.heap.size wr wr.drew := (Below.refl _ wr).drew
                      obtain ⟨wq, hwq⟩ : ∃ wq, wq = wr.drew := ⟨_, rfl⟩
                      rw [← hwq] at hb7 ⊢
                      clear hwq
                      refine wpMix_keep rfl ?_
                      go_wp2_with fail
                      refine (HSL.out wq hb7).mono ?_
                      rintro e w8 ⟨r, rfl, hr, hb8⟩
                      obtain rfl : r = true := hr.2 hP
                      have hb68 := hb7.trans (hb8.mono hb7.size)
                      clear hr hb8
                      refine ⟨⟨hb68, HCL.out.below hb68⟩, ?_⟩
                      have HB68 := Lib.hid hb68
                      clear hb68 hb7
                      refine wpMix_load ?vqb4 rfl (fun w' hS => ?yqb4) ?kqb4
                      case yqb4 =>
                        obtain ⟨_, g0, g1, g2, g3, g4, g5, g6, _⟩ := hS
                        go_simp
                        try rfl
                      case kqb4 =>
                      go_simp
                      refine wpMix_load ?vqb5 rfl (fun w' hS => ?yqb5) ?kqb5
                      case yqb5 =>
                        obtain ⟨_, g0, g1, g2, g3, g4, g5, g6, _⟩ := hS
                        go_simp
                        try rfl
                      case kqb5 =>
                      go_simp
                      refine wpMix_load ?vqb6 rfl (fun w' hS => ?yqb6) ?kqb6
                      case yqb6 =>
                        obtain ⟨_, g0, g1, g2, g3, g4, g5, g6, _⟩ := hS
                        go_simp
                        try rfl
                      case kqb6 =>
                      go_simp
                      refine wpMix_load ?vqb7 rfl (fun w' hS => ?yqb7) ?kqb7
                      case yqb7 =>
                        obtain ⟨_, g0, g1, g2, g3, g4, g5, g6, _⟩ := hS
                        go_simp
                        try rfl
                      case kqb7 =>
                      go_simp
                      refine wpMix_load ?vqb8 rfl (fun w' hS => ?yqb8) ?kqb8
                      case yqb8 =>
                        obtain ⟨_, g0, g1, g2, g3, g4, g5, g6, _⟩ := hS
                        go_simp
                        try rfl
                      case kqb8 =>
                      go_simp
                      refine wpMix_load ?vqb9 rfl (fun w' hS => ?yqb9) ?kqb9
                      case yqb9 =>
                        obtain ⟨_, g0, g1, g2, g3, g4, g5, g6, _⟩ := hS
                        go_simp
                        try rfl
                      case kqb9 =>
                      go_simp
                      refine wpMix_nil ?_
                      refine ⟨?sz, ?st, ?fin⟩
                      case sz =>
                        intro x hx
                        simp only [List.mem_cons, List.not_mem_nil, or_false] at hx
                        rcases hx with rfl | rfl | rfl | rfl <;> simp
                      case st =>
                        have hkS : ∀ u u' : World, Below u.heap.size u u' → (Below wr.heap.size wr u ∧ AtCells [(⟨wd.heap.size, 3, none⟩, .slice OA ol oc), (⟨wd.heap.size, 4, none⟩, sv ou), (⟨wd.heap.size, 5, none⟩, .slice oo.1 oo.2.1 oo.2.2), (⟨wb.heap.size, 4, none⟩, sv ju), (⟨wb.heap.size, 5, none⟩, .slice jw.1 jw.2.1 jw.2.2), (⟨w.heap.size + 1, 0, none⟩, sv su), (⟨w.heap.size + 1, 1, none⟩, .slice ss.1 ss.2.1 ss.2.2)] u) → (Below wr.heap.size wr u' ∧ AtCells [(⟨wd.heap.size, 3, none⟩, .slice OA ol oc), (⟨wd.heap.size, 4, none⟩, sv ou), (⟨wd.heap.size, 5, none⟩, .slice oo.1 oo.2.1 oo.2.2), (⟨wb.heap.size, 4, none⟩, sv ju), (⟨wb.heap.size, 5, none⟩, .slice jw.1 jw.2.1 jw.2.2), (⟨w.heap.size + 1, 0, none⟩, sv su), (⟨w.heap.size + 1, 1, none⟩, .slice ss.1 ss.2.1 ss.2.2)] u') := fun u u' h h0 => ⟨h0.1.trans (h.mono h0.1.size), h0.2.below h⟩
                        have HKS := Lib.hid hkS
                        have HLO := Lib.hid HSR.out.below.size
                        clear hkS
                        intro x0 hx
                        simp only [List.mem_cons, List.not_mem_nil, or_false] at hx
                        rcases hx with rfl | rfl | rfl | rfl
                        · intro a' w7 K hI hK'
                          have hS := hI.hold
                          have e119 := hI.old 119 _ rfl (by decide)
                          have hK : ∀ v w', Below w7.heap.size w7 w' → _ → (∃ b, v = .slice (some ⟨b, 0, none⟩) 1 1 ∧ w'.heap[b]? = some (.cells #[.string ⟨#[83, 101, 108, 102]⟩] 9 (0, 0)) ∧ wr.heap.size ≤ b ∧ w.heap.size ≤ b) → K (a'.put (some 122) v) w' := hK'
                          have hsz := hS.1.size
                          have hlo := HLO.out
                          have hk7 : Below w7.heap.size w7 (w7.alloc (.cells #[.string ⟨#[83, 101, 108, 102]⟩] 9)) := (Below.refl _ _).alloc (Nat.le_refl _) _
                          have ha7 := alloc1 w7 (.cells #[.string ⟨#[83, 101, 108, 102]⟩] 9)
                          clear hI hK'
                          refine wpOp_go rfl (wanted_open rfl rfl e119) ?_
                          clear e119
                          go_simp
                          exact hK _ _ hk7 (HKS.out _ _ hk7 hS) ⟨_, rfl, ha7, hsz, by omega⟩
                        · intro a' w7 K hI hK'
                          have hS := hI.hold
                          have e119 := hI.old 119 _ rfl (by decide)
                          have e123 := hI.old 123 _ rfl (by decide)
                          have hK : ∀ v w', Below w7.heap.size w7 w' → _ → (∃ b, v = .slice (some ⟨b, 0, none⟩) 1 1 ∧ w'.heap[b]? = some (.cells #[sv su, .slice ss.1 ss.2.1 ss.2.2] 35 (0, 0)) ∧ wr.heap.size ≤ b ∧ w.heap.size ≤ b) → K (a'.put (some 124) v) w' := hK'
                          have hsz := hS.1.size
                          have hlo := HLO.out
                          have hk7 : Below w7.heap.size w7 (w7.alloc (.cells #[sv su, .slice ss.1 ss.2.1 ss.2.2] 35)) := (Below.refl _ _).alloc (Nat.le_refl _) _
                          have ha7 := alloc1 w7 (.cells #[sv su, .slice ss.1 ss.2.1 ss.2.2] 35)
                          clear hI hK'
                          refine wpOp_go rfl (wanted_open rfl rfl e119) ?_
                          clear e119
                          go_simp
                          exact hK _ _ hk7 (HKS.out _ _ hk7 hS) ⟨_, rfl, ha7, hsz, by omega⟩
                        · intro a' w7 K hI hK'
                          have hS := hI.hold
                          have e119 := hI.old 119 _ rfl (by decide)
                          have e121 := hI.old 121 _ rfl (by decide)
                          obtain ⟨v6, e122, hv6⟩ := hI.new (7, 122) (by decide) (by kernel_rfl)
                          obtain ⟨v8, e124, hv8⟩ := hI.new (9, 124) (by decide) (by kernel_rfl)
                          obtain ⟨b6, rfl, hk6, hb6, hl6⟩ : ∃ b, v6 = .slice (some ⟨b, 0, none⟩) 1 1 ∧ w7.heap[b]? = some (.cells #[.string ⟨#[83, 101, 108, 102]⟩] 9 (0, 0)) ∧ wr.heap.size ≤ b ∧ w.heap.size ≤ b := hv6
                          obtain ⟨b8, rfl, hk8, hb8, hl8⟩ : ∃ b, v8 = .slice (some ⟨b, 0, none⟩) 1 1 ∧ w7.heap[b]? = some (.cells #[sv su, .slice ss.1 ss.2.1 ss.2.2] 35 (0, 0)) ∧ wr.heap.size ≤ b ∧ w.heap.size ≤ b := hv8
                          have hK : ∀ v w', Below w7.heap.size w7 w' → _ → (∃ (u : List UInt8) (v' : Option Addr × Nat × Nat), v = .agg #[sv u, .slice v'.1 v'.2.1 v'.2.2] ∧ TyIs w' (Zs w.heap.size wr.heap.size w') (selfPut s g.2) (sv u) (.slice v'.1 v'.2.1 v'.2.2) ∧ w.heap.size ≤ w'.heap.size) → K (a'.put (some 125) v) w' := hK'
                          have hsz := hS.1.size
                          have hlo := HLO.out
                          have hw7 : Below w.heap.size w w7 := HSR.out.below.trans (hS.1.mono HSR.out.below.size)
                          have hup : ∀ {t : Ty} {u v : Value}, TyIs w (Lt w.heap.size) t u v → TyIs w7 (Zs w.heap.size wr.heap.size w7) t u v := fun h => (h.keep (kept_below hw7)).more fun y hy => .inl hy
                          have hZ : ∀ y, Zs w.heap.size wr.heap.size w7 y → y < w7.heap.size := fun y hy => by
                            unfold Zs at hy
                            have := hw7.size
                            omega
                          have HPUT := Lib.hid (refPut_any (Zs w.heap.size wr.heap.size w7) [[83, 101, 108, 102]] [s] (by simp) g.2 (sv ju) (.slice jw.1 jw.2.1 jw.2.2) (some ⟨b6, 0, none⟩) (some ⟨b8, 0, none⟩) 1 1 [(sv su, .slice ss.1 ss.2.1 ss.2.2)] w7 hZ (hup HGR.out) (row_heap hk6 rfl (.inr ⟨hb6, lt_of_heap hk6⟩)) ⟨rfl, row_heap hk8 rfl (.inr ⟨hb8, lt_of_heap hk8⟩), fun i t p ht hp => by
                            rcases i with _ | i
                            · simp at ht hp
                              subst ht hp
                              exact hup hs
                            · simp at ht⟩)
                          clear hI hK' hk6 hk8 hup hZ
                          refine wpOp_go rfl (wanted_open rfl rfl e119) ?_
                          clear e119
                          go_simp
                          refine HPUT.out.mono ?_
                          rintro e w9 ⟨u1, v1, rfl, hT1, hb78⟩
                          obtain ⟨u1, v1, rfl, rfl⟩ := hT1.shape
                          have hs78 := hb78.size
                          refine hK _ _ hb78 (HKS.out _ _ hb78 hS) ⟨u1, v1, rfl, hT1.more fun y hy => ?_, by have := hw7.size; omega⟩
                          unfold Zs Fr at hy
                          unfold Zs
                          omega
                        · intro a' w7 K hI hK'
                          have hS := hI.hold
                          have e119 := hI.old 119 _ rfl (by decide)
                          have e127 := hI.old 127 _ rfl (by decide)
                          obtain ⟨v9, e125, hv9⟩ := hI.new (10, 125) (by decide) (by kernel_rfl)
                          obtain ⟨u1, v1, rfl, ht9, hl9⟩ : ∃ (u : List UInt8) (v' : Option Addr × Nat × Nat), v9 = .agg #[sv u, .slice v'.1 v'.2.1 v'.2.2] ∧ TyIs w7 (Zs w.heap.size wr.heap.size w7) (selfPut s g.2) (sv u) (.slice v'.1 v'.2.1 v'.2.2) ∧ w.heap.size ≤ w7.heap.size := hv9
                          have hK : ∀ v w', Below w7.heap.size w7 w' → _ → (∃ r : Bool, v = .bool r ∧ (r = true ↔ selfPut s g.2 = tyOf (kidT (.mk 4 fx fa fks) 2))) → K (a'.put (some 128) v) w' := hK'
                          have HCC := Lib.hid (HSM.out w7 hS.1 _ _ (ht9.more fun y hy => by unfold Zs at hy; unfold Lt; omega))
                          clear hI hK' ht9
                          refine wpOp_go rfl (wanted_open rfl rfl e119) ?_
                          clear e119
                          go_simp
                          refine HCC.out.mono ?_
                          rintro e w9 ⟨r, rfl, hr, hb79⟩
                          exact hK _ _ hb79 (HKS.out _ _ hb79 hS) ⟨r, rfl, hr⟩
                      case fin =>
                        intro vs' w6 _ hS6 hΦ
                        obtain ⟨r, e13, hr⟩ : ∃ r : Bool, vs' 13 = .bool r ∧ (r = true ↔ selfPut s g.2 = tyOf (kidT (.mk 4 fx fa fks) 2)) := hΦ (13, 128) (by decide)
                        simp only [putD, e13]
                        clear e13 hΦ
                        generalize vs' 7 = z7
                        generalize vs' 9 = z9
                        generalize vs' 10 = z10
                        clear vs'
                        have HEV := Lib.hid (HBW.out.trans (hS6.1.mono HBW.out.size))
                        have HM2 : Hid (r = true ↔ Meth (.mk 4 fx fa fks) g s) := Lib.hid (hr.trans ⟨fun h => ⟨hP.symm, h.symm⟩, fun h => h.2.symm⟩)
                        clear hr hS6
                        go_simp
                        simp only [opsAt, List.filterMap_cons, List.filterMap_nil, List.getElem?_toArray, List.getElem?_cons_succ, List.getElem?_cons_zero]
                        cases r with
                        | true =>
                          have hno : wrong l s (ps.take (j + 1)) = wrong l s (ps.take j) := wrong_no HF.out fun e => e.2 ⟨g, HLG.out, HM2.out.1 (by trivial)⟩
                          have HNO := Lib.hid hno
                          clear hno
                          have HSV := Lib.hid (HSE.out.up HEV.out)
                          go_wp2_with fail
                          refine NoPanic.normal ?_
                          go_wp2_with fail
                          try rw [← HAD.out]
                          first | go_roundw | refine ⟨?rel, ?measure⟩
                          case rel => exact ⟨j + 1, by omega, by go_num, by rw [HNO.out]; exact HSV.out⟩
                          case measure => simp [intOf]; omega
                        | false =>
                          have HNM : Hid (¬ Meth (.mk 4 fx fa fks) g s) := Lib.hid fun h => by
                            have := HM2.out.2 h
                            cases this
                          go_wp2_with fail
                          refine NoPanic.normal ?_
                          -- the function is no method: one more diagnostic
                          have hyes : wrong l s (ps.take (j + 1)) = wrong l s (ps.take j) ++ [(13, fa, fx)] := wrong_yes HF.out ⟨rfl, fun ⟨g', h, h2⟩ => by
                            have h' : firstOf l fx = some g' := h
                            rw [HLG.out] at h'
                            obtain rfl := Option.some.inj h'
                            exact HNM.out h2⟩
                          have HYES := Lib.hid hyes
                          have HSV := Lib.hid (HSE.out.up HEV.out)
                          have hkv := (HEV.out.block _ (lt_of_heap HKE.out)).trans HKE.out
                          have k1 : w6.cell? ⟨wp.heap.size, 1, none⟩ = some (sv fx) := (Lib.cell_of_heap hkv 1).trans rfl
                          have k2 : w6.cell? ⟨wp.heap.size, 2, none⟩ = some (.int .i64 fa) := (Lib.cell_of_heap hkv 2).trans rfl
                          have hbf : Below w6.heap.size w6 (w6.alloc (.cells #[.int .i64 13, .int .i64 fa, sv fx] 61)) := (Below.refl _ _).alloc (Nat.le_refl _) _
                          have HSZ := Lib.hid (HSV.out.up hbf)
                          have hown := HSZ.out.own
                          rw [← HN2.out] at hown
                          have HOWN := Lib.hid hown
                          have HNEW := Lib.hid (World.news_of_block (cs := #[.int .i64 13, .int .i64 fa, sv fx]) (alloc1 w6 (.cells #[.int .i64 13, .int .i64 fa, sv fx] 61)))
                          clear hyes hkv hbf hown
                          go_wp2_with (at_builtin; go_loud (refine wpList_append_lies _ rfl _ _ 43 rfl w2.heap.size 61 i0 _ 3 32 Try.underlying43 hi hz0 hz1 hz2 rfl (by omega) (.slice NB n2 nd) n2 (flt dgC (lacks (ps.map (·.1)) ta l ++ wrong l s (ps.take j))) rfl HOWN.out ⟨w6.heap.size, 0, none⟩ 1 1 [.int .i64 13, .int .i64 fa, sv fx] rfl rfl HNEW.out ?d2s (by omega) ?d3s ?d4s ?d5s _ rfl ?_))
                          case d2s => first | exact ⟨rfl, rfl, rfl⟩ | exact rfl | exact fun u hu => by simp only [List.mem_cons, List.not_mem_nil, or_false] at hu; rcases hu with rfl | rfl | rfl <;> rfl
                          case d3s => unfold maxLen; omega
                          case d4s => omega
                          case d5s =>
                            have h3s := HS2.out
                            have hml := lt_of_heap HSV.out.by_
                            simp
                            omega
                          rintro gg cap w7 hown7 hg7 hgd hglt
                          have HS7 : Hid (RkSt w w2 (.cells #[.int .i64 7, sv tx, .int .i64 ta, .slice A m c] 25 (0, 0)) (.cells #[sv su, .slice ss.1 ss.2.1 ss.2.2] 35 (0, 0)) (lacks (ps.map (·.1)) ta l ++ wrong l s (ps.take (j + 1))) (.slice (some ⟨gg, 0, none⟩) (n2 + 1) cap) w7) := Lib.hid (HSZ.out.app HS2.out hg7 (by rw [HYES.out, ← List.append_assoc, List.length_append, ← HN2.out, flt_append, flt_one]; exact hown7))
                          clear hown7 hg7
                          go_wp2_with fail
                          try rw [← HAD.out]
                          first | go_roundw | refine ⟨?rel, ?measure⟩
                          case rel => exact ⟨j + 1, by omega, by go_num, HS7.out⟩
                          case measure => simp [intOf]; omega
                    · refine wp_region_mix (AtCells [(⟨wd.heap.size, 3, none⟩, .slice OA ol oc), (⟨wd.heap.size, 4, none⟩, sv ou), (⟨wd.heap.size, 5, none⟩, .slice oo.1 oo.2.1 oo.2.2), (⟨wb.heap.size, 4, none⟩, sv ju), (⟨wb.heap.size, 5, none⟩, .slice jw.1 jw.2.1 jw.2.2), (⟨w.heap.size + 1, 0, none⟩, sv su), (⟨w.heap.size + 1, 1, none⟩, .slice ss.1 ss.2.1 ss.2.2)]) [(true, 0), (true, 1), (true, 2), (false, 3), (true, 4), (true, 5), (true, 6), (true, 7), (true, 8), (true, 9), (true, 10), (true, 11), (true, 12), (true, 13), (true, 14)] [15] (by kernel_rfl) (by kernel_rfl) ?sr ?hr
                      case sr => exact HCL.out.below (Below.refl _ wr).drew
                      case hr =>
                      simp only [mixAt, List.filterMap_cons, List.filterMap_nil, List.getElem?_toArray, List.getElem?_cons_succ, List.getElem?_cons_zero, Option.map_some]
                      refine wpMix_load ?vra0 rfl (fun w' hS => ?yra0) ?kra0
                      case yra0 =>
                        obtain ⟨g0, g1, g2, g3, g4, g5, g6, _⟩ := hS
                        go_simp
                        try rfl
                      case kra0 =>
                      go_simp
                      refine wpMix_load ?vra1 rfl (fun w' hS => ?yra1) ?kra1
                      case yra1 =>
                        obtain ⟨g0, g1, g2, g3, g4, g5, g6, _⟩ := hS
                        go_simp
                        try rfl
                      case kra1 =>
                      go_simp
                      refine wpMix_load ?vra2 rfl (fun w' hS => ?yra2) ?kra2
                      case yra2 =>
                        obtain ⟨g0, g1, g2, g3, g4, g5, g6, _⟩ := hS
                        go_simp
                        try rfl
                      case kra2 =>
                      go_simp
                      have hb7 : Below wr.heap.size wr wr.drew := (Below.refl _ wr).drew
                      obtain ⟨wq, hwq⟩ : ∃ wq, wq = wr.drew := ⟨_, rfl⟩
                      rw [← hwq] at hb7 ⊢
                      clear hwq
                      refine wpMix_keep rfl ?_
                      go_wp2_with fail
                      refine (HSL.out wq hb7).mono ?_
                      rintro e w8 ⟨r, rfl, hr, hb8⟩
                      obtain rfl : r = false := by cases r; rfl; exact absurd (hr.1 rfl) hP
                      have hb68 := hb7.trans (hb8.mono hb7.size)
                      have HEV := Lib.hid (HBW.out.trans (hb68.mono HBW.out.size))
                      have HNM : Hid (¬ Meth (.mk 4 fx fa fks) g s) := Lib.hid fun h => hP h.1.symm
                      clear hr hb8 hb7
                      refine ⟨HCL.out.below hb68, ?_⟩
                      clear hb68
                      refine wpMix_load ?vrb4 rfl (fun w' hS => ?yrb4) ?krb4
                      case yrb4 =>
                        obtain ⟨g0, g1, g2, g3, g4, g5, g6, _⟩ := hS
                        go_simp
                        try rfl
                      case krb4 =>
                      go_simp
                      refine wpMix_skip rfl ?_
                      go_simp
                      refine wpMix_skip rfl ?_
                      go_simp
                      refine wpMix_skip rfl ?_
                      go_simp
                      refine wpMix_skip rfl ?_
                      go_simp
                      refine wpMix_skip rfl ?_
                      go_simp
                      refine wpMix_skip rfl ?_
                      go_simp
                      refine wpMix_skip rfl ?_
                      go_simp
                      refine wpMix_skip rfl ?_
                      go_simp
                      refine wpMix_skip rfl ?_
                      go_simp
                      refine wpMix_load ?vrc14 rfl (fun w' hS => ?yrc14) ?krc14
                      case yrc14 =>
                        obtain ⟨g0, g1, g2, g3, g4, g5, g6, _⟩ := hS
                        go_simp
                        try rfl
                      case krc14 =>
                      go_simp
                      refine wpMix_nil ?_
                      simp only [opsAt, List.filterMap_cons, List.filterMap_nil, List.getElem?_toArray, List.getElem?_cons_succ, List.getElem?_cons_zero]
                      go_wp2_with fail
                      refine NoPanic.normal ?_
                      -- the function is no method: one more diagnostic
                      have hyes : wrong l s (ps.take (j + 1)) = wrong l s (ps.take j) ++ [(13, fa, fx)] := wrong_yes HF.out ⟨rfl, fun ⟨g', h, h2⟩ => by
                        have h' : firstOf l fx = some g' := h
                        rw [HLG.out] at h'
                        obtain rfl := Option.some.inj h'
                        exact HNM.out h2⟩
                      have HYES := Lib.hid hyes
                      have HSV := Lib.hid (HSE.out.up HEV.out)
                      have hkv := (HEV.out.block _ (lt_of_heap HKE.out)).trans HKE.out
                      have k1 : w8.cell? ⟨wp.heap.size, 1, none⟩ = some (sv fx) := (Lib.cell_of_heap hkv 1).trans rfl
                      have k2 : w8.cell? ⟨wp.heap.size, 2, none⟩ = some (.int .i64 fa) := (Lib.cell_of_heap hkv 2).trans rfl
                      have hbf : Below w8.heap.size w8 (w8.alloc (.cells #[.int .i64 13, .int .i64 fa, sv fx] 61)) := (Below.refl _ _).alloc (Nat.le_refl _) _
                      have HSZ := Lib.hid (HSV.out.up hbf)
                      have hown := HSZ.out.own
                      rw [← HN2.out] at hown
                      have HOWN := Lib.hid hown
                      have HNEW := Lib.hid (World.news_of_block (cs := #[.int .i64 13, .int .i64 fa, sv fx]) (alloc1 w8 (.cells #[.int .i64 13, .int .i64 fa, sv fx] 61)))
                      clear hyes hkv hbf hown
                      go_wp2_with (at_builtin; go_loud (refine wpList_append_lies _ rfl _ _ 43 rfl w2.heap.size 61 i0 _ 3 32 Try.underlying43 hi hz0 hz1 hz2 rfl (by omega) (.slice NB n2 nd) n2 (flt dgC (lacks (ps.map (·.1)) ta l ++ wrong l s (ps.take j))) rfl HOWN.out ⟨w8.heap.size, 0, none⟩ 1 1 [.int .i64 13, .int .i64 fa, sv fx] rfl rfl HNEW.out ?d2r (by omega) ?d3r ?d4r ?d5r _ rfl ?_))
                      case d2r => first | exact ⟨rfl, rfl, rfl⟩ | exact rfl | exact fun u hu => by simp only [List.mem_cons, List.not_mem_nil, or_false] at hu; rcases hu with rfl | rfl | rfl <;> rfl
                      case d3r => unfold maxLen; omega
                      case d4r => omega
                      case d5r =>
                        have h3s := HS2.out
                        have hml := lt_of_heap HSV.out.by_
                        simp
                        omega
                      rintro gg cap w7 hown7 hg7 hgd hglt
                      have HS7 : Hid (RkSt w w2 (.cells #[.int .i64 7, sv tx, .int .i64 ta, .slice A m c] 25 (0, 0)) (.cells #[sv su, .slice ss.1 ss.2.1 ss.2.2] 35 (0, 0)) (lacks (ps.map (·.1)) ta l ++ wrong l s (ps.take (j + 1))) (.slice (some ⟨gg, 0, none⟩) (n2 + 1) cap) w7) := Lib.hid (HSZ.out.app HS2.out hg7 (by rw [HYES.out, ← List.append_assoc, List.length_append, ← HN2.out, flt_append, flt_one]; exact hown7))
                      clear hown7 hg7
                      go_wp2_with fail
                      try rw [← HAD.out]
                      first | go_roundw | refine ⟨?rel, ?measure⟩
                      case rel => exact ⟨j + 1, by omega, by go_num, HS7.out⟩
                      case measure => simp [intOf]; omega
            · have hq1 : (fk == 4) = false := by simp [hkd]
              have hq2 : (fk != 4) = true := by simp [hkd]
              have hno : wrong l s (ps.take (j + 1)) = wrong l s (ps.take j) := wrong_no HF.out fun e => hkd e.1
              have HNO := Lib.hid hno
              clear hkd hno
              go_wp2_with fail
              try rw [← HAD.out]
              first | go_roundw | refine ⟨?rel, ?measure⟩
              case rel => exact ⟨j + 1, by omega, by go_num, by rw [HNO.out]; exact HSA.out⟩
              case measure => simp [intOf]; omega
          · have hjm2 : j = m := by omega
            have HRES : Hid (DgRes (chk 7 ta ps l s) w (.returned (.slice NB n2 nd)) wr) := Lib.hid (by
              have h := HS.out
              have h2 := HN2.out
              rw [List.take_of_length_le (by rw [← HM.out]; omega), ← HCHK.out] at h h2
              exact ⟨_, rfl, by rw [← h2]; have := h.own; rw [← h2] at this; exact ownMono this (by rw [HS2.out]; omega), h.below⟩)
            clear HS
            go_wp2
            go_ret
            exact HRES.out
  · have hq1 : (tk == 7) = false := by simp [hk7]
    have hq2 : (tk != 7) = true := by simp [hk7]
    have HRES : Hid (DgRes (chk tk ta ps l s) w (.returned (.slice none 0 0)) ((w.alloc (.cells #[.int .i64 tk, sv tx, .int .i64 ta, .slice A m c] 25)).alloc (.cells #[sv su, .slice ss.1 ss.2.1 ss.2.2] 35))) := Lib.hid (by
      unfold chk
      rw [if_neg hk7]
      exact ⟨_, rfl, World.ownsRow_nil _ _ _ _, ((Below.refl _ _).alloc (Nat.le_refl _) _).alloc (by simp) _⟩)
    clear hk7
    go_enter Try.func11, Try.ntmps11
    go_wp2
    go_ret
    exact HRES.out
end Go.Proofs.Ytiijlecidepneaa
