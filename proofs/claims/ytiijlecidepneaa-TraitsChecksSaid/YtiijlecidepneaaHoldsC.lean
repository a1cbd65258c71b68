/-
  The walks of the test for the same goal, and of slices.IndexFunc with it; what Leads computes, in one contract.
  Conditions: the arguments read as they must.
  The model of Holds: a search with the goals in progress and those that are known; that it keeps what it has found.
  Conditions: those of each theorem.
  The state of Holds in memory: the goals so far in a row, what is known of them in a map, the implementations and the supers.
  Conditions: those of each theorem.
  The walk of the closure of Holds at a goal that has been met before.
  Conditions: the state lies in memory as it must.
-/
import Derived.Test.YtiijlecidepneaaLeadsC
import Derived.Maps.Own
import Derived.Maps.Views
namespace Go.Proofs.Ytiijlecidepneaa
section
open Go.RowKit
theorem leads_any (l : List Hdr) (s : List (List UInt8 × List UInt8)) (g : Goal) (LA SA : Option Addr) (lc sc : Nat) (q : GV) (qs : List HV) (w : World)
    (hl : Hds w (Lt w.heap.size) LA l qs) (hLA : LA = none → lc = 0) (hs : Row w (Lt w.heap.size) SA (flat2 (s.map pairV))) (hsl : s.length ≤ 4000000) (hg : GlIs w (Lt w.heap.size) g q) :
    Calls Try.prog 29 #[.slice LA l.length lc, .slice SA s.length sc, .agg #[q.1, q.2.1, q.2.2]] w (LeadsRes (leadsOf l s g) w) := by
  obtain ⟨q1, q2, q3⟩ := q
  obtain ⟨h1, h2⟩ := hg
  simp only at h1 h2 ⊢
  subst h1
  obtain ⟨n, a, rfl, rfl⟩ := h2.shape
  have hn : n = g.2.name := by
    obtain ⟨_, _, _, e, _⟩ := h2.open_
    exact bs_inj (by injection e)
  subst hn
  by_cases hp : (cutD g.2.name).2 = true
  · have := leads_par g.1 g.2.name a LA SA l.length lc s.length sc w hp
    unfold leadsOf
    rw [if_pos hp]
    exact this
  · by_cases he : g.2.name = errName
    · have := leads_err g.1 a LA SA l.length lc s.length sc w
      unfold leadsOf
      rw [if_neg hp, if_pos he]
      rw [← he] at this
      exact this
    · exact leads_main l s g.1 g.2 LA SA lc sc a qs w (by simpa using hp) he hl hLA hs hsl h2

def goalEq (x g : Goal) : Bool := decide (x.1 = g.1) && x.2.eqb g.2
theorem goalEq_iff (x g : Goal) : goalEq x g = true ↔ x = g := by
  unfold goalEq
  rw [Bool.and_eq_true, eqb_iff, decide_eq_true_eq]
  exact ⟨fun h => Prod.ext h.1 h.2, fun h => by rw [h]; exact ⟨rfl, rfl⟩⟩

/-- 'The goal is this one': the goal lies at block gb. -/
abbrev eqg (gb : Nat) : Value := .func (.func 27) #[] #[.pointer (some ⟨gb, 0, none⟩)]
def BoxAt (w : World) (gb : Nat) (q : GV) : Prop := w.heap[gb]? = some (.cells #[q.1, q.2.1, q.2.2] 56 (0, 0))
theorem BoxAt.now {w w' : World} {gb : Nat} {q : GV} (h : BoxAt w gb q) (hb : Below w.heap.size w w') : BoxAt w' gb q := (hb.block _ (lt_of_heap h)).trans h

set_option maxHeartbeats 4000000 in
set_option maxRecDepth 100000 in
theorem eqg_any (x g : Goal) (p q : GV) (gb : Nat) (w : World) (hx : GlIs w (Lt w.heap.size) x p) (hg : GlIs w (Lt w.heap.size) g q) (hB : BoxAt w gb q) :
    Calls Try.prog 27 #[.agg #[p.1, p.2.1, p.2.2], .pointer (some ⟨gb, 0, none⟩)] w (Says (x = g) w) := by
  obtain ⟨p1, p2, p3⟩ := p
  obtain ⟨q1, q2, q3⟩ := q
  obtain ⟨hx1, hx2⟩ := hx
  obtain ⟨hg1, hg2⟩ := hg
  simp only at hx1 hx2 hg1 hg2 ⊢
  subst hx1 hg1
  obtain ⟨n, a, rfl, rfl⟩ := hx2.shape
  obtain ⟨m, b, rfl, rfl⟩ := hg2.shape
  have hlt := lt_of_heap hB
  have hb1 : Below w.heap.size w (w.alloc (.cells #[sv x.1, sv n, .slice a.1 a.2.1 a.2.2] 56)) := (Below.refl _ _).alloc (Nat.le_refl _) _
  have hB1 := hB.now hb1
  have g0 : (w.alloc (.cells #[sv x.1, sv n, .slice a.1 a.2.1 a.2.2] 56)).cell? ⟨gb, 0, none⟩ = some (sv g.1) := by rw [Lib.cell_of_heap hB1]; rfl
  have g1 : (w.alloc (.cells #[sv x.1, sv n, .slice a.1 a.2.1 a.2.2] 56)).cell? ⟨gb, 1, none⟩ = some (sv m) := by rw [Lib.cell_of_heap hB1]; rfl
  have g2 : (w.alloc (.cells #[sv x.1, sv n, .slice a.1 a.2.1 a.2.2] 56)).cell? ⟨gb, 2, none⟩ = some (.slice b.1 b.2.1 b.2.2) := by rw [Lib.cell_of_heap hB1]; rfl
  clear hB hB1
  by_cases h : x.1 = g.1
  · have hb := bytesEq h
    have HH := Lib.hid h
    have HX := Lib.hid (hx2.now (Nat.le_refl _) hb1)
    have HG := Lib.hid (hg2.now (Nat.le_refl _) hb1)
    clear h hx2 hg2
    go_enter Try.func27, Try.ntmps27
    go_wp2_with fail
    refine (same_any x.2 g.2 _ _ _ _ _ HX.out HG.out).mono ?_
    rintro e w2 ⟨r, rfl, hr, hb2⟩
    go_wp2
    go_ret
    refine ⟨r, rfl, ?_, hb1.trans (hb2.mono hb1.size)⟩
    rw [hr]
    exact ⟨fun e => Prod.ext HH.out e, fun e => by rw [e]⟩
  · have hb := bytesNe h
    have HH := Lib.hid h
    clear h hx2 hg2
    go_enter Try.func27, Try.ntmps27
    go_wp2
    go_ret
    refine ⟨false, rfl, ?_, hb1⟩
    simp
    intro e
    exact HH.out (by rw [e])

def gIdx : List Goal → Goal → Nat → Int
  | [], _, _ => -1
  | x :: r, g, k => if goalEq x g = true then (k : Int) else gIdx r g (k + 1)

set_option maxHeartbeats 2000000 in
set_option maxRecDepth 100000 in
theorem indexFuncG (gs : List Goal) (A : Option Addr) (c gb : Nat) (vs : List GV) (g : Goal) (q : GV) (w : World) (hh : Gls w (Lt w.heap.size) A gs vs) (hfew : gs.length ≤ 4000000) (hg : GlIs w (Lt w.heap.size) g q) (hB : BoxAt w gb q) :
    Calls Try.prog 26 #[.slice A gs.length c, eqg gb] w (Nope (.int .i64 (gIdx gs g 0)) w) := by
  obtain ⟨n, hn⟩ : ∃ n, n = gs.length := ⟨_, rfl⟩
  rw [← hn] at hfew ⊢
  have HN := Lib.hid hn
  have HB := Lib.hid hB
  have HG := Lib.hid hg
  clear hn hB hg
  go_enter Try.func26, Try.ntmps26
  go_wp2_with fail
  go_loopw [8] (fun i wr => ∃ k : Nat, k ≤ n ∧ i = .int .i64 k ∧ gIdx (gs.drop k) g k = gIdx gs g 0 ∧ Below w.heap.size w wr) (fun i _ => n - (intOf i).toNat)
  case atStart => exact ⟨0, Nat.zero_le _, rfl, rfl, Below.refl _ _⟩
  case round =>
    obtain ⟨k, hk, rfl, hx, hb⟩ := hrel
    have HX := Lib.hid hx
    clear hx
    by_cases hlt : k < n
    · have hki : k < gs.length := by rw [← HN.out]; exact hlt
      obtain ⟨ad, p, rfl, hS, hp, e0, e1, e2, hGl⟩ := (hh.now (Nat.le_refl _) hb).at_ (List.getElem?_eq_getElem hki)
      obtain ⟨p1, p2, p3⟩ := p
      obtain ⟨hx1, hx2⟩ := id hGl
      simp only at hx1 hx2 e0 e1 e2
      subst hx1
      obtain ⟨m, a, rfl, rfl⟩ := hx2.shape
      have HD := Lib.hid (List.drop_eq_getElem_cons hki)
      have HGR : Hid (GlIs wr (Lt wr.heap.size) g q) := Lib.hid ⟨HG.out.t, HG.out.ty.now (Nat.le_refl _) hb⟩
      have HGL := Lib.hid hGl
      clear hp hGl hx2
      go_wp2_with fail
      refine (eqg_any gs[k] g (sv gs[k].1, sv m, .slice a.1 a.2.1 a.2.2) q gb wr HGL.out HGR.out (HB.out.now hb)).mono ?_
      rintro e w1 ⟨r, rfl, hr, hb1⟩
      have hb2 : Below w.heap.size w w1 := hb.trans (hb1.mono hb.size)
      have HR := Lib.hid hr
      clear hr
      cases r with
      | true =>
        have hres : gIdx gs g 0 = (k : Int) := by rw [← HX.out, HD.out, gIdx, if_pos ((goalEq_iff _ _).2 (HR.out.1 rfl))]
        have HRES := Lib.hid hres
        clear hres
        go_wp2
        go_ret
        exact ⟨ret_int HRES.out.symm, hb2⟩
      | false =>
        have hne : ¬ goalEq gs[k] g = true := fun e => by
          have := HR.out.2 ((goalEq_iff _ _).1 e)
          cases this
        have HNE := Lib.hid hne
        clear hne
        go_wp2
        go_roundw
        case rel => exact ⟨k + 1, by omega, by go_num, by rw [← HX.out, HD.out, gIdx, if_neg HNE.out], hb2⟩
        case measure => simp [intOf]; omega
    · have hkn : k = n := by omega
      have HKN := Lib.hid hkn
      have hg : ¬ k < n := hlt
      clear hkn
      go_wp2
      go_ret
      refine ⟨ret_int ?_, hb⟩
      rw [← HX.out, List.drop_eq_nil_of_le (by rw [← HN.out, HKN.out]; exact Nat.le_refl _)]
      rfl
end

section
open Go.RowKit
/-- The goals so far, each with what is known of it. -/
abbrev DSt := List (Goal × Option Bool)
def knownAt (st : DSt) (k : Nat) : Bool := ((st[k]?).bind (·.2)).getD false
def decd (st : DSt) : Nat := (st.filter fun x => x.2.isSome).length

def dfs (f : Goal → List Goal × Bool) : Nat → DSt → Goal → Bool × DSt
  | 0, st, g => if 0 ≤ gIdx (st.map (·.1)) g 0 then (knownAt st (gIdx (st.map (·.1)) g 0).toNat, st) else (false, st)
  | n + 1, st, g => if 0 ≤ gIdx (st.map (·.1)) g 0 then (knownAt st (gIdx (st.map (·.1)) g 0).toNat, st) else
    let r := (f g).1.foldl (fun p x => if p.1 = true then dfs f n p.2 x else p) ((f g).2, st ++ [(g, none)])
    (r.1, r.2.set st.length (g, some r.1))
def fold (f : Goal → List Goal × Bool) (n : Nat) (l : List Goal) (p : Bool × DSt) : Bool × DSt := l.foldl (fun p x => if p.1 = true then dfs f n p.2 x else p) p

theorem dfs_new {f : Goal → List Goal × Bool} {n : Nat} {st : DSt} {g : Goal} (h : ¬ 0 ≤ gIdx (st.map (·.1)) g 0) :
    dfs f (n + 1) st g = ((fold f n (f g).1 ((f g).2, st ++ [(g, none)])).1, (fold f n (f g).1 ((f g).2, st ++ [(g, none)])).2.set st.length (g, some (fold f n (f g).1 ((f g).2, st ++ [(g, none)])).1)) := by
  rw [dfs, if_neg h]
  rfl
theorem dfs_old {f : Goal → List Goal × Bool} {n : Nat} {st : DSt} {g : Goal} (h : 0 ≤ gIdx (st.map (·.1)) g 0) : dfs f n st g = (knownAt st (gIdx (st.map (·.1)) g 0).toNat, st) := by
  cases n <;> rw [dfs, if_pos h]

theorem gIdx_none : ∀ (gs : List Goal) (g : Goal) (k : Nat), ¬ 0 ≤ gIdx gs g k → g ∉ gs
  | [], _, _, _ => by simp
  | x :: r, g, k, h => by
    unfold gIdx at h
    by_cases he : goalEq x g = true
    · rw [if_pos he] at h; omega
    · rw [if_neg he] at h
      have := gIdx_none r g (k + 1) h
      intro hm
      rcases List.mem_cons.1 hm with e | e
      · exact he ((goalEq_iff _ _).2 e.symm)
      · exact this e
theorem gIdx_some : ∀ (gs : List Goal) (g : Goal) (k : Nat), 0 ≤ gIdx gs g k → ∃ j, gIdx gs g k = ((k + j : Nat) : Int) ∧ gs[j]? = some g
  | [], _, _, h => by simp [gIdx] at h
  | x :: r, g, k, h => by
    unfold gIdx at h ⊢
    by_cases he : goalEq x g = true
    · rw [if_pos he]
      exact ⟨0, rfl, by rw [(goalEq_iff _ _).1 he]; rfl⟩
    · rw [if_neg he] at h ⊢
      obtain ⟨j, h1, h2⟩ := gIdx_some r g (k + 1) h
      exact ⟨j + 1, by rw [h1]; congr 1; omega, h2⟩
theorem gIdx_neg : ∀ (gs : List Goal) (g : Goal) (k : Nat), ¬ 0 ≤ gIdx gs g k → gIdx gs g k = -1
  | [], _, _, _ => rfl
  | x :: r, g, k, h => by
    unfold gIdx at h ⊢
    by_cases he : goalEq x g = true
    · rw [if_pos he] at h; omega
    · rw [if_neg he] at h ⊢
      exact gIdx_neg r g (k + 1) h

theorem fold_ext_of {f : Goal → List Goal × Bool} {n : Nat} (h : ∀ st g, ∃ more, (dfs f n st g).2 = st ++ more) : ∀ (l : List Goal) (p : Bool × DSt), ∃ more, (fold f n l p).2 = p.2 ++ more
  | [], p => ⟨[], by simp [fold]⟩
  | x :: r, p => by
    show ∃ more, (fold f n r (if p.1 = true then dfs f n p.2 x else p)).2 = p.2 ++ more
    by_cases hp : p.1 = true
    · rw [if_pos hp]
      obtain ⟨m1, h1⟩ := h p.2 x
      obtain ⟨m2, h2⟩ := fold_ext_of h r (dfs f n p.2 x)
      exact ⟨m1 ++ m2, by rw [h2, h1, List.append_assoc]⟩
    · rw [if_neg hp]
      exact fold_ext_of h r p
theorem dfs_ext (f : Goal → List Goal × Bool) : ∀ (n : Nat) (st : DSt) (g : Goal), ∃ more, (dfs f n st g).2 = st ++ more
  | 0, st, g => by
    rw [dfs]
    split <;> exact ⟨[], by simp⟩
  | n + 1, st, g => by
    by_cases h : 0 ≤ gIdx (st.map (·.1)) g 0
    · rw [dfs_old h]
      exact ⟨[], by simp⟩
    · rw [dfs_new h]
      obtain ⟨m, hm⟩ := fold_ext_of (dfs_ext f n) (f g).1 ((f g).2, st ++ [(g, none)])
      rw [hm]
      refine ⟨(g, some (fold f n (f g).1 ((f g).2, st ++ [(g, none)])).1) :: m, ?_⟩
      simp only [List.append_assoc, List.singleton_append]
      rw [List.set_append_right _ _ (Nat.le_refl _), Nat.sub_self]
      rfl
theorem fold_ext (f : Goal → List Goal × Bool) (n : Nat) (l : List Goal) (p : Bool × DSt) : ∃ more, (fold f n l p).2 = p.2 ++ more := fold_ext_of (dfs_ext f n) l p

theorem fold_snoc (f : Goal → List Goal × Bool) (n : Nat) (l : List Goal) (x : Goal) (p : Bool × DSt) : fold f n (l ++ [x]) p = if (fold f n l p).1 = true then dfs f n (fold f n l p).2 x else fold f n l p := by
  unfold fold
  rw [List.foldl_append]
  rfl

/-! ### Closed worlds of goals -/
def Shut (f : Goal → List Goal × Bool) (U : List Goal) : Prop := ∀ g ∈ U, ∀ x ∈ (f g).1, x ∈ U
structure Inv (U : List Goal) (st : DSt) : Prop where
  sub : ∀ x ∈ st, x.1 ∈ U
  nodup : (st.map (·.1)).Nodup

theorem fold_inv_of {f : Goal → List Goal × Bool} {U : List Goal} {n : Nat} (h : ∀ st g, Inv U st → g ∈ U → Inv U (dfs f n st g).2) : ∀ (l : List Goal) (p : Bool × DSt), (∀ x ∈ l, x ∈ U) → Inv U p.2 → Inv U (fold f n l p).2
  | [], p, _, hp => hp
  | x :: r, p, hl, hp => by
    show Inv U (fold f n r (if p.1 = true then dfs f n p.2 x else p)).2
    refine fold_inv_of h r _ (fun y hy => hl y (by simp [hy])) ?_
    by_cases hb : p.1 = true
    · rw [if_pos hb]
      exact h _ _ hp (hl x (by simp))
    · rw [if_neg hb]
      exact hp
theorem Inv.push {U : List Goal} {st : DSt} {g : Goal} (h : Inv U st) (hg : g ∈ U) (hn : ¬ 0 ≤ gIdx (st.map (·.1)) g 0) : Inv U (st ++ [(g, none)]) := by
  refine ⟨fun x hx => ?_, ?_⟩
  · rcases List.mem_append.1 hx with h1 | h1
    · exact h.sub x h1
    · rw [List.mem_singleton.1 h1]; exact hg
  · rw [List.map_append, List.nodup_append]
    refine ⟨h.nodup, by simp, fun a ha b hb => ?_⟩
    simp at hb
    subst hb
    exact fun e => gIdx_none _ _ _ hn (e ▸ ha)
theorem Inv.mark {U : List Goal} {st m : DSt} {g : Goal} {b : Option Bool} {b' : Option Bool} (h : Inv U (st ++ (g, b) :: m)) : Inv U ((st ++ (g, b) :: m).set st.length (g, b')) := by
  have e : (st ++ (g, b) :: m).set st.length (g, b') = st ++ (g, b') :: m := by
    rw [List.set_append_right _ _ (Nat.le_refl _), Nat.sub_self]
    rfl
  rw [e]
  refine ⟨fun x hx => ?_, ?_⟩
  · rcases List.mem_append.1 hx with h1 | h1
    · exact h.sub x (by simp [h1])
    · rcases List.mem_cons.1 h1 with h2 | h2
      · rw [h2]; exact h.sub (g, b) (by simp)
      · exact h.sub x (by simp [h2])
  · have := h.nodup
    simpa using this
theorem dfs_inv {f : Goal → List Goal × Bool} {U : List Goal} (hc : Shut f U) : ∀ (n : Nat) (st : DSt) (g : Goal), Inv U st → g ∈ U → Inv U (dfs f n st g).2
  | 0, st, g, h, _ => by
    rw [dfs]
    split <;> exact h
  | n + 1, st, g, h, hg => by
    by_cases hi : 0 ≤ gIdx (st.map (·.1)) g 0
    · rw [dfs_old hi]
      exact h
    · rw [dfs_new hi]
      have h1 := fold_inv_of (dfs_inv hc n) (f g).1 ((f g).2, st ++ [(g, none)]) (hc g hg) (h.push hg hi)
      obtain ⟨m, hm⟩ := fold_ext f n (f g).1 ((f g).2, st ++ [(g, none)])
      simp only [List.append_assoc, List.singleton_append] at hm
      rw [hm] at h1 ⊢
      exact h1.mark
theorem fold_inv {f : Goal → List Goal × Bool} {U : List Goal} (hc : Shut f U) (n : Nat) (l : List Goal) (p : Bool × DSt) (hl : ∀ x ∈ l, x ∈ U) (hp : Inv U p.2) : Inv U (fold f n l p).2 := fold_inv_of (dfs_inv hc n) l p hl hp

theorem nodup_le : ∀ (l U : List Goal), l.Nodup → (∀ x ∈ l, x ∈ U) → l.length ≤ U.length
  | [], _, _, _ => Nat.zero_le _
  | a :: r, U, hn, hs => by
    obtain ⟨U1, U2, rfl⟩ := List.append_of_mem (hs a (by simp))
    have hn' := List.nodup_cons.1 hn
    have := nodup_le r (U1 ++ U2) hn'.2 fun x hx => by
      have := hs x (by simp [hx])
      rcases List.mem_append.1 this with h | h
      · exact List.mem_append.2 (.inl h)
      · rcases List.mem_cons.1 h with h | h
        · subst h; exact absurd hx hn'.1
        · exact List.mem_append.2 (.inr h)
    simp at this ⊢
    omega
theorem Inv.le {U : List Goal} {st : DSt} (h : Inv U st) : st.length ≤ U.length := by
  have := nodup_le (st.map (·.1)) U h.nodup fun x hx => by
    obtain ⟨y, hy, rfl⟩ := List.mem_map.1 hx
    exact h.sub y hy
  simpa using this
theorem Inv.room {U : List Goal} {st : DSt} {g : Goal} (h : Inv U st) (hg : g ∈ U) (hn : ¬ 0 ≤ gIdx (st.map (·.1)) g 0) : st.length < U.length := by
  have := (h.push hg hn).le
  simp at this
  omega

theorem decd_le (st : DSt) : decd st ≤ st.length := List.length_filter_le _ _
theorem decd_push (st : DSt) (g : Goal) : decd (st ++ [(g, none)]) = decd st := by simp [decd]
theorem decd_mark (st m : DSt) (g : Goal) (b : Bool) : decd ((st ++ (g, none) :: m).set st.length (g, some b)) = decd (st ++ (g, none) :: m) + 1 := by
  rw [List.set_append_right _ _ (Nat.le_refl _), Nat.sub_self]
  simp [decd]
  omega
theorem known_push (st : DSt) (g : Goal) (k : Nat) : knownAt (st ++ [(g, none)]) k = knownAt st k := by
  unfold knownAt
  rcases Nat.lt_trichotomy k st.length with h | h | h
  · rw [List.getElem?_append_left h]
  · subst h
    simp
  · rw [List.getElem?_eq_none (by simp; omega), List.getElem?_eq_none (by omega)]
theorem known_mark (st : DSt) (g : Goal) (b : Bool) (j k : Nat) (hj : j < st.length) : knownAt (st.set j (g, some b)) k = if k = j then b else knownAt st k := by
  unfold knownAt
  by_cases h : k = j
  · subst h
    rw [List.getElem?_set_self hj, if_pos rfl]
    rfl
  · rw [List.getElem?_set_ne (fun e => h e.symm), if_neg h]
end

section
open Go.RowKit
open Go.Maps (Keyed int_keyed keyOf_int_mk atKey_put_same atKey_put_other)
set_option maxRecDepth 100000 in
theorem keyLaw : Keyed Try.prog 3 := int_keyed Try.underlying3

/-- In w block b is a map of what is known of the goals. -/
def MapRd (w : World) (b : Nat) (st : DSt) : Prop :=
  ∃ (n : Nat) (D : DataW Unit), n ≤ decd st ∧ w.ownsMap Try.prog 3 (plainElem (H := Unit) Try.prog 4) b n D ∧ ∀ k : Nat, D.atKey (.int .i64 k) (.lit (.bool false)) = .lit (.bool (knownAt st k))

set_option maxRecDepth 100000 in
theorem MapRd.kept {w w' : World} {row : Option Nat} {b : Nat} {st : DSt} (h : MapRd w b st) (hg : w.grownBy w' row) (hne : some b ≠ row) : MapRd w' b st := by
  obtain ⟨n, D, h1, h2, h3⟩ := h
  exact ⟨n, D, h1, h2.kept hg hne, h3⟩
set_option maxRecDepth 100000 in
theorem MapRd.look {w : World} {b : Nat} {st : DSt} (h : MapRd w b st) (k : Nat) (hk : k < 1000000000) (hz : (zeroValue 4).run Try.prog w = .ok (.bool false) w) :
    (Instr.lookup 76 (.map (some b)) (.int .i64 (k : Int)) false).run Try.prog w = .ok (.bool (knownAt st k)) w := by
  obtain ⟨n, D, h1, h2, h3⟩ := h
  obtain ⟨v, ps, hrun, hv⟩ := h2.lookup keyLaw Try.underlying76 hz (plainElem_bool Try.underlying4 false) (keyOf_int_mk Try.underlying3 (a := (k : Int)) (WalkArith.wf_i64 (by omega)))
  rw [h3 k] at hv
  rw [hrun]
  have : v = .bool (knownAt st k) := by
    unfold plainElem at hv
    rw [Try.underlying4] at hv
    cases v <;> simp at hv
    rw [hv.1]
  rw [this]
set_option maxRecDepth 100000 in
theorem MapRd.push {w : World} {b : Nat} {st : DSt} (h : MapRd w b st) (g : Goal) : MapRd w b (st ++ [(g, none)]) := by
  obtain ⟨n, D, h1, h2, h3⟩ := h
  exact ⟨n, D, by rw [decd_push]; exact h1, h2, fun k => by rw [known_push]; exact h3 k⟩

/-- The closure that Holds makes: its captured variables lie at B and behind it. -/
abbrev holdsV (B : Nat) : Value := .func (.func 25) #[] #[.pointer (some ⟨B + 3, 0, none⟩), .pointer (some ⟨B + 5, 0, none⟩), .pointer (some ⟨B, 0, none⟩), .pointer (some ⟨B + 1, 0, none⟩), .pointer (some ⟨B + 6, 0, none⟩)]

structure Ctx (B : Nat) (l : List Hdr) (s : List (List UInt8 × List UInt8)) (w : World) : Prop where
  lblk : ∃ (LA : Option Addr) (lc : Nat) (qs : List HV), w.heap[B]? = some (.cells #[.slice LA l.length lc] 51 (0, 0)) ∧ (LA = none → lc = 0) ∧ Hds w (Lt B) LA l qs
  sblk : ∃ (SA : Option Addr) (sc : Nat), w.heap[B + 1]? = some (.cells #[.slice SA s.length sc] 74 (0, 0)) ∧ Row w (Lt B) SA (flat2 (s.map pairV))
  mblk : w.heap[B + 5]? = some (.cells #[.map (some (B + 4))] 76 (0, 0))
  hblk : w.heap[B + 6]? = some (.cells #[holdsV B] 77 (0, 0))
  few : s.length ≤ 4000000

set_option maxRecDepth 100000 in
theorem Ctx.keep {B : Nat} {l : List Hdr} {s : List (List UInt8 × List UInt8)} {w w' : World} {M : Nat → Prop} (h : Ctx B l s w) (hk : Kp M w w') (hM : ∀ y, M y → y = B + 3 ∨ y = B + 4 ∨ B + 7 ≤ y) : Ctx B l s w' := by
  have hh := lt_of_heap h.hblk
  have hS : Kept (Lt B) w w' := hk.kept fun b hb => ⟨by unfold Lt at hb; omega, fun e => by have := hM b e; unfold Lt at hb; omega⟩
  obtain ⟨LA, lc, qs, h1, h2, h3⟩ := h.lblk
  obtain ⟨SA, sc, h4, h5⟩ := h.sblk
  exact ⟨⟨LA, lc, qs, hk.heap h1 (fun e => by have := hM _ e; omega), h2, h3.keep hS⟩, ⟨SA, sc, hk.heap h4 (fun e => by have := hM _ e; omega), h5.keep hS⟩, hk.heap h.mblk (fun e => by have := hM _ e; omega), hk.heap h.hblk (fun e => by have := hM _ e; omega), h.few⟩

/-- Blocks that Holds does not write. -/
def Offb (B : Nat) (ov : Value) (n y : Nat) : Prop := y < n ∧ y ≠ B + 3 ∧ y ≠ B + 4 ∧ some y ≠ ov.ownBlock
/-- Blocks that it writes. -/
def MB (B : Nat) (ov : Value) (y : Nat) : Prop := y = B + 3 ∨ y = B + 4 ∨ some y = ov.ownBlock
set_option maxRecDepth 100000 in
theorem Offb.not {B : Nat} {ov : Value} {n y : Nat} (h : Offb B ov n y) : ¬ MB B ov y := fun e => by
  rcases e with e | e | e
  · exact h.2.1 e
  · exact h.2.2.1 e
  · exact h.2.2.2 e

structure HSt (B : Nat) (l : List Hdr) (s : List (List UInt8 × List UInt8)) (st : DSt) (ov : Value) (vs : List GV) (w : World) : Prop where
  gblk : w.heap[B + 3]? = some (.cells #[ov] 75 (0, 0))
  own : w.ownsRow (B + 7) 56 3 ov st.length (flat3 vs)
  vlen : vs.length = st.length
  each : ∀ (i : Nat) (x : Goal × Option Bool) (q : GV), st[i]? = some x → vs[i]? = some q → GlIs w (Offb B ov w.heap.size) x.1 q
  known : MapRd w (B + 4) st
  ctx : Ctx B l s w

set_option maxRecDepth 100000 in
theorem HSt.mb {B : Nat} {l : List Hdr} {s : List (List UInt8 × List UInt8)} {st : DSt} {ov : Value} {vs : List GV} {w : World} (h : HSt B l s st ov vs w) : ∀ y, MB B ov y → y = B + 3 ∨ y = B + 4 ∨ B + 7 ≤ y := fun y hy => by
  rcases hy with e | e | e
  · exact .inl e
  · exact .inr (.inl e)
  · exact .inr (.inr (h.own.lt y e.symm).1)
set_option maxRecDepth 100000 in
theorem HSt.kept {B : Nat} {l : List Hdr} {s : List (List UInt8 × List UInt8)} {st : DSt} {ov : Value} {vs : List GV} {w w' : World} (h : HSt B l s st ov vs w) (hb : Below w.heap.size w w') : HSt B l s st ov vs w' := by
  have hk : Kp (fun _ => False) w w' := Kp.ofBelow hb
  exact ⟨hk.heap h.gblk (fun e => e), hk.own h.own (fun _ _ e => e), h.vlen, fun i x q hx hq => ((h.each i x q hx hq).keep (hk.kept fun y hy => ⟨hy.1, fun e => e⟩)).more fun y hy => ⟨Nat.lt_of_lt_of_le hy.1 hb.size, hy.2⟩, h.known.kept (grownOfBelow hb) (by simp), h.ctx.keep hk (fun y e => e.elim)⟩

set_option maxRecDepth 100000 in
theorem HSt.push {B : Nat} {l : List Hdr} {s : List (List UInt8 × List UInt8)} {st : DSt} {ov : Value} {vs : List GV} {w w1 : World} {x : Goal} {q : GV} {g cap : Nat} (h : HSt B l s st ov vs w)
    (hx : GlIs w (Offb B ov w.heap.size) x q) (hg : w.grownBy w1 ov.ownBlock) (hown : w1.ownsRow (B + 7) 56 3 (.slice (some ⟨g, 0, none⟩) (st.length + 1) cap) (st.length + 1) (flat3 vs ++ [q.1, q.2.1, q.2.2]))
    (hat : ov.ownBlock = some g ∨ g = w.heap.size) : HSt B l s (st ++ [(x, none)]) (.slice (some ⟨g, 0, none⟩) (st.length + 1) cap) (vs ++ [q]) (w1.setCell ⟨B + 3, 0, none⟩ (.slice (some ⟨g, 0, none⟩) (st.length + 1) cap)) ∧
      Kp (MB B ov) w (w1.setCell ⟨B + 3, 0, none⟩ (.slice (some ⟨g, 0, none⟩) (st.length + 1) cap)) := by
  have hK1 : Kp (MB B ov) w w1 := (Kp.refl _ _).grown hg (fun r hr _ => .inr (.inr hr.symm))
  have hK : Kp (MB B ov) w (w1.setCell ⟨B + 3, 0, none⟩ (.slice (some ⟨g, 0, none⟩) (st.length + 1) cap)) := hK1.setCell (fun _ => .inl rfl) _
  have hgl := lt_of_heap h.gblk
  have hgg : some (B + 3) ≠ ov.ownBlock := fun e => by have := (h.own.lt _ e.symm).1; omega
  have hgb := (hown.lt g rfl).1
  refine ⟨⟨setCell_heap ((hg.block _ hgl hgg).trans h.gblk), ?_, by simp [h.vlen], fun i y p hy hp => ?_, ?_, h.ctx.keep hK h.mb⟩, hK⟩
  · rw [List.length_append, flat3_append]
    exact hown.kept grownSet (.inr (by simp [Value.ownBlock]; omega))
  · refine GlIs.more (S := Offb B ov w.heap.size) (GlIs.keep (w := w) ?_ (hK.kept fun b hb => ⟨hb.1, hb.not⟩)) fun b hb => ⟨Nat.lt_of_lt_of_le hb.1 hK.size, hb.2.1, hb.2.2.1, fun e => ?_⟩
    · rcases Nat.lt_trichotomy i st.length with hi | hi | hi
      · rw [List.getElem?_append_left hi] at hy
        rw [List.getElem?_append_left (by rw [h.vlen]; exact hi)] at hp
        exact h.each i y p hy hp
      · subst hi
        have hv := h.vlen
        rw [List.getElem?_append_right (Nat.le_refl _)] at hy
        rw [List.getElem?_append_right (by rw [hv]; exact Nat.le_refl _)] at hp
        simp [hv] at hy hp
        subst hy hp
        exact hx
      · have := (List.getElem?_eq_some_iff.1 hy).1
        simp at this
        omega
    · have e : b = g := Option.some.inj e
      subst e
      rcases hat with e | e
      · exact hb.2.2.2 e.symm
      · have := hb.1; omega
  · refine ((h.known.push x).kept hg (fun e => ?_)).kept grownSet (fun e => ?_)
    · have := (h.own.lt _ e.symm).1; omega
    · have := Option.some.inj e; omega

/-- The law at the store 'known[k] = ok'. -/
theorem HSt.mark {B : Nat} {l : List Hdr} {s : List (List UInt8 × List UInt8)} {st m : DSt} {ov : Value} {vs : List GV} {w w1 : World} {x : Goal} {ok : Bool} {n : Nat} {D : DataW Unit} (h : HSt B l s (st ++ (x, none) :: m) ov vs w)
    (hn : n ≤ decd (st ++ (x, none) :: m)) (hD : ∃ es, D = .map es) (hat : ∀ k : Nat, D.atKey (.int .i64 k) (.lit (.bool false)) = .lit (.bool (knownAt (st ++ (x, none) :: m) k)))
    (hg : w.grownBy w1 (some (B + 4))) (hm : w1.ownsMap Try.prog 3 (plainElem (H := Unit) Try.prog 4) (B + 4) (n + 1) (D.put (.int .i64 (st.length : Nat)) (.lit (.bool ok)))) :
    HSt B l s ((st ++ (x, none) :: m).set st.length (x, some ok)) ov vs w1 ∧ Kp (MB B ov) w w1 := by
  have hK : Kp (MB B ov) w w1 := (Kp.refl _ _).grown hg (fun r hr _ => .inr (.inl (Option.some.inj hr).symm))
  have hl : st.length < (st ++ (x, none) :: m).length := by simp
  refine ⟨⟨(hg.block _ (lt_of_heap h.gblk) (by simp)).trans h.gblk, ?_, ?_, fun i y p hy hp => ?_, ⟨n + 1, _, ?_, hm, fun k => ?_⟩, h.ctx.keep hK h.mb⟩, hK⟩
  · rw [List.length_set]
    refine h.own.kept hg ?_
    by_cases e : ov.ownBlock = none
    · exact .inl e
    · right
      intro e2
      have := (h.own.lt _ e2).1
      omega
  · rw [List.length_set]; exact h.vlen
  · refine GlIs.more (S := Offb B ov w.heap.size) (GlIs.keep (w := w) ?_ (hK.kept fun b hb => ⟨hb.1, hb.not⟩)) fun b hb => ⟨Nat.lt_of_lt_of_le hb.1 hK.size, hb.2⟩
    by_cases hi : i = st.length
    · subst hi
      rw [List.getElem?_set_self hl] at hy
      cases hy
      exact h.each _ (x, none) p (by simp) hp
    · rw [List.getElem?_set_ne (fun e => hi e.symm)] at hy
      exact h.each i y p hy hp
  · rw [decd_mark]; omega
  · rw [known_mark _ _ _ _ _ hl]
    by_cases hk : k = st.length
    · rw [if_pos hk, hk, atKey_put_same hD (by trivial)]
    · rw [if_neg hk, atKey_put_other (fun e => hk (by injection e; omega)), hat]

def HRes (B : Nat) (l : List Hdr) (s : List (List UInt8 × List UInt8)) (r : Bool × DSt) (ov : Value) (w : World) (e : Ending) (w' : World) : Prop :=
  ∃ (ov' : Value) (vs' : List GV), e = .returned (.bool r.1) ∧ HSt B l s r.2 ov' vs' w' ∧ Kp (MB B ov) w w' ∧ ∀ y, ov'.ownBlock = some y → ov.ownBlock = some y ∨ w.heap.size ≤ y
end

section
open Go.RowKit
theorem zeroB (w : World) : (zeroValue 4).run Try.prog w = .ok (.bool false) w := by kernel_rfl

theorem HSt.shape {B : Nat} {l : List Hdr} {s : List (List UInt8 × List UInt8)} {st : DSt} {ov : Value} {vs : List GV} {w : World} (h : HSt B l s st ov vs w) : ∃ (A : Option Addr) (c : Nat), ov = .slice A st.length c ∧ Gls w (Lt w.heap.size) A (st.map (·.1)) vs := by
  have hL : ∀ A c, ov = .slice A st.length c → Gls w (Lt w.heap.size) A (st.map (·.1)) vs := fun A c e => by
    refine ⟨by rw [h.vlen, List.length_map], ?_, fun i g q hg hq => ?_⟩
    · have := h.own
      rw [e] at this
      exact Row.ofOwn this fun g _ _ h2 => h2
    · rw [List.getElem?_map] at hg
      obtain ⟨x, hx, rfl⟩ := Option.map_eq_some_iff.1 hg
      exact (h.each i x q hx hq).more fun b hb => hb.1
  rcases h.own.2 with ⟨e, h0⟩ | ⟨g, c, cur, e, _⟩
  · exact ⟨none, 0, by rw [e, h0], hL none 0 (by rw [e, h0])⟩
  · exact ⟨_, c, e, hL _ c e⟩

def HoldsAt (B : Nat) (l : List Hdr) (s : List (List UInt8 × List UInt8)) (U : List Goal) (n : Nat) : Prop :=
  ∀ (st : DSt) (g : Goal) (q : GV) (ov : Value) (vs : List GV) (w : World), HSt B l s st ov vs w → Inv U st → g ∈ U → U.length ≤ st.length + n → GlIs w (Offb B ov w.heap.size) g q →
    Calls Try.prog 25 #[.agg #[q.1, q.2.1, q.2.2], .pointer (some ⟨B + 3, 0, none⟩), .pointer (some ⟨B + 5, 0, none⟩), .pointer (some ⟨B, 0, none⟩), .pointer (some ⟨B + 1, 0, none⟩), .pointer (some ⟨B + 6, 0, none⟩)] w (HRes B l s (dfs (leadsOf l s) n st g) ov w)

set_option maxHeartbeats 4000000 in
set_option maxRecDepth 100000 in
theorem holds_old (B : Nat) (l : List Hdr) (s : List (List UInt8 × List UInt8)) (U : List Goal) (hU : U.length ≤ 4000000) (n : Nat) (st : DSt) (g : Goal) (q : GV) (ov : Value) (vs : List GV) (w : World) (hS : HSt B l s st ov vs w) (hI : Inv U st) (hg : GlIs w (Offb B ov w.heap.size) g q)
    (hi : 0 ≤ gIdx (st.map (·.1)) g 0) :
    Calls Try.prog 25 #[.agg #[q.1, q.2.1, q.2.2], .pointer (some ⟨B + 3, 0, none⟩), .pointer (some ⟨B + 5, 0, none⟩), .pointer (some ⟨B, 0, none⟩), .pointer (some ⟨B + 1, 0, none⟩), .pointer (some ⟨B + 6, 0, none⟩)] w (HRes B l s (dfs (leadsOf l s) n st g) ov w) := by
  rw [dfs_old hi]
  obtain ⟨j, hj, hjg⟩ := gIdx_some _ _ _ hi
  rw [Nat.zero_add] at hj
  rw [hj, Int.toNat_natCast]
  obtain ⟨A, c, rfl, hL⟩ := hS.shape
  have hle := hI.le
  have hjl : j < st.length := by
    have := (List.getElem?_eq_some_iff.1 hjg).1
    simpa using this
  obtain ⟨q1, q2, q3⟩ := q
  obtain ⟨hg1, hg2⟩ := id hg
  simp only at hg1 hg2 ⊢
  subst hg1
  obtain ⟨nm, a, rfl, rfl⟩ := hg2.shape
  have hb1 : Below w.heap.size w (w.alloc (.cells #[sv g.1, sv nm, .slice a.1 a.2.1 a.2.2] 56)) := (Below.refl _ _).alloc (Nat.le_refl _) _
  have hix := indexFuncG (st.map (·.1)) A c w.heap.size vs g (sv g.1, sv nm, .slice a.1 a.2.1 a.2.2) _ (hL.now (Nat.le_refl _) hb1) (by rw [List.length_map]; omega) ⟨rfl, (hg2.more fun _ hb => hb.1).now (Nat.le_refl _) hb1⟩ (alloc1 _ _)
  rw [List.length_map, hj] at hix
  have hS1 := hS.kept hb1
  have c3 : (w.alloc (.cells #[sv g.1, sv nm, .slice a.1 a.2.1 a.2.2] 56)).cell? ⟨B + 3, 0, none⟩ = some (.slice A st.length c) := by rw [Lib.cell_of_heap hS1.gblk]; rfl
  have HIX := Lib.hid hix
  have HS := Lib.hid hS
  clear hix hS hL hg hg2 hS1 hi hjg
  go_enter Try.func25, Try.ntmps25
  go_wp2_with fail
  refine HIX.out.mono ?_
  rintro e w2 ⟨rfl, hb2⟩
  have hb12 : Below w.heap.size w w2 := hb1.trans (hb2.mono hb1.size)
  have hS2 := HS.out.kept hb12
  have c5 : w2.cell? ⟨B + 5, 0, none⟩ = some (.map (some (B + 4))) := by rw [Lib.cell_of_heap hS2.ctx.mblk]; rfl
  have hlook := hS2.known.look j (by omega) (zeroB _)
  have HS2 := Lib.hid hS2
  clear hS2 c3
  go_wp2
  go_ret
  exact ⟨_, vs, rfl, HS2.out, Kp.ofBelow hb12, fun y hy => .inl hy⟩
end
end Go.Proofs.Ytiijlecidepneaa
