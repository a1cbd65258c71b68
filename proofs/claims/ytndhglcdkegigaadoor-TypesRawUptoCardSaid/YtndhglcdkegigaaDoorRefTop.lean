/-
  A region that draws its order, walked in one order: at each step what yields a value under S is taken first, or the one operation that can come is walked.
  Conditions: the Bool over the region ('mixB'), which the kernel reckons.
  The walk of recompileref09.Match.
  Conditions: the arguments read as types; the pattern has at most 4000000 nodes.
-/
import Derived.Test.YtndhglcdkegigaaDoorSched
import Derived.Test.YtndhglcdkegigaaDoorRefMatch
import Derived.Test.YtndhglcdkegigaaDoorMatchE
namespace Go.Proofs.YtndhglcdkegigaaDoor
section
open Go Go.Sort Go.RowKit
section
variable {P : Program} {ops : Array Oper} {md : Region.Mode} {S : World → Prop} {Q : Exit → Act → World → Prop}

def mixL (md : Region.Mode) (ops : Array Oper) (hd tl : List Nat) : List (Bool × Nat) → Array Bool → Bool
  | [], listed => seqL md ops hd tl listed
  | (true, k) :: r, listed => hd.contains k && (Region.ready md ops listed).contains k && Region.free md ops listed k && mixL md ops hd tl r (listed.setIfInBounds k true)
  | (false, k) :: r, listed => decide (Region.ready md ops listed = [k]) && hd.contains k && mixL md ops hd tl r (listed.setIfInBounds k true)
def mixAt (ops : Array Oper) (l : List (Bool × Nat)) : List (Bool × Oper) := l.filterMap fun x => (ops[x.2]?).map fun o => (x.1, o)
def wpMix (P : Program) (ops : Array Oper) (Q : Exit → Act → World → Prop) (S : World → Prop) (K : Act → World → Prop) : List (Bool × Oper) → Act → World → Prop
  | [], a, w => K a w
  | (true, o) :: r, a, w => ∃ v, YieldsIf P ops S o v a ∧ wpMix P ops Q S K r (a.put o.dst v) w
  | (false, o) :: r, a, w => Region.wanted o (yielded ops a.tmps) = true ∧ Oper.wp P o a w (fun a' w' => S w' ∧ wpMix P ops Q S K r a' w') Q

theorem wpHs_mix {hd tl : List Nat} {K : Act → World → Prop} (hsel : Region.noSelect ops = true) (hQ : ∀ c a d v w, Q (.panic c) (a.put d v) w → Q (.panic c) a w) :
    ∀ (l : List (Bool × Nat)) (listed : Array Bool) (a : Act) (w : World), Heads md ops hd tl listed → S w → mixL md ops hd tl l listed = true → wpMix P ops Q S K (mixAt ops l) a w →
    wpHs P md ops Q S hd (fun listed' a' w' => seqL md ops hd tl listed' = true ∧ K a' w') l.length listed a w
  | [], _, _, _, _, _, hB, h => ⟨hB, h⟩
  | (true, k) :: l, listed, a, w, inv, hS, hB, h => by
    simp only [mixL, Bool.and_eq_true] at hB
    obtain ⟨⟨⟨hk, hr⟩, hf⟩, hB'⟩ := hB
    have hr' : k ∈ Region.ready md ops listed := by simpa using hr
    obtain ⟨o, h0⟩ := ready_lt hr'
    have e : mixAt ops ((true, k) :: l) = (true, o) :: mixAt ops l := by simp [mixAt, h0]
    rw [e] at h
    obtain ⟨v, hy, hK⟩ := h
    exact wpHs_first h0 (Region.noSelect_spec hsel) hQ (by simpa using hk) (fun listed' a' w' hL => seqL_ready hL.1) l.length listed a w inv (Region.free_spec h0 hf) hr' hy hS
      (wpHs_mix hsel hQ l _ _ w (inv.set hr') hS hB' hK)
  | (false, k) :: l, listed, a, w, inv, hS, hB, h => by
    simp only [mixL, Bool.and_eq_true, decide_eq_true_eq] at hB
    obtain ⟨⟨hr, hk⟩, hB⟩ := hB
    refine ⟨fun h1 => (by rw [hr] at h1; cases h1), fun i hi => ?_⟩
    have hi0 := hi
    obtain ⟨o, h0⟩ := ready_lt hi
    rw [hr] at hi
    have hik : i = k := by simpa using hi
    subst hik
    have e : mixAt ops ((false, i) :: l) = (false, o) :: mixAt ops l := by simp [mixAt, h0]
    rw [e] at h
    refine ⟨by simpa using hk, ?_⟩
    have hw : wpOp P ops Q i (fun a' w' => S w' ∧ wpMix P ops Q S K (mixAt ops l) a' w') a w := by
      unfold wpOp
      simp only [h0, h.1, if_true]
      exact .inl h.2
    exact wpOp_mono (fun a' w' h' => ⟨h'.1, wpHs_mix hsel hQ l _ a' w' (inv.set hi0) h'.1 hB h'.2⟩) hw

def mixH (md : Region.Mode) (ops : Array Oper) (l : List (Bool × Nat)) (tl : List Nat) (listed : Array Bool) : Bool :=
  closedB md ops listed && ((List.range ops.size).all fun j => listed.getD j true || (l.map (·.2)).contains j || tl.contains j) && (tl.all fun t => (l.map (·.2)).all fun i => waitsStar md ops ops.size t i) && mixL md ops (l.map (·.2)) tl l listed
def mixB (ops : Array Oper) (l : List (Bool × Nat)) (tl : List Nat) : Bool := Region.noSelect ops && decide (l.length + tl.length = ops.size) && mixH .any ops l tl (Array.replicate ops.size false)

/-- l: one by one, what yields under S (true), or the only one that can come (false), S behind each; tl: what writes, one by one. -/
theorem wp_region_mix {id : Nat} {a : Act} {w : World} {ol : List Oper} (S : World → Prop) (l : List (Bool × Nat)) (tl : List Nat) (hm : P.follows .mixedOrders = true) (hB : mixB ol.toArray l tl = true) (hS : S w.drew)
    (h : wpMix P ol.toArray (NoPanic Q) S (fun a' w' => wpList P ol.toArray (NoPanic Q) (opsAt ol.toArray tl) a' w') (mixAt ol.toArray l) a w.drew) : (Code.region id ol.toArray true).wp P Q a w := by
  refine wp_region_noPanic ?_
  simp only [mixB, mixH, Bool.and_eq_true, decide_eq_true_eq] at hB
  obtain ⟨⟨hsel, hn⟩, ⟨⟨⟨hc, hv⟩, hl⟩, hx⟩⟩ := hB
  refine wp_region_any hm ?_
  have inv : Heads .any ol.toArray (l.map (·.2)) tl (Array.replicate ol.toArray.size false) := ⟨closed_of hc, fun j hj hu => by
    have := List.all_eq_true.1 hv j (List.mem_range.2 hj)
    simp only [hu, Bool.false_or, Bool.or_eq_true, List.contains_iff_mem] at this
    exact this, fun t ht i hi => List.all_eq_true.1 (List.all_eq_true.1 hl t ht) i hi⟩
  have H := wpHs_mix (P := P) (S := S) (Q := NoPanic Q) hsel (fun _ _ _ _ _ h => h) l _ a w.drew inv hS hx h
  have := wpAny_of_wpHs (fun listed' a' w' hL => wpAny_of_seqL tl listed' a' w' hL.1 hL.2) l.length _ a w.drew H
  rw [hn] at this
  exact this

theorem wpMix_load {K : Act → World → Prop} {o : Oper} {r : List (Bool × Oper)} {a : Act} {w : World} (v : Value) (hw : Region.wanted o (yielded ops a.tmps) = true) (hy : ∀ w, S w → (execOp a.eval o).run P w = .ok (.value v) w) (h : wpMix P ops Q S K r (a.put o.dst v) w) : wpMix P ops Q S K ((true, o) :: r) a w :=
  ⟨v, .inl ⟨hw, hy⟩, h⟩
theorem wpMix_skip {K : Act → World → Prop} {o : Oper} {r : List (Bool × Oper)} {a : Act} {w : World} (hw : Region.wanted o (yielded ops a.tmps) = false) (h : wpMix P ops Q S K r (a.put o.dst undef) w) : wpMix P ops Q S K ((true, o) :: r) a w :=
  ⟨undef, .inr ⟨hw, rfl⟩, h⟩
theorem wpMix_keep {K : Act → World → Prop} {o : Oper} {r : List (Bool × Oper)} {a : Act} {w : World} (hw : Region.wanted o (yielded ops a.tmps) = true) (h : Oper.wp P o a w (fun a' w' => S w' ∧ wpMix P ops Q S K r a' w') Q) : wpMix P ops Q S K ((false, o) :: r) a w := ⟨hw, h⟩
theorem wpMix_nil {K : Act → World → Prop} {a : Act} {w : World} (h : K a w) : wpMix P ops Q S K [] a w := h
end
end

section
open Go.RowKit
/-- What Match found, wherever it lies. -/
def MatchYes3 (f : Found) (w : World) (e : Ending) (w' : World) : Prop :=
  ∃ (A A' : Option Addr) (c c' : Nat) (vs : List (Value × Value)), e = .returned (.tuple #[.slice A f.1.length c, .slice A' f.2.length c', .bool true]) ∧ Row w' (Lt w'.heap.size) A (f.1.map sv) ∧ Tys w' (Lt w'.heap.size) A' f.2 vs ∧ Below w.heap.size w w' ∧ f.2.length ≤ c' ∧ c' ≤ maxLen

theorem matchTop3 (p t : Ty) (u v u' v' : Value) (w : World) (hp : TyIs w (Lt w.heap.size) p u v) (ht : TyIs w (Lt w.heap.size) t u' v') (hsz : p.size ≤ 4000000) :
    Calls Tryd.prog 35 #[.agg #[u, v], .agg #[u', v']] w (fun e w' => if (mtch p t ([], [])).1 = true then MatchYes3 (mtch p t ([], [])).2 w e w' else Nope (.tuple #[.slice none 0 0, .slice none 0 0, .bool false]) w e w') :=
  (matchTop2 p t u v u' v' w hp ht hsz).mono fun e w' h => by
    split at h
    · rename_i hm
      rw [if_pos hm]
      obtain ⟨A, A', n, c, n', c', vs, ⟨he, rfl, rfl, hr, htys, hb⟩, h1, h2⟩ := h
      exact ⟨A, A', c, c', vs, he, (hr.more fun y hy => hy.2), (htys.more fun y hy => hy.2), hb, h1, h2⟩
    · rename_i hm
      rw [if_neg hm]
      exact h

set_option maxHeartbeats 2000000 in
set_option maxRecDepth 100000 in
theorem refTop (p t : Ty) (u v u' v' : Value) (w : World) (hp : TyIs w (Lt w.heap.size) p u v) (ht : TyIs w (Lt w.heap.size) t u' v') (hsz : p.size ≤ 4000000) :
    Calls Tryd.prog 36 #[.agg #[u, v], .agg #[u', v']] w (fun e w' => if (mtch p t ([], [])).1 = true then MatchYes3 (mtch p t ([], [])).2 w e w' else Nope (.tuple #[.slice none 0 0, .slice none 0 0, .bool false]) w e w') := by
  obtain ⟨u, v, rfl, rfl⟩ := hp.shape
  obtain ⟨u', v', rfl, rfl⟩ := ht.shape
  have hb2 : Below w.heap.size w ((w.alloc (.cells #[sv u, .slice v.1 v.2.1 v.2.2] 30)).alloc (.cells #[sv u', .slice v'.1 v'.2.1 v'.2.2] 30)) := ((Below.refl _ _).alloc (Nat.le_refl _) _).alloc (by simp) _
  have hma := refMatch_any w.heap.size (Lt w.heap.size) (fun _ h => h) p t ([], []) (.slice none 0 0) (.slice none 0 0) [] _ _ _ _ _ hb2.size (hp.keep (kept_below hb2)) (ht.keep (kept_below hb2)) ⟨World.ownsRow_nil _ _ _ _, World.ownsRow_nil _ _ _ _, rfl, rfl, fun i t p ht => by simp at ht⟩ (by simpa using hsz)
  have HMA := Lib.hid hma
  clear hma hp ht
  obtain ⟨b, f, hr⟩ : ∃ b f, mtch p t ([], []) = (b, f) := ⟨_, _, rfl⟩
  rw [hr]
  have HR := Lib.hid hr
  clear hr
  go_enter Tryd.func36, Tryd.ntmps36
  go_wp2_with fail
  refine HMA.out.mono ?_
  rintro e w1 ⟨A, A', n, c, n', c', rfl, hk, _, hyes⟩
  have hb1 : Below w.heap.size w w1 := by
    refine ⟨hk.os.trans hb2.os, hk.tape.trans hb2.tape, hk.output.trans hb2.output, Nat.le_trans hb2.size hk.size, fun y hy => ?_⟩
    rw [hk.block y (Nat.lt_of_lt_of_le hy hb2.size) (fun e => ?_), hb2.block y hy]
    rcases e with e | e
    · simp [Value.ownBlock] at e
    · simp [Value.ownBlock] at e
  rw [HR.out] at hyes
  rw [HR.out]
  have HY := Lib.hid hyes
  have HB := Lib.hid hb1
  clear hk hyes hb1 hb2
  cases b with
  | true =>
    obtain ⟨vs', hrm⟩ := HY.out rfl
    obtain ⟨A3, c3, e3, h31, h32⟩ := ownShape hrm.nown
    obtain ⟨A4, c4, e4, h41, h42⟩ := ownShape hrm.lown
    cases e3
    cases e4
    have HEND : Hid (MatchYes3 f w (.returned (.tuple #[.slice A f.1.length c, .slice A' f.2.length c', .bool true])) w1) := Lib.hid (by
      refine ⟨A, A', c, c', vs', rfl, ?_, ⟨hrm.vlen, ?_, fun i t p ht hp => ?_⟩, HB.out, h41, h42⟩
      · exact (Row.ofOwn hrm.nown fun g _ h1 h2 => h2 : Row w1 (Lt w1.heap.size) A (f.1.map sv))
      · exact (Row.ofOwn hrm.lown fun g _ h1 h2 => h2 : Row w1 (Lt w1.heap.size) A' (flat2 vs'))
      · exact (hrm.each i t p ht hp).more fun y hy => Nat.lt_of_lt_of_le hy HB.out.size)
    clear hrm
    go_wp2_with fail
    refine bodyPost_ret (v := .tuple #[.slice A f.1.length c, .slice A' f.2.length c', .bool true]) (by simp [results, Tryd.results36, go_sem]) rfl ?_
    exact HEND.out
  | false =>
    go_wp2_with fail
    refine bodyPost_ret (v := .tuple #[.slice none 0 0, .slice none 0 0, .bool false]) (by simp [results, Tryd.results36, go_sem]) rfl ?_
    exact ⟨rfl, HB.out⟩

/-- What either Match returns. -/
def mres (p t : Ty) : Bool × Found := if (mtch p t ([], [])).1 = true then (true, (mtch p t ([], [])).2) else (false, ([], []))
def MRes (r : Bool × Found) (w : World) (e : Ending) (w' : World) : Prop :=
  ∃ (A A' : Option Addr) (c c' : Nat) (vs : List (Value × Value)), e = .returned (.tuple #[.slice A r.2.1.length c, .slice A' r.2.2.length c', .bool r.1]) ∧ Row w' (Lt w'.heap.size) A (r.2.1.map sv) ∧ Tys w' (Lt w'.heap.size) A' r.2.2 vs ∧ Below w.heap.size w w' ∧ r.2.2.length ≤ c' ∧ c' ≤ maxLen
theorem mres_of {p t : Ty} {w : World} {e : Ending} {w' : World} (h : if (mtch p t ([], [])).1 = true then MatchYes3 (mtch p t ([], [])).2 w e w' else Nope (.tuple #[.slice none 0 0, .slice none 0 0, .bool false]) w e w') : MRes (mres p t) w e w' := by
  unfold mres
  split at h
  · rename_i hm
    rw [if_pos hm]
    exact h
  · rename_i hm
    rw [if_neg hm]
    obtain ⟨rfl, hb⟩ := h
    exact ⟨none, none, 0, 0, [], rfl, Or.inl rfl, ⟨rfl, Or.inl rfl, fun i t p ht => by simp at ht⟩, hb, Nat.le_refl _, Nat.zero_le _⟩
theorem match_mres (p t : Ty) (u v u' v' : Value) (w : World) (hp : TyIs w (Lt w.heap.size) p u v) (ht : TyIs w (Lt w.heap.size) t u' v') (hsz : p.size ≤ 4000000) :
    Calls Tryd.prog 35 #[.agg #[u, v], .agg #[u', v']] w (MRes (mres p t) w) := (matchTop3 p t u v u' v' w hp ht hsz).mono fun _ _ h => mres_of h
theorem ref_mres (p t : Ty) (u v u' v' : Value) (w : World) (hp : TyIs w (Lt w.heap.size) p u v) (ht : TyIs w (Lt w.heap.size) t u' v') (hsz : p.size ≤ 4000000) :
    Calls Tryd.prog 36 #[.agg #[u, v], .agg #[u', v']] w (MRes (mres p t) w) := (refTop p t u v u' v' w hp ht hsz).mono fun _ _ h => mres_of h
theorem mres_len {p t : Ty} : (mres p t).2.1.length ≤ p.size ∧ (mres p t).2.2.length ≤ p.size := by
  unfold mres
  split
  · have h := (mtch_len p t ([], []) rfl)
    simp only [List.length_nil] at h
    exact ⟨by dsimp only; omega, by dsimp only; omega⟩
  · simp
end
end Go.Proofs.YtndhglcdkegigaaDoor
