/-
  The walk of the law's signature: a made signature.
  Conditions: the dice lie in memory.
  The walk of the law's signature: a made signature.
  Conditions: the dice lie in memory.
-/
import Derived.Test.YtkggmckfdkpldaaDoorFeG
import Derived.Test.YtkggmckfdkpldaaDoorBgh
namespace Go.Proofs.YtkggmckfdkpldaaDoor
section
open Go Go.Sort Go.RowKit
variable {TA0 : Option Addr} {CQ0 : Nat}

def nmN : List (List UInt8) := [[120], [58, 97, 58, 58, 66], []]
/-- What a made signature keeps to. -/
structure SgOk (x : SgF) : Prop where
  kind : 0 ≤ x.kind ∧ x.kind < 8
  pn : x.params.length ≤ 2
  pl : ∀ p ∈ x.params, p.1.length ≤ 10 ∧ p.2.length ≤ 10
  nn : x.names.length ≤ 3
  nl : ∀ y ∈ x.names, y.length ≤ 10
  an : x.args.length ≤ 3
  al : ∀ t ∈ x.args, DTy 2 t
  res : x.result = zeroT ∨ DTy 2 x.result
  trt : x.trt.length ≤ 10
/-- Before the second types, with them (the row's block), behind the append. -/
inductive Ph where
  | a
  | b (o : Option Nat)
  | c
def GB (rb : Nat) (X : Ph) (u : World) (x : Nat) : Prop := rb < x ∧ x < u.heap.size ∧ X ≠ .b (some x)
def RX (dd rb : Nat) (X : Ph) (u : World) (X' : Ph) (v : World) : Prop :=
  Kp (fun y => y = dd ∨ y = rb ∨ (X' = .c ∧ X = .b (some y))) u v ∧ (X' = X ∨ (X = .a ∧ ∃ o, X' = .b o ∧ ∀ g, o = some g → u.heap.size ≤ g) ∨ X' = .c)
theorem GB.step {dd rb x : Nat} {X X' : Ph} {u v : World} (hdr : dd < rb) (h : RX dd rb X u X' v) (hx : GB rb X u x) : GB rb X' v x := by
  refine ⟨hx.1, Nat.lt_of_lt_of_le hx.2.1 h.1.size, ?_⟩
  rcases h.2 with rfl | ⟨_, o, rfl, ho⟩ | rfl
  · exact hx.2.2
  · intro e
    injection e with e
    have := ho x e
    have := hx.2.1
    omega
  · exact fun e => by cases e
theorem GB.kept {dd rb : Nat} {X X' : Ph} {u v : World} (hdr : dd < rb) (h : RX dd rb X u X' v) : Kept (GB rb X u) u v :=
  h.1.kept fun b hb => ⟨hb.2.1, fun e => by
    rcases e with e | e | e
    · have := hb.1; omega
    · have := hb.1; omega
    · exact hb.2.2 e.2⟩
theorem GB.heap {dd rb b : Nat} {X X' : Ph} {u v : World} {o : Obj} (hdr : dd < rb) (h : RX dd rb X u X' v) (hb : GB rb X u b) (he : u.heap[b]? = some o) : v.heap[b]? = some o :=
  h.1.heap he fun e => by
    rcases e with e | e | e
    · have := hb.1; omega
    · have := hb.1; omega
    · exact hb.2.2 e.2
theorem RX.same {dd rb : Nat} {X : Ph} {u v : World} (h : Kp (fun y => y = dd) u v) : RX dd rb X u X v := ⟨h.more fun _ _ e => .inl e, .inl rfl⟩
theorem RX.refl (dd rb : Nat) (X : Ph) (u : World) : RX dd rb X u X u := ⟨Kp.refl _ _, .inl rfl⟩

def nmC : Array Value := #[sv [120], sv [58, 97, 58, 58, 66], sv []]
def trC : Array Value := #[sv [], sv [97, 58, 58, 83, 104, 111, 119]]
abbrev sgZero : Array Value := #[.int .i64 0, .slice none 0 0, .slice none 0 0, .slice none 0 0, .string ⟨#[]⟩, .slice none 0 0, .string ⟨#[]⟩]
abbrev sgCells (x : SgF) (p : SgP) : Array Value := #[iv x.kind, p.pv, p.nv, p.av, p.u, p.rv, sv x.trt]

def sgPhi (dd rb : Nat) (X : Ph) (i : Nat) (v : Value) (u : World) : Prop := match i with
  | 0 | 2 | 5 | 8 | 10 | 17 => v = .pointer (some ⟨dd, 0, none⟩)
  | 1 => ∃ k : Nat, k < 8 ∧ v = .int .i64 (k : Int)
  | 3 => ∃ (A : Option Addr) (c n : Nat) (ps : List Par), v = .slice A n c ∧ n = ps.length ∧ n ≤ 2 ∧ Row u (GB rb X u) A (flt parC ps) ∧ (∀ p ∈ ps, p.1.length ≤ 10 ∧ p.2.length ≤ 10)
  | 4 => ∃ b : Nat, v = .slice (some ⟨b, 0, none⟩) 3 3 ∧ GB rb X u b ∧ u.heap[b]? = some (.cells nmC 9 (0, 0))
  | 6 => ∃ k : Nat, k < 4 ∧ v = .int .i64 (k : Int)
  | 7 => ∃ (A : Option Addr) (c n : Nat) (ns : List (List UInt8)), v = .slice A n c ∧ n = ns.length ∧ n ≤ 3 ∧ Row u (GB rb X u) A (ns.map sv) ∧ (∀ y ∈ ns, y.length ≤ 10)
  | 9 => ∃ (A : Option Addr) (c n : Nat) (ts : List Ty) (vs : List (Value × Value)), v = .slice A n c ∧ n = ts.length ∧ n ≤ 3 ∧ n ≤ c ∧ c ≤ maxLen ∧ Tys u (GB rb X u) A ts vs ∧ (∀ t ∈ ts, DTy 2 t)
  | 11 => X ≠ .a ∧ ∃ (A : Option Addr) (c n : Nat) (ts : List Ty) (vs : List (Value × Value)), v = .slice A n c ∧ n = ts.length ∧ n ≤ 3 ∧ (∀ t ∈ ts, DTy 2 t) ∧ (X ≠ .c → X = .b v.ownBlock ∧ TsAt (rb + 1) ts v vs u)
  | 12 => v = .agg #[sv [], .slice none 0 0]
  | 13 => ∃ b : Nat, v = .slice (some ⟨b, 0, none⟩) 1 1 ∧ GB rb X u b ∧ u.heap[b]? = some (.cells #[sv [], .slice none 0 0] 31 (0, 0))
  | 14 => X = .c ∧ ∃ (g m c : Nat) (t : Ty) (y z : Value), v = .slice (some ⟨g, 0, none⟩) m c ∧ 1 ≤ m ∧ GB rb X u g ∧ u.cell? ⟨g, 0, none⟩ = some y ∧ u.cell? ⟨g, 1, none⟩ = some z ∧ TyIs u (GB rb X u) t y z ∧ (t = zeroT ∨ DTy 2 t)
  | 15 => X = .c ∧ ∃ (g : Nat) (t : Ty) (y z : Value), v = .pointer (some ⟨g, 0, none⟩) ∧ GB rb X u g ∧ u.cell? ⟨g, 0, none⟩ = some y ∧ u.cell? ⟨g, 1, none⟩ = some z ∧ TyIs u (GB rb X u) t y z ∧ (t = zeroT ∨ DTy 2 t)
  | 16 => ∃ (t : Ty) (y z : Value), v = .agg #[y, z] ∧ TyIs u (GB rb X u) t y z ∧ (t = zeroT ∨ DTy 2 t)
  | 18 => ∃ b : Nat, v = .slice (some ⟨b, 0, none⟩) 2 2 ∧ GB rb X u b ∧ u.heap[b]? = some (.cells trC 9 (0, 0))
  | 19 => ∃ y : List UInt8, v = sv y ∧ y.length ≤ 10
  | 20 => ∃ (x : SgF) (p : SgP), v = sgV x p ∧ SgPs u (GB rb X u) x p ∧ SgOk x
  | _ => True

theorem sgPhi_step {dd rb : Nat} (hdr : dd < rb) (X : Ph) (i : Nat) (v : Value) (u : World) (X' : Ph) (u' : World) (h : sgPhi dd rb X i v u) (hR : RX dd rb X u X' u') : sgPhi dd rb X' i v u' := by
  have hk := GB.kept hdr hR
  have hs : ∀ x, GB rb X u x → GB rb X' u' x := fun x hx => GB.step hdr hR hx
  have hh : ∀ b o, GB rb X u b → u.heap[b]? = some o → u'.heap[b]? = some o := fun b o hb he => GB.heap hdr hR hb he
  unfold sgPhi at h ⊢
  split at h
  · exact h
  · exact h
  · exact h
  · exact h
  · exact h
  · exact h
  · exact h
  · obtain ⟨A, c, n, ps, h1, h2, h3, h4, h5⟩ := h
    exact ⟨A, c, n, ps, h1, h2, h3, (h4.keep hk).more hs, h5⟩
  · obtain ⟨b, h1, h2, h3⟩ := h
    exact ⟨b, h1, hs _ h2, hh _ _ h2 h3⟩
  · exact h
  · obtain ⟨A, c, n, ps, h1, h2, h3, h4, h5⟩ := h
    exact ⟨A, c, n, ps, h1, h2, h3, (h4.keep hk).more hs, h5⟩
  · obtain ⟨A, c, n, ts, vs, h1, h2, h3, h4, h5, h6, h7⟩ := h
    exact ⟨A, c, n, ts, vs, h1, h2, h3, h4, h5, (h6.keep hk).more hs, h7⟩
  · obtain ⟨ha, A, c, n, ts, vs, h1, h2, h3, h4, h5⟩ := h
    rcases hR.2 with rfl | ⟨e, _⟩ | rfl
    · refine ⟨ha, A, c, n, ts, vs, h1, h2, h3, h4, fun hc => ?_⟩
      obtain ⟨hb, ht⟩ := h5 hc
      refine ⟨hb, ht.keep hR.1 fun y hy hlt e => ?_⟩
      rcases e with e | e | e
      · omega
      · omega
      · exact hc e.1
    · exact absurd e ha
    · exact ⟨(fun e => by cases e), A, c, n, ts, vs, h1, h2, h3, h4, fun e => absurd rfl e⟩
  · exact h
  · obtain ⟨b, h1, h2, h3⟩ := h
    exact ⟨b, h1, hs _ h2, hh _ _ h2 h3⟩
  · obtain ⟨hc, g, m, c, t, y, z, h1, h2, h3, h4, h5, h6, h7⟩ := h
    refine ⟨?_, g, m, c, t, y, z, h1, h2, hs _ h3, (hk ⟨g, 0, none⟩ h3).trans h4, (hk ⟨g, 1, none⟩ h3).trans h5, (h6.keep hk).more hs, h7⟩
    subst hc
    rcases hR.2 with e | ⟨e, _⟩ | e
    · exact e
    · cases e
    · exact e
  · obtain ⟨hc, g, t, y, z, h1, h3, h4, h5, h6, h7⟩ := h
    refine ⟨?_, g, t, y, z, h1, hs _ h3, (hk ⟨g, 0, none⟩ h3).trans h4, (hk ⟨g, 1, none⟩ h3).trans h5, (h6.keep hk).more hs, h7⟩
    subst hc
    rcases hR.2 with e | ⟨e, _⟩ | e
    · exact e
    · cases e
    · exact e
  · obtain ⟨t, y, z, h1, h6, h7⟩ := h
    exact ⟨t, y, z, h1, (h6.keep hk).more hs, h7⟩
  · obtain ⟨b, h1, h2, h3⟩ := h
    exact ⟨b, h1, hs _ h2, hh _ _ h2 h3⟩
  · exact h
  · obtain ⟨x, p, h1, h2, h3⟩ := h
    exact ⟨x, p, h1, (h2.keep hk).more hs, h3⟩
  · trivial

structure SgS (TA0 : Option Addr) (CQ0 : Nat) (w : World) (dd rb : Nat) (xs : List Int) (X : Ph) (D : Nat → Bool) (u : World) : Prop where
  dice : DiceOf TA0 CQ0 u dd xs
  kp : Kp (fun y => y = dd) w u
  low : rb < u.heap.size
  zero : D 21 = false → u.heap[rb]? = some (.cells sgZero 33 (0, 0))
  good : D 21 = true → ∃ (x : SgF) (p : SgP), u.heap[rb]? = some (.cells (sgCells x p) 33 (0, 0)) ∧ SgPs u (GB rb X u) x p ∧ SgOk x
  ph0 : D 11 = false → X = .a
  ph2 : D 14 = false → X ≠ .c
  own : ∀ g, X = .b (some g) → g < u.heap.size
theorem SgS.step {w : World} {dd rb : Nat} {xs : List Int} {X : Ph} {D : Nat → Bool} {u v : World} (h : SgS TA0 CQ0 w dd rb xs X D u) (hdr : dd < rb) (hwr : w.heap.size ≤ rb) {X' : Ph} {i : Nat} (hR : RX dd rb X u X' v) (hd : DiceOf TA0 CQ0 v dd xs) (hrb : v.heap[rb]? = u.heap[rb]?) (hp : Kp (fun y => y = dd) w v) (h21 : i ≠ 21) (h0 : updD D i 11 = false → X' = .a) (h2 : updD D i 14 = false → X' ≠ .c) (ho : ∀ g, X' = .b (some g) → g < v.heap.size) : SgS TA0 CQ0 w dd rb xs X' (updD D i) v := by
  have e : updD D i 21 = D 21 := updD_ne _ (Ne.symm h21)
  refine ⟨hd, hp, Nat.lt_of_lt_of_le h.low hR.1.size, fun hD => ?_, fun hD => ?_, h0, h2, ho⟩
  · rw [hrb]; exact h.zero (by rw [← e]; exact hD)
  · obtain ⟨x, p, h1, h3, h4⟩ := h.good (by rw [← e]; exact hD)
    exact ⟨x, p, by rw [hrb]; exact h1, (h3.keep (GB.kept hdr hR)).more fun y hy => GB.step hdr hR hy, h4⟩
/-- A step that throws dice or makes new blocks. -/
theorem SgS.same {w : World} {dd rb : Nat} {xs : List Int} {X : Ph} {D : Nat → Bool} {u v : World} (h : SgS TA0 CQ0 w dd rb xs X D u) (hdr : dd < rb) (hwr : w.heap.size ≤ rb) (i : Nat) (hk : Kp (fun y => y = dd) u v) (hd : DiceOf TA0 CQ0 v dd xs) (h21 : i ≠ 21) (h11 : i ≠ 11) (h14 : i ≠ 14) : SgS TA0 CQ0 w dd rb xs X (updD D i) v :=
  h.step hdr hwr (RX.same hk) hd (hk.block rb h.low (by omega)) (h.kp.one hk) h21 (fun e => h.ph0 (by rw [← e, updD_ne _ (Ne.symm h11)])) (fun e => h.ph2 (by rw [← e, updD_ne _ (Ne.symm h14)])) (fun g e => Nat.lt_of_lt_of_le (h.own g e) hk.size)
theorem SgS.still {w : World} {dd rb : Nat} {xs : List Int} {X : Ph} {D : Nat → Bool} {u : World} (h : SgS TA0 CQ0 w dd rb xs X D u) (hdr : dd < rb) (hwr : w.heap.size ≤ rb) (i : Nat) (h21 : i ≠ 21) (h11 : i ≠ 11) (h14 : i ≠ 14) : SgS TA0 CQ0 w dd rb xs X (updD D i) u := h.same hdr hwr i (Kp.refl _ _) h.dice h21 h11 h14
theorem SgS.new {w : World} {dd rb : Nat} {xs : List Int} {X : Ph} {D : Nat → Bool} {u : World} (h : SgS TA0 CQ0 w dd rb xs X D u) (hdr : dd < rb) (hwr : w.heap.size ≤ rb) (i : Nat) (o : Obj) (h21 : i ≠ 21) (h11 : i ≠ 11) (h14 : i ≠ 14) : SgS TA0 CQ0 w dd rb xs X (updD D i) (u.alloc o) := h.same hdr hwr i ((Kp.refl _ _).alloc _) (h.dice.below ((Below.refl _ _).alloc (Nat.le_refl _) _)) h21 h11 h14
/-- A block that has just been made is good, if the state does not speak of it. -/
theorem SgS.fresh {w : World} {dd rb : Nat} {xs : List Int} {X : Ph} {D : Nat → Bool} {u : World} (h : SgS TA0 CQ0 w dd rb xs X D u) (o : Obj) : GB rb X (u.alloc o) u.heap.size := ⟨h.low, by simp, fun e => by have := h.own _ e; omega⟩

def SigRes (TA0 : Option Addr) (CQ0 : Nat) (dd : Nat) (xs : List Int) (w : World) (e : Ending) (w' : World) : Prop :=
  ∃ (x : SgF) (p : SgP), e = .returned (sgV x p) ∧ SgPs w' (Fr w.heap.size w'.heap.size) x p ∧ SgOk x ∧ DiceOf TA0 CQ0 w' dd xs ∧ Kp (fun y => y = dd) w w'
end

section
open Go Go.Sort Go.RowKit
variable {TA0 : Option Addr} {CQ0 : Nat}

theorem evalT {a : Act} {t : Tmp} {v : Value} (h : a.tmps[t]? = some v) : a.eval (.tmp t) = v := by
  simp [Act.eval, Array.getD_eq_getD_getElem?, h]

set_option maxHeartbeats 1600000 in
set_option maxRecDepth 100000 in
theorem signature_any (dd : Nat) (xs : List Int) (w : World) (hd : DiceOf TA0 CQ0 w dd xs) :
    Calls Tryd.prog 8 #[.pointer (some ⟨dd, 0, none⟩)] w (SigRes TA0 CQ0 dd xs w) := by
  obtain ⟨i0, hi, hz0, hz1, hz2⟩ := info_parts infoT
  obtain ⟨rb, hrb⟩ : ∃ rb, rb = w.heap.size := ⟨_, rfl⟩
  obtain ⟨w1, hw1⟩ : ∃ w1, w1 = w.alloc (.cells sgZero 33) := ⟨_, rfl⟩
  have HDR : dd < rb := by rw [hrb]; exact hd.lt
  have HWR : w.heap.size ≤ rb := Nat.le_of_eq hrb.symm
  have hS0 : SgS TA0 CQ0 w dd rb xs .a (fun _ => false) w1.drew := by
    have hb : Below w.heap.size w w1.drew := by rw [hw1]; exact ((Below.refl _ _).alloc (Nat.le_refl _) _).drew
    refine ⟨hd.below hb, Kp.ofBelow hb, by rw [hw1, hrb]; simp [World.drew], fun _ => by rw [hw1, hrb]; exact alloc1 w _, (fun e => by cases e), fun _ => rfl, (fun _ e => by cases e), (fun g e => by cases e)⟩
  have HS0 := Lib.hid hS0
  clear hS0 hd
  go_enter Tryd.func8, Tryd.ntmps8
  go_wp2_with fail
  rw [← hw1, ← hrb]
  clear hw1
  refine wp_region_gh .a (SgS TA0 CQ0 w dd rb xs) (RX dd rb) (sgPhi dd rb) [(0, 3), (1, 4), (2, 5), (3, 6), (4, 7), (5, 8), (6, 9), (7, 10), (8, 11), (9, 12), (10, 13), (11, 14), (12, 15), (13, 16), (14, 17), (15, 18), (16, 19), (17, 20), (18, 21), (19, 22), (20, 23)] [21] (by kernel_rfl) (by kernel_rfl) (sgPhi_step HDR) HS0.out ?go
  case go =>
  clear HS0
  refine ⟨?sz, ?op, ?st, ?fin⟩
  case sz =>
    intro x hx
    simp only [List.mem_cons, List.not_mem_nil, or_false] at hx
    rcases hx with rfl | rfl | rfl | rfl | rfl | rfl | rfl | rfl | rfl | rfl | rfl | rfl | rfl | rfl | rfl | rfl | rfl | rfl | rfl | rfl | rfl <;> simp
  case op =>
    intro X D x hx hD
    simp only [List.mem_cons, List.not_mem_nil, or_false] at hx
    rcases hx with rfl | rfl | rfl | rfl | rfl | rfl | rfl | rfl | rfl | rfl | rfl | rfl | rfl | rfl | rfl | rfl | rfl | rfl | rfl | rfl | rfl
    · intro a' u K hI hK
      have e0 := hI.old 0 _ rfl (by decide)
      have hS := hI.hold
      clear hI
      refine wpOp_go rfl rfl ?_
      go_simp
      exact hK _ _ X (RX.refl _ _ _ _) (hS.still HDR HWR 0 (by decide) (by decide) (by decide)) rfl
    · intro a' u K hI hK
      obtain ⟨v0, e1, hv⟩ := hI.new (0, 3) (by decide) (by kernel_rfl)
      obtain rfl : v0 = .pointer (some ⟨dd, 0, none⟩) := hv
      have hS := hI.hold
      clear hI
      refine wpOp_go rfl rfl ?_
      go_simp
      refine (nextc_any 8 dd xs u (by decide) (by decide) hS.dice).mono ?_
      rintro e u1 ⟨k, hk, rfl, hD1, hK1⟩
      exact hK _ _ X (RX.same hK1) (hS.same HDR HWR 1 hK1 hD1 (by decide) (by decide) (by decide)) ⟨k, hk, rfl⟩
    · intro a' u K hI hK
      have e0 := hI.old 0 _ rfl (by decide)
      have hS := hI.hold
      clear hI
      refine wpOp_go rfl rfl ?_
      go_simp
      exact hK _ _ X (RX.refl _ _ _ _) (hS.still HDR HWR 2 (by decide) (by decide) (by decide)) rfl
    · intro a' u K hI hK
      obtain ⟨v0, e1, hv⟩ := hI.new (2, 5) (by decide) (by kernel_rfl)
      obtain rfl : v0 = .pointer (some ⟨dd, 0, none⟩) := hv
      have hS := hI.hold
      clear hI
      refine wpOp_go rfl rfl ?_
      go_simp
      refine (params_any dd xs u hS.dice).mono ?_
      rintro e u1 ⟨A, c, n, ps, rfl, hn, hn2, hown, hps, hD1, hK1⟩
      refine hK _ _ X (RX.same hK1) (hS.same HDR HWR 3 hK1 hD1 (by decide) (by decide) (by decide)) ⟨A, c, n, ps, rfl, hn, hn2, Row.ofOwn hown fun g _ h3 h4 => ⟨Nat.lt_of_lt_of_le hS.low h3, h4, fun e => ?_⟩, hps⟩
      have := hS.own _ e
      omega
    · intro a' u K hI hK
      have hS := hI.hold
      clear hI
      refine wpOp_go rfl rfl ?_
      go_simp
      exact hK _ _ X (RX.same ((Kp.refl _ _).alloc _)) (hS.new HDR HWR 4 _ (by decide) (by decide) (by decide)) ⟨u.heap.size, rfl, hS.fresh _, alloc1 _ _⟩
    · intro a' u K hI hK
      have e0 := hI.old 0 _ rfl (by decide)
      have hS := hI.hold
      clear hI
      refine wpOp_go rfl rfl ?_
      go_simp
      exact hK _ _ X (RX.refl _ _ _ _) (hS.still HDR HWR 5 (by decide) (by decide) (by decide)) rfl
    · intro a' u K hI hK
      obtain ⟨v0, e1, hv⟩ := hI.new (5, 8) (by decide) (by kernel_rfl)
      obtain rfl : v0 = .pointer (some ⟨dd, 0, none⟩) := hv
      have hS := hI.hold
      clear hI
      refine wpOp_go rfl rfl ?_
      go_simp
      refine (nextc_any 4 dd xs u (by decide) (by decide) hS.dice).mono ?_
      rintro e u1 ⟨k, hk, rfl, hD1, hK1⟩
      exact hK _ _ X (RX.same hK1) (hS.same HDR HWR 6 hK1 hD1 (by decide) (by decide) (by decide)) ⟨k, hk, rfl⟩
    · intro a' u K hI hK
      obtain ⟨v0, e1, b, rfl, hgb, hbh⟩ := hI.new (4, 7) (by decide) (by kernel_rfl)
      obtain ⟨v1, e2, k, hk, rfl⟩ := hI.new (6, 9) (by decide) (by kernel_rfl)
      have hS := hI.hold
      clear hI
      have hk0 : (0 : Int) ≤ (k : Int) ∧ (k : Int) ≤ 3 := ⟨by omega, by omega⟩
      refine wpOp_go rfl rfl ?_
      go_simp
      refine hK _ _ X (RX.refl _ _ _ _) (hS.still HDR HWR 7 (by decide) (by decide) (by decide)) ⟨some ⟨b, 0, none⟩, 3, k, nmN.take k, rfl, by rw [List.length_take]; show k = min k 3; omega, by omega, ?_, fun y hy => ?_⟩
      · have hr : Row u (GB rb X u) (some ⟨b, 0, none⟩) (nmN.map sv) := row_heap hbh rfl hgb
        rw [List.map_take]
        exact hr.front k
      · have : ∀ y ∈ nmN, y.length ≤ 10 := by decide
        exact this y (List.mem_of_mem_take hy)
    · intro a' u K hI hK
      have e0 := hI.old 0 _ rfl (by decide)
      have hS := hI.hold
      clear hI
      refine wpOp_go rfl rfl ?_
      go_simp
      exact hK _ _ X (RX.refl _ _ _ _) (hS.still HDR HWR 8 (by decide) (by decide) (by decide)) rfl
    · intro a' u K hI hK
      obtain ⟨v0, e1, hv⟩ := hI.new (8, 11) (by decide) (by kernel_rfl)
      obtain rfl : v0 = .pointer (some ⟨dd, 0, none⟩) := hv
      have hS := hI.hold
      clear hI
      refine wpOp_go rfl rfl ?_
      go_simp
      refine (types_any dd xs u hS.dice).mono ?_
      rintro e u1 ⟨A, c, n, ts, vs, rfl, hn, hn3, hts, hty, hD1, hK1⟩
      subst hn
      have hle := own_le hts.own
      refine hK _ _ X (RX.same hK1) (hS.same HDR HWR 9 hK1 hD1 (by decide) (by decide) (by decide)) ⟨A, c, _, ts, vs, rfl, rfl, hn3, hle.1, hle.2, ⟨hts.len, Row.ofOwn hts.own fun g _ h3 h4 => ⟨Nat.lt_of_lt_of_le hS.low h3, h4, fun e => ?_⟩, fun i t p ht hp => (hts.each i t p ht hp).more fun y hy => ⟨Nat.lt_of_lt_of_le hS.low hy.1, hy.2.1, fun e => ?_⟩⟩, hty⟩
      · have := hS.own _ e
        omega
      · have := hS.own _ e
        have := hy.1
        omega
    · intro a' u K hI hK
      have e0 := hI.old 0 _ rfl (by decide)
      have hS := hI.hold
      clear hI
      refine wpOp_go rfl rfl ?_
      go_simp
      exact hK _ _ X (RX.refl _ _ _ _) (hS.still HDR HWR 10 (by decide) (by decide) (by decide)) rfl
    · intro a' u K hI hK
      obtain ⟨v0, e1, hv⟩ := hI.new (10, 13) (by decide) (by kernel_rfl)
      obtain rfl : v0 = .pointer (some ⟨dd, 0, none⟩) := hv
      have hS := hI.hold
      clear hI
      obtain rfl : X = .a := hS.ph0 hD
      refine wpOp_go rfl rfl ?_
      go_simp
      refine (types_any dd xs u hS.dice).mono ?_
      rintro e u1 ⟨A, c, n, ts, vs, rfl, hn, hn3, hts, hty, hD1, hK1⟩
      subst hn
      obtain ⟨n, hn⟩ : ∃ n, n = ts.length := ⟨_, rfl⟩
      rw [← hn] at hn3 hts ⊢
      have hown : ∀ g, (Value.slice A n c).ownBlock = some g → u.heap.size ≤ g ∧ g < u1.heap.size := hts.own.lt
      have hlow := hS.low
      refine hK _ _ (.b (Value.slice A n c).ownBlock) ⟨hK1.more fun _ _ e => .inl e, .inr (.inl ⟨rfl, _, rfl, fun g hg => (hown g hg).1⟩)⟩ (hS.step HDR HWR ⟨hK1.more fun _ _ e => .inl e, .inr (.inl ⟨rfl, _, rfl, fun g hg => (hown g hg).1⟩)⟩ hD1 (hK1.block rb hS.low (by omega)) (hS.kp.one hK1) (by decide) (fun e => by rw [updD_self] at e; cases e) (fun _ e => by cases e) (fun g hg => (hown g (Ph.b.inj hg)).2)) ⟨(fun e => by cases e), A, c, n, ts, vs, rfl, hn, hn3, hty, fun _ => ⟨rfl, ownMono hts.own hlow, hts.len, fun i t p ht hp => (hts.each i t p ht hp).more fun y hy => ⟨Nat.le_trans hlow hy.1, hy.2⟩⟩⟩
    · intro a' u K hI hK
      have hS := hI.hold
      clear hI
      refine wpOp_go rfl rfl ?_
      go_simp
      exact hK _ _ X (RX.refl _ _ _ _) (hS.still HDR HWR 12 (by decide) (by decide) (by decide)) rfl
    · intro a' u K hI hK
      obtain ⟨v0, e1, hv⟩ := hI.new (12, 15) (by decide) (by kernel_rfl)
      obtain rfl : v0 = .agg #[sv [], .slice none 0 0] := hv
      have hS := hI.hold
      clear hI
      refine wpOp_go rfl rfl ?_
      go_simp
      exact hK _ _ X (RX.same ((Kp.refl _ _).alloc _)) (hS.new HDR HWR 13 _ (by decide) (by decide) (by decide)) ⟨u.heap.size, rfl, hS.fresh _, alloc1 _ _⟩
    · intro a' u K hI hK
      obtain ⟨v0, e1, ha, A, c, n, ts, vs, rfl, hn, hn3, hty, hlive⟩ := hI.new (11, 14) (by decide) (by kernel_rfl)
      obtain ⟨v1, e2, b, rfl, hgb, hbh⟩ := hI.new (13, 16) (by decide) (by kernel_rfl)
      have hS := hI.hold
      clear hI
      refine wpOp_go rfl rfl ?_
      obtain ⟨hX, hts⟩ := hlive (hS.ph2 hD)
      refine wp_append_lies _ (.tmp 14) (.tmp 16) 29 rfl (rb + 1) 31 i0 _ 2 40 Tryd.underlying29 hi hz0 hz1 hz2 rfl (by omega) (.slice A n c) n (flat2 vs) (evalT e1) (by have := hts.own; rw [← hn] at this; exact this) ⟨b, 0, none⟩ 1 1 [sv [], .slice none 0 0] (evalT e2) rfl (World.news_of_block (cs := #[sv [], .slice none 0 0]) hbh) ?c2 (by omega) ?c3 ?c4 hS.low _ rfl ?_
      case c2 => simp [Value.oneCell']
      case c3 => unfold maxLen; omega
      case c4 => omega
      intro g cap u1 hown1 hgrow hat hlt1
      have hgl := hown1.lt g rfl
      have hlow := hS.low
      have hob : ∀ r, (Value.slice A n c).ownBlock = some r → rb < r := fun r hr => (hts.own.lt r hr).1
      have hKp : Kp (fun y => some y = (Value.slice A n c).ownBlock) u u1 := (Kp.refl _ u).grown hgrow fun r hr _ => hr.symm
      have hRX : RX dd rb X u .c u1 := ⟨hKp.more fun x _ e => .inr (.inr ⟨rfl, by rw [hX, e]⟩), .inr (.inr rfl)⟩
      have hkeep : Kept (fun x => rb + 1 ≤ x ∧ x < u.heap.size ∧ some x ≠ (Value.slice A n c).ownBlock) u u1 := keptGrown hgrow fun x hx => ⟨hx.2.1, hx.2.2⟩
      have hgood : ∀ x, (rb + 1 ≤ x ∧ x < u.heap.size ∧ some x ≠ (Value.slice A n c).ownBlock) → GB rb .c u1 x := fun x hx => ⟨hx.1, Nat.lt_of_lt_of_le hx.2.1 hgrow.size, fun e => by cases e⟩
      have hkd : Kp (fun y => y = dd) w u1 := hS.kp.trans hKp fun x hx hM => by have := hob x hM.symm; omega
      refine hK _ _ .c hRX (hS.step HDR HWR hRX (hS.dice.keep hKp fun y hy => by have := hob y hy.symm; omega) (hKp.block rb hlow fun e => by have := hob rb e.symm; omega) hkd (by decide) (fun e => absurd (hS.ph0 (by rw [← e, updD_ne _ (by decide)])) ha) (fun e => by rw [updD_self] at e; cases e) (fun _ e => by cases e)) ?_
      have hel : ∃ (t : Ty) (y z : Value), (flat2 vs ++ [sv [], .slice none 0 0])[0]? = some y ∧ (flat2 vs ++ [sv [], .slice none 0 0])[1]? = some z ∧ TyIs u1 (GB rb .c u1) t y z ∧ (t = zeroT ∨ DTy 2 t) := by
        have hlen := hts.len
        have hea := hts.each
        cases ts with
        | nil =>
          obtain rfl : vs = [] := List.length_eq_zero_iff.1 hlen
          exact ⟨zeroT, _, _, rfl, rfl, TyIs.zero _ _, .inl rfl⟩
        | cons t r =>
          obtain ⟨p, q, rfl⟩ : ∃ p q, vs = p :: q := by
            cases vs with
            | nil => cases hlen
            | cons p q => exact ⟨p, q, rfl⟩
          exact ⟨t, p.1, p.2, rfl, rfl, ((hea 0 t p rfl rfl).keep hkeep).more hgood, .inr (hty t (by simp))⟩
      obtain ⟨t, y, z, hy, hz, hT, hok⟩ := hel
      refine ⟨rfl, g, n + 1, cap, t, y, z, rfl, by omega, ⟨hgl.1, hgl.2, fun e => by cases e⟩, ?_, ?_, hT, hok⟩
      · exact (hown1.cellAt 0 (by omega)).trans hy
      · exact (hown1.cellAt 1 (by omega)).trans hz
    · intro a' u K hI hK
      obtain ⟨v0, e1, hc, g, m, c, t, y, z, rfl, hm, h3, h4, h5, h6, h7⟩ := hI.new (14, 17) (by decide) (by kernel_rfl)
      have hS := hI.hold
      clear hI
      have hm1 : 0 < m := hm
      refine wpOp_go rfl rfl ?_
      go_simp
      exact hK _ _ X (RX.refl _ _ _ _) (hS.still HDR HWR 15 (by decide) (by decide) (by decide)) ⟨hc, g, t, y, z, rfl, h3, h4, h5, h6, h7⟩
    · intro a' u K hI hK
      obtain ⟨v0, e1, hc, g, t, y, z, rfl, h3, h4, h5, h6, h7⟩ := hI.new (15, 18) (by decide) (by kernel_rfl)
      have hS := hI.hold
      clear hI
      refine wpOp_go rfl rfl ?_
      go_simp
      exact hK _ _ X (RX.refl _ _ _ _) (hS.still HDR HWR 16 (by decide) (by decide) (by decide)) ⟨t, y, z, rfl, h6, h7⟩
    · intro a' u K hI hK
      have e0 := hI.old 0 _ rfl (by decide)
      have hS := hI.hold
      clear hI
      refine wpOp_go rfl rfl ?_
      go_simp
      exact hK _ _ X (RX.refl _ _ _ _) (hS.still HDR HWR 17 (by decide) (by decide) (by decide)) rfl
    · intro a' u K hI hK
      have hS := hI.hold
      clear hI
      refine wpOp_go rfl rfl ?_
      go_simp
      exact hK _ _ X (RX.same ((Kp.refl _ _).alloc _)) (hS.new HDR HWR 18 _ (by decide) (by decide) (by decide)) ⟨u.heap.size, rfl, hS.fresh _, alloc1 _ _⟩
    · intro a' u K hI hK
      obtain ⟨v0, e1, hv⟩ := hI.new (17, 20) (by decide) (by kernel_rfl)
      obtain rfl : v0 = .pointer (some ⟨dd, 0, none⟩) := hv
      obtain ⟨v1, e2, b, rfl, hgb, hbh⟩ := hI.new (18, 21) (by decide) (by kernel_rfl)
      have hS := hI.hold
      clear hI
      refine wpOp_go rfl rfl ?_
      go_simp
      refine (ofc_any trN (some ⟨b, 0, none⟩) 2 dd xs u (by decide) (by decide) hS.dice (row_heap hbh rfl ⟨hgb.2.1, by have := hgb.1; omega⟩)).mono ?_
      rintro e u1 ⟨y, hy, rfl, hD1, hK1⟩
      exact hK _ _ X (RX.same hK1) (hS.same HDR HWR 19 hK1 hD1 (by decide) (by decide) (by decide)) ⟨y, rfl, trN_le hy⟩
    · intro a' u K hI hK
      obtain ⟨v1, e1, k1, hk1, rfl⟩ := hI.new (1, 4) (by decide) (by kernel_rfl)
      obtain ⟨v3, e3, PA, pc, pn, ps, rfl, p1, p2, p3, p4⟩ := hI.new (3, 6) (by decide) (by kernel_rfl)
      obtain ⟨v7, e7, NA, nc, nn, ns, rfl, n1, n2, n3, n4⟩ := hI.new (7, 10) (by decide) (by kernel_rfl)
      obtain ⟨v9, e9, TA, tc, tn, ts, vs, rfl, t1, t2, t3, t4, t5, t6⟩ := hI.new (9, 12) (by decide) (by kernel_rfl)
      obtain ⟨v16, e16, t, y, z, rfl, y1, y2⟩ := hI.new (16, 19) (by decide) (by kernel_rfl)
      obtain ⟨v19, e19, q, rfl, q1⟩ := hI.new (19, 22) (by decide) (by kernel_rfl)
      subst p1 n1 t1
      have hS := hI.hold
      clear hI
      refine wpOp_go rfl rfl ?_
      go_simp
      refine hK _ _ X (RX.refl _ _ _ _) (hS.still HDR HWR 20 (by decide) (by decide) (by decide)) ⟨⟨k1, ps, ns, ts, t, q⟩, ⟨.slice PA ps.length pc, .slice NA ns.length nc, .slice TA ts.length tc, y, z⟩, rfl, ⟨⟨PA, pc, rfl, p3⟩, ⟨NA, nc, rfl, n3⟩, ⟨TA, tc, vs, rfl, t3, t4, t5⟩, y1⟩, ⟨⟨by show (0 : Int) ≤ (k1 : Int); omega, by show (k1 : Int) < 8; omega⟩, p2, p4, n2, n4, t2, t6, y2, q1⟩⟩
  case st =>
    intro X D i hi hD a' u K hI hK
    obtain rfl : i = 21 := by simpa using hi
    obtain ⟨v0, e1, x, p, rfl, hps, hok⟩ := hI.new (20, 23) (by decide) (by kernel_rfl)
    have e0 : a'.tmps[2]? = some (.pointer (some ⟨rb, 0, none⟩)) := hI.old 2 _ rfl (by decide)
    have hS := hI.hold
    clear hI
    have hh := hS.zero hD
    have hlow := hS.low
    rw [hrb] at hh
    have z0 : u.cell? ⟨w.heap.size, 0, none⟩ = some (.int .i64 0) := (Lib.cell_of_heap hh _).trans rfl
    have z1 : u.cell? ⟨w.heap.size, 1, none⟩ = some (.slice none 0 0) := (Lib.cell_of_heap hh _).trans rfl
    have z2 : u.cell? ⟨w.heap.size, 2, none⟩ = some (.slice none 0 0) := (Lib.cell_of_heap hh _).trans rfl
    have z3 : u.cell? ⟨w.heap.size, 3, none⟩ = some (.slice none 0 0) := (Lib.cell_of_heap hh _).trans rfl
    have z4 : u.cell? ⟨w.heap.size, 4, none⟩ = some (.string ⟨#[]⟩) := (Lib.cell_of_heap hh _).trans rfl
    have z5 : u.cell? ⟨w.heap.size, 5, none⟩ = some (.slice none 0 0) := (Lib.cell_of_heap hh _).trans rfl
    have z6 : u.cell? ⟨w.heap.size, 6, none⟩ = some (.string ⟨#[]⟩) := (Lib.cell_of_heap hh _).trans rfl
    have f0 : u.frozen? ⟨w.heap.size, 0, none⟩ = false := Lib.frozen_of_heap hh 0
    have f1 : u.frozen? ⟨w.heap.size, 1, none⟩ = false := Lib.frozen_of_heap hh 1
    have f2 : u.frozen? ⟨w.heap.size, 2, none⟩ = false := Lib.frozen_of_heap hh 2
    have f3 : u.frozen? ⟨w.heap.size, 3, none⟩ = false := Lib.frozen_of_heap hh 3
    have f4 : u.frozen? ⟨w.heap.size, 4, none⟩ = false := Lib.frozen_of_heap hh 4
    have f5 : u.frozen? ⟨w.heap.size, 5, none⟩ = false := Lib.frozen_of_heap hh 5
    have f6 : u.frozen? ⟨w.heap.size, 6, none⟩ = false := Lib.frozen_of_heap hh 6
    obtain ⟨pv, nv, av, yu, yv⟩ := p
    obtain ⟨PA, pc, h1, _⟩ := hps.params
    obtain ⟨NA, nc, h2, _⟩ := hps.names
    obtain ⟨TA, tc, _, h3, _⟩ := hps.args
    obtain ⟨yn, ya, h4, h5⟩ := hps.result.shape
    simp only at h1 h2 h3 h4 h5
    obtain ⟨pn, hpn⟩ : ∃ n, n = x.params.length := ⟨_, rfl⟩
    obtain ⟨nn, hnn⟩ : ∃ n, n = x.names.length := ⟨_, rfl⟩
    obtain ⟨tn, htn⟩ : ∃ n, n = x.args.length := ⟨_, rfl⟩
    rw [← hpn] at h1
    rw [← hnn] at h2
    rw [← htn] at h3
    subst h1 h2 h3 h4 h5
    have HPN := Lib.hid hpn
    have HNN := Lib.hid hnn
    have HTN := Lib.hid htn
    clear hpn hnn htn
    refine wpOp_go rfl rfl ?_
    go_simp
    rw [← hrb]
    rw [← hrb] at hh
    have hkp := ((((((((Kp.refl (fun y => y = rb) u).setCell (b := rb) (o := 0) (fun _ => rfl) (iv x.kind))).setCell (b := rb) (o := 1) (fun _ => rfl) (.slice PA pn pc)).setCell (b := rb) (o := 2) (fun _ => rfl) (.slice NA nn nc)).setCell (b := rb) (o := 3) (fun _ => rfl) (.slice TA tn tc)).setCell (b := rb) (o := 4) (fun _ => rfl) (.string (bs yn))).setCell (b := rb) (o := 5) (fun _ => rfl) (.slice ya.1 ya.2.1 ya.2.2)).setCell (b := rb) (o := 6) (fun _ => rfl) (.string (bs x.trt))
    have hhp := setCell_heap (o := 6) (v := .string (bs x.trt)) (setCell_heap (o := 5) (v := .slice ya.1 ya.2.1 ya.2.2) (setCell_heap (o := 4) (v := .string (bs yn)) (setCell_heap (o := 3) (v := .slice TA tn tc) (setCell_heap (o := 2) (v := .slice NA nn nc) (setCell_heap (o := 1) (v := .slice PA pn pc) (setCell_heap (o := 0) (v := iv x.kind) hh))))))
    have hRX := (⟨hkp.more fun y _ e => .inr (.inl e), .inl rfl⟩ : RX dd rb X u X _)
    refine hK _ X hRX ⟨hS.dice.keep hkp fun y hy => by omega, hS.kp.trans hkp fun y hy hM => by omega, Nat.lt_of_lt_of_le hlow hkp.size, (fun e => by rw [updD_self] at e; cases e), fun _ => ⟨x, ⟨.slice PA pn pc, .slice NA nn nc, .slice TA tn tc, sv yn, .slice ya.1 ya.2.1 ya.2.2⟩, hhp, (hps.keep (GB.kept HDR hRX)).more fun y hy => GB.step HDR hRX hy, hok⟩, fun e => hS.ph0 (by rw [← e, updD_ne _ (by decide)]), fun e => hS.ph2 (by rw [← e, updD_ne _ (by decide)]), fun g e => Nat.lt_of_lt_of_le (hS.own g e) hkp.size⟩
  case fin =>
    intro X D vs u hD hS _
    obtain ⟨x, p, hh, hps, hok⟩ := hS.good (hD 21 (by decide))
    rw [hrb] at hh
    have q0 : u.cell? ⟨w.heap.size, 0, none⟩ = some (iv x.kind) := (Lib.cell_of_heap hh _).trans rfl
    have q1 : u.cell? ⟨w.heap.size, 1, none⟩ = some p.pv := (Lib.cell_of_heap hh _).trans rfl
    have q2 : u.cell? ⟨w.heap.size, 2, none⟩ = some p.nv := (Lib.cell_of_heap hh _).trans rfl
    have q3 : u.cell? ⟨w.heap.size, 3, none⟩ = some p.av := (Lib.cell_of_heap hh _).trans rfl
    have q4 : u.cell? ⟨w.heap.size, 4, none⟩ = some p.u := (Lib.cell_of_heap hh _).trans rfl
    have q5 : u.cell? ⟨w.heap.size, 5, none⟩ = some p.rv := (Lib.cell_of_heap hh _).trans rfl
    have q6 : u.cell? ⟨w.heap.size, 6, none⟩ = some (sv x.trt) := (Lib.cell_of_heap hh _).trans rfl
    have HRES : Hid (SigRes TA0 CQ0 dd xs w (.returned (sgV x p)) u) := Lib.hid ⟨x, p, rfl, hps.more fun y hy => ⟨by have := hy.1; omega, hy.2.1⟩, hok, hS.dice, hS.kp⟩
    clear hh hps hok hS hD
    simp only [putD]
    go_simp
    try go_wp2
    refine bodyPost_ret (v := sgV x p) ?_ rfl HRES.out
    simp [results, Tryd.results8, go_sem, q0, q1, q2, q3, q4, q5, q6]
end
end Go.Proofs.YtkggmckfdkpldaaDoor
