/-
  The walk of delta.of; how pairing goes on by one message; queues of messages by kind in a map.
  Conditions: those of each theorem.
-/
import Derived.Test.YtlgdminpkkhejaaDtW
import Derived.Test.YtlgdminpkkhejaaDtS
import Derived.Test.YtlgdminpkkhejaaBexp
namespace Go.Proofs.Ytlgdminpkkhejaa
open Go.RowKit

set_option maxHeartbeats 1000000 in
set_option maxRecDepth 100000 in
theorem of_any (m : Msg) (w : World) : Calls Try.prog 29 #[msV m] w fun e w' => e = .returned (kdV m.2) ∧ Below w.heap.size w w' := by
  have hb : Below w.heap.size w ((w.alloc (.cells #[.int .i64 m.1, .int .i64 m.2.1, sv m.2.2] 40)).alloc (.cells #[.int .i64 m.2.1, sv m.2.2] 64)) := ((Below.refl _ _).alloc (Nat.le_refl _) _).alloc (by simp) _
  have hc := alloc2 w (.cells #[.int .i64 m.1, .int .i64 m.2.1, sv m.2.2] 40) (.cells #[.int .i64 m.2.1, sv m.2.2] 64)
  have HB := Lib.hid hb
  have HC := Lib.hid hc
  clear hb hc
  go_enter Try.func29, Try.ntmps29
  go_wp2
  obtain ⟨w1, hw1⟩ : ∃ w1, w1 = ((w.alloc (.cells #[.int .i64 m.1, .int .i64 m.2.1, sv m.2.2] 40)).alloc (.cells #[.int .i64 m.2.1, sv m.2.2] 64)) := ⟨_, rfl⟩
  rw [← hw1] at HC HB ⊢
  have q0 : w1.cell? ⟨w.heap.size + 1, 0, none⟩ = some (.int .i64 m.2.1) := (Lib.cell_of_heap HC.out.2 _).trans rfl
  have q1 : w1.cell? ⟨w.heap.size + 1, 1, none⟩ = some (sv m.2.2) := (Lib.cell_of_heap HC.out.2 _).trans rfl
  refine bodyPost_ret (v := .agg #[.int .i64 m.2.1, sv m.2.2]) ?_ rfl ⟨rfl, HB.out⟩
  clear HB HC hw1
  simp [results, Try.results29, go_sem, q0, q1]

/-- One message more. -/
def mstep (s : List Msg × List (Msg × Msg) × List Msg) (m : Msg) : List Msg × List (Msg × Msg) × List Msg :=
  match s.2.2.find? (alk m) with
  | none => (s.1 ++ [m], s.2.1, s.2.2)
  | some x => (s.1, s.2.1 ++ [(x, m)], s.2.2.erase x)
theorem mate_snoc (m : Msg) : ∀ (C L : List Msg), mate (C ++ [m]) L = mstep (mate C L) m
  | [], L => by
    unfold mstep
    simp only [List.nil_append, mate]
    cases h : L.find? (alk m) with
    | none => rfl
    | some x => rfl
  | y :: r, L => by
    rw [List.cons_append]
    cases h : L.find? (alk y) with
    | none =>
      rw [mate_none h, mate_none h, mate_snoc m r L]
      unfold mstep
      cases h2 : (mate r L).2.2.find? (alk m) with
      | none => simp
      | some x => simp
    | some x =>
      rw [mate_some h, mate_some h, mate_snoc m r (L.erase x)]
      unfold mstep
      cases h2 : (mate r (L.erase x)).2.2.find? (alk m) with
      | none => simp
      | some x => simp
theorem mstep_none {s : List Msg × List (Msg × Msg) × List Msg} {m : Msg} (h : s.2.2.find? (alk m) = none) : mstep s m = (s.1 ++ [m], s.2.1, s.2.2) := by unfold mstep; rw [h]
theorem mstep_some {s : List Msg × List (Msg × Msg) × List Msg} {m x : Msg} (h : s.2.2.find? (alk m) = some x) : mstep s m = (s.1, s.2.1 ++ [(x, m)], s.2.2.erase x) := by unfold mstep; rw [h]
theorem fk_empty {L : List Msg} {m : Msg} : fk m.2 L = [] ↔ L.find? (alk m) = none := by
  rw [List.find?_eq_none]
  constructor
  · intro h x hx e
    have : x ∈ fk m.2 L := List.mem_filter.2 ⟨hx, by simpa using e⟩
    rw [h] at this
    cases this
  · intro h
    exact List.filter_eq_nil_iff.2 fun x hx => by simpa using h x hx

/-- A slice as it stands in a map. -/
abbrev Sl := Option Addr × Nat × Nat
def slV (s : Sl) : Value := .slice s.1 s.2.1 s.2.2
def sl0 (s : Option Sl) : Sl := s.getD (none, 0, 0)
/-- Queues of messages by kind: rows of one's own, no two in one block. -/
def QAt (B : Nat) (w : World) (b : Nat) (Q : Int × List UInt8 → List Msg) : Prop :=
  ∃ G : Int × List UInt8 → Option Sl, MapG kdV slV w b G ∧ (∀ k, w.ownsRow B 40 3 (slV (sl0 (G k))) (Q k).length (flt msC (Q k))) ∧ ∀ k k', k ≠ k' → ∀ g, (slV (sl0 (G k))).ownBlock = some g → (slV (sl0 (G k'))).ownBlock ≠ some g
theorem QAt.kp {B : Nat} {M : Nat → Prop} {w w' : World} {b : Nat} {Q : Int × List UInt8 → List Msg} (h : QAt B w b Q) (hk : Kp M w w') (hb : ¬ M b) (hM : ∀ y, M y → y < w.heap.size → y < B) : QAt B w' b Q := by
  obtain ⟨G, h1, h2, h3⟩ := h
  exact ⟨G, h1.kp hk hb, fun k => hk.own (h2 k) fun g hg e => by
    have := (h2 k).lt g hg
    have := hM g e this.2
    omega, h3⟩
/-- Queues of messages by kind, to be read. -/
def QRd (S : Nat → Prop) (w : World) (b : Nat) (Q : Int × List UInt8 → List Msg) : Prop :=
  ∃ G : Int × List UInt8 → Option Sl, MapG kdV slV w b G ∧ ∀ k, ∃ A c, sl0 (G k) = (A, (Q k).length, c) ∧ (Q k).length ≤ c ∧ Row w S A (flt msC (Q k))
theorem QAt.rd {B : Nat} {w : World} {b : Nat} {Q : Int × List UInt8 → List Msg} (h : QAt B w b Q) : QRd (fun y => Fr B w.heap.size y) w b Q := by
  obtain ⟨G, h1, h2, _⟩ := h
  refine ⟨G, h1, fun k => ?_⟩
  obtain ⟨A, c, e, _⟩ := own_slice (h2 k)
  have h3 := h2 k
  rw [e] at h3
  refine ⟨A, c, ?_, (own_le h3).1, Row.ofOwn h3 fun g _ h4 h5 => ⟨h4, h5⟩⟩
  unfold slV at e
  obtain ⟨e1, e2, e3⟩ := Value.slice.inj e
  exact Prod.ext e1 (Prod.ext e2 e3)
theorem QRd.kp {S M : Nat → Prop} {w w' : World} {b : Nat} {Q : Int × List UInt8 → List Msg} (h : QRd S w b Q) (hk : Kp M w w') (hb : ¬ M b) (hS : ∀ y, S y → y < w.heap.size ∧ ¬ M y) : QRd S w' b Q := by
  obtain ⟨G, h1, h2⟩ := h
  exact ⟨G, h1.kp hk hb, fun k => by
    obtain ⟨A, c, e, hc, hr⟩ := h2 k
    exact ⟨A, c, e, hc, hr.keep (hk.kept hS)⟩⟩
theorem QRd.lt {S : Nat → Prop} {w : World} {b : Nat} {Q : Int × List UInt8 → List Msg} (h : QRd S w b Q) : b < w.heap.size := by
  obtain ⟨G, h1, _⟩ := h
  exact h1.lt
theorem QAt.lt {B : Nat} {w : World} {b : Nat} {Q : Int × List UInt8 → List Msg} (h : QAt B w b Q) : b < w.heap.size := by
  obtain ⟨G, h1, _⟩ := h
  exact h1.lt
theorem hKKd (w : World) (k : Int × List UInt8) : KKd w (kdV k) := ⟨k, rfl⟩
theorem zeroMsl (w : World) : (zeroValue 22).run Try.prog w = .ok (slV (none, 0, 0)) w := by
  have h := Try.zeroValue22
  simp [go_sem, h, slV]
/-- A queue looked up. -/
theorem look_q {w : World} {b : Nat} {G : Int × List UInt8 → Option Sl} (h : MapG kdV slV w b G) (k : Int × List UInt8) : (Instr.lookup 62 (.map (some b)) (kdV k) false).run Try.prog w = .ok (slV (sl0 (G k))) w := by
  cases hg : G k with
  | none => exact h.no (fun _ _ => kdV_inj) Try.underlying62 keyKd (hKKd w) (zeroMsl w) hg
  | some v => exact h.yes Try.underlying62 keyKd (hKKd w) hg
end Go.Proofs.Ytlgdminpkkhejaa
