/-
  Messages, kinds and moves in memory: keys of maps, equality, rows.
  No condition beyond those of each theorem.
-/
import Derived.Test.YtlgdminpkkhejaaDtP
import Derived.Test.YtlgdminpkkhejaaBmg
import Derived.Test.YtlgdminpkkhejaaBsch
import Derived.Test.YtlgdminpkkhejaaBtwk
import Derived.Test.YtlgdminpkkhejaaBown
namespace Go.Proofs.Ytlgdminpkkhejaa
open Go.RowKit Go.MapKept

abbrev msV (m : Msg) : Value := .agg #[.int .i64 m.1, .int .i64 m.2.1, sv m.2.2]
theorem msV_inj {k k' : Msg} (h : msV k = msV k') : k = k' := by
  unfold msV at h
  injection h with h
  simp at h
  exact Prod.ext h.1 (Prod.ext h.2.1 (bs_inj h.2.2))
theorem eqMsIn (k k' : Msg) (d : Nat) (w : World) : (Op.equalIn (d + 2) 40 (msV k) (msV k')).run Try.prog w = .ok (decide (k = k')) w := by
  have u3 := Try.underlying9
  have a3 := Try.isAgg9
  have z3 := Try.sizeOf9
  have u1 := Try.underlying3
  have a1 := Try.isAgg3
  have z1 := Try.sizeOf3
  have hS : Try.prog.underlying 40 = some (.struct (Try.prog.fieldsOf 40)) := by kernel_rfl
  have hp : Try.prog.stoodInHeld 40 = false := by kernel_rfl
  unfold msV
  rw [run_equalIn_agg w (d + 1) 40 _ _ hS hp]
  simp only [Program.fieldsOf, Try.underlying40]
  go_simp
  simp only [bs_toList]
  by_cases h1 : k.1 = k'.1 <;> by_cases h2 : k.2.1 = k'.2.1 <;> by_cases h3 : k.2.2 = k'.2.2 <;> simp [h1, h2, h3, Prod.ext_iff]
abbrev kdV (k : Int × List UInt8) : Value := .agg #[.int .i64 k.1, sv k.2]
theorem kdV_inj {k k' : Int × List UInt8} (h : kdV k = kdV k') : k = k' := by
  unfold kdV at h
  injection h with h
  simp at h
  exact Prod.ext h.1 (bs_inj h.2)
theorem eqKdIn (k k' : Int × List UInt8) (d : Nat) (w : World) : (Op.equalIn (d + 2) 64 (kdV k) (kdV k')).run Try.prog w = .ok (decide (k = k')) w := by
  have u3 := Try.underlying9
  have a3 := Try.isAgg9
  have z3 := Try.sizeOf9
  have u1 := Try.underlying3
  have a1 := Try.isAgg3
  have z1 := Try.sizeOf3
  have hS : Try.prog.underlying 64 = some (.struct (Try.prog.fieldsOf 64)) := by kernel_rfl
  have hp : Try.prog.stoodInHeld 64 = false := by kernel_rfl
  unfold kdV
  rw [run_equalIn_agg w (d + 1) 64 _ _ hS hp]
  simp only [Program.fieldsOf, Try.underlying64]
  go_simp
  simp only [bs_toList]
  by_cases h1 : k.1 = k'.1 <;> by_cases h2 : k.2 = k'.2 <;> simp [h1, h2, Prod.ext_iff]
def KMs (_ : World) (v : Value) : Prop := ∃ k, v = msV k
def KKd (_ : World) (v : Value) : Prop := ∃ k, v = kdV k
theorem keyMs : KeyLaw Try.prog 40 KMs := by
  have hu : Try.prog.underlying 40 = some (.struct (Try.prog.fieldsOf 40)) := by kernel_rfl
  refine ⟨fun w e k h => ?_, fun w k es h hes => find_asking hu ?_ ?_ es hes, fun w k h => ?_⟩
  · obtain ⟨k, rfl⟩ := h
    kernel_rfl
  · rintro k' ⟨k', rfl⟩
    obtain ⟨k, rfl⟩ := h
    rfl
  · rintro k' ⟨k', rfl⟩
    obtain ⟨k, rfl⟩ := h
    have h2 : (msV k = msV k') ↔ k = k' := ⟨msV_inj, fun e => by rw [e]⟩
    simp only [Op.equal, Op.maxDepth]
    rw [show (10000 : Nat) = 9998 + 2 from rfl, eqMsIn]
    simp only [h2]
  · obtain ⟨k, rfl⟩ := h
    simp [Instr.sameBits, bytes_beq]
theorem keyKd : KeyLaw Try.prog 64 KKd := by
  have hu : Try.prog.underlying 64 = some (.struct (Try.prog.fieldsOf 64)) := by kernel_rfl
  refine ⟨fun w e k h => ?_, fun w k es h hes => find_asking hu ?_ ?_ es hes, fun w k h => ?_⟩
  · obtain ⟨k, rfl⟩ := h
    kernel_rfl
  · rintro k' ⟨k', rfl⟩
    obtain ⟨k, rfl⟩ := h
    rfl
  · rintro k' ⟨k', rfl⟩
    obtain ⟨k, rfl⟩ := h
    have h2 : (kdV k = kdV k') ↔ k = k' := ⟨kdV_inj, fun e => by rw [e]⟩
    simp only [Op.equal, Op.maxDepth]
    rw [show (10000 : Nat) = 9998 + 2 from rfl, eqKdIn]
    simp only [h2]
  · obtain ⟨k, rfl⟩ := h
    simp [Instr.sameBits, bytes_beq]

/-! ### Rows -/
def msC (m : Msg) : List Value := [.int .i64 m.1, .int .i64 m.2.1, sv m.2.2]
theorem msC_len (m : Msg) : (msC m).length = 3 := rfl
theorem msC_one (m : Msg) : ∀ v ∈ msC m, v.oneCell' = true := fun v hv => by
  simp [msC] at hv
  rcases hv with rfl | rfl | rfl <;> rfl
def mvC (v : Mv) : List Value := [.int .i64 v.1, .int .i64 v.2.1, .int .i64 v.2.2.1, .int .i64 v.2.2.2.1, sv v.2.2.2.2]
theorem mvC_len (v : Mv) : (mvC v).length = 5 := rfl
theorem mvC_one (m : Mv) : ∀ v ∈ mvC m, v.oneCell' = true := fun v hv => by
  simp [mvC] at hv
  rcases hv with rfl | rfl | rfl | rfl | rfl <;> rfl
abbrev mvV (v : Mv) : Value := .agg #[.int .i64 v.1, .int .i64 v.2.1, .int .i64 v.2.2.1, .int .i64 v.2.2.2.1, sv v.2.2.2.2]
/-- The cells of a message, from an address on. -/
def MsAt (w : World) (a : Addr) (m : Msg) : Prop := w.cell? a = some (.int .i64 m.1) ∧ w.cell? ⟨a.block, a.off + 1, none⟩ = some (.int .i64 m.2.1) ∧ w.cell? ⟨a.block, a.off + 2, none⟩ = some (sv m.2.2)
def MvAt (w : World) (a : Addr) (v : Mv) : Prop := w.cell? a = some (.int .i64 v.1) ∧ w.cell? ⟨a.block, a.off + 1, none⟩ = some (.int .i64 v.2.1) ∧ w.cell? ⟨a.block, a.off + 2, none⟩ = some (.int .i64 v.2.2.1) ∧ w.cell? ⟨a.block, a.off + 3, none⟩ = some (.int .i64 v.2.2.2.1) ∧ w.cell? ⟨a.block, a.off + 4, none⟩ = some (sv v.2.2.2.2)
theorem ms_at {w : World} {S : Nat → Prop} {A : Option Addr} {l : List Msg} {i : Nat} {x : Msg} (h : Row w S A (flt msC l)) (hi : l[i]? = some x) :
    ∃ ad, A = some ad ∧ S ad.block ∧ MsAt w (ad.add (i * 3)) x := by
  have hlt := (List.getElem?_eq_some_iff.1 hi).1
  obtain ⟨ad, hA, hS, hc⟩ := h.addr (by rw [flt_length msC_len]; omega)
  exact ⟨ad, hA, hS, hc _ _ (flt_at (j := 0) msC_len hi rfl), cellOff (by decide) (hc _ _ (flt_at msC_len hi rfl)), cellOff (by decide) (hc _ _ (flt_at msC_len hi rfl))⟩
theorem mv_at {w : World} {S : Nat → Prop} {A : Option Addr} {l : List Mv} {i : Nat} {x : Mv} (h : Row w S A (flt mvC l)) (hi : l[i]? = some x) :
    ∃ ad, A = some ad ∧ S ad.block ∧ MvAt w (ad.add (i * 5)) x := by
  have hlt := (List.getElem?_eq_some_iff.1 hi).1
  obtain ⟨ad, hA, hS, hc⟩ := h.addr (by rw [flt_length mvC_len]; omega)
  exact ⟨ad, hA, hS, hc _ _ (flt_at (j := 0) mvC_len hi rfl), cellOff (by decide) (hc _ _ (flt_at mvC_len hi rfl)), cellOff (by decide) (hc _ _ (flt_at mvC_len hi rfl)), cellOff (by decide) (hc _ _ (flt_at mvC_len hi rfl)), cellOff (by decide) (hc _ _ (flt_at mvC_len hi rfl))⟩
theorem MsAt.below {w w' : World} {a : Addr} {m : Msg} (h : MsAt w a m) (hb : Below w.heap.size w w') : MsAt w' a m :=
  ⟨(hb.cell (block_lt_of_cell h.1)).trans h.1, (hb.cell (block_lt_of_cell h.2.1)).trans h.2.1, (hb.cell (block_lt_of_cell h.2.2)).trans h.2.2⟩
theorem ms_blk {w : World} {b : Nat} {m : Msg} {T : TypeId} {cs : Array Value} (h : w.heap[b]? = some (.cells cs T (0, 0))) (hc : cs = (msC m).toArray) : MsAt w ⟨b, 0, none⟩ m := by
  subst hc
  exact ⟨(Lib.cell_of_heap h _).trans rfl, (Lib.cell_of_heap h _).trans rfl, (Lib.cell_of_heap h _).trans rfl⟩
theorem infoMs : (Try.prog.info? 40).map (fun i => (i.zero, i.size, i.bytes)) = some (some (.agg #[.int .i64 0, .int .i64 0, .string ⟨#[]⟩]), 3, 32) := by kernel_rfl
theorem infoMv : (Try.prog.info? 42).map (fun i => (i.zero, i.size, i.bytes)) = some (some (.agg #[.int .i64 0, .int .i64 0, .int .i64 0, .int .i64 0, .string ⟨#[]⟩]), 5, 48) := by kernel_rfl
theorem kp_below {w u v : World} {M : Nat → Prop} (h : Below w.heap.size w u) (hk : Kp M u v) (hM : ∀ y, M y → w.heap.size ≤ y) : Below w.heap.size w v :=
  ⟨hk.os.trans h.os, hk.tape.trans h.tape, hk.output.trans h.output, Nat.le_trans h.size hk.size, fun b hb => (hk.block b (Nat.lt_of_lt_of_le hb h.size) (fun e => by have := hM b e; omega)).trans (h.block b hb)⟩
theorem Row.below {w w' : World} {A : Option Addr} {xs : List Value} (h : Row w (Lt w.heap.size) A xs) (hb : Below w.heap.size w w') : Row w' (Lt w'.heap.size) A xs := (h.keep (kept_below hb)).more fun _ hb' => Nat.lt_of_lt_of_le hb' hb.size
theorem take_snoc {α : Type} {l : List α} {k : Nat} {x : α} (h : l[k]? = some x) : l.take (k + 1) = l.take k ++ [x] := by rw [List.take_add_one, h]; rfl
/-- A row of messages of its own is handed back. -/
def RowRes (l : List Msg) (w : World) (e : Ending) (w' : World) : Prop := ∃ v, e = .returned v ∧ w'.ownsRow w.heap.size 40 3 v l.length (flt msC l) ∧ Below w.heap.size w w'
end Go.Proofs.Ytlgdminpkkhejaa
