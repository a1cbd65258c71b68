/-
  Rows of bytes that a conversion made: parts of them as strings, one byte written.
  Conditions: those of each theorem.
-/
import Derived.Test.YtndhglcdkegigaaDoorDType
import Derived.Test.YtndhglcdkegigaaDoorParse
import Derived.Laws.IdiomStrings
import Derived.Lib.SmallJoins
namespace Go.Proofs.YtndhglcdkegigaaDoor
open Go.RowKit

theorem bs_append' (a b : List UInt8) : bs a ++ bs b = bs (a ++ b) := by
  apply ByteArray.ext
  rw [ByteArray.data_append]
  simp [bs]
/-- Block b holds the bytes l, and more behind them. -/
def BytesAt (w : World) (b : Nat) (l : List UInt8) : Prop := ∃ (C : Array Value) (rest : List Value), w.heap[b]? = some (.cells C 5 (C.size, C.size + 1)) ∧ C.toList = (l.map fun x => Value.int .u8 (x.toNat : Int)) ++ rest
theorem BytesAt.keep {w w' : World} {b : Nat} {l : List UInt8} (h : BytesAt w b l) (hb : w'.heap[b]? = w.heap[b]?) : BytesAt w' b l := by
  obtain ⟨C, rest, h1, h2⟩ := h
  exact ⟨C, rest, hb.trans h1, h2⟩
theorem BytesAt.lt {w : World} {b : Nat} {l : List UInt8} (h : BytesAt w b l) : b < w.heap.size := by
  obtain ⟨C, rest, h1, h2⟩ := h
  exact lt_of_heap h1
theorem BytesAt.cell {w : World} {b : Nat} {l : List UInt8} (h : BytesAt w b l) {j : Nat} {x : UInt8} (hj : l[j]? = some x) : w.cell? ⟨b, j, none⟩ = some (.int .u8 (x.toNat : Int)) := by
  obtain ⟨C, rest, h1, h2⟩ := h
  have hlt := (List.getElem?_eq_some_iff.1 hj).1
  rw [Lib.cell_of_heap h1, ← Array.getElem?_toList, h2, List.getElem?_append_left (by simpa using hlt), List.getElem?_map, hj]
  rfl
theorem BytesAt.open_ {w : World} {b j : Nat} {l : List UInt8} (h : BytesAt w b l) (hj : j < l.length) : w.frozen? ⟨b, j, none⟩ = false := by
  obtain ⟨C, rest, h1, h2⟩ := h
  have hs : C.size = l.length + rest.length := by
    have := congrArg List.length h2
    simpa using this
  unfold World.frozen?
  rw [h1]
  simp
  omega
theorem BytesAt.set {w : World} {b j : Nat} {l : List UInt8} (h : BytesAt w b l) (hj : j < l.length) (x : UInt8) : BytesAt (w.setCell ⟨b, j, none⟩ (.int .u8 (x.toNat : Int))) b (l.set j x) := by
  obtain ⟨C, rest, h1, h2⟩ := h
  have hb := Joins.block_setCell (i := j) h1 (.int .u8 (x.toNat : Int))
  refine ⟨C.setIfInBounds j (.int .u8 (x.toNat : Int)), rest, by rw [hb, Array.size_setIfInBounds], ?_⟩
  rw [Array.toList_setIfInBounds, h2, List.set_append_left _ _ (by simpa using hj), List.map_set]
/-- A string of a part. -/
theorem BytesAt.str {w : World} {b : Nat} {l : List UInt8} (h : BytesAt w b l) (k n c : Nat) (hk : k + n ≤ l.length) :
    (convert 26 9 (.slice (some ⟨b, k, none⟩) n c)).run Tryd.prog w = .ok (sv ((l.drop k).take n)) w := by
  have hl : ((l.drop k).take n).length = n := by rw [List.length_take, List.length_drop]; omega
  have := run_convert_bytes_back (P := Tryd.prog) w 26 9 5 ⟨b, k, none⟩ c ((l.drop k).take n) Tryd.underlying26 Tryd.underlying5 Tryd.underlying9 (fun j hj => by
    have hadd : (⟨b, k, none⟩ : Addr).add j = ⟨b, k + j, none⟩ := by unfold Addr.add; split <;> simp_all
    rw [hadd]
    refine h.cell ?_
    have h2 : ((l.drop k).take n)[j]? = some ((l.drop k).take n)[j] := List.getElem?_eq_getElem hj
    rw [List.getElem?_take_of_lt (by omega), List.getElem?_drop] at h2
    exact h2)
  rw [hl] at this
  exact this
theorem bytes_new (l : List UInt8) (W : World) : ∃ (cap : Nat) (w' : World), (convert 9 26 (sv l)).run Tryd.prog W = .ok (.slice (some ⟨W.heap.size, 0, none⟩) l.length cap) w' ∧ l.length ≤ cap ∧ BytesAt w' W.heap.size l ∧ Below W.heap.size W w' := by
  have h := run_bytes_of_string (P := Tryd.prog) W 9 26 5 (bs l) Tryd.underlying9 Tryd.underlying26 Tryd.underlying5
  rw [bs_size] at h
  refine ⟨_, _, h, ?_, ⟨_, List.replicate (grownCap W l.length 0 5 - l.length) (.int .u8 0), heap_alloc_new W.drew _, ?_⟩, ((Below.refl _ _).drew).alloc (Nat.le_refl _) _⟩
  · exact grownCap_ge _ _ _ _
  · unfold bytesRow bs
    simp [ByteArray.size]
end Go.Proofs.YtndhglcdkegigaaDoor
