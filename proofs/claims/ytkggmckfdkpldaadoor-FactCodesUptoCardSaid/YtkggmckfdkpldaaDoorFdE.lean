/-
  Rows of bytes that a conversion made; the walk of recompilelaw10.changed.
  Conditions: those of each theorem.
-/
import Derived.Test.YtkggmckfdkpldaaDoorFdB
import Derived.Test.YtkggmckfdkpldaaDoorFcM
import Derived.Laws.IdiomStrings
import Derived.Lib.SmallJoins
namespace Go.Proofs.YtkggmckfdkpldaaDoor
open Go.RowKit

/-- Block b holds the bytes l, and more behind them. -/
def BytesAt (w : World) (b : Nat) (l : List UInt8) : Prop := ∃ (C : Array Value) (rest : List Value), w.heap[b]? = some (.cells C 5 (C.size, C.size + 1)) ∧ C.toList = (l.map fun x => Value.int .u8 (x.toNat : Int)) ++ rest
theorem BytesAt.keep {w w' : World} {b : Nat} {l : List UInt8} (h : BytesAt w b l) (hb : w'.heap[b]? = w.heap[b]?) : BytesAt w' b l := by
  obtain ⟨C, rest, h1, h2⟩ := h
  exact ⟨C, rest, hb.trans h1, h2⟩
theorem BytesAt.lt {w : World} {b : Nat} {l : List UInt8} (h : BytesAt w b l) : b < w.heap.size := by
  obtain ⟨C, rest, h1, h2⟩ := h
  exact lt_of_heap h1
theorem BytesAt.cell {w : World} {b : Nat} {l : List UInt8} (h : BytesAt w b l) {j : Nat} {x : UInt8} (hj : l[j]? = some x) : w.cell? ⟨b, j, none⟩ = some (.int .u8 (x.toNat : Int)) := by
  obtain ⟨C, rest, h1, h2⟩ := h
  have hlt := (List.getElem?_eq_some_iff.1 hj).1
  rw [Lib.cell_of_heap h1, ← Array.getElem?_toList, h2, List.getElem?_append_left (by simpa using hlt), List.getElem?_map, hj]
  rfl
theorem BytesAt.open_ {w : World} {b j : Nat} {l : List UInt8} (h : BytesAt w b l) (hj : j < l.length) : w.frozen? ⟨b, j, none⟩ = false := by
  obtain ⟨C, rest, h1, h2⟩ := h
  have hs : C.size = l.length + rest.length := by
    have := congrArg List.length h2
    simpa using this
  unfold World.frozen?
  rw [h1]
  simp
  omega
theorem BytesAt.set {w : World} {b j : Nat} {l : List UInt8} (h : BytesAt w b l) (hj : j < l.length) (x : UInt8) : BytesAt (w.setCell ⟨b, j, none⟩ (.int .u8 (x.toNat : Int))) b (l.set j x) := by
  obtain ⟨C, rest, h1, h2⟩ := h
  have hb := Joins.block_setCell (i := j) h1 (.int .u8 (x.toNat : Int))
  refine ⟨C.setIfInBounds j (.int .u8 (x.toNat : Int)), rest, by rw [hb, Array.size_setIfInBounds], ?_⟩
  rw [Array.toList_setIfInBounds, h2, List.set_append_left _ _ (by simpa using hj), List.map_set]
/-- A string of a part. -/
theorem BytesAt.str {w : World} {b : Nat} {l : List UInt8} (h : BytesAt w b l) (k n c : Nat) (hk : k + n ≤ l.length) :
    (convert 83 9 (.slice (some ⟨b, k, none⟩) n c)).run Tryd.prog w = .ok (sv ((l.drop k).take n)) w := by
  have hl : ((l.drop k).take n).length = n := by rw [List.length_take, List.length_drop]; omega
  have := run_convert_bytes_back (P := Tryd.prog) w 83 9 5 ⟨b, k, none⟩ c ((l.drop k).take n) Tryd.underlying83 Tryd.underlying5 Tryd.underlying9 (fun j hj => by
    have hadd : (⟨b, k, none⟩ : Addr).add j = ⟨b, k + j, none⟩ := by unfold Addr.add; split <;> simp_all
    rw [hadd]
    refine h.cell ?_
    have h2 : ((l.drop k).take n)[j]? = some ((l.drop k).take n)[j] := List.getElem?_eq_getElem hj
    rw [List.getElem?_take_of_lt (by omega), List.getElem?_drop] at h2
    exact h2)
  rw [hl] at this
  exact this
theorem bytes_new (l : List UInt8) (W : World) : ∃ (cap : Nat) (w' : World), (convert 9 83 (sv l)).run Tryd.prog W = .ok (.slice (some ⟨W.heap.size, 0, none⟩) l.length cap) w' ∧ l.length ≤ cap ∧ BytesAt w' W.heap.size l ∧ Below W.heap.size W w' := by
  have h := run_bytes_of_string (P := Tryd.prog) W 9 83 5 (bs l) Tryd.underlying9 Tryd.underlying83 Tryd.underlying5
  rw [bs_size] at h
  refine ⟨_, _, h, ?_, ⟨_, List.replicate (grownCap W l.length 0 5 - l.length) (.int .u8 0), heap_alloc_new W.drew _, ?_⟩, ((Below.refl _ _).drew).alloc (Nat.le_refl _) _⟩
  · exact grownCap_ge _ _ _ _
  · unfold bytesRow bs
    simp [ByteArray.size]

def pickC : List UInt8 := [48, 49, 58, 45, 40, 97, 60]
/-- A byte of a text changed. -/
def chg (s : List UInt8) (k : Nat) : List UInt8 := s.set (k % s.length) (pickC.getD ((k / 11) % 7) 0)
theorem chg_len (s : List UInt8) (k : Nat) : (chg s k).length = s.length := by unfold chg; simp
theorem pickC_at (j : Nat) (hj : j < 7) : (#[.int .u8 48, .int .u8 49, .int .u8 58, .int .u8 45, .int .u8 40, .int .u8 97, .int .u8 60] : Array Value)[j]? = some (.int .u8 ((pickC.getD j 0).toNat : Int)) := by
  obtain rfl | rfl | rfl | rfl | rfl | rfl | rfl : j = 0 ∨ j = 1 ∨ j = 2 ∨ j = 3 ∨ j = 4 ∨ j = 5 ∨ j = 6 := by omega
  all_goals rfl
set_option maxHeartbeats 1600000 in
set_option maxRecDepth 100000 in
theorem changed_any (s : List UInt8) (k : Nat) (w : World) (hs : s.length ≤ 1000000000) (hk : k < 1099511627776) :
    Calls Tryd.prog 17 #[sv s, .int .i64 (k : Int)] w fun e w' => e = .returned (sv (chg s k)) ∧ Below w.heap.size w w' := by
  obtain ⟨cap, w1, hconv, hcap, hBy, hb1⟩ := bytes_new s w
  by_cases h0 : s = []
  · subst h0
    have hback := hBy.str 0 0 cap (Nat.le_refl _)
    simp only [List.length_nil] at hconv
    have HB1 := Lib.hid hb1
    clear hb1 hBy
    go_enter Tryd.func17, Tryd.ntmps17
    go_wp2
    go_ret
    exact ⟨rfl, HB1.out⟩
  · have hn0 : 0 < s.length := List.length_pos_iff.2 h0
    obtain ⟨n, hn⟩ : ∃ n, n = s.length := ⟨_, rfl⟩
    obtain ⟨j, hj⟩ : ∃ j, j = k % n := ⟨_, rfl⟩
    obtain ⟨q, hq⟩ : ∃ q, q = (k / 11) % 7 := ⟨_, rfl⟩
    have hjn : j < n := by rw [hj]; exact Nat.mod_lt _ (by omega)
    have hq7 : q < 7 := by rw [hq]; exact Nat.mod_lt _ (by omega)
    have hback : ∀ (u : World) (x : UInt8), BytesAt u w.heap.size (s.set j x) → (convert 83 9 (.slice (some ⟨w.heap.size, 0, none⟩) n cap)).run Tryd.prog u = .ok (sv (s.set j x)) u := fun u x hu => by
      have h := hu.str 0 n cap (by rw [List.length_set, ← hn]; omega)
      rw [List.drop_zero, List.take_of_length_le (by rw [List.length_set, hn]; exact Nat.le_refl _)] at h
      exact h
    rw [← hn] at hconv
    have HM := Lib.hid (mod_any (k : Int) (n : Int) w1 (by omega) (by omega) (by omega) (by omega))
    rw [show ((k : Int) % (n : Int)) = (j : Int) by rw [hj]; rfl] at HM
    have HB1 := Lib.hid hb1
    have HBY := Lib.hid hBy
    have HJ := Lib.hid hj
    have HQ := Lib.hid hq
    have HN := Lib.hid hn
    have HBK := Lib.hid hback
    rw [← hn] at hn0
    clear hb1 hBy hj hq hn hback h0
    have hnz : (0 : Int) < (n : Int) := by omega
    go_enter Tryd.func17, Tryd.ntmps17
    go_wp2_with fail
    refine HM.out.mono ?_
    rintro e w2 ⟨rfl, rfl⟩
    go_wp2_with fail
    refine (mod_any ((k : Int) / 11) 7 _ (by omega) (by omega) (by omega) (by omega)).mono ?_
    rintro e w3 ⟨rfl, hw3⟩
    rw [show ((k : Int) / 11 % 7) = (q : Int) by rw [HQ.out]; rfl]
    have hb3 : Below w1.heap.size w1 w3 := by rw [← hw3]; exact (Below.refl _ _).alloc (Nat.le_refl _) _
    have hh3 : w3.heap[w1.heap.size]? = some (.cells #[.int .u8 48, .int .u8 49, .int .u8 58, .int .u8 45, .int .u8 40, .int .u8 97, .int .u8 60] 5 (0, 0)) := by rw [← hw3]; exact alloc1 _ _
    have hby3 : BytesAt w3 w.heap.size s := HBY.out.keep (hb3.block _ HBY.out.lt)
    obtain ⟨x, hx⟩ : ∃ x, x = pickC.getD q 0 := ⟨_, rfl⟩
    have e1 : w3.cell? ⟨w1.heap.size, q, none⟩ = some (.int .u8 (x.toNat : Int)) := by rw [hx]; exact (Lib.cell_of_heap hh3 _).trans (pickC_at q hq7)
    have hjs : j < s.length := by rw [← HN.out]; exact hjn
    have e2 : w3.cell? ⟨w.heap.size, j, none⟩ = some (.int .u8 ((s[j]).toNat : Int)) := hby3.cell (List.getElem?_eq_getElem hjs)
    have f2 : w3.frozen? ⟨w.heap.size, j, none⟩ = false := hby3.open_ hjs
    have e3 := HBK.out _ x (hby3.set hjs x)
    have HR : Hid (s.set j x = chg s k ∧ Below w.heap.size w (w3.setCell ⟨w.heap.size, j, none⟩ (.int .u8 (x.toNat : Int)))) := Lib.hid ⟨by unfold chg; rw [← HN.out, ← HJ.out, ← HQ.out, hx], (HB1.out.trans (hb3.mono HB1.out.size)).setCell (p := ⟨w.heap.size, j, none⟩) (Nat.le_refl _) _⟩
    have hi1 : (0 : Int) ≤ (q : Int) ∧ (q : Int) < 7 := ⟨by omega, by omega⟩
    have hi2 : (0 : Int) ≤ (j : Int) ∧ (j : Int) < (n : Int) := ⟨by omega, by omega⟩
    clear hx hh3 hb3 hby3 hw3
    go_wp2
    go_ret
    rw [HR.out.1]
    exact ⟨rfl, HR.out.2⟩
end Go.Proofs.YtkggmckfdkpldaaDoor
