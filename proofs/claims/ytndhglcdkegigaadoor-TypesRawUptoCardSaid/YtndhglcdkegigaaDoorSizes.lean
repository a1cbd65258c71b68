/-
  How large a made type is, and what becomes of it by Put (plain).
-/
import Derived.Test.YtndhglcdkegigaaDoorDType
import Derived.Test.YtndhglcdkegigaaDoorParse
namespace Go.Proofs.YtndhglcdkegigaaDoor

mutual
/-- A sum over the nodes of a type. -/
def wt (c : List UInt8 → Nat) : Ty → Nat
  | .mk n ks => c n + wtL c ks
def wtL (c : List UInt8 → Nat) : List Ty → Nat
  | [] => 0
  | a :: r => wt c a + wtL c r
end
abbrev lng (n : List UInt8) : Nat := n.length + 2
theorem wt_size (t : Ty) : wt (fun _ => 1) t = t.size := by
  induction t using Ty.ind with | h n ks ih => ?_
  have : wtL (fun _ => 1) ks = sizeL ks := by
    induction ks with
    | nil => rfl
    | cons a r ihr => rw [wtL, sizeL, ih a (by simp), ihr fun b hb => ih b (by simp [hb])]
  rw [wt, Ty.size, this]
theorem prn_wt (t : Ty) : (prn t).length + 1 ≤ wt lng t := by
  induction t using Ty.ind with | h n ks ih => ?_
  have : ∀ c, (prnL ks c).length ≤ wtL lng ks := by
    induction ks with
    | nil => intro c; simp [prnL]
    | cons a r ihr =>
      intro c
      have h1 := ih a (by simp)
      have h2 := ihr (fun b hb => ih b (by simp [hb])) 44
      rw [prnL, wtL]
      simp only [List.length_cons, List.length_append]
      omega
  have h := this 60
  rw [prn, wt]
  simp only [List.length_append]
  have h3 : lng n = n.length + 2 := rfl
  split <;> simp only [List.length_nil, List.length_cons] <;> omega
theorem parIx_mem {ns : List (List UInt8)} {ls : List Ty} {n : List UInt8} {k : Nat} {t : Ty} (h : parIx ns ls n k = some t) : t ∈ ls := by
  unfold parIx at h
  split at h
  · split at h
    · exact List.mem_of_getElem? h
    · cases h
  · cases h
theorem dname_lng {n : List UInt8} (h : n ∈ dnames) : lng n ≤ 8 := by
  have : ∀ n ∈ dnames, lng n ≤ 8 := by decide
  exact this n h
theorem size_one (t : Ty) : 1 ≤ t.size := by cases t; rw [Ty.size]; omega
theorem wtL_le {c : List UInt8 → Nat} {M : Nat} : ∀ (ks : List Ty), (∀ a ∈ ks, wt c a ≤ M * a.size) → wtL c ks ≤ M * sizeL ks
  | [], _ => by simp [wtL]
  | a :: r, h => by
    have h1 := h a (by simp)
    have h2 := wtL_le r fun b hb => h b (by simp [hb])
    rw [wtL, sizeL, Nat.mul_add]
    omega
theorem DTy.wt_put {d : Nat} {t : Ty} (h : DTy d t) (c : List UInt8 → Nat) (ns : List (List UInt8)) (ls : List Ty) (M : Nat) (hc : ∀ n ∈ dnames, c n ≤ M) (hl : ∀ a ∈ ls, wt c a ≤ M) : wt c (putN ns ls t) ≤ M * t.size := by
  induction h with
  | mk d n ks hn hk h0 h ih =>
    cases hp : parIx ns ls n ks.length with
    | some t' =>
      rw [putN_some hp]
      exact Nat.le_trans (hl t' (parIx_mem hp)) (Nat.le_mul_of_pos_right _ (size_one _))
    | none =>
      rw [putN_none hp, wt, Ty.size]
      have h1 : wtL c (ks.map (putN ns ls)) ≤ M * sizeL ks := by
        clear hp h0 hk h
        induction ks with
        | nil => simp [wtL]
        | cons a r ihr =>
          have h1 := ih a (by simp)
          have h2 := ihr fun b hb => ih b (by simp [hb])
          rw [List.map_cons, wtL, sizeL, Nat.mul_add]
          omega
      have h2 := hc n hn
      rw [Nat.mul_add]
      omega
theorem DTy.wt_le {d : Nat} {t : Ty} (h : DTy d t) : wt lng t ≤ 8 * t.size := by
  induction h with
  | mk d n ks hn hk h0 h ih =>
    have h1 := wtL_le (c := lng) (M := 8) ks ih
    have h2 := dname_lng hn
    rw [wt, Ty.size, Nat.mul_add]
    omega
/-- Three deep, with types that are two deep at most. -/
theorem put_small {a t1 t2 : Ty} (ha : DTy 3 a) (h1 : DTy 2 t1) (h2 : DTy 1 t2) (ns : List (List UInt8)) (ls : List Ty) (hl : ∀ x ∈ ls, x = t1 ∨ x = t2) : (putN ns ls a).size ≤ 4000000 ∧ (prn (putN ns ls a)).length ≤ 4000000 := by
  have s0 := ha.size
  have s1 := h1.size
  have s2 := h2.size
  have w1 := h1.wt_le
  have w2 := h2.wt_le
  refine ⟨?_, ?_⟩
  · have := ha.wt_put (fun _ => 1) ns ls 100 (fun _ _ => by omega) fun x hx => by
      rw [wt_size]
      rcases hl x hx with rfl | rfl <;> omega
    rw [wt_size] at this
    omega
  · have := ha.wt_put lng ns ls 100 (fun n hn => by have := dname_lng hn; omega) fun x hx => by
      rcases hl x hx with rfl | rfl <;> omega
    have := prn_wt (putN ns ls a)
    omega
theorem made_small {d : Nat} {a : Ty} (hd : d ≤ 3) (ha : DTy d a) : a.size ≤ 4000000 ∧ (prn a).length ≤ 4000000 := by
  have s0 := ha.size
  have h1 := ha.wt_le
  have h2 := prn_wt a
  have : 2 ^ d ≤ 2 ^ 3 := Nat.pow_le_pow_right (by omega) hd
  exact ⟨by omega, by omega⟩
end Go.Proofs.YtndhglcdkegigaaDoor
