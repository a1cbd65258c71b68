/-
  Identities, the plain law of moves: a definition whose shape no other one has keeps its number, and it is the only one that has moved.
  No condition beyond those of each theorem.
-/
import Derived.Test.YtmnhgkhidepojaaIdQ
import Derived.Test.YtmnhgkhidepojaaIdE
namespace Go.Proofs.Ytmnhgkhidepojaa
open Go.RowKit

theorem filter_uniq {p : Idn → Bool} : ∀ {Y : List Idn} {y0 : Idn}, (Y.Pairwise fun a b => a.id < b.id) → y0 ∈ Y → (∀ y ∈ Y, p y = true ↔ y = y0) → Y.filter p = [y0]
  | [], y0, _, h, _ => by cases h
  | y :: r, y0, hn, h, hp => by
    have hn' := List.pairwise_cons.1 hn
    by_cases e : y = y0
    · subst e
      rw [List.filter_cons_of_pos ((hp y (by simp)).2 rfl), List.filter_eq_nil_iff.2]
      intro z hz hpz
      have := (hp z (by simp [hz])).1 hpz
      have h2 := hn'.1 z hz
      rw [this] at h2
      omega
    · rw [List.filter_cons_of_neg fun h2 => e ((hp y (by simp)).1 h2)]
      rcases List.mem_cons.1 h with h | h
      · exact absurd h.symm e
      · exact filter_uniq hn'.2 h fun z hz => hp z (by simp [hz])
theorem seekX_mem {xs : List Idn} (hn : xs.Pairwise fun a b => a.id < b.id) {y : Idn} (hy : y ∈ xs) : seekX xs y.id = some y.key := by
  unfold seekX
  cases hf : xs.find? fun z => decide (z.id = y.id) with
  | none => exact absurd (List.find?_eq_none.1 hf y hy) (by simp)
  | some z =>
    have hz : z.id = y.id := by simpa using List.find?_some hf
    rw [sameId hn (List.mem_of_find?_eq_some hf) hy hz]
    rfl
theorem fnd_mem {xs : List Idn} (hn : xs.Pairwise fun a b => a.key ≠ b.key) {y : Idn} (hy : y ∈ xs) : fnd xs y.key = some y.id := idO_mem hn hy

theorem upd_zero_len {n m : Int} {xs ys : List Idn} {l : List It} (h : Upd 1 3 n xs l m ys 0) : ys.length = l.length := by
  rcases h with ⟨_, _, _, h⟩ | ⟨_, _, _, _, _, h⟩ | ⟨_, _, _, _, hp, _⟩
  · cases h
  · cases h
  · exact upd_len hp
def alone : List UInt8 := [97, 108, 111, 110, 101]

theorem moves_law1 {l : List It} {k : Nat} {x0 : It} (hl : Asc l) (hlen : l.length ≤ 8) (hk : l[k]? = some x0) {nx e : Int} {X : List Idn} {L : List It}
    (hL : L = l.set k ⟨x0.md, x0.nm, alone⟩) (hu : Upd 1 3 1 [] L nx X e) :
    e = 0 ∧ X.length = l.length ∧ nx ≤ 9 ∧ ∃ a, fnd X x0.key = some a := by
  have hkl := (List.getElem?_eq_some_iff.1 hk).1
  have hat : ∀ (i : Nat) (x : It), L[i]? = some x → ∃ x', l[i]? = some x' ∧ x.key = x'.key := fun i x hx => by
    rw [hL, List.getElem?_set] at hx
    by_cases hik : k = i
    · subst hik
      rw [if_pos rfl, if_pos hkl] at hx
      obtain rfl := Option.some.inj hx
      exact ⟨x0, hk, rfl⟩
    · rw [if_neg hik] at hx
      exact ⟨x, hx, rfl⟩
  have hLl : L.length = l.length := by rw [hL]; simp
  have hAL : Asc L := fun i a b ha hb => by
    obtain ⟨a', ha', ea⟩ := hat i a ha
    obtain ⟨b', hb', eb⟩ := hat (i + 1) b hb
    rw [ea, eb]
    exact hl i a' b' ha' hb'
  obtain ⟨x1, hx1⟩ : ∃ x1 : It, x1 = ⟨x0.md, x0.nm, alone⟩ := ⟨_, rfl⟩
  have hLk : L[k]? = some x1 := by rw [hL, List.getElem?_set, if_pos rfl, if_pos hkl, hx1]
  have hc0 : Chk 1 [] := ⟨by decide, by decide, (fun y h => by cases h), .nil, .nil⟩
  obtain ⟨rfl, hnx, hp, hs⟩ := upd_ok hu hc0 hAL (by unfold top; omega)
  have hz0 := zeros_le (ids1 [] L)
  rw [ids1_length, hLl] at hz0
  have hnx8 : nx ≤ 9 := by rw [hnx]; unfold nextOf; omega
  have hck := upd_chk hc0 hAL (by rw [← hnx]; unfold top; omega) hp hs
  rw [← hnx] at hck
  obtain ⟨a, ha⟩ : ∃ a, (ids2 1 [] L)[k]? = some a := ⟨_, List.getElem?_eq_getElem (by rw [ids2_length, hLl]; exact hkl)⟩
  have hmX : (⟨a, x1⟩ : Idn) ∈ X := hp.mem_iff.2 (zipI_of ha hLk)
  have hk1 : x1.key = x0.key := by rw [hx1]; rfl
  refine ⟨rfl, by rw [upd_len hp, hLl], hnx8, a, ?_⟩
  have := fnd_mem hck.2.2.2.2 hmX
  rw [← hk1]
  exact this

theorem moves_law {l : List It} {k : Nat} {x0 : It} (hl : Asc l) (hlen : l.length ≤ 8) (hmd : ∀ x ∈ l, x.md = [97] ∨ x.md = [98]) (hk : l[k]? = some x0) (nm : List UInt8) {nx ny e f : Int} {X Y : List Idn} {L M : List It}
    (hL : L = l.set k ⟨x0.md, x0.nm, alone⟩) (hM : M = L.take k ++ L.drop (k + 1) ++ [⟨[99], nm, alone⟩]) (hu : Upd 1 3 1 [] L nx X e) (hu2 : Upd 1 3 nx X M ny Y f) :
    e = 0 ∧ f = 0 ∧ ∃ a, fnd X x0.key = some a ∧ fnd Y ([99], nm) = some a ∧ mvs X Y = [⟨a, ⟨[99], nm, alone⟩⟩] := by
  have hkl := (List.getElem?_eq_some_iff.1 hk).1
  have hat : ∀ (i : Nat) (x : It), L[i]? = some x → ∃ x', l[i]? = some x' ∧ x.key = x'.key := fun i x hx => by
    rw [hL, List.getElem?_set] at hx
    by_cases hik : k = i
    · subst hik
      rw [if_pos rfl, if_pos hkl] at hx
      obtain rfl := Option.some.inj hx
      exact ⟨x0, hk, rfl⟩
    · rw [if_neg hik] at hx
      exact ⟨x, hx, rfl⟩
  have hLl : L.length = l.length := by rw [hL]; simp
  have hAL : Asc L := fun i a b ha hb => by
    obtain ⟨a', ha', ea⟩ := hat i a ha
    obtain ⟨b', hb', eb⟩ := hat (i + 1) b hb
    rw [ea, eb]
    exact hl i a' b' ha' hb'
  have hmL : ∀ x ∈ L, x.md = [97] ∨ x.md = [98] := fun x hx => by
    obtain ⟨i, hi⟩ := List.mem_iff_getElem?.1 hx
    obtain ⟨x', hx', ex⟩ := hat i x hi
    have h1 := hmd x' (List.mem_of_getElem? hx')
    have h2 : x.md = x'.md := congrArg Prod.fst ex
    rwa [h2]
  obtain ⟨x1, hx1⟩ : ∃ x1 : It, x1 = ⟨x0.md, x0.nm, alone⟩ := ⟨_, rfl⟩
  have hLk : L[k]? = some x1 := by rw [hL, List.getElem?_set, if_pos rfl, if_pos hkl, hx1]
  have hc0 : Chk 1 [] := ⟨by decide, by decide, (fun y h => by cases h), .nil, .nil⟩
  obtain ⟨rfl, hnx, hp, hs⟩ := upd_ok hu hc0 hAL (by unfold top; omega)
  have hz0 := zeros_le (ids1 [] L)
  rw [ids1_length, hLl] at hz0
  have hnx8 : nx ≤ 9 := by rw [hnx]; unfold nextOf; omega
  have hck := upd_chk hc0 hAL (by rw [← hnx]; unfold top; omega) hp hs
  rw [← hnx] at hck
  obtain ⟨a, ha⟩ : ∃ a, (ids2 1 [] L)[k]? = some a := ⟨_, List.getElem?_eq_getElem (by rw [ids2_length, hLl]; exact hkl)⟩
  have ha1 := (ids2_in hc0 ha).1
  have hmX : (⟨a, x1⟩ : Idn) ∈ X := hp.mem_iff.2 (zipI_of ha hLk)
  have hXat : ∀ y ∈ X, ∃ i : Nat, (ids2 1 [] L)[i]? = some y.id ∧ L[i]? = some y.it := fun y hy => zipI_mem (hp.mem_iff.1 hy)
  obtain ⟨mv, hmv⟩ : ∃ mv : It, mv = ⟨[99], nm, alone⟩ := ⟨_, rfl⟩
  rw [← hmv] at hM
  have hmvL : ∀ x ∈ L, x.key ≠ mv.key := fun x hx e => by
    have h1 : x.md = [99] := (congrArg Prod.fst e).trans (by rw [hmv]; rfl)
    rcases hmL x hx with h | h <;> rw [h] at h1 <;> cases h1
  have hMmem : ∀ z ∈ M, z = mv ∨ ∃ i : Nat, i ≠ k ∧ L[i]? = some z := fun z hz => by
    rw [hM] at hz
    rcases List.mem_append.1 hz with hz | hz
    · rcases List.mem_append.1 hz with hz | hz
      · obtain ⟨i, hi⟩ := List.mem_iff_getElem?.1 hz
        have hik : i < k := by
          have := (List.getElem?_eq_some_iff.1 hi).1
          rw [List.length_take] at this
          omega
        rw [List.getElem?_take_of_lt hik] at hi
        exact .inr ⟨i, by omega, hi⟩
      · obtain ⟨i, hi⟩ := List.mem_iff_getElem?.1 hz
        rw [List.getElem?_drop] at hi
        exact .inr ⟨k + 1 + i, by omega, hi⟩
    · exact .inl (List.mem_singleton.1 hz)
  have hLM : ∀ (i : Nat) (z : It), i ≠ k → L[i]? = some z → z ∈ M := fun i z hik hi => by
    rw [hM]
    rcases Nat.lt_or_gt_of_ne hik with h | h
    · refine List.mem_append_left _ (List.mem_append_left _ (List.mem_iff_getElem?.2 ⟨i, ?_⟩))
      rw [List.getElem?_take_of_lt h]
      exact hi
    · refine List.mem_append_left _ (List.mem_append_right _ (List.mem_iff_getElem?.2 ⟨i - (k + 1), ?_⟩))
      rw [List.getElem?_drop, show k + 1 + (i - (k + 1)) = i by omega]
      exact hi
  have hAM : Asc M := by
    rw [hM]
    refine asc_of_pairs (List.pairwise_append.2 ⟨?_, List.pairwise_singleton _ _, fun x hx y hy => ?_⟩)
    · rw [← List.eraseIdx_eq_take_drop_succ]
      exact hAL.pairs.sublist (List.eraseIdx_sublist _ _)
    · rw [List.mem_singleton.1 hy]
      have hxL : x ∈ L := by
        rcases List.mem_append.1 hx with h | h
        · exact List.mem_of_mem_take h
        · exact List.mem_of_mem_drop h
      have hmvk : mv.key.1 = [99] := by rw [hmv]; rfl
      unfold ltKey
      rw [hmvk]
      rcases hmL x hxL with h | h
      · have : x.key.1 = [97] := h
        rw [this]; rfl
      · have : x.key.1 = [98] := h
        rw [this]; rfl
  have hMl : M.length = l.length := by
    rw [hM]
    simp only [List.length_append, List.length_take, List.length_drop, List.length_cons, List.length_nil, hLl]
    omega
  obtain ⟨rfl, hny, hp2, hs2⟩ := upd_ok hu2 hck hAM (by unfold top; omega)
  have hz2 := zeros_le (ids1 X M)
  rw [ids1_length, hMl] at hz2
  have hck2 := upd_chk hck hAM (by unfold nextOf top; omega) hp2 hs2
  have hk1 : x1.key = x0.key := by rw [hx1]; rfl
  -- what has no number any more
  have hidL : ∀ (i : Nat) (z : It), L[i]? = some z → ∃ b, (ids2 1 [] L)[i]? = some b ∧ idOf X z.key = b ∧ 1 ≤ b := fun i z hi => by
    obtain ⟨b, hb⟩ : ∃ b, (ids2 1 [] L)[i]? = some b := ⟨_, List.getElem?_eq_getElem (by rw [ids2_length]; exact (List.getElem?_eq_some_iff.1 hi).1)⟩
    exact ⟨b, hb, upd_id hck.2.2.2.2 hp hi hb, (ids2_in hc0 hb).1⟩
  have hmv0 : idOf X mv.key = 0 := idOf_none fun y hy => by
    obtain ⟨i, _, hi⟩ := hXat y hy
    exact hmvL y.it (List.mem_of_getElem? hi)
  have hleft : left X M = [⟨a, x1⟩] := by
    unfold left
    refine filter_uniq hck.2.2.2.1 hmX fun y hy => ?_
    obtain ⟨i, hi1, hi2⟩ := hXat y hy
    simp only [List.all_eq_true, decide_eq_true_eq]
    constructor
    · intro h
      by_cases hik : i = k
      · subst hik
        rw [ha] at hi1
        rw [hLk] at hi2
        obtain ⟨yi, yt⟩ := y
        simp only at hi1 hi2
        rw [← Option.some.inj hi1, ← Option.some.inj hi2]
      · exact absurd rfl (h y.it (hLM i _ hik hi2))
    · rintro rfl z hz e
      rcases hMmem z hz with rfl | ⟨j, hjk, hj⟩
      · exact hmvL x1 (List.mem_of_getElem? hLk) e.symm
      · exact hjk (sameKey_idx hAL.keys hj hLk e)
  have hnews : news X M alone = 1 := by
    unfold news
    rw [hM, List.countP_append, List.countP_eq_zero.2, List.countP_cons, List.countP_nil]
    · simp [hmv0]
      rw [hmv]
    · intro z hz
      have hzM : z ∈ M := by rw [hM]; exact List.mem_append_left _ hz
      have hzL : z ∈ L := by
        rcases List.mem_append.1 hz with h | h
        · exact List.mem_of_mem_take h
        · exact List.mem_of_mem_drop h
      obtain ⟨i, hi⟩ := List.mem_iff_getElem?.1 hzL
      obtain ⟨b, _, hb, hb1⟩ := hidL i z hi
      simp only [decide_eq_true_eq, not_and]
      intro h0
      omega
  have hpid : pid X M alone = a := by
    unfold pid olds
    rw [hleft, List.filter_cons_of_pos (by rw [hx1]; simp), List.filter_nil]
    simp only
    rw [if_pos hnews]
  have hMlast : M[L.length - 1]? = some mv := by
    rw [hM, List.getElem?_append_right]
    · simp only [List.length_append, List.length_take, List.length_drop]
      rw [show L.length - 1 - (min k L.length + (L.length - (k + 1))) = 0 by omega]
      rfl
    · simp only [List.length_append, List.length_take, List.length_drop]
      omega
  have hi1 : (ids1 X M)[L.length - 1]? = some a := by
    unfold ids1
    rw [List.getElem?_map, hMlast, Option.map_some, if_pos hmv0, show mv.sh = alone by rw [hmv], hpid]
  have hi2 : (ids2 nx X M)[L.length - 1]? = some a := by
    obtain ⟨b, hb⟩ : ∃ b, (ids2 nx X M)[L.length - 1]? = some b := ⟨_, List.getElem?_eq_getElem (by rw [ids2_length]; exact (List.getElem?_eq_some_iff.1 hMlast).1)⟩
    obtain ⟨_, _, c, hc, hc2⟩ := ids2_in hck hb
    rw [hi1] at hc
    obtain rfl := Option.some.inj hc
    rw [hb, hc2 (by omega)]
  have hmY : (⟨a, mv⟩ : Idn) ∈ Y := hp2.mem_iff.2 (zipI_of hi2 hMlast)
  refine ⟨rfl, rfl, a, ?_, ?_, ?_⟩
  · have := fnd_mem hck.2.2.2.2 hmX
    rw [← hk1]
    exact this
  · have := fnd_mem hck2.2.2.2.2 hmY
    have e : (⟨a, mv⟩ : Idn).key = ([99], nm) := by rw [hmv]; rfl
    rw [e] at this
    exact this
  · unfold mvs
    rw [← hmv]
    refine filter_uniq hck2.2.2.2.1 hmY fun y hy => ?_
    obtain ⟨j, hj1, hj2⟩ := zipI_mem (hp2.mem_iff.1 hy)
    rcases hMmem y.it (List.mem_of_getElem? hj2) with e | ⟨i, hik, hi⟩
    · have hjl : j = L.length - 1 := sameKey_idx hAM.keys hj2 hMlast (by rw [e])
      subst hjl
      rw [hi2] at hj1
      have hy0 : y = ⟨a, mv⟩ := by
        obtain ⟨yi, yt⟩ := y
        simp only at hj1 e
        rw [e, ← Option.some.inj hj1]
      subst hy0
      refine ⟨fun _ => rfl, fun _ => ?_⟩
      unfold movedB
      have hsk := seekX_mem hck.2.2.2.1 hmX
      simp only at hsk ⊢
      rw [hsk]
      simp only [decide_eq_true_eq]
      exact hmvL x1 (List.mem_of_getElem? hLk)
    · obtain ⟨b, hb2, hbi, hb1⟩ := hidL i _ hi
      obtain ⟨_, _, c, hc, hc2⟩ := ids2_in hck hj1
      obtain ⟨z, hz, hcz⟩ := ids1_at hc
      rw [hj2] at hz
      obtain rfl := Option.some.inj hz
      rw [hbi, if_neg (by omega)] at hcz
      have hyid : y.id = b := by rw [hc2 (by omega), hcz]
      have hmem : (⟨b, y.it⟩ : Idn) ∈ X := hp.mem_iff.2 (zipI_of hb2 hi)
      have hsk := seekX_mem hck.2.2.2.1 hmem
      constructor
      · intro h
        unfold movedB at h
        rw [hyid] at h
        simp only at hsk
        rw [hsk] at h
        simp only [decide_eq_true_eq] at h
        exact absurd rfl h
      · intro e
        have : y.it = mv := by rw [e]
        exact absurd (by rw [this]) (hmvL y.it (List.mem_of_getElem? hi))
end Go.Proofs.Ytmnhgkhidepojaa
