/-
  Identities, the plain law: what follows of an update that is right.
  No condition beyond those of each theorem.
-/
import Derived.Test.YtmnhgkhidepojaaIdUP
namespace Go.Proofs.Ytmnhgkhidepojaa
open Go.RowKit

theorem zeros_le (l : List Int) : zeros l ≤ l.length := List.countP_le_length
theorem ids2_in {n : Int} {xs : List Idn} {l : List It} (hc : Chk n xs) {i : Nat} {a : Int} (h : (ids2 n xs l)[i]? = some a) :
    1 ≤ a ∧ a < nextOf n xs l ∧ ∃ b, (ids1 xs l)[i]? = some b ∧ (b ≠ 0 → a = b) := by
  have hi : i < (ids1 xs l).length := by
    have := (List.getElem?_eq_some_iff.1 h).1
    rw [ids2_length] at this
    rw [ids1_length]
    exact this
  have hb := List.getElem?_eq_getElem hi
  unfold ids2 at h
  rw [numb_at hb] at h
  have ha := Option.some.inj h
  have hn := hc.1
  by_cases h0 : (ids1 xs l)[i] = 0
  · rw [if_pos h0] at ha
    rw [h0] at hb
    have := zeros_take_le hb
    unfold nextOf
    exact ⟨by omega, by omega, _, hb, fun e => absurd rfl e⟩
  · rw [if_neg h0] at ha
    have h1 := ids1_in hc hb h0
    unfold nextOf
    exact ⟨by omega, by omega, _, hb, fun _ => ha.symm⟩

theorem upd_ok {n m e : Int} {xs ys : List Idn} {l : List It} (h : Upd 1 3 n xs l m ys e) (hc : Chk n xs) (ha : Asc l) (hn : n + l.length ≤ top) :
    e = 0 ∧ m = nextOf n xs l ∧ ys.Perm (zipI (ids2 n xs l) l) ∧ ys.Pairwise fun a b => a.id ≤ b.id := by
  rcases h with ⟨h1, _⟩ | ⟨_, _, h3, _⟩ | ⟨_, _, _, rfl, hp, hs, rfl⟩
  · exact absurd ⟨hc, ha⟩ h1
  · unfold nextOf at h3
    have := zeros_le (ids1 xs l)
    rw [ids1_length] at this
    omega
  · exact ⟨rfl, rfl, hp, hs⟩

theorem zip_keys {is : List Int} {l : List It} (hl : l.Pairwise fun a b => a.key ≠ b.key) : (zipI is l).Pairwise fun a b => a.key ≠ b.key := by
  refine List.pairwise_iff_getElem.2 fun i k hi hk hlt he => ?_
  have h1 := List.getElem?_eq_getElem hi
  have h2 := List.getElem?_eq_getElem hk
  rw [zipI_at] at h1 h2
  obtain ⟨a, ha, h1⟩ := Option.bind_eq_some_iff.1 h1
  obtain ⟨b, hb, h2⟩ := Option.bind_eq_some_iff.1 h2
  obtain ⟨x, hx, h1⟩ := Option.map_eq_some_iff.1 h1
  obtain ⟨y, hy, h2⟩ := Option.map_eq_some_iff.1 h2
  rw [← h1, ← h2] at he
  have := sameKey_idx hl hx hy he
  omega

theorem upd_chk {n : Int} {xs ys : List Idn} {l : List It} (hc : Chk n xs) (ha : Asc l) (hn : nextOf n xs l ≤ top) (hp : ys.Perm (zipI (ids2 n xs l) l)) (hs : ys.Pairwise fun a b => a.id ≤ b.id) : Chk (nextOf n xs l) ys := by
  refine ⟨by unfold nextOf; have := hc.1; omega, hn, fun y hy => ?_, ?_, ?_⟩
  · obtain ⟨i, h1, _⟩ := zipI_mem (hp.mem_iff.1 hy)
    have := ids2_in hc h1
    exact ⟨this.1, this.2.1⟩
  · have hz := zip_nodup hc ha.keys
    have hn := hp.symm.pairwise hz fun {a b} h => fun e => h e.symm
    exact (hs.and hn).imp fun {a b} h => by have := h.1; have := h.2; omega
  · exact hp.symm.pairwise (zip_keys ha.keys) fun {a b} h => fun e => h e.symm
theorem upd_len {n : Int} {xs ys : List Idn} {l : List It} (hp : ys.Perm (zipI (ids2 n xs l) l)) : ys.length = l.length := by
  rw [hp.length_eq, zipI_length (by rw [ids2_length])]

/-- Each item has its number. -/
theorem upd_id {n : Int} {xs ys : List Idn} {l : List It} (hk : ys.Pairwise fun a b => a.key ≠ b.key) (hp : ys.Perm (zipI (ids2 n xs l) l)) {i : Nat} {x : It} {a : Int} (hx : l[i]? = some x) (ha : (ids2 n xs l)[i]? = some a) : idOf ys x.key = a := by
  have hm : (⟨a, x⟩ : Idn) ∈ ys := hp.mem_iff.2 (zipI_of ha hx)
  exact idOf_key hk hm

/-- The same update again changes nothing. -/
theorem upd_again {n : Int} {xs ys : List Idn} {l : List It} (hc : Chk n xs) (ha : Asc l) (hn : nextOf n xs l ≤ top) (hp : ys.Perm (zipI (ids2 n xs l) l)) (hs : ys.Pairwise fun a b => a.id ≤ b.id) : Upd 1 3 (nextOf n xs l) ys l (nextOf n xs l) ys 0 := by
  have hck := upd_chk hc ha hn hp hs
  have hid : ids1 ys l = ids2 n xs l := by
    apply List.ext_getElem?
    intro i
    by_cases hi : i < l.length
    · have hx := List.getElem?_eq_getElem hi
      have h2 := List.getElem?_eq_getElem (l := ids2 n xs l) (i := i) (by rw [ids2_length]; exact hi)
      have h3 := upd_id hck.2.2.2.2 hp hx h2
      have h4 := (ids2_in hc h2).1
      rw [h2]
      unfold ids1
      rw [List.getElem?_map, hx, Option.map_some, h3, if_neg (by omega)]
    · rw [List.getElem?_eq_none (by rw [ids1_length]; omega), List.getElem?_eq_none (by rw [ids2_length]; omega)]
  have hz : ∀ a ∈ ids1 ys l, a ≠ 0 := fun a h => by
    rw [hid] at h
    obtain ⟨i, hi⟩ := List.mem_iff_getElem?.1 h
    have := (ids2_in hc hi).1
    omega
  have hz0 : zeros (ids1 ys l) = 0 := by
    unfold zeros
    rw [List.countP_eq_zero]
    intro a ha
    simpa using hz a ha
  have hnb : ∀ (n : Int) (is : List Int), (∀ a ∈ is, a ≠ 0) → numb n is = is := by
    intro n is
    induction is generalizing n with
    | nil => intro _; rfl
    | cons b r ih =>
      intro h
      unfold numb
      rw [if_neg (h b (by simp)), ih n fun a ha => h a (by simp [ha])]
  have hi2 : ids2 (nextOf n xs l) ys l = ids2 n xs l := by
    rw [ids2, hnb _ _ hz, hid]
  refine .inr (.inr ⟨hck, ha, ?_, ?_, ?_, hs, rfl⟩)
  · rw [nextOf, hz0]; simpa using hn
  · conv => rhs; rw [nextOf, hz0]
    simp
  · rw [hi2]; exact hp

/-- What was there keeps its number. -/
theorem upd_keeps {n : Int} {xs ys : List Idn} {l : List It} (hc : Chk n xs) (hp : ys.Perm (zipI (ids2 n xs l) l)) {a : Idn} (ha : a ∈ xs) {i : Int} (h : fnd ys a.key = some i) : i = a.id := by
  unfold fnd at h
  obtain ⟨y, hy, rfl⟩ := Option.map_eq_some_iff.1 h
  have hk : y.key = a.key := by simpa using List.find?_some hy
  obtain ⟨j, h1, h2⟩ := zipI_mem (hp.mem_iff.1 (List.mem_of_find?_eq_some hy))
  obtain ⟨_, _, b, hb, hb2⟩ := ids2_in hc h1
  obtain ⟨x, hx, hbx⟩ := ids1_at hb
  rw [h2] at hx
  obtain rfl := Option.some.inj hx
  have hid : idOf xs y.it.key = a.id := by
    rw [show y.it.key = a.key from hk]
    exact idOf_key hc.2.2.2.2 ha
  have h0 := (hc.2.2.1 a ha).1
  rw [hid, if_neg (by omega)] at hbx
  rw [hb2 (by omega), hbx]
end Go.Proofs.Ytmnhgkhidepojaa
