/-
  Differences of lists of messages, the plain law: the other way round, back and forth, no more than they have to.
  No condition beyond those of each theorem.
-/
import Derived.Test.YtlgdminpkkhejaaDtP
namespace Go.Proofs.Ytlgdminpkkhejaa
open Go.RowKit

theorem count_fk (m : Msg) : ∀ l : List Msg, (fk m.2 l).count m = l.count m
  | [] => rfl
  | x :: r => by
    have ih := count_fk m r
    unfold fk at ih ⊢
    rw [List.filter_cons]
    by_cases h : x.2 = m.2
    · rw [if_pos (by simpa using h), List.count_cons, List.count_cons, ih]
    · have hx : ¬ x = m := fun e => h (by rw [e])
      rw [if_neg (by simpa using h), ih, List.count_cons]
      simp [hx]
theorem perm_kinds {a b : List Msg} (h : ∀ k, fk k a = fk k b) : a.Perm b := List.perm_iff_count.2 fun m => by rw [← count_fk, ← count_fk m b, h]
theorem srt_kinds {a b : List Msg} (ha : Srt a) (hb : Srt b) (h : ∀ k, fk k a = fk k b) : a = b := ha.unique hb (perm_kinds h)
theorem gone_srt (old now : List Msg) : Srt (goneM old now) := dif_srt now (srtM_srt old)
theorem gone_count (old now : List Msg) (m : Msg) : (goneM old now).count m = old.count m - now.count m := by
  unfold goneM
  rw [dif_count, srtM_count]
theorem left_srt (C L : List Msg) (h : Srt L) : Srt (mate C L).2.2 := by
  rw [mate_left]
  exact dif_srt _ h
theorem come_srt (C L : List Msg) (h : Srt C) : Srt (mate C L).1 := h.sub (mate_come C L)
theorem turn_gone (old now : List Msg) : (ofM old now).gone = (ofM now old).come := srt_kinds (left_srt _ _ (gone_srt old now)) (come_srt _ _ (gone_srt old now)) fun k => by
  show fk k (mate (goneM now old) (goneM old now)).2.2 = fk k (mate (goneM old now) (goneM now old)).1
  rw [(mate_kind k _ _).2.2.2, (mate_kind k _ _).1]
theorem turn_come (old now : List Msg) : (ofM old now).come = (ofM now old).gone := (turn_gone now old).symm
theorem moved_src (old now : List Msg) : (ofM old now).moved.map srcOf = (mateM old now).2.1.map (·.1) := by
  show ((mateM old now).2.1.map mvOf).map srcOf = _
  rw [List.map_map]
  exact List.map_congr_left fun p hp => src_mv (mate_mem _ _ p hp).2.2
theorem moved_msg (old now : List Msg) : (ofM old now).moved.map (·.2.2) = (mateM old now).2.1.map (·.2) := by
  show ((mateM old now).2.1.map mvOf).map (·.2.2) = _
  rw [List.map_map]
  rfl
theorem turn_moved (old now : List Msg) : ((ofM old now).moved.map srcOf).Perm ((ofM now old).moved.map (·.2.2)) := by
  rw [moved_src, moved_msg]
  exact perm_kinds fun k => by
    show fk k ((mate (goneM now old) (goneM old now)).2.1.map (·.1)) = fk k ((mate (goneM old now) (goneM now old)).2.1.map (·.2))
    rw [(mate_kind k _ _).2.2.1, (mate_kind k _ _).2.1]
theorem turn_len (old now : List Msg) : (ofM old now).moved.length = (ofM now old).moved.length := by
  have := (turn_moved old now).length_eq
  simpa using this
theorem gone_all (old now : List Msg) (m : Msg) : (awayM (ofM old now)).count m = (goneM old now).count m := by
  unfold awayM
  rw [moved_src, List.count_append]
  show (mate (goneM now old) (goneM old now)).2.2.count m + ((mate (goneM now old) (goneM old now)).2.1.map (·.1)).count m = _
  obtain ⟨_, _, h3, h4⟩ := mate_kind m.2 (goneM now old) (goneM old now)
  rw [← count_fk m (mate (goneM now old) (goneM old now)).2.2, ← count_fk m ((mate (goneM now old) (goneM old now)).2.1.map (·.1)), h3, h4, ← count_fk m (goneM old now)]
  have := congrArg (List.count m) (List.take_append_drop (fk m.2 (goneM now old)).length (fk m.2 (goneM old now)))
  rw [List.count_append] at this
  omega
theorem come_all (old now : List Msg) (m : Msg) : (moreM (ofM old now)).count m = (goneM now old).count m := by
  unfold moreM
  rw [moved_msg, List.count_append]
  show (mate (goneM now old) (goneM old now)).1.count m + ((mate (goneM now old) (goneM old now)).2.1.map (·.2)).count m = _
  obtain ⟨h1, h2, _, _⟩ := mate_kind m.2 (goneM now old) (goneM old now)
  rw [← count_fk m (mate (goneM now old) (goneM old now)).1, ← count_fk m ((mate (goneM now old) (goneM old now)).2.1.map (·.2)), h1, h2, ← count_fk m (goneM now old)]
  have := congrArg (List.count m) (List.take_append_drop (fk m.2 (goneM old now)).length (fk m.2 (goneM now old)))
  rw [List.count_append] at this
  omega
/-- A difference leads from the old messages to the new ones. -/
theorem apply_of (old now : List Msg) : applyM old (ofM old now) = some (srtM now) := by
  unfold applyM
  have h0 : miss (srtM old) (awayM (ofM old now)) = 0 := miss_zero _ _ fun m => by
    rw [gone_all, gone_count, srtM_count]
    omega
  rw [if_pos h0]
  congr 1
  refine srtM_congr (List.perm_iff_count.2 fun m => ?_)
  rw [List.count_append, dif_count, gone_all, come_all, gone_count, gone_count, srtM_count]
  omega
theorem ofM_congr {old old' now now' : List Msg} (h : old.Perm old') (h' : now.Perm now') : ofM old now = ofM old' now' := by
  have e1 : goneM old now = goneM old' now' := by
    unfold goneM
    rw [srtM_congr h]
    exact dif_perm (srtM_srt old') h'
  have e2 : goneM now old = goneM now' old' := by
    unfold goneM
    rw [srtM_congr h']
    exact dif_perm (srtM_srt now') h
  unfold ofM mateM
  rw [e1, e2]
/-- Equal lists have no difference. -/
theorem of_empty (old now : List Msg) : ((ofM old now).gone.length + (ofM old now).come.length + (ofM old now).moved.length = 0) ↔ srtM old = srtM now := by
  constructor
  · intro h
    have h1 : (ofM old now).gone = [] := List.eq_nil_of_length_eq_zero (by omega)
    have h2 : (ofM old now).come = [] := List.eq_nil_of_length_eq_zero (by omega)
    have h3 : (ofM old now).moved = [] := List.eq_nil_of_length_eq_zero (by omega)
    refine srtM_congr (List.perm_iff_count.2 fun m => ?_)
    have g1 := gone_all old now m
    have g2 := come_all old now m
    unfold awayM at g1
    unfold moreM at g2
    rw [h1, h3] at g1
    rw [h2, h3] at g2
    rw [gone_count] at g1 g2
    simp at g1 g2
    omega
  · intro h
    have hc : ∀ m, old.count m = now.count m := fun m => by rw [← srtM_count old, h, srtM_count]
    have e1 : goneM old now = [] := (gone_srt old now).counts srt_nil fun m => by rw [gone_count, hc]; simp
    have e2 : goneM now old = [] := (gone_srt now old).counts srt_nil fun m => by rw [gone_count, hc]; simp
    have e3 : mateM old now = ([], [], []) := by unfold mateM; rw [e1, e2]; rfl
    unfold ofM
    rw [e3]
    rfl
/-- What is gone and what has come are never alike. -/
theorem of_apart (old now : List Msg) : ∀ a ∈ (ofM old now).gone, ∀ b ∈ (ofM old now).come, ¬ a.2 = b.2 := by
  intro a ha b hb e
  obtain ⟨h1, _, _, h4⟩ := mate_kind a.2 (goneM now old) (goneM old now)
  have m1 : a ∈ fk a.2 (mate (goneM now old) (goneM old now)).2.2 := List.mem_filter.2 ⟨ha, by simp⟩
  have m2 : b ∈ fk a.2 (mate (goneM now old) (goneM old now)).1 := List.mem_filter.2 ⟨hb, by simp [e]⟩
  rw [h4] at m1
  rw [h1] at m2
  have l1 := List.length_pos_of_mem m1
  have l2 := List.length_pos_of_mem m2
  rw [List.length_drop] at l1 l2
  omega
/-- Each move leads elsewhere, to the place of its message. -/
theorem of_moves (old now : List Msg) : ∀ v ∈ (ofM old now).moved, v.1 ≠ v.2.1 ∧ v.2.1 = v.2.2.1 := by
  intro v hv
  obtain ⟨p, hp, rfl⟩ := List.mem_map.1 hv
  obtain ⟨h1, h2, h3⟩ := mate_mem _ _ p hp
  refine ⟨fun e => ?_, rfl⟩
  have e : p.1 = p.2 := Prod.ext e h3
  have c1 := List.count_pos_iff.2 h1
  have c2 := List.count_pos_iff.2 h2
  rw [gone_count] at c1 c2
  rw [e] at c1
  omega
end Go.Proofs.Ytlgdminpkkhejaa
