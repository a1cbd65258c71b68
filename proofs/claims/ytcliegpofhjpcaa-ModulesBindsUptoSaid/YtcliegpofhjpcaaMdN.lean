/-
  The walks of ref06.put and ref06.Lookup.
  Conditions: lists are at most 10^8 long.
-/
import Derived.Test.YtcliegpofhjpcaaMdY
import Derived.Test.YtcliegpofhjpcaaMdR
namespace Go.Proofs.Ytcliegpofhjpcaa
open Go.RowKit

/-- Strings that ascend. -/
def AscS (l : List (List UInt8)) : Prop := l.Pairwise fun a b => Op.bytesLess a b = true
theorem AscS.nodup {l : List (List UInt8)} (h : AscS l) : l.Nodup := h.imp fun {a b} h e => by rw [e, bytesLess_irr] at h; cases h
/-- One string more, in its place. -/
theorem AscS.put {l : List (List UInt8)} {b : List UInt8} {j : Nat} (h : AscS l) (h1 : ∀ x ∈ l.take j, Op.bytesLess x b = true) (h2 : ∀ x, l[j]? = some x → Op.bytesLess b x = true) : AscS (l.take j ++ b :: l.drop j) := by
  have hd : ∀ x ∈ l.drop j, Op.bytesLess b x = true := by
    cases hj : l[j]? with
    | none =>
      rw [List.drop_eq_nil_of_le (by simpa using hj)]
      intro x hx
      cases hx
    | some y =>
      obtain ⟨hlt, hy⟩ := List.getElem?_eq_some_iff.1 hj
      have hby := h2 y hj
      rw [List.drop_eq_getElem_cons hlt, hy]
      intro x hx
      rcases List.mem_cons.1 hx with rfl | hx
      · exact hby
      · obtain ⟨i, hi⟩ := List.mem_iff_getElem?.1 hx
        rw [List.getElem?_drop] at hi
        obtain ⟨hi1, hi2⟩ := List.getElem?_eq_some_iff.1 hi
        have := List.pairwise_iff_getElem.1 h j (j + 1 + i) hlt hi1 (by omega)
        rw [hy, hi2] at this
        exact bytesLess_trans hby this
  refine List.pairwise_append.2 ⟨h.sublist (List.take_sublist _ _), List.pairwise_cons.2 ⟨hd, h.sublist (List.drop_sublist _ _)⟩, fun a ha c hc => ?_⟩
  rcases List.mem_cons.1 hc with rfl | hc
  · exact h1 a ha
  · exact bytesLess_trans (h1 a ha) (hd c hc)
theorem mem_putS {l : List (List UInt8)} {b : List UInt8} (j : Nat) (x : List UInt8) : x ∈ l.take j ++ b :: l.drop j ↔ x = b ∨ x ∈ l := by
  rw [List.mem_append, List.mem_cons]
  constructor
  · rintro (h | h | h)
    · exact .inr (List.mem_of_mem_take h)
    · exact .inl h
    · exact .inr (List.mem_of_mem_drop h)
  · rintro (h | h)
    · exact .inr (.inl h)
    · rw [← List.take_append_drop j l] at h
      rcases List.mem_append.1 h with h | h
      · exact .inl h
      · exact .inr (.inr h)
theorem str1 (x : List UInt8) : ([sv x] : List Value).length = 1 := rfl
theorem flt1 (ss : List (List UInt8)) : flt (fun s => [sv s]) ss = ss.map sv := by
  induction ss with
  | nil => rfl
  | cons a r ih => rw [flt_cons, ih]; rfl
/-- The list with one string more. -/
def PutRes (S : Nat → Prop) (l : List (List UInt8)) (b : List UInt8) (w : World) (e : Ending) (w' : World) : Prop :=
  ∃ (A : Option Addr) (c : Nat) (l' : List (List UInt8)), e = .returned (.slice A l'.length c) ∧ l'.length ≤ c ∧ l'.length ≤ l.length + 1 ∧ AscS l' ∧ (∀ x, x ∈ l' ↔ x = b ∨ x ∈ l) ∧ Row w' (fun y => S y ∨ Fr w.heap.size w'.heap.size y) A (l'.map sv) ∧ Below w.heap.size w w'
def ptPhi (B k : Nat) (xs : List Value) (b : List UInt8) (i : Nat) (v : Value) (u : World) : Prop :=
  match i with
  | 3 => ∃ (A : Option Addr) (c : Nat), v = .slice A k c ∧ u.ownsRow B 9 1 (.slice A k c) k xs
  | 5 => ∃ g, v = .slice (some ⟨g, 0, none⟩) 1 1 ∧ B ≤ g ∧ u.heap[g]? = some (.cells #[sv b] 9 (0, 0))
  | _ => True
theorem ptPhi_go {B k : Nat} {xs : List Value} {b : List UInt8} (i : Nat) (v : Value) (u u' : World) (h : ptPhi B k xs b i v u) (hb : Below u.heap.size u u') : ptPhi B k xs b i v u' := by
  have hk : Kp (fun _ => False) u u' := Kp.ofBelow hb
  unfold ptPhi at h ⊢
  split at h
  · obtain ⟨A, c, h1, h2⟩ := h
    exact ⟨A, c, h1, hk.own h2 fun _ _ e => e⟩
  · obtain ⟨g, h1, h2, h3⟩ := h
    exact ⟨g, h1, h2, hk.heap h3 fun e => e⟩
  · trivial
theorem sv_one' (l : List (List UInt8)) : ∀ u ∈ l.map sv, u.oneCell' = true := fun u hu => by obtain ⟨y, _, rfl⟩ := List.mem_map.1 hu; rfl
set_option maxHeartbeats 1600000 in
set_option maxRecDepth 100000 in
theorem put_any (S : Nat → Prop) (l : List (List UInt8)) (b : List UInt8) (A : Option Addr) (c : Nat) (w : World) (hS : ∀ y, S y → Lt w.heap.size y) (hc : l.length ≤ c) (hl : l.length ≤ 100000000) (hasc : AscS l) (h : Row w S A (l.map sv)) :
    Calls Try.prog 28 #[.slice A l.length c, sv b] w (PutRes S l b w) := by
  obtain ⟨n, hn⟩ : ∃ n, n = l.length := ⟨_, rfl⟩
  rw [← hn] at hc hl ⊢
  have HN := Lib.hid hn
  have HR := Lib.hid h
  have HSLT := Lib.hid hS
  have HASC := Lib.hid hasc
  clear hn h hS hasc
  go_enter Try.func28, Try.ntmps28
  go_wp2_with fail
  go_loopw [5] (fun i wr => ∃ k : Nat, k ≤ n ∧ i = .int .i64 k ∧ Below w.heap.size w wr ∧ ∀ x ∈ l.take k, Op.bytesLess x b = true) (fun i _ => n - (intOf i).toNat)
  case atStart => exact ⟨0, by omega, rfl, Below.refl _ _, fun x hx => by simp at hx⟩
  case round =>
    obtain ⟨k, hkn, rfl, hB, hP⟩ := hrel
    have HB := Lib.hid hB
    have HPL := Lib.hid hP
    clear hB hP
    by_cases hlt : k < n
    · obtain ⟨x, hx⟩ : ∃ x, l[k]? = some x := ⟨_, List.getElem?_eq_getElem (by rw [← HN.out]; exact hlt)⟩
      have hrow := HR.out.keep ((kept_below HB.out).sub HSLT.out)
      obtain ⟨ad, hA, _, a0⟩ := hrow.at_ (k := k) (u := sv x) (by rw [List.getElem?_map, hx]; rfl)
      have hik : (0 : Int) ≤ (k : Int) ∧ (k : Int) < (n : Int) := ⟨by omega, by omega⟩
      have HX := Lib.hid hx
      have HTK : Hid (l.take (k + 1) = l.take k ++ [x]) := Lib.hid (by rw [List.take_add_one, hx]; rfl)
      have HAD := Lib.hid hA
      clear hrow hx
      rw [hA]
      clear hA
      cases h1 : Op.bytesLess x b with
      | true =>
        have hq : Op.bytesLess (bs x).toList (bs b).toList = true := by rw [bs_toList, bs_toList]; exact h1
        have HLE := Lib.hid h1
        clear h1
        go_wp2
        go_roundw
        case rel =>
          refine ⟨k + 1, by omega, by go_num, HB.out, fun y hy => ?_⟩
          rw [HTK.out] at hy
          rcases List.mem_append.1 hy with hy | hy
          · exact HPL.out y hy
          · rw [List.mem_singleton.1 hy]
            exact HLE.out
        case measure => simp [intOf]; omega
      | false =>
        have hq : Op.bytesLess (bs x).toList (bs b).toList = false := by rw [bs_toList, bs_toList]; exact h1
        have H1 := Lib.hid h1
        clear h1
        by_cases he : x = b
        · have hq2 : ((bs x).toList == (bs b).toList) = true := by rw [he]; simp
          have HBM : Hid (b ∈ l) := Lib.hid (by rw [← he]; exact List.mem_of_getElem? HX.out)
          have HRES : Hid (PutRes S l b w (.returned (.slice (some ad) n c)) wr) := Lib.hid ⟨some ad, c, l, by rw [HN.out], by rw [← HN.out]; exact hc, by omega, HASC.out, fun x => ⟨.inr, fun h => h.elim (fun e => e ▸ HBM.out) id⟩, by
            have := HR.out.keep ((kept_below HB.out).sub HSLT.out)
            rw [HAD.out] at this
            exact Row.more this fun y hy => .inl hy, HB.out⟩
          clear he
          go_wp2
          go_ret
          exact HRES.out
        · have hq2 : ((bs x).toList == (bs b).toList) = false := by rw [bs_toList, bs_toList]; simpa using he
          have HNL : Hid (∀ x, l[k]? = some x → Op.bytesLess b x = true) := Lib.hid fun y hy => by
            rw [HX.out] at hy
            cases hy
            cases h3 : Op.bytesLess b x with
            | true => rfl
            | false => exact absurd (bytesLess_tot H1.out h3) he
          clear he H1
          go_wp2_with fail
          rw [← HAD.out]
          clear HAD HTK HX a0 hq hq2
          have hFR := HR.out.front k
          have hBK := back_row str1 (by rw [flt1]; exact HR.out) (ys := l) HN.out.symm hc k
          rw [flt1, List.map_drop] at hBK
          obtain ⟨SB, hSB⟩ : ∃ SB, SB = backOf A 1 c k := ⟨_, rfl⟩
          rw [← hSB] at hBK
          have HSB := Lib.hid hSB
          have hkept : Kept S w wr := (kept_below HB.out).sub HSLT.out
          have HFR := Lib.hid (hFR.keep hkept)
          have HBK := Lib.hid (hBK.keep hkept)
          have hkc : (0 : Int) ≤ (k : Int) ∧ (k : Int) ≤ (c : Int) ∧ (k : Int) ≤ (n : Int) := ⟨by omega, by omega, by omega⟩
          have hwsz := HB.out.size
          obtain ⟨i0, hi, hz0, hz1, hz2⟩ := info_parts infoS
          clear hFR hBK hSB hkept
          refine wp_region_fexp (fun u => Below wr.heap.size wr u) (fun u v => Below u.heap.size u v) (ptPhi w.heap.size k ((l.map sv).take k) b) [0, 1, 2, 4, 7, 8, 9] [] [(3, 36), (5, 38)] [6, 10, 11] (by kernel_rfl) (by kernel_rfl) (by kernel_rfl) (fun _ => Below.refl _ _) (fun a b c h h' => h.trans (h'.mono h.size)) ptPhi_go ?sI ?hI
          case sI => exact (Below.refl _ wr).drew
          case hI =>
          simp only [opsAt, List.filterMap_cons, List.filterMap_nil, List.getElem?_toArray, List.getElem?_cons_succ, List.getElem?_cons_zero]
          refine wpFloat_step ?vIa0 rfl (fun w' => ?yIa0) ?kIa0
          case yIa0 =>
            go_simp
            try rfl
          case kIa0 =>
          go_simp
          refine wpFloat_step ?vIa1 rfl (fun w' => ?yIa1) ?kIa1
          case yIa1 =>
            go_simp
            try rfl
          case kIa1 =>
          go_simp
          refine wpFloat_step (.slice A k c) rfl (fun w' => ?yI2) ?kI2
          case yI2 =>
            go_simp
            try simp only [← front_of A k c 1]
            try rfl
          case kI2 =>
          go_simp
          refine wpFloat_step ?vIb4 rfl (fun w' => ?yIb4) ?kIb4
          case yIb4 =>
            go_simp
            try rfl
          case kIb4 =>
          go_simp
          refine wpFloat_step ?vIc7 rfl (fun w' => ?yIc7) ?kIc7
          case yIc7 =>
            go_simp
            try rfl
          case kIc7 =>
          go_simp
          refine wpFloat_step ?vIc8 rfl (fun w' => ?yIc8) ?kIc8
          case yIc8 =>
            go_simp
            try rfl
          case kIc8 =>
          go_simp
          refine wpFloat_step (.slice SB (n - k) (c - k)) rfl (fun w' => ?yI9) ?kI9
          case yI9 =>
            go_simp
            rw [HSB.out]
            unfold backOf
            simp
          case kI9 =>
          go_simp
          refine wpFloat_nil ?_
          refine ⟨?szI, ?stI, (fun i hi => by cases hi), ?finI⟩
          case szI =>
            intro x hx
            simp only [List.mem_cons, List.not_mem_nil, or_false] at hx
            rcases hx with rfl | rfl <;> simp
          case stI =>
            intro x hx _
            simp only [List.mem_cons, List.not_mem_nil, or_false] at hx
            rcases hx with rfl | rfl
            · intro a' w7 K hI hK
              have e35 := hI.old 35 _ rfl (by decide)
              have hS := hI.hold
              have hK : ∀ v w', Below w7.heap.size w7 w' → _ → (∃ (A : Option Addr) (c : Nat), v = .slice A k c ∧ w'.ownsRow w.heap.size 9 1 (.slice A k c) k ((l.map sv).take k)) → K (a'.put (some 36) v) w' := hK
              have hfr := (HFR.out.keep ((kept_below hS).sub fun y hy => by have := HSLT.out y hy; unfold Lt at this ⊢; omega)).more (S' := S) fun _ h => h
              have hsz7 := hS.size
              clear hI
              refine wpOp_go rfl rfl ?_
              refine wp_append_row _ _ 35 rfl w.heap.size 9 i0 _ 1 16 Try.underlying35 hi hz0 hz1 hz2 rfl (by omega) (.slice none 0 0) 0 [] rfl (World.ownsRow_nil _ _ _ _) S A k c ((l.map sv).take k) (eval_tmp e35) (by rw [List.length_take, List.length_map, ← HN.out]; omega) hfr (fun u hu => sv_one' _ u (List.mem_of_mem_take hu)) (by unfold maxLen; omega) (by omega) (by omega) ?_
              intro v' w8 hown hg _
              rw [Nat.zero_add, List.nil_append] at hown
              have hb8 : Below w7.heap.size w7 w8 := (Below.refl _ w7).grown hg (Nat.le_refl _) (fun r hr => by cases hr)
              obtain ⟨A8, c8, rfl, _⟩ := own_slice hown
              exact hK _ _ hb8 (hS.trans (hb8.mono hsz7)) ⟨A8, c8, rfl, hown⟩
            · intro a' w7 K hI hK
              have e37 := hI.old 37 _ rfl (by decide)
              have hS := hI.hold
              have hK : ∀ v w', Below w7.heap.size w7 w' → _ → (∃ g, v = .slice (some ⟨g, 0, none⟩) 1 1 ∧ w.heap.size ≤ g ∧ w'.heap[g]? = some (.cells #[sv b] 9 (0, 0))) → K (a'.put (some 38) v) w' := hK
              have hb7 : Below w7.heap.size w7 (w7.alloc (.cells #[sv b] 9)) := (Below.refl _ _).alloc (Nat.le_refl _) _
              have ha7 := alloc1 w7 (.cells #[sv b] 9)
              have hsz7 := hS.size
              clear hI
              refine wpOp_go rfl rfl ?_
              go_simp
              exact hK _ _ hb7 (hS.trans (hb7.mono hsz7)) ⟨_, rfl, by omega, ha7⟩
          case finI =>
            intro vs w6 _ hS6 hΦ
            have q3 : ∃ (A : Option Addr) (c : Nat), vs 3 = .slice A k c ∧ w6.ownsRow w.heap.size 9 1 (.slice A k c) k ((l.map sv).take k) := hΦ (3, 36) (by decide)
            have q5 : ∃ g, vs 5 = .slice (some ⟨g, 0, none⟩) 1 1 ∧ w.heap.size ≤ g ∧ w6.heap[g]? = some (.cells #[sv b] 9 (0, 0)) := hΦ (5, 38) (by decide)
            obtain ⟨A3, c3, e3, hown3⟩ := q3
            obtain ⟨g5, e5, hg5, hblk⟩ := q5
            simp only [putD, e3, e5]
            clear e3 e5 hΦ vs
            have hb6 := hS6
            have hs6 := hb6.size
            have HBK6 := Lib.hid (HBK.out.keep ((kept_below hb6).sub fun y hy => by have := HSLT.out y hy; unfold Lt at this ⊢; omega))
            have HB6 := Lib.hid hb6
            have hrow5 : Row w6 (fun y => y = g5) (some ⟨g5, 0, none⟩) [sv b] := row_heap hblk rfl rfl
            clear hS6 hb6 HFR HBK
            simp only [opsAt, List.filterMap_cons, List.filterMap_nil, List.getElem?_toArray, List.getElem?_cons_succ, List.getElem?_cons_zero]
            refine (wpList_append_row rfl _ _ 35 rfl w.heap.size 9 i0 _ 1 16 Try.underlying35 hi hz0 hz1 hz2 rfl (by omega) (.slice A3 k c3) k ((l.map sv).take k) rfl hown3 (fun y => y = g5) (some ⟨g5, 0, none⟩) 1 1 [sv b] rfl rfl hrow5 (fun u hu => by rw [List.mem_singleton.1 hu]; rfl) (by unfold maxLen; omega) (by omega) (by omega) ?_)
            intro v7 w7 hown7 hg7 _
            obtain ⟨A7, c7, rfl, _⟩ := own_slice hown7
            have hlt3 := hown3.lt
            have hk7 : Kp (fun y => w.heap.size ≤ y) w6 w7 := (Kp.refl _ _).grown hg7 (fun r hr _ => (hlt3 r hr).1)
            have hs7 := hk7.size
            have hrowB := HBK6.out.keep (hk7.kept fun y hy => ⟨by have := HSLT.out y hy; unfold Lt at this; omega, by have := HSLT.out y hy; unfold Lt at this; omega⟩)
            have HK7 := Lib.hid hk7
            have hlt7 := hown7.lt
            refine (wpList_append_row rfl _ _ 35 rfl w.heap.size 9 i0 _ 1 16 Try.underlying35 hi hz0 hz1 hz2 rfl (by omega) (.slice A7 (k + 1) c7) (k + 1) ((l.map sv).take k ++ [sv b]) rfl hown7 S SB (n - k) (c - k) ((l.map sv).drop k) rfl (by rw [List.length_drop, List.length_map, ← HN.out]; omega) hrowB (fun u hu => sv_one' _ u (List.mem_of_mem_drop hu)) (by unfold maxLen; omega) (by omega) (by omega) ?_)
            intro v8 w8 hown8 hg8 _
            have hk8 : Kp (fun y => w.heap.size ≤ y) w7 w8 := (Kp.refl _ _).grown hg8 (fun r hr _ => (hlt7 r hr).1)
            obtain ⟨LN, hLN⟩ : ∃ LN, LN = l.take k ++ b :: l.drop k := ⟨_, rfl⟩
            have hLNl : LN.length = n + 1 := by
              rw [hLN, List.length_append, List.length_cons, List.length_take, List.length_drop, ← HN.out]
              omega
            rw [show (l.map sv).take k ++ [sv b] ++ (l.map sv).drop k = LN.map sv by rw [hLN, List.map_append, List.map_cons, List.append_assoc, List.map_take, List.map_drop]; rfl, show k + 1 + (n - k) = n + 1 by omega] at hown8
            obtain ⟨A8, c8, rfl, _⟩ := own_slice hown8
            have hk68 := hk7.trans hk8 (fun _ _ e => e)
            have hb8 : Below w.heap.size w w8 := kp_below (HB.out.trans (HB6.out.mono hwsz)) hk68 fun _ e => e
            have HRES : Hid (PutRes S l b w (.returned (.slice A8 (n + 1) c8)) w8) := Lib.hid ⟨A8, c8, LN, by rw [hLNl], by rw [hLNl]; exact (own_le hown8).1, by rw [hLNl, HN.out]; exact Nat.le_refl _, by rw [hLN]; exact HASC.out.put HPL.out HNL.out, fun x => by rw [hLN]; exact mem_putS k x, Row.ofOwn hown8 fun g _ h3 h4 => .inr ⟨h3, h4⟩, hb8⟩
            clear hown3 hown7 hown8 hg7 hg8 hlt3 hlt7 hk7 hk8 hk68 hb8 hrowB hrow5 hblk hLN hLNl HK7 HBK6 HB6 hi hz0 hz1 hz2
            go_wp2
            refine NoPanic.normal ?_
            go_wp2
            go_ret
            exact HRES.out
    · have HNL : Hid (∀ x, l[k]? = some x → Op.bytesLess b x = true) := Lib.hid fun y hy => by have := (List.getElem?_eq_some_iff.1 hy).1; have := HN.out; omega
      go_wp2_with fail
      have hFR := HR.out.front k
      have hBK := back_row str1 (by rw [flt1]; exact HR.out) (ys := l) HN.out.symm hc k
      rw [flt1, List.map_drop] at hBK
      obtain ⟨SB, hSB⟩ : ∃ SB, SB = backOf A 1 c k := ⟨_, rfl⟩
      rw [← hSB] at hBK
      have HSB := Lib.hid hSB
      have hkept : Kept S w wr := (kept_below HB.out).sub HSLT.out
      have HFR := Lib.hid (hFR.keep hkept)
      have HBK := Lib.hid (hBK.keep hkept)
      have hkc : (0 : Int) ≤ (k : Int) ∧ (k : Int) ≤ (c : Int) ∧ (k : Int) ≤ (n : Int) := ⟨by omega, by omega, by omega⟩
      have hwsz := HB.out.size
      obtain ⟨i0, hi, hz0, hz1, hz2⟩ := info_parts infoS
      clear hFR hBK hSB hkept
      refine wp_region_fexp (fun u => Below wr.heap.size wr u) (fun u v => Below u.heap.size u v) (ptPhi w.heap.size k ((l.map sv).take k) b) [0, 1, 2, 4, 7, 8, 9] [] [(3, 36), (5, 38)] [6, 10, 11] (by kernel_rfl) (by kernel_rfl) (by kernel_rfl) (fun _ => Below.refl _ _) (fun a b c h h' => h.trans (h'.mono h.size)) ptPhi_go ?sJ ?hJ
      case sJ => exact (Below.refl _ wr).drew
      case hJ =>
      simp only [opsAt, List.filterMap_cons, List.filterMap_nil, List.getElem?_toArray, List.getElem?_cons_succ, List.getElem?_cons_zero]
      refine wpFloat_step ?vJa0 rfl (fun w' => ?yJa0) ?kJa0
      case yJa0 =>
        go_simp
        try rfl
      case kJa0 =>
      go_simp
      refine wpFloat_step ?vJa1 rfl (fun w' => ?yJa1) ?kJa1
      case yJa1 =>
        go_simp
        try rfl
      case kJa1 =>
      go_simp
      refine wpFloat_step (.slice A k c) rfl (fun w' => ?yJ2) ?kJ2
      case yJ2 =>
        go_simp
        try simp only [← front_of A k c 1]
        try rfl
      case kJ2 =>
      go_simp
      refine wpFloat_step ?vJb4 rfl (fun w' => ?yJb4) ?kJb4
      case yJb4 =>
        go_simp
        try rfl
      case kJb4 =>
      go_simp
      refine wpFloat_step ?vJc7 rfl (fun w' => ?yJc7) ?kJc7
      case yJc7 =>
        go_simp
        try rfl
      case kJc7 =>
      go_simp
      refine wpFloat_step ?vJc8 rfl (fun w' => ?yJc8) ?kJc8
      case yJc8 =>
        go_simp
        try rfl
      case kJc8 =>
      go_simp
      refine wpFloat_step (.slice SB (n - k) (c - k)) rfl (fun w' => ?yJ9) ?kJ9
      case yJ9 =>
        go_simp
        rw [HSB.out]
        unfold backOf
        simp
      case kJ9 =>
      go_simp
      refine wpFloat_nil ?_
      refine ⟨?szJ, ?stJ, (fun i hi => by cases hi), ?finJ⟩
      case szJ =>
        intro x hx
        simp only [List.mem_cons, List.not_mem_nil, or_false] at hx
        rcases hx with rfl | rfl <;> simp
      case stJ =>
        intro x hx _
        simp only [List.mem_cons, List.not_mem_nil, or_false] at hx
        rcases hx with rfl | rfl
        · intro a' w7 K hI hK
          have e35 := hI.old 35 _ rfl (by decide)
          have hS := hI.hold
          have hK : ∀ v w', Below w7.heap.size w7 w' → _ → (∃ (A : Option Addr) (c : Nat), v = .slice A k c ∧ w'.ownsRow w.heap.size 9 1 (.slice A k c) k ((l.map sv).take k)) → K (a'.put (some 36) v) w' := hK
          have hfr := (HFR.out.keep ((kept_below hS).sub fun y hy => by have := HSLT.out y hy; unfold Lt at this ⊢; omega)).more (S' := S) fun _ h => h
          have hsz7 := hS.size
          clear hI
          refine wpOp_go rfl rfl ?_
          refine wp_append_row _ _ 35 rfl w.heap.size 9 i0 _ 1 16 Try.underlying35 hi hz0 hz1 hz2 rfl (by omega) (.slice none 0 0) 0 [] rfl (World.ownsRow_nil _ _ _ _) S A k c ((l.map sv).take k) (eval_tmp e35) (by rw [List.length_take, List.length_map, ← HN.out]; omega) hfr (fun u hu => sv_one' _ u (List.mem_of_mem_take hu)) (by unfold maxLen; omega) (by omega) (by omega) ?_
          intro v' w8 hown hg _
          rw [Nat.zero_add, List.nil_append] at hown
          have hb8 : Below w7.heap.size w7 w8 := (Below.refl _ w7).grown hg (Nat.le_refl _) (fun r hr => by cases hr)
          obtain ⟨A8, c8, rfl, _⟩ := own_slice hown
          exact hK _ _ hb8 (hS.trans (hb8.mono hsz7)) ⟨A8, c8, rfl, hown⟩
        · intro a' w7 K hI hK
          have e37 := hI.old 37 _ rfl (by decide)
          have hS := hI.hold
          have hK : ∀ v w', Below w7.heap.size w7 w' → _ → (∃ g, v = .slice (some ⟨g, 0, none⟩) 1 1 ∧ w.heap.size ≤ g ∧ w'.heap[g]? = some (.cells #[sv b] 9 (0, 0))) → K (a'.put (some 38) v) w' := hK
          have hb7 : Below w7.heap.size w7 (w7.alloc (.cells #[sv b] 9)) := (Below.refl _ _).alloc (Nat.le_refl _) _
          have ha7 := alloc1 w7 (.cells #[sv b] 9)
          have hsz7 := hS.size
          clear hI
          refine wpOp_go rfl rfl ?_
          go_simp
          exact hK _ _ hb7 (hS.trans (hb7.mono hsz7)) ⟨_, rfl, by omega, ha7⟩
      case finJ =>
        intro vs w6 _ hS6 hΦ
        have q3 : ∃ (A : Option Addr) (c : Nat), vs 3 = .slice A k c ∧ w6.ownsRow w.heap.size 9 1 (.slice A k c) k ((l.map sv).take k) := hΦ (3, 36) (by decide)
        have q5 : ∃ g, vs 5 = .slice (some ⟨g, 0, none⟩) 1 1 ∧ w.heap.size ≤ g ∧ w6.heap[g]? = some (.cells #[sv b] 9 (0, 0)) := hΦ (5, 38) (by decide)
        obtain ⟨A3, c3, e3, hown3⟩ := q3
        obtain ⟨g5, e5, hg5, hblk⟩ := q5
        simp only [putD, e3, e5]
        clear e3 e5 hΦ vs
        have hb6 := hS6
        have hs6 := hb6.size
        have HBK6 := Lib.hid (HBK.out.keep ((kept_below hb6).sub fun y hy => by have := HSLT.out y hy; unfold Lt at this ⊢; omega))
        have HB6 := Lib.hid hb6
        have hrow5 : Row w6 (fun y => y = g5) (some ⟨g5, 0, none⟩) [sv b] := row_heap hblk rfl rfl
        clear hS6 hb6 HFR HBK
        simp only [opsAt, List.filterMap_cons, List.filterMap_nil, List.getElem?_toArray, List.getElem?_cons_succ, List.getElem?_cons_zero]
        refine (wpList_append_row rfl _ _ 35 rfl w.heap.size 9 i0 _ 1 16 Try.underlying35 hi hz0 hz1 hz2 rfl (by omega) (.slice A3 k c3) k ((l.map sv).take k) rfl hown3 (fun y => y = g5) (some ⟨g5, 0, none⟩) 1 1 [sv b] rfl rfl hrow5 (fun u hu => by rw [List.mem_singleton.1 hu]; rfl) (by unfold maxLen; omega) (by omega) (by omega) ?_)
        intro v7 w7 hown7 hg7 _
        obtain ⟨A7, c7, rfl, _⟩ := own_slice hown7
        have hlt3 := hown3.lt
        have hk7 : Kp (fun y => w.heap.size ≤ y) w6 w7 := (Kp.refl _ _).grown hg7 (fun r hr _ => (hlt3 r hr).1)
        have hs7 := hk7.size
        have hrowB := HBK6.out.keep (hk7.kept fun y hy => ⟨by have := HSLT.out y hy; unfold Lt at this; omega, by have := HSLT.out y hy; unfold Lt at this; omega⟩)
        have HK7 := Lib.hid hk7
        have hlt7 := hown7.lt
        refine (wpList_append_row rfl _ _ 35 rfl w.heap.size 9 i0 _ 1 16 Try.underlying35 hi hz0 hz1 hz2 rfl (by omega) (.slice A7 (k + 1) c7) (k + 1) ((l.map sv).take k ++ [sv b]) rfl hown7 S SB (n - k) (c - k) ((l.map sv).drop k) rfl (by rw [List.length_drop, List.length_map, ← HN.out]; omega) hrowB (fun u hu => sv_one' _ u (List.mem_of_mem_drop hu)) (by unfold maxLen; omega) (by omega) (by omega) ?_)
        intro v8 w8 hown8 hg8 _
        have hk8 : Kp (fun y => w.heap.size ≤ y) w7 w8 := (Kp.refl _ _).grown hg8 (fun r hr _ => (hlt7 r hr).1)
        obtain ⟨LN, hLN⟩ : ∃ LN, LN = l.take k ++ b :: l.drop k := ⟨_, rfl⟩
        have hLNl : LN.length = n + 1 := by
          rw [hLN, List.length_append, List.length_cons, List.length_take, List.length_drop, ← HN.out]
          omega
        rw [show (l.map sv).take k ++ [sv b] ++ (l.map sv).drop k = LN.map sv by rw [hLN, List.map_append, List.map_cons, List.append_assoc, List.map_take, List.map_drop]; rfl, show k + 1 + (n - k) = n + 1 by omega] at hown8
        obtain ⟨A8, c8, rfl, _⟩ := own_slice hown8
        have hk68 := hk7.trans hk8 (fun _ _ e => e)
        have hb8 : Below w.heap.size w w8 := kp_below (HB.out.trans (HB6.out.mono hwsz)) hk68 fun _ e => e
        have HRES : Hid (PutRes S l b w (.returned (.slice A8 (n + 1) c8)) w8) := Lib.hid ⟨A8, c8, LN, by rw [hLNl], by rw [hLNl]; exact (own_le hown8).1, by rw [hLNl, HN.out]; exact Nat.le_refl _, by rw [hLN]; exact HASC.out.put HPL.out HNL.out, fun x => by rw [hLN]; exact mem_putS k x, Row.ofOwn hown8 fun g _ h3 h4 => .inr ⟨h3, h4⟩, hb8⟩
        clear hown3 hown7 hown8 hg7 hg8 hlt3 hlt7 hk7 hk8 hk68 hb8 hrowB hrow5 hblk hLN hLNl HK7 HBK6 HB6 hi hz0 hz1 hz2
        go_wp2
        refine NoPanic.normal ?_
        go_wp2
        go_ret
        exact HRES.out

set_option maxHeartbeats 1600000 in
set_option maxRecDepth 100000 in
theorem rlook_any (l : List Key) (name : List UInt8) (A : Option Addr) (c : Nat) (w : World) (hl : l.length ≤ 100000000) (hR : Row w (Lt w.heap.size) A (flt bdC l)) :
    Calls Try.prog 17 #[.slice A l.length c, sv name] w (LookRes l name w) := by
  obtain ⟨n, hn⟩ : ∃ n, n = l.length := ⟨_, rfl⟩
  rw [← hn] at hl ⊢
  have HN := Lib.hid hn
  have HR := Lib.hid hR
  clear hn hR
  go_enter Try.func17, Try.ntmps17
  go_wp2_with fail
  go_loopw [6, 7] (fun dv i wr => ∃ (k : Nat) (D : List (List UInt8)) (DA : Option Addr) (dc : Nat), k ≤ n ∧ i = .int .i64 k ∧ dv = .slice DA D.length dc ∧ D.length ≤ dc ∧ D.length ≤ k ∧ AscS D ∧ (∀ x, x ∈ D ↔ (name, x) ∈ l.take k) ∧ Row wr (Fr w.heap.size wr.heap.size) DA (D.map sv) ∧ Below w.heap.size w wr) (fun _ i _ => n - (intOf i).toNat)
  case atStart => exact ⟨0, [], none, 0, by omega, rfl, rfl, by simp, by simp, List.Pairwise.nil, by simp, Row.nil _ _ _, Below.refl _ _⟩
  case round =>
    obtain ⟨k, D, DA, dc, hkn, rfl, rfl, hdc, hdk, hasc, hmem, hrow, hB⟩ := hrel
    have HMEM := Lib.hid hmem
    have HASC := Lib.hid hasc
    have HROW := Lib.hid hrow
    have HB := Lib.hid hB
    clear hasc hmem hrow hB
    have hsz := HB.out.size
    by_cases hlt : k < n
    · obtain ⟨b, hb⟩ : ∃ b, l[k]? = some b := ⟨_, List.getElem?_eq_getElem (by rw [← HN.out]; exact hlt)⟩
      obtain ⟨ad, rfl, _, a0, a1⟩ := bd_at (HR.out.keep (kept_below HB.out)) hb
      have hik : (0 : Int) ≤ (k : Int) ∧ (k : Int) < (n : Int) := ⟨by omega, by omega⟩
      have HTK : Hid (l.take (k + 1) = l.take k ++ [b]) := Lib.hid (take_snoc hb)
      clear hb
      by_cases he : b.1 = name
      · have heq : (bs b.1).toList = (bs name).toList := by rw [he]
        have HE := Lib.hid he
        have HPUT := Lib.hid (put_any (Fr w.heap.size wr.heap.size) D b.2 DA dc wr (fun y hy => hy.2) hdc (by omega) HASC.out HROW.out)
        obtain ⟨m, hm⟩ : ∃ m, m = D.length := ⟨_, rfl⟩
        rw [← hm] at HPUT hdc hdk ⊢
        have HM := Lib.hid hm
        clear he hm
        go_wp2_with fail
        refine HPUT.out.mono ?_
        rintro e w2 ⟨A2, c2, D2, rfl, hc2, hl2, hasc2, hmem2, hrow2, hb2⟩
        rw [HM.out.symm] at hl2
        have hsz2 := hb2.size
        have HREL : Hid (∃ (k1 : Nat) (D : List (List UInt8)) (DA : Option Addr) (dc : Nat), k1 ≤ n ∧ Value.int .i64 ((k : Int) + 1) = .int .i64 (k1 : Int) ∧ Value.slice A2 D2.length c2 = .slice DA D.length dc ∧ D.length ≤ dc ∧ D.length ≤ k1 ∧ AscS D ∧ (∀ x, x ∈ D ↔ (name, x) ∈ l.take k1) ∧ Row w2 (Fr w.heap.size w2.heap.size) DA (D.map sv) ∧ Below w.heap.size w w2) := Lib.hid ⟨k + 1, D2, A2, c2, by omega, by go_num, rfl, hc2, by omega, hasc2, fun x => by
          rw [hmem2 x, HMEM.out x, HTK.out, List.mem_append, List.mem_singleton]
          constructor
          · rintro (h | h)
            · exact .inr (by rw [h, ← HE.out])
            · exact .inl h
          · rintro (h | h)
            · exact .inr h
            · exact .inl (congrArg Prod.snd h), hrow2.more fun y hy => by
              rcases hy with hy | hy
              · exact ⟨hy.1, Nat.lt_of_lt_of_le hy.2 hsz2⟩
              · exact ⟨by have := hy.1; omega, hy.2⟩, HB.out.trans (hb2.mono hsz)⟩
        obtain ⟨m2, hm2⟩ : ∃ m2, m2 = D2.length := ⟨_, rfl⟩
        rw [← hm2] at HREL ⊢
        clear hc2 hl2 hasc2 hmem2 hrow2 hb2 hm2 HPUT
        go_wp2
        go_roundw
        case rel => exact HREL.out
        case measure => simp [intOf]; omega
      · have heq : ((bs b.1).toList == (bs name).toList) = false := by rw [bs_toList, bs_toList]; simpa using he
        have hne : ∀ x, (name, x) ∈ l.take (k + 1) ↔ (name, x) ∈ l.take k := fun x => by
          rw [HTK.out, List.mem_append, List.mem_singleton]
          constructor
          · rintro (h | h)
            · exact h
            · exact absurd (congrArg Prod.fst h).symm he
          · exact .inl
        have HNE := Lib.hid hne
        obtain ⟨m, hm⟩ : ∃ m, m = D.length := ⟨_, rfl⟩
        have HM := Lib.hid hm
        rw [← hm] at hdc hdk ⊢
        clear he hne hm
        go_wp2
        go_roundw
        case rel => exact ⟨k + 1, D, DA, dc, by omega, by go_num, by rw [HM.out], by rw [← HM.out]; exact hdc, by rw [← HM.out]; omega, HASC.out, fun x => by rw [HMEM.out x, HNE.out x], HROW.out, HB.out⟩
        case measure => simp [intOf]; omega
    · have hke : n = k := by omega
      have htk : l.take k = l := List.take_of_length_le (by rw [← HN.out, hke]; exact Nat.le_refl _)
      have hmem := HMEM.out
      rw [htk] at hmem
      have HMEM := Lib.hid hmem
      obtain ⟨m, hm⟩ : ∃ m, m = D.length := ⟨_, rfl⟩
      have HM := Lib.hid hm
      rw [← hm] at hdc hdk ⊢
      clear hke htk hmem hm
      by_cases h1 : m = 1
      · obtain ⟨d, hd⟩ := List.length_eq_one_iff.1 (HM.out.symm.trans h1)
        obtain ⟨ad, rfl, _, a0⟩ := HROW.out.at_ (k := 0) (u := sv d) (by rw [hd]; rfl)
        have a1 : wr.cell? ad = some (sv d) := by have := a0; rwa [show ad.add 0 = ad by unfold Addr.add; rfl] at this
        have hdm : (name, d) ∈ l := (HMEM.out d).1 (by rw [hd]; simp)
        have HRES : Hid (LookRes l name w (.returned (.tuple #[sv d, .int .i64 1])) wr) := Lib.hid ⟨d, 1, rfl, ⟨D, HASC.out.nodup, HMEM.out, by rw [hd]; rfl, fun _ => hdm, fun h => absurd (HM.out.symm.trans h1) h⟩, HB.out⟩
        have hq : ((m : Int) == 1) = true := by simp; omega
        have h01 : (0 : Int) < (m : Int) := by omega
        clear hd hdm h1
        go_wp2
        go_ret2
        exact HRES.out
      · have HRES : Hid (LookRes l name w (.returned (.tuple #[sv [], .int .i64 (m : Int)])) wr) := Lib.hid ⟨[], m, rfl, ⟨D, HASC.out.nodup, HMEM.out, HM.out, fun h => absurd (HM.out.trans h) h1, fun _ => rfl⟩, HB.out⟩
        have hq : ((m : Int) == 1) = false := by simp; omega
        clear h1
        go_wp2
        go_ret2
        exact HRES.out
end Go.Proofs.Ytcliegpofhjpcaa
