/-
  The walk of fact.Unpack: of a pack its strings, of any other text nil and false; of what was there nothing has turned.
  Conditions: 'Env'; the text is of at most 10^9 bytes.
-/
import Derived.Test.YtkggmckfdkpldaaDoorFcK
import Derived.BigGuardPart
namespace Go.Proofs.YtkggmckfdkpldaaDoor
open Go.RowKit


def strOf : Value → Nat | .string s => s.size | _ => 0

set_option maxRecDepth 100000 in
theorem cut_word (a r : List UInt8) (w : World) (he : Env w) (hs : (pk a ++ r).length ≤ 1000000000) :
    Calls Tryd.prog 51 #[sv (pk a ++ r), .string ⟨#[58]⟩] w fun e w' => e = .returned (.tuple #[sv (Lib.decDigits a.length), sv (a ++ r), .bool true]) ∧ ∃ q, w' = w.drewN q := by
  obtain ⟨m, hm⟩ := he.max
  have hl : a.length < 9223372036854775808 := by
    have := pk_length a
    rw [List.length_append] at hs
    omega
  have h := Tryd.strings_Cut (bs (pk a ++ r)) ⟨#[58]⟩ m w (by rw [bs_size]; omega) hm
  rw [bs_data, show (⟨#[58]⟩ : ByteArray).data.toList = [58] from rfl, (step_word a r hl).1] at h
  exact h

set_option maxRecDepth 100000 in
theorem number_word (a : List UInt8) (w : World) (he : Env w) (hs : (pk a).length ≤ 1000000000) :
    Calls Tryd.prog 41 #[sv (Lib.decDigits a.length)] w fun e w' => e = .returned (.tuple #[.int .i64 (a.length : Int), .bool true]) ∧ Below w.heap.size w w' := by
  have hl := pk_length a
  have h := number_any (bs (Lib.decDigits a.length)) w (by rw [bs_size]; omega) he
  rw [bs_data, (step_word a [] (by omega)).2] at h
  exact h

set_option maxRecDepth 100000 in
theorem cut_left (a r : List UInt8) : (bs (a ++ r)).extract 0 a.length = bs a := by
  unfold bs
  apply ByteArray.ext
  simp
set_option maxRecDepth 100000 in
theorem cut_right (a r : List UInt8) : (bs (a ++ r)).extract a.length (bs (a ++ r)).size = bs r := by
  rw [bs_size]
  unfold bs
  apply ByteArray.ext
  simp

set_option maxRecDepth 100000 in
theorem pack_drop_le {L M : List (List UInt8)} {k : Nat} {a : List UInt8} (h : L.drop k = a :: M) : (pk a ++ pack M).length ≤ (pack L).length := by
  have e := pack_append (L.take k) (L.drop k)
  rw [List.take_append_drop, h, pack_cons] at e
  have e2 := congrArg List.length e
  rw [List.length_append] at e2
  omega
set_option maxRecDepth 100000 in
theorem pack_len : ∀ L : List (List UInt8), L.length ≤ (pack L).length
  | [] => Nat.zero_le _
  | a :: L => by
    have := pack_len L
    have h1 := pk_length a
    rw [pack_cons, List.length_append, List.length_cons]
    omega
set_option maxRecDepth 100000 in
theorem take_snoc_of {α β : Type} {f : α → β} {L M : List α} {k : Nat} {a : α} (h : L.drop k = a :: M) : (L.map f).take k ++ [f a] = (L.map f).take (k + 1) := by
  have e : (L.map f).drop k = f a :: M.map f := by rw [← List.map_drop, h]; rfl
  have hk : (L.map f)[k]? = some (f a) := by
    have := congrArg (fun l : List β => l[0]?) e
    simpa [List.getElem?_drop] using this
  rw [List.take_add_one, hk]
  rfl
set_option maxRecDepth 100000 in
theorem pk_dec (a r : List UInt8) : (bs r).size < (bs (pk a ++ r)).size := by
  rw [bs_size, bs_size, List.length_append, pk_length]
  omega
set_option maxRecDepth 100000 in
theorem isEmpty_pk (a r : List UInt8) : (bs (pk a ++ r)).toList.isEmpty = false := by
  rw [Lib.toList_data, bs_data]
  simp [pk]
set_option maxRecDepth 100000 in
theorem isEmpty_nil : (bs []).toList.isEmpty = true := by
  rw [Lib.toList_data, bs_data]
  rfl

/-- How Unpack ends: a pack's strings and true, or nil and false. -/
def UnpEnd (s : List UInt8) (w : World) (e : Ending) (w' : World) : Prop :=
  ((∃ (L : List (List UInt8)) (v : Value), s = pack L ∧ e = .returned (.tuple #[v, .bool true]) ∧ w'.ownsRow w.heap.size 9 1 v L.length (L.map sv)) ∨
   ((∀ L, s ≠ pack L) ∧ e = .returned (.tuple #[.slice none 0 0, .bool false]))) ∧ Below w.heap.size w w'

/-- The state of the loop: what has been taken, and what is left. -/
def UnpAt (s : List UInt8) (w : World) (x v : Value) (wr : World) : Prop :=
  ∃ (acc : List (List UInt8)) (t : List UInt8), s = pack acc ++ t ∧ x = sv t ∧ wr.ownsRow w.heap.size 9 1 v acc.length (acc.map sv) ∧ Below w.heap.size w wr

set_option maxRecDepth 100000 in
theorem cut_none (t : List UInt8) (w : World) (he : Env w) (hs : t.length ≤ 1000000000) (h : (58 : UInt8) ∉ t) :
    Calls Tryd.prog 51 #[sv t, .string ⟨#[58]⟩] w fun e w' => e = .returned (.tuple #[sv t, sv [], .bool false]) ∧ ∃ q, w' = w.drewN q := by
  obtain ⟨m, hm⟩ := he.max
  have h' := Tryd.strings_Cut (bs t) ⟨#[58]⟩ m w (by rw [bs_size]; omega) hm
  have hc : Lib.cut t [58] = (t, [], false) := by
    rcases cut_cases t with ⟨wd, r, rfl, _, _⟩ | ⟨_, hc⟩
    · exact absurd (List.mem_append_right _ List.mem_cons_self) h
    · exact hc
  rw [bs_data, show (⟨#[58]⟩ : ByteArray).data.toList = [58] from rfl, hc] at h'
  exact h'
set_option maxRecDepth 100000 in
theorem cut_some (wd r : List UInt8) (w : World) (he : Env w) (hs : (wd ++ 58 :: r).length ≤ 1000000000) (h : (58 : UInt8) ∉ wd) :
    Calls Tryd.prog 51 #[sv (wd ++ 58 :: r), .string ⟨#[58]⟩] w fun e w' => e = .returned (.tuple #[sv wd, sv r, .bool true]) ∧ ∃ q, w' = w.drewN q := by
  obtain ⟨m, hm⟩ := he.max
  have h' := Tryd.strings_Cut (bs (wd ++ 58 :: r)) ⟨#[58]⟩ m w (by rw [bs_size]; omega) hm
  rw [bs_data, show (⟨#[58]⟩ : ByteArray).data.toList = [58] from rfl, cut_hit wd r h] at h'
  exact h'
set_option maxRecDepth 100000 in
theorem number_list (wd : List UInt8) (n : Int) (g : Bool) (w : World) (he : Env w) (hs : wd.length ≤ 1000000000) (hn : numv wd = (n, g)) :
    Calls Tryd.prog 41 #[sv wd] w fun e w' => e = .returned (.tuple #[.int .i64 n, .bool g]) ∧ Below w.heap.size w w' := by
  have h := number_any (bs wd) w (by rw [bs_size]; omega) he
  rw [bs_data, hn] at h
  exact h
set_option maxRecDepth 100000 in
theorem isEmpty_ne {t : List UInt8} (h : t ≠ []) : (bs t).toList.isEmpty = false := by
  rw [Lib.toList_data, bs_data]
  cases t with
  | nil => exact absurd rfl h
  | cons a t => rfl

set_option maxHeartbeats 1000000 in
set_option maxRecDepth 100000 in
theorem unpack_any (s : List UInt8) (w : World) (he : Env w) (hsz : s.length ≤ 1000000000) :
    Calls Tryd.prog 20 #[sv s] w (UnpEnd s w) := by
  obtain ⟨i0, hi, hz0, hz1, hz2⟩ := info_parts infoS
  go_enter Tryd.func20, Tryd.ntmps20
  go_wp2_with fail
  go_loopw [0, 4] (fun x v wr => UnpAt s w x v wr) (fun x _ _ => strOf x)
  case atStart => exact ⟨[], s, rfl, rfl, World.ownsRow_nil _ _ _ _, Below.refl _ _⟩
  case round =>
    obtain ⟨acc, t, hs, rfl, hown, hb⟩ := hrel
    have he1 := he.below hb
    have hle : (pack acc).length + t.length ≤ 1000000000 := by rw [hs, List.length_append] at hsz; exact hsz
    have hLn := pack_len acc
    have Hs := Lib.hid hs
    clear hs
    by_cases ht : t = []
    · subst ht
      have hem := isEmpty_nil
      go_wp2
      go_ret2
      exact ⟨.inl ⟨acc, _, by rw [Hs.out, List.append_nil], rfl, hown⟩, hb⟩
    by_cases hp : ∃ a r, t = pk a ++ r
    · obtain ⟨a, r, rfl⟩ := hp
      clear ht
      have hl1 := pk_length a
      rw [List.length_append] at hle
      have hsr : (a.length : Int) ≤ ((bs (a ++ r)).size : Int) := by rw [bs_size, List.length_append]; omega
      have hla : a.length ≤ 1000000000 := by omega
      have hne := isEmpty_pk a r
      have hdec := pk_dec a r
      clear hl1
      go_wp2_with fail
      refine (cut_word a r wr he1 (by rw [List.length_append]; omega)).mono ?_
      rintro e w1 ⟨rfl, q, rfl⟩
      have he2 := he1.below (belowDrewN (Below.refl wr.heap.size wr) q)
      go_wp2_with fail
      refine (number_word a _ he2 (by omega)).mono ?_
      rintro e w2 ⟨rfl, hb2⟩
      have hown2 : w2.ownsRow w.heap.size 9 1 u4 acc.length (acc.map sv) := by
        have : (wr.drewN q).ownsRow w.heap.size 9 1 u4 acc.length (acc.map sv) := hown
        exact this.kept (grownOfB hb2 none) (ownNone _)
      have hb3 : Below w.heap.size w w2 := (belowDrewN hb q).trans (hb2.mono hb.size)
      clear hown
      go_wp2_with (at_builtin; refine wpList_append_own _ rfl (.tmp 39) (.tmp 43) 28 rfl w.heap.size 9 i0 (.string ⟨#[]⟩) 1 16 Tryd.underlying28 hi hz0 hz1 hz2 rfl (by decide) u4 acc.length _ rfl (hown2.alloc _) ⟨w2.heap.size, 0, none⟩ 1 1 [.string ((bs (a ++ r)).extract 0 a.length)] rfl rfl ?c1 ?c2 ?c3 ?c4 ?c5 ?_)
      case c2 => rfl
      case c3 => unfold maxLen; omega
      case c4 => omega
      case c5 => have := hb3.size; simp; omega
      intro v' w3 hown3 hgrow _
      have hb4 : Below w.heap.size w w3 := (hb3.alloc hb3.size _).grown hgrow (by have := hb3.size; simp; omega) (fun g hg => (hown2.lt g hg).1)
      rw [cut_left] at hown3
      go_wp2
      go_roundw
      case rel => exact ⟨acc ++ [a], r, by rw [pack_snoc, List.append_assoc]; exact Hs.out, by rw [cut_right], by rw [List.length_append, List.map_append]; exact hown3, hb4⟩
      case measure => simp only [strOf, cut_right]; exact hdec
    · have hno : ∀ L, s ≠ pack L := fun L hL => no_pack ht (fun a r h => hp ⟨a, r, h⟩) L (Hs.out.symm.trans hL)
      have hne := isEmpty_ne ht
      clear ht
      rcases cut_cases t with ⟨wd, r, rfl, hwd, _⟩ | ⟨hwd, _⟩
      · obtain ⟨n, g, hn⟩ : ∃ n g, numv wd = (n, g) := ⟨_, _, rfl⟩
        have hbd : g = false ∨ n < 0 ∨ ((bs r).size : Int) < n := by
          rw [bs_size]
          rcases hg : g with _ | _
          · exact .inl rfl
          · rcases Int.lt_or_le n 0 with h0 | h0
            · exact .inr (.inl h0)
            · rcases Int.lt_or_le r.length n with h1 | h1
              · exact .inr (.inr h1)
              · exact absurd ⟨_, _, step_yes (w := wd) (r := r) (by rw [hn]; exact hg) (by rw [hn]; exact h0) (by rw [hn]; exact h1)⟩ hp
        rw [List.length_append, List.length_cons] at hle
        have hnum := Lib.hid (fun W hW => number_list wd n g W hW (by omega) hn)
        have Hno := Lib.hid hno
        clear hp hn hno
        go_wp2_with fail
        refine (cut_some wd r wr he1 (by rw [List.length_append, List.length_cons]; omega) hwd).mono ?_
        rintro e w1 ⟨rfl, q, rfl⟩
        have he2 := he1.below (belowDrewN (Below.refl wr.heap.size wr) q)
        go_wp2_with fail
        refine (hnum.out _ he2).mono ?_
        rintro e w2 ⟨rfl, hb2⟩
        have hb3 : Below w.heap.size w w2 := (belowDrewN hb q).trans (hb2.mono hb.size)
        rcases hbd with rfl | h0 | h0
        · go_wp2
          go_ret2
          exact ⟨.inr ⟨Hno.out, rfl⟩, hb3⟩
        · cases g
          · go_wp2
            go_ret2
            exact ⟨.inr ⟨Hno.out, rfl⟩, hb3⟩
          · go_wp2
            go_ret2
            exact ⟨.inr ⟨Hno.out, rfl⟩, hb3⟩
        · cases g
          · go_wp2
            go_ret2
            exact ⟨.inr ⟨Hno.out, rfl⟩, hb3⟩
          · have h1 : ¬ n < 0 := by omega
            go_wp2
            go_ret2
            exact ⟨.inr ⟨Hno.out, rfl⟩, hb3⟩
      · obtain ⟨n, g, hn⟩ : ∃ n g, numv t = (n, g) := ⟨_, _, rfl⟩
        have hnum := Lib.hid (fun W hW => number_list t n g W hW (by omega) hn)
        have Hno := Lib.hid hno
        clear hp hn hno
        go_wp2_with fail
        refine (cut_none t wr he1 (by omega) hwd).mono ?_
        rintro e w1 ⟨rfl, q, rfl⟩
        have he2 := he1.below (belowDrewN (Below.refl wr.heap.size wr) q)
        go_wp2_with fail
        refine (hnum.out _ he2).mono ?_
        rintro e w2 ⟨rfl, hb2⟩
        have hb3 : Below w.heap.size w w2 := (belowDrewN hb q).trans (hb2.mono hb.size)
        go_wp2
        go_ret2
        exact ⟨.inr ⟨Hno.out, rfl⟩, hb3⟩

set_option maxRecDepth 100000 in
theorem unpack_yes (L : List (List UInt8)) (w : World) (he : Env w) (hsz : (pack L).length ≤ 1000000000) :
    Calls Tryd.prog 20 #[sv (pack L)] w fun e w' => ∃ v, e = .returned (.tuple #[v, .bool true]) ∧ w'.ownsRow w.heap.size 9 1 v L.length (L.map sv) ∧ Below w.heap.size w w' :=
  (unpack_any (pack L) w he hsz).mono fun e w' h => by
    rcases h with ⟨⟨L', v, hL, he, ho⟩ | ⟨hn, _⟩, hb⟩
    · obtain rfl := pack_inj _ _ hL
      exact ⟨v, he, ho, hb⟩
    · exact absurd rfl (hn L)
set_option maxRecDepth 100000 in
theorem unpack_no (s : List UInt8) (w : World) (he : Env w) (hsz : s.length ≤ 1000000000) (h : ∀ L, s ≠ pack L) :
    Calls Tryd.prog 20 #[sv s] w fun e w' => e = .returned (.tuple #[.slice none 0 0, .bool false]) ∧ Below w.heap.size w w' :=
  (unpack_any s w he hsz).mono fun e w' h' => by
    rcases h' with ⟨⟨L', v, hL, _⟩ | ⟨_, he⟩, hb⟩
    · exact absurd hL (h L')
    · exact ⟨he, hb⟩
end Go.Proofs.YtkggmckfdkpldaaDoor
