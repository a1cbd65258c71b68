/-
  The walks of modules.Lookup, ref06.put, ref06.Lookup.
  Conditions: lists are at most 10^8 long.
-/
import Derived.Test.YtcliegpofhjpcaaMdB
import Derived.Test.YtcliegpofhjpcaaMdE
import Derived.WideLaws
namespace Go.Proofs.Ytcliegpofhjpcaa
open Go.RowKit

/-- What a name means in a list: its only definition, and how many there are. -/
def LookIs (l : List Key) (name d : List UInt8) (n : Nat) : Prop := ∃ D : List (List UInt8), D.Nodup ∧ (∀ x, x ∈ D ↔ (name, x) ∈ l) ∧ n = D.length ∧ (D.length = 1 → (name, d) ∈ l) ∧ (D.length ≠ 1 → d = [])
theorem LookIs.unique {l : List Key} {name d d' : List UInt8} {n n' : Nat} (h : LookIs l name d n) (h' : LookIs l name d' n') : d = d' ∧ n = n' := by
  obtain ⟨D, h1, h2, rfl, h3, h4⟩ := h
  obtain ⟨D', h1', h2', rfl, h3', h4'⟩ := h'
  have hp : D.Perm D' := (List.perm_ext_iff_of_nodup h1 h1').2 fun x => by rw [h2 x, h2' x]
  have hl := hp.length_eq
  refine ⟨?_, hl⟩
  by_cases h : D.length = 1
  · obtain ⟨x, hx⟩ := List.length_eq_one_iff.1 h
    have e1 := (h2 d).2 (h3 h)
    have e2 := (h2 d').2 (h3' (by omega))
    rw [hx, List.mem_singleton] at e1 e2
    rw [e1, e2]
  · rw [h4 h, h4' (by omega)]
def LookRes (l : List Key) (name : List UInt8) (w : World) (e : Ending) (w' : World) : Prop := ∃ (d : List UInt8) (n : Nat), e = .returned (.tuple #[sv d, .int .i64 (n : Int)]) ∧ LookIs l name d n ∧ Below w.heap.size w w'
noncomputable def LkG (l : List Key) (name d : List UInt8) : Option Bool := open Classical in if (name, d) ∈ l then some true else none
set_option maxHeartbeats 1600000 in
set_option maxRecDepth 100000 in
theorem mlook_any (l : List Key) (name : List UInt8) (A : Option Addr) (c : Nat) (w : World) (hl : l.length ≤ 100000000) (hR : Row w (Lt w.heap.size) A (flt bdC l)) :
    Calls Try.prog 16 #[.slice A l.length c, sv name] w (LookRes l name w) := by
  obtain ⟨n, hn⟩ : ∃ n, n = l.length := ⟨_, rfl⟩
  rw [← hn] at hl ⊢
  have hbx : Below w.heap.size w (w.alloc (.map #[] 0)) := (Below.refl _ _).alloc (Nat.le_refl _) _
  have hm1 : MapG sv Value.bool (w.alloc (.map #[] 0)) w.heap.size fun _ => none := MapG.new w
  have hs0 : (w.alloc (.map #[] 0)).heap.size = w.heap.size + 1 := by simp
  have HN := Lib.hid hn
  have HR := Lib.hid hR
  have HBX := Lib.hid hbx
  have HM1 := Lib.hid hm1
  have HS0 := Lib.hid hs0
  clear hn hR hbx hm1 hs0
  have hmm := @run_makeMap Try.prog
  go_enter Try.func16, Try.ntmps16
  go_wp2_with fail
  clear hmm
  obtain ⟨w0, hw0⟩ : ∃ w0, w0 = w.alloc (.map #[] 0) := ⟨_, rfl⟩
  rw [← hw0] at HBX HM1 HS0 ⊢
  clear hw0
  go_loopw [7, 13] (fun dv i wr => ∃ (k : Nat) (d : List UInt8), k ≤ n ∧ i = .int .i64 k ∧ dv = sv d ∧ Kp (fun y => y = w.heap.size) w0 wr ∧ MapG sv Value.bool wr w.heap.size (LkG (l.take k) name) ∧ ∀ x, (name, x) ∈ l.take k → (name, d) ∈ l.take k) (fun _ i _ => n - (intOf i).toNat)
  case atStart => exact ⟨0, [], by omega, rfl, rfl, Kp.refl _ _, HM1.out.ext fun m => by simp [LkG], fun x h => by simp at h⟩
  case round =>
    obtain ⟨k, d, hkn, rfl, rfl, hK, hG, hd⟩ := hrel
    have hsz := hK.size
    have hs0 := HS0.out
    have HK := Lib.hid hK
    have HG := Lib.hid hG
    have HD := Lib.hid hd
    clear hK hG hd
    by_cases hlt : k < n
    · obtain ⟨b, hb⟩ : ∃ b, l[k]? = some b := ⟨_, List.getElem?_eq_getElem (by rw [← HN.out]; exact hlt)⟩
      have hkeep : Kept (Lt w.heap.size) w wr := (kept_below HBX.out).trans (HK.out.kept fun b hb => ⟨by unfold Lt at hb; omega, by unfold Lt at hb; omega⟩)
      obtain ⟨ad, rfl, _, a0, a1⟩ := bd_at (HR.out.keep hkeep) hb
      have hik : (0 : Int) ≤ (k : Int) ∧ (k : Int) < (n : Int) := ⟨by omega, by omega⟩
      have HTK : Hid (l.take (k + 1) = l.take k ++ [b]) := Lib.hid (take_snoc hb)
      have hbw : Below wr.heap.size wr (wr.alloc (.cells #[sv b.1, sv b.2] 42)) := (Below.refl _ _).alloc (Nat.le_refl _) _
      have ha1 := alloc1 wr (.cells #[sv b.1, sv b.2] 42)
      have hlm := HG.out.lt
      have hg1 := HG.out.same (hbw.block _ hlm)
      have hk1 : Kp (fun y => y = w.heap.size) w0 (wr.alloc (.cells #[sv b.1, sv b.2] 42)) := HK.out.alloc _
      by_cases he : b.1 = name
      · have heq : (bs b.1).toList = (bs name).toList := by rw [he]
        obtain ⟨w3, hput, hg3, hk3⟩ := hg1.put (P := Try.prog) (K := KSt) (fun _ _ => sv_inj) Try.underlying52 keyStr (fun k => ⟨k, rfl⟩) b.2 true
        have HK1 := Lib.hid (hk1.trans hk3 (fun y _ e => e))
        have hbl3 := hk3.heap ha1 (by omega)
        have q1 : w3.cell? ⟨wr.heap.size, 1, none⟩ = some (sv b.2) := (Lib.cell_of_heap hbl3 _).trans rfl
        have HG1 : Hid (MapG sv Value.bool w3 w.heap.size (LkG (l.take (k + 1)) name)) := Lib.hid (hg3.ext fun x => by
          unfold LkG
          rw [HTK.out]
          by_cases e : x = b.2
          · subst e
            rw [if_pos rfl, if_pos]
            exact List.mem_append_right _ (by rw [← he]; simp)
          · rw [if_neg e]
            congr 1
            apply propext
            rw [List.mem_append, List.mem_singleton]
            constructor
            · exact .inl
            · rintro (h | h)
              · exact h
              · exact absurd (congrArg Prod.snd h) e)
        have HD2 : Hid (∀ x, (name, x) ∈ l.take (k + 1) → (name, b.2) ∈ l.take (k + 1)) := Lib.hid fun _ _ => by rw [HTK.out, ← he]; exact List.mem_append_right _ (by simp)
        clear hk1 hg1 hg3 hk3 hb hkeep hbw hbl3 he ha1
        go_wp2
        go_roundw
        case rel => exact ⟨k + 1, b.2, by omega, by go_num, by trivial, HK1.out, HG1.out, HD2.out⟩
        case measure => simp [intOf]; omega
      · have heq : ((bs b.1).toList == (bs name).toList) = false := by rw [bs_toList, bs_toList]; simpa using he
        have hne : ∀ x, (name, x) ∈ l.take (k + 1) ↔ (name, x) ∈ l.take k := fun x => by
          rw [HTK.out, List.mem_append, List.mem_singleton]
          constructor
          · rintro (h | h)
            · exact h
            · exact absurd (congrArg Prod.fst h).symm he
          · exact .inl
        have HK1 := Lib.hid hk1
        have HG1 : Hid (MapG sv Value.bool (wr.alloc (.cells #[sv b.1, sv b.2] 42)) w.heap.size (LkG (l.take (k + 1)) name)) := Lib.hid (hg1.ext fun x => by
          unfold LkG
          congr 1
          exact propext (hne x).symm)
        have HD2 : Hid (∀ x, (name, x) ∈ l.take (k + 1) → (name, d) ∈ l.take (k + 1)) := Lib.hid fun x hx => (hne d).2 (HD.out x ((hne x).1 hx))
        clear hk1 hg1 hb hkeep hbw he ha1 hne
        go_wp2
        go_roundw
        case rel => exact ⟨k + 1, d, by omega, by go_num, by trivial, HK1.out, HG1.out, HD2.out⟩
        case measure => simp [intOf]; omega
    · have hke : n = k := by omega
      subst hke
      have htk : l.take n = l := List.take_of_length_le (by rw [← HN.out]; exact Nat.le_refl _)
      have hg := HG.out
      have hd := HD.out
      rw [htk] at hg hd
      have HBW : Hid (Below w.heap.size w wr) := Lib.hid (kp_below HBX.out HK.out fun y e => by omega)
      obtain ⟨L, hMA, hL⟩ := hg
      have hnd := nodup_of_map hMA
      have hmem : ∀ x, x ∈ L.map (·.1) ↔ (name, x) ∈ l := fun x => by
        have h2 : (LkG l name x).isSome = true ↔ (name, x) ∈ l := by
          unfold LkG
          by_cases h : (name, x) ∈ l <;> simp [h]
        rw [← h2, ← hL x, List.mem_map]
        constructor
        · rintro ⟨⟨k', v⟩, h, rfl⟩
          rw [glook_mem hnd h]
          rfl
        · intro h
          obtain ⟨v, hv⟩ := Option.isSome_iff_exists.1 h
          exact ⟨(x, v), glook_some hv, rfl⟩
      obtain ⟨es, clock, hblk, hes, _⟩ := hMA
      have hsz2 : es.size = (L.map (·.1)).length := by
        have := congrArg List.length hes
        simpa using this
      have hlen : (Builtin.len_ #[52] 3 #[.map (some w.heap.size)]).run Try.prog wr = .ok (.int .i64 (es.size : Int)) wr := Go.run_len_map _ _ _ _ es clock (by kernel_rfl) hblk
      have HND := Lib.hid hnd
      have HMEM := Lib.hid hmem
      have HSZ := Lib.hid hsz2
      have HD2 := Lib.hid hd
      clear hnd hmem hsz2 hd htk hes hL HG HD HK
      by_cases h1 : es.size = 1
      · have HRES : Hid (LookRes l name w (.returned (.tuple #[sv d, .int .i64 1])) wr) := Lib.hid ⟨d, 1, rfl, ⟨L.map (·.1), HND.out, HMEM.out, by rw [← HSZ.out, h1], fun h => by
          obtain ⟨x, hx⟩ := List.length_eq_one_iff.1 h
          exact HD2.out x ((HMEM.out x).1 (by rw [hx]; simp)), fun h => absurd (by rw [← HSZ.out, h1]) h⟩, HBW.out⟩
        have hq : ((es.size : Int) != 1) = false := by simp; omega
        clear h1
        go_wp2
        go_ret2
        exact HRES.out
      · have HRES : Hid (LookRes l name w (.returned (.tuple #[sv [], .int .i64 (es.size : Int)])) wr) := Lib.hid ⟨[], es.size, rfl, ⟨L.map (·.1), HND.out, HMEM.out, HSZ.out, fun h => absurd (by rw [HSZ.out, h]) h1, fun _ => rfl⟩, HBW.out⟩
        have hq : ((es.size : Int) != 1) = true := by simp; omega
        clear h1
        go_wp2
        go_ret2
        exact HRES.out
end Go.Proofs.Ytcliegpofhjpcaa
