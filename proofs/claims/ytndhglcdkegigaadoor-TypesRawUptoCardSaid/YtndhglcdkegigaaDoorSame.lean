/-
  The walks of types.Same and slices.EqualFunc over types: whether two types are equal.
  Conditions: the arguments read as types.
-/
import Derived.Test.YtndhglcdkegigaaDoorCop
namespace Go.Proofs.YtndhglcdkegigaaDoor
open Go.RowKit

/-- A Bool was returned that says P; what was there is as it was. -/
def Says (P : Prop) (w : World) (e : Ending) (w' : World) : Prop := ∃ r : Bool, e = .returned (.bool r) ∧ (r = true ↔ P) ∧ Below w.heap.size w w'

theorem Tys.now {w w' : World} {n : Nat} {A : Option Addr} {ts : List Ty} {vs : List (Value × Value)} (h : Tys w (Lt n) A ts vs) (hn : n ≤ w.heap.size) (hb : Below w.heap.size w w') : Tys w' (Lt w'.heap.size) A ts vs :=
  (h.keep (kept_below (hb.mono hn))).more fun _ h => Nat.lt_of_lt_of_le h (Nat.le_trans hn hb.size)

def SameAt (a : Ty) : Prop := ∀ (b : Ty) (u v u' v' : Value) (w : World), TyIs w (Lt w.heap.size) a u v → TyIs w (Lt w.heap.size) b u' v' → Calls Tryd.prog 37 #[.agg #[u, v], .agg #[u', v']] w (Says (a = b) w)

set_option maxHeartbeats 4000000 in
set_option maxRecDepth 100000 in
theorem equalFunc_any (ks ls : List Ty) (ih : ∀ a ∈ ks, SameAt a) (A A' : Option Addr) (c c' : Nat) (vs vs' : List (Value × Value)) (w : World) (h : Tys w (Lt w.heap.size) A ks vs) (h' : Tys w (Lt w.heap.size) A' ls vs') (hz : ks.length ≤ 4000000) :
    Calls Tryd.prog 58 #[.slice A ks.length c, .slice A' ls.length c', .func (.func 37) #[] #[]] w (Says (ks = ls) w) := by
  by_cases hnn : ks.length = ls.length
  · rw [← hnn]
    obtain ⟨n, hln⟩ : ∃ n, n = ks.length := ⟨_, rfl⟩
    rw [← hln]
    have HN := Lib.hid hnn
    have HL := Lib.hid hln
    have hn : n ≤ 4000000 := by omega
    clear hnn hln hz
    go_enter Tryd.func58, Tryd.ntmps58
    go_wp2
    go_loopw [17] (fun i wr => ∃ k : Nat, k ≤ n ∧ i = .int .i64 k ∧ ks.take k = ls.take k ∧ Below w.heap.size w wr) (fun i _ => n - (intOf i).toNat)
    case atStart => exact ⟨0, Nat.zero_le _, rfl, rfl, Below.refl _ _⟩
    case round =>
      obtain ⟨k, hk, rfl, hx, hb⟩ := hrel
      have HX := Lib.hid hx
      clear hx
      have hsz := hb.size
      by_cases hlt : k < n
      · have hki : k < ks.length := by rw [← HL.out]; exact hlt
        have hki' : k < ls.length := by rw [← HN.out, ← HL.out]; exact hlt
        obtain ⟨ad, u, v, rfl, hS, e0, e1, hty⟩ := (h.now (Nat.le_refl _) hb).at_ (List.getElem?_eq_getElem hki)
        obtain ⟨ad', u', v', rfl, hS', e0', e1', hty'⟩ := (h'.now (Nat.le_refl _) hb).at_ (List.getElem?_eq_getElem hki')
        obtain ⟨u, v, rfl, rfl⟩ := hty.shape
        obtain ⟨u', v', rfl, rfl⟩ := hty'.shape
        have g0 : (wr.alloc (.cells #[.string (bs u), .slice v.1 v.2.1 v.2.2] 30)).cell? (ad'.add (k * 2)) = some (sv u') := (World.cell?_of_block (heap_alloc_old _ _ (by rw [blkAdd]; exact hS'))).trans e0'
        have g1 : (wr.alloc (.cells #[.string (bs u), .slice v.1 v.2.1 v.2.2] 30)).cell? ⟨(ad'.add (k * 2)).block, (ad'.add (k * 2)).off + 1, none⟩ = some (.slice v'.1 v'.2.1 v'.2.2) := (cellAlloc (by rw [blkAdd]; exact hS')).trans e1'
        have hb2 : Below wr.heap.size wr ((wr.alloc (.cells #[.string (bs u), .slice v.1 v.2.1 v.2.2] 30)).alloc (.cells #[.string (bs u'), .slice v'.1 v'.2.1 v'.2.2] 30)) := ((Below.refl _ _).alloc (Nat.le_refl _) _).alloc (by simp) _
        have hs1 : ks.take (k + 1) = ks.take k ++ [ks[k]] := List.take_succ_eq_append_getElem hki
        have hs2 : ls.take (k + 1) = ls.take k ++ [ls[k]] := List.take_succ_eq_append_getElem hki'
        have HS1 := Lib.hid hs1
        have HS2 := Lib.hid hs2
        clear hs1 hs2
        go_wp2_with fail
        refine (ih ks[k] (List.getElem_mem hki) ls[k] _ _ _ _ _ (hty.now (Nat.le_refl _) hb2) (hty'.now (Nat.le_refl _) hb2)).mono ?_
        rintro e w1 ⟨r, rfl, hr, hb1⟩
        have hb3 : Below w.heap.size w w1 := hb.trans ((hb2.trans (hb1.mono (by simp; omega))).mono hsz)
        have HR := Lib.hid hr
        clear hr
        cases r with
        | true =>
          have he := HR.out.1 rfl
          have HE := Lib.hid he
          clear he
          go_wp2
          go_roundw
          case rel => exact ⟨k + 1, by omega, by go_num, by rw [HS1.out, HS2.out, HX.out, HE.out], hb3⟩
          case measure => simp [intOf]; omega
        | false =>
          go_wp2
          go_ret
          refine ⟨false, rfl, ⟨(fun h => by cases h), fun h => ?_⟩, hb3⟩
          have : ks[k] = ls[k] := by
            have e := congrArg (fun l => l[k]?) h
            simp only [List.getElem?_eq_getElem hki, List.getElem?_eq_getElem hki'] at e
            exact Option.some.inj e
          exact HR.out.2 this
      · have hkn : k = n := by omega
        have HK := Lib.hid hkn
        clear hkn
        have hg : ¬ k < n := hlt
        go_wp2
        go_ret
        refine ⟨true, rfl, ⟨fun _ => ?_, fun _ => rfl⟩, hb⟩
        have := HX.out
        rw [HK.out, List.take_of_length_le (by rw [HL.out]; exact Nat.le_refl _), List.take_of_length_le (by rw [HL.out, HN.out]; exact Nat.le_refl _)] at this
        exact this
  · have e1 : ((ks.length : Int) == (ls.length : Int)) = false := by simp; omega
    have e2 : ((ks.length : Int) != (ls.length : Int)) = true := by simp; omega
    go_enter Tryd.func58, Tryd.ntmps58
    go_wp2
    go_ret
    exact ⟨false, rfl, by simp; intro e; exact hnn (by rw [e]), Below.refl _ _⟩

set_option maxHeartbeats 4000000 in
set_option maxRecDepth 100000 in
theorem same_any (a : Ty) : SameAt a := by
  induction a using Ty.ind with | h n ks ih => ?_
  intro b u v u' v' w ht ht'
  obtain ⟨A, c, vs, rfl, rfl, hn, hz, hc1, hc2, hT⟩ := ht.open_
  obtain ⟨A', c', vs', rfl, rfl, hn', hz', hc1', hc2', hT'⟩ := ht'.open_
  obtain ⟨n', ls⟩ := b
  simp only [Ty.name, Ty.args] at hn hz hc1 hT hn' hz' hc1' hT' ⊢
  by_cases hnn : n = n'
  · have hE := bytesEq hnn
    go_enter Tryd.func37, Tryd.ntmps37
    go_wp2_with fail
    have hb2 : Below w.heap.size w ((w.alloc (.cells #[sv n', .slice A ks.length c] 30)).alloc (.cells #[sv n', .slice A' ls.length c'] 30)) := ((Below.refl _ _).alloc (Nat.le_refl _) _).alloc (by simp) _
    refine (equalFunc_any ks ls ih A A' c c' vs vs' _ (hT.now (Nat.le_refl _) hb2) (hT'.now (Nat.le_refl _) hb2) hz).mono ?_
    rintro e w1 ⟨r, rfl, hr, hb1⟩
    have HR := Lib.hid hr
    clear hr
    go_wp2
    go_ret
    exact ⟨r, rfl, by rw [HR.out]; simp [hnn], hb2.trans (hb1.mono (by simp; omega))⟩
  · have hE := bytesNe hnn
    go_enter Tryd.func37, Tryd.ntmps37
    go_wp2_with fail
    go_ret
    refine ⟨false, rfl, by simp [hnn], ((Below.refl _ _).alloc (Nat.le_refl _) _).alloc (by simp) _⟩
end Go.Proofs.YtndhglcdkegigaaDoor
