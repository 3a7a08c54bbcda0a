/-
  slices.CompareFunc(.., byBoth). Conditions: none.
-/
import Derived.Test.YtnedoaapnfpkfaaByboth
import Derived.Test.YtnedoaapnfpkfaaCmp
namespace Go.Proofs.Ytnedoaapnfpkfaa
open Go.RowKit Go.Sort

/-- The order of lists of pairs. -/
def cmpL : List (Int × Int) → List (Int × Int) → Int
  | [], [] => 0
  | [], _ :: _ => -1
  | _ :: _, [] => 1
  | x :: l, y :: m => if cmpP x y != 0 then cmpP x y else cmpL l m
theorem cmpL_drop {l m : List (Int × Int)} {k : Nat} (h : k < l.length) (h' : k < m.length) : cmpL (l.drop k) (m.drop k) = if cmpP l[k] m[k] != 0 then cmpP l[k] m[k] else cmpL (l.drop (k + 1)) (m.drop (k + 1)) := by
  rw [List.drop_eq_getElem_cons h, List.drop_eq_getElem_cons h']; rfl
theorem cmpL_left {l m : List (Int × Int)} {k : Nat} (h : k < l.length) (h' : m.length = k) : cmpL (l.drop k) (m.drop k) = 1 := by
  have hm : m.drop k = [] := List.drop_eq_nil_of_le (by omega)
  rw [List.drop_eq_getElem_cons h, hm]; rfl
theorem cmpL_end {l m : List (Int × Int)} (h : l.length ≤ m.length) : cmpL (l.drop l.length) (m.drop l.length) = if l.length < m.length then -1 else 0 := by
  rw [List.drop_length]
  by_cases h1 : l.length < m.length
  · rw [List.drop_eq_getElem_cons h1, if_pos h1]; rfl
  · rw [List.drop_eq_nil_of_le (by omega), if_neg h1]; rfl
theorem Laid.ext {w w' : World} (h : Laid w w') : Ext w w' := by
  obtain ⟨q, os, rfl⟩ := h
  exact ((Ext.refl w).drewN q).grown_none ⟨rfl, rfl, rfl, by simp [grow], fun k hk _ => heap_grow_old _ os hk⟩

set_option maxRecDepth 10000 in
set_option maxHeartbeats 1000000 in
theorem compare_any (p q : Option Addr) (cp cq : Nat) (l m : List (Int × Int)) (w : World) (h : SliceAt w encP 2 p cp l) (h' : SliceAt w encP 2 q cq m) :
    Calls Try.prog 52 #[.slice p l.length cp, .slice q m.length cq, .func (.func 51) #[] #[]] w fun e w' => e = .returned (.int .i64 (cmpL l m)) ∧ Ext w w' := by
  have hmax := h.max
  have hle := h.le
  have hmax' := h'.max
  have hle' := h'.le
  unfold maxLen at hmax hmax'
  go_enter Try.func52, Try.ntmps52
  go_wp2
  go_loopw [7, 8, 9, 10, 13] (fun _ _ _ _ i wr => ∃ k : Nat, k ≤ l.length ∧ k ≤ m.length ∧ i = .int .i64 k ∧ cmpL l m = cmpL (l.drop k) (m.drop k) ∧ Ext w wr) (fun _ _ _ _ i _ => l.length - (intOf i).toNat)
  case atStart => exact ⟨0, by omega, by omega, rfl, rfl, Ext.refl _⟩
  case round =>
    obtain ⟨k, hk, hk', rfl, hc, HX⟩ := hrel
    have HC := hid hc
    clear hc
    by_cases hlt : k < l.length
    · obtain ⟨b, off, rfl, hbk, c0, c1⟩ := (h.ext HX).pair_at hlt
      by_cases hlt' : k < m.length
      · obtain ⟨b', off', rfl, hbk', d0, d1⟩ := (h'.ext HX).pair_at hlt'
        have hstep := cmpL_drop hlt hlt'
        have HSTEP := hid hstep
        clear hstep
        go_wp2_with fail
        refine (byBoth_any l[k] m[k] _).mono ?_
        rintro e w1 ⟨rfl, hL⟩
        have HX1 := (((HX.alloc (.cells #[.int .i64 l[k].1, .int .i64 l[k].2] 60)).alloc (.cells #[.int .i64 m[k].1, .int .i64 m[k].2] 60)).trans hL.ext)
        by_cases hz : cmpP l[k] m[k] = 0
        · have g : (cmpP l[k] m[k] != 0) = false := by rw [hz]; rfl
          have g' : (cmpP l[k] m[k] == 0) = true := by rw [hz]; rfl
          have HZ := hid hz
          clear hz hL
          go_wp2
          go_roundw
          case rel => exact ⟨k + 1, by omega, by omega, by simp, by rw [HC.out, HSTEP.out, g]; rfl, HX1⟩
          case measure => simp [intOf]; omega
        · have g : (cmpP l[k] m[k] != 0) = true := by simpa using hz
          have g' : (cmpP l[k] m[k] == 0) = false := by simpa using hz
          clear hz hL
          go_wp2
          go_ret
          exact ⟨ret_int (by rw [HC.out, HSTEP.out, g]; rfl), HX1⟩
      · have hke : m.length = k := by omega
        have hr := cmpL_left hlt hke
        have HR := hid hr
        clear hr
        subst hke
        go_wp2
        go_ret
        exact ⟨ret_int (by rw [HC.out, HR.out]), HX.alloc _⟩
    · have hke : k = l.length := by omega
      subst hke
      have hr := cmpL_end hk'
      by_cases hlt : l.length < m.length
      · rw [if_pos hlt] at hr
        have HR := hid hr
        clear hr
        go_wp2
        go_ret
        exact ⟨ret_int (by rw [HC.out, HR.out]), HX⟩
      · rw [if_neg hlt] at hr
        have HR := hid hr
        clear hr
        go_wp2
        go_ret
        exact ⟨ret_int (by rw [HC.out, HR.out]), HX⟩

end Go.Proofs.Ytnedoaapnfpkfaa
