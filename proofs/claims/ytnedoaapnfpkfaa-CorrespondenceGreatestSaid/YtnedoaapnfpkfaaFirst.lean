/-
  The contract of the reference's order of lists of pairs. Conditions: none beyond how the arguments read.
-/
import Derived.Test.YtnedoaapnfpkfaaCmp
import Derived.Test.YtnedoaapnfpkfaaDefs
namespace Go.Proofs.Ytnedoaapnfpkfaa
open Go.RowKit

theorem firstB_drop {a b : List (Int × Int)} {k : Nat} (h : k < a.length) (h' : k < b.length) : firstB (a.drop k) (b.drop k) = if a[k] = b[k] then firstB (a.drop (k + 1)) (b.drop (k + 1)) else ltP a[k] b[k] := by
  rw [List.drop_eq_getElem_cons h, List.drop_eq_getElem_cons h']; rfl
theorem firstB_end {a b : List (Int × Int)} {k : Nat} (h : k ≤ a.length) (h' : k ≤ b.length) (he : a.length = k ∨ b.length = k) : firstB (a.drop k) (b.drop k) = decide (a.length < b.length) := by
  by_cases h1 : k < a.length
  · have hb : b.drop k = [] := List.drop_eq_nil_of_le (by omega)
    rw [List.drop_eq_getElem_cons h1, hb, decide_eq_false (by omega)]; rfl
  · have ha : a.drop k = [] := List.drop_eq_nil_of_le (by omega)
    rw [ha]
    by_cases h2 : k < b.length
    · rw [List.drop_eq_getElem_cons h2, decide_eq_true (by omega)]; rfl
    · have hb : b.drop k = [] := List.drop_eq_nil_of_le (by omega)
      rw [hb, decide_eq_false (by omega)]; rfl

set_option maxRecDepth 10000 in
set_option maxHeartbeats 1000000 in
theorem first_any (p q : Option Addr) (cp cq : Nat) (a b : List (Int × Int)) (w : World) (h : SliceAt w encP 2 p cp a) (h' : SliceAt w encP 2 q cq b) :
    Calls Try.prog 56 #[.slice p a.length cp, .slice q b.length cq] w fun e w' => e = .returned (.bool (firstB a b)) ∧ Ext w w' := by
  have hmax := h.max
  have hle := h.le
  have hmax' := h'.max
  have hle' := h'.le
  unfold maxLen at hmax hmax'
  go_enter Try.func56, Try.ntmps56
  go_wp2
  go_loopw [5] (fun i wr => ∃ k : Nat, k ≤ a.length ∧ k ≤ b.length ∧ i = .int .i64 k ∧ firstB a b = firstB (a.drop k) (b.drop k) ∧ Ext w wr) (fun i _ => a.length - (intOf i).toNat)
  case atStart => exact ⟨0, by omega, by omega, rfl, rfl, Ext.refl _⟩
  case round =>
    obtain ⟨k, hk, hk', rfl, hc, HX⟩ := hrel
    have HC := hid hc
    clear hc
    by_cases hlt : k < a.length
    · by_cases hlt' : k < b.length
      · obtain ⟨b1, f1, rfl, hb1, c0, c1⟩ := (h.ext HX).pair_at hlt
        obtain ⟨b2, f2, rfl, hb2, d0, d1⟩ := (h'.ext HX).pair_at hlt'
        have hstep := firstB_drop hlt hlt'
        have hneq := neq_pair a[k] b[k]
        have hgrd := fun xo yo => guard_pair .neq xo yo a[k] b[k]
        generalize a[k] = x at *
        generalize b[k] = y at *
        have HSTEP := hid hstep
        clear hstep
        by_cases he : x = y
        · have ht : (!decide (x = y)) = false := by simpa using he
          have HE := hid he
          clear he
          go_wp2_with fail
          go_quiet (fail)
          go_wp2
          go_roundw
          case rel => exact ⟨k + 1, by omega, by omega, by go_num, by rw [HC.out, HSTEP.out, if_pos HE.out], HX.drewN _⟩
          case measure => simp [intOf]; omega
        · have ht : (!decide (x = y)) = true := by simpa using he
          have hres : firstB a b = ltP x y := by rw [HC.out, HSTEP.out, if_neg he]
          have hcut : (decide (x.1 < y.1) = true ∧ ltP x y = true) ∨ (decide (x.1 < y.1) = false ∧ (x.1 == y.1) = false ∧ ltP x y = false) ∨ (decide (x.1 < y.1) = false ∧ (x.1 == y.1) = true ∧ decide (x.2 < y.2) = true ∧ ltP x y = true) ∨ (decide (x.1 < y.1) = false ∧ (x.1 == y.1) = true ∧ decide (x.2 < y.2) = false ∧ ltP x y = false) := by
            unfold ltP
            by_cases g1 : x.1 < y.1
            · left; simp [g1]
            · by_cases g2 : x.1 = y.1
              · by_cases g3 : x.2 < y.2
                · right; right; left; simp [g2, g3]
                · right; right; right; simp [g2, g3]
              · right; left; simp [g1, g2]
          clear he
          have HRES := hid hres
          clear hres
          rcases hcut with ⟨g1, hl⟩ | ⟨g1, g2, hl⟩ | ⟨g1, g2, g3, hl⟩ | ⟨g1, g2, g3, hl⟩
          all_goals
            have HL := hid hl
            clear hl
            go_wp2_with fail
            go_quiet (fail)
            go_wp2
            go_quiet (fail)
            go_wp2
            go_ret
            exact ⟨ret_bool (by rw [HRES.out, HL.out]), (HX.drewN _).drewN _⟩
      · have hr := firstB_end hk hk' (Or.inr (by omega))
        have HR := hid (HC.out.trans hr)
        clear hr
        have hkb : decide ((k : Int) < (b.length : Int)) = false := by simp; omega
        by_cases hab : a.length < b.length
        · omega
        · have hd : decide ((a.length : Int) < (b.length : Int)) = false := by simp; omega
          have hd' : decide (a.length < b.length) = false := by simpa using hab
          go_wp2
          go_ret
          exact ⟨ret_bool (by rw [HR.out, hd']), HX⟩
    · have hr := firstB_end hk hk' (Or.inl (by omega))
      have HR := hid (HC.out.trans hr)
      clear hr
      have hka : decide ((k : Int) < (a.length : Int)) = false := by simp; omega
      by_cases hab : a.length < b.length
      · have hd : decide ((a.length : Int) < (b.length : Int)) = true := by simp; omega
        have hd' : decide (a.length < b.length) = true := by simpa using hab
        go_wp2
        go_ret
        exact ⟨ret_bool (by rw [HR.out, hd']), HX⟩
      · have hd : decide ((a.length : Int) < (b.length : Int)) = false := by simp; omega
        have hd' : decide (a.length < b.length) = false := by simpa using hab
        go_wp2
        go_ret
        exact ⟨ret_bool (by rw [HR.out, hd']), HX⟩

end Go.Proofs.Ytnedoaapnfpkfaa
