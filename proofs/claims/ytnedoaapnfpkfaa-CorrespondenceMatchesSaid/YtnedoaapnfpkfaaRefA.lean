/-
  Contracts of the reference of layer 18: check, sided, Die. Conditions: none beyond how the arguments read.
-/
import Derived.Test.YtnedoaapnfpkfaaBcheck
import Derived.Test.YtnedoaapnfpkfaaDefs
import Derived.Test.YtnedoaapnfpkfaaOps
namespace Go.Proofs.Ytnedoaapnfpkfaa
open Go.RowKit

theorem rcheck_any (p q : Option Addr) (cp cq : Nat) (a b : List Sp) (w : World) (h : SliceAt w encSp 7 p cp a) (h' : SliceAt w encSp 7 q cq b) :
    Calls Try.prog 41 #[.slice p a.length cp, .slice q b.length cq] w fun e w' => e = .returned (.int .i64 (checkE2 a b)) ∧ Ext w w' := by
  unfold checkE2
  by_cases hok : checkE a = 0
  · have HOK := hid hok
    clear hok
    go_enter Try.func41, Try.ntmps41
    go_wp2_with fail
    refine (bcheck_any p cp a _ h).mono ?_
    rintro e w1 ⟨rfl, hx1⟩
    rw [HOK.out]
    have HX1 := hid hx1
    clear hx1
    go_wp2_with fail
    refine (bcheck_any q cq b _ (h'.ext HX1.out)).mono ?_
    rintro e w2 ⟨rfl, hx2⟩
    go_wp2
    go_ret
    exact ⟨ret_int (by rw [HOK.out, orE_zero]), HX1.out.trans hx2⟩
  · have g : (checkE a == 0) = false := by simpa using hok
    have g' : (checkE a != 0) = true := by rw [bne, g]; rfl
    have hr := orE_other (y := checkE b) hok
    have HR := hid hr
    clear hr hok
    go_enter Try.func41, Try.ntmps41
    go_wp2_with fail
    refine (bcheck_any p cp a _ h).mono ?_
    rintro e w1 ⟨rfl, hx1⟩
    go_wp2
    go_ret
    exact ⟨ret_int HR.out.symm, hx1⟩

theorem sided_any (p q : Option Addr) (cp cq : Nat) (a b : List Sp) (side : Int) (w : World) (h : SliceAt w encSp 7 p cp a) (h' : SliceAt w encSp 7 q cq b) :
    Calls Try.prog 42 #[.slice p a.length cp, .slice q b.length cq, .int .i64 side] w fun e w' => e = .returned (.int .i64 (errS a b side)) ∧ Ext w w' := by
  by_cases hok : checkE2 a b = 0
  · have hr : errS a b side = if side = 0 ∨ side = 1 then 0 else 2 := by unfold errS; rw [if_pos hok]
    have g : (checkE2 a b == 0) = true := by simpa using hok
    have g' : (checkE2 a b != 0) = false := by rw [bne, g]; rfl
    have HR := hid hr
    have HOK := hid hok
    clear hr hok
    by_cases h0 : side = 0
    · have s0 : (side != 0) = false := by simpa using h0
      have s1 : (side == 0) = true := by simpa using h0
      have H0 := hid h0
      clear h0
      go_enter Try.func42, Try.ntmps42
      go_wp2_with fail
      refine (rcheck_any p q cp cq a b _ h h').mono ?_
      rintro e w1 ⟨rfl, hx1⟩
      go_wp2
      go_ret
      exact ⟨ret_int (by rw [HR.out, if_pos (Or.inl H0.out)]), hx1⟩
    · have s0 : (side != 0) = true := by simpa using h0
      have s1 : (side == 0) = false := by simpa using h0
      by_cases h1 : side = 1
      · have s2 : (side != 1) = false := by simpa using h1
        have s3 : (side == 1) = true := by simpa using h1
        have H1 := hid h1
        clear h0 h1
        go_enter Try.func42, Try.ntmps42
        go_wp2_with fail
        refine (rcheck_any p q cp cq a b _ h h').mono ?_
        rintro e w1 ⟨rfl, hx1⟩
        go_wp2
        go_ret
        exact ⟨ret_int (by rw [HR.out, if_pos (Or.inr H1.out)]), hx1⟩
      · have s2 : (side != 1) = true := by simpa using h1
        have s3 : (side == 1) = false := by simpa using h1
        have H1 := hid (show ¬ (side = 0 ∨ side = 1) from fun h => h.elim h0 h1)
        clear h0 h1
        go_enter Try.func42, Try.ntmps42
        go_wp2_with fail
        refine (rcheck_any p q cp cq a b _ h h').mono ?_
        rintro e w1 ⟨rfl, hx1⟩
        go_wp2
        go_ret
        exact ⟨ret_int (by rw [HR.out, if_neg H1.out]), hx1⟩
  · have hr : errS a b side = checkE2 a b := by unfold errS; rw [if_neg hok]
    have g : (checkE2 a b == 0) = false := by simpa using hok
    have g' : (checkE2 a b != 0) = true := by rw [bne, g]; rfl
    have HR := hid hr
    clear hr hok
    go_enter Try.func42, Try.ntmps42
    go_wp2_with fail
    refine (rcheck_any p q cp cq a b _ h h').mono ?_
    rintro e w1 ⟨rfl, hx1⟩
    go_wp2
    go_ret
    exact ⟨ret_int HR.out.symm, hx1⟩

theorem die_any (s : Sp) (side : Int) (w : World) :
    Calls Try.prog 57 #[s.val, .int .i64 side] w fun e w' => e = .returned (.int .i64 (numS s side)) ∧ Ext w w' := by
  by_cases hs : side = 0
  · have h1 : (side == 0) = true := by simpa using hs
    have hr : numS s side = s.obv := by unfold numS; rw [if_pos hs]
    have HR := hid hr
    clear hr hs
    go_enter Try.func57, Try.ntmps57
    go_wp2
    go_ret
    exact ⟨ret_int HR.out.symm, (Ext.refl _).alloc _⟩
  · have h1 : (side == 0) = false := by simpa using hs
    have hr : numS s side = s.rev := by unfold numS; rw [if_neg hs]
    have HR := hid hr
    clear hr hs
    go_enter Try.func57, Try.ntmps57
    go_wp2
    go_ret
    exact ⟨ret_int HR.out.symm, (Ext.refl _).alloc _⟩

end Go.Proofs.Ytnedoaapnfpkfaa
