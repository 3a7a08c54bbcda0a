/-
  '==' and '!=' at structs of ints: specimens, and pairs of numbers (Pair, Entry). Conditions: none.
-/
import Derived.Test.YtnedoaapnfpkfaaRows
import Derived.Test.YtnedoaapnfpkfaaBase
import Derived.Test.YtnedoaapnfpkfaaSp
import Derived.Laws.StructEq
namespace Go.Proofs.Ytnedoaapnfpkfaa
open Go.RowKit

theorem Sp.ext_iff' (x y : Sp) : x = y ↔ x.id = y.id ∧ x.obv = y.obv ∧ x.rev = y.rev ∧ x.os = y.os ∧ x.rs = y.rs ∧ x.ax = y.ax ∧ x.wt = y.wt := by
  cases x; cases y; simp

theorem eql_sp (x y : Sp) (w : World) : (binOp .eql 39 x.val y.val).run Try.prog w = .ok (.bool (decide (x = y))) w := by
  have hS : Try.prog.underlying 39 = some (.struct (Try.prog.fieldsOf 39)) := by kernel_rfl
  have hp : Try.prog.stoodInHeld 39 = false := by kernel_rfl
  have e : decide (x = y) = (decide (x.id = y.id) && decide (x.obv = y.obv) && decide (x.rev = y.rev) && decide (x.os = y.os) && decide (x.rs = y.rs) && decide (x.ax = y.ax) && decide (x.wt = y.wt)) := by
    rw [Bool.eq_iff_iff]; simp only [decide_eq_true_eq, Bool.and_eq_true, Sp.ext_iff', and_assoc]
  rw [e, run_eql_struct, show (10000 : Nat) = 9999 + 1 from rfl, run_equalIn_agg w 9999 39 _ _ hS hp]
  simp only [Program.fieldsOf, Try.underlying39]
  have u3 := Try.underlying3
  have a3 := Try.isAgg3
  have z3 := Try.sizeOf3
  go_simp
  by_cases h1 : x.id = y.id <;> by_cases h2 : x.obv = y.obv <;> by_cases h3 : x.rev = y.rev <;> by_cases h4 : x.os = y.os <;> by_cases h5 : x.rs = y.rs <;> by_cases h6 : x.ax = y.ax <;> by_cases h7 : x.wt = y.wt <;> simp [h1, h2, h3, h4, h5, h6, h7]


theorem run_neq_of_eql {P : Program} {t : TypeId} {a b : Array Value} {c : Bool} {w : World} (h : (binOp .eql t (.agg a) (.agg b)).run P w = .ok (.bool c) w) : (binOp .neq t (.agg a) (.agg b)).run P w = .ok (.bool (!c)) w := by
  simp only [binOp, Sem.run_bind] at h ⊢
  cases hr : (Op.equal t (.agg a) (.agg b)).run P w with
  | ok v w' =>
    rw [hr] at h
    simp [Result.andThen] at h ⊢
    obtain ⟨rfl, rfl⟩ := h
    simp
  | halt x w' =>
    rw [hr] at h
    simp [Result.andThen] at h

theorem run_guard_agg {P : Program} {t : TypeId} (hg : P.eqGuardType P.depth t = false) (op : BinOp) (xo yo : Operand) (a b : Array Value) (w : World) : (eqGuard op t xo yo (.agg a) (.agg b)).run P w = .ok () w := by
  unfold eqGuard
  cases op <;> simp [hg, program, Sem.run]

theorem neq_sp (x y : Sp) (w : World) : (binOp .neq 39 x.val y.val).run Try.prog w = .ok (.bool (!decide (x = y))) w := run_neq_of_eql (eql_sp x y w)
theorem guard_sp (op : BinOp) (xo yo : Operand) (x y : Sp) (w : World) : (eqGuard op 39 xo yo x.val y.val).run Try.prog w = .ok () w := run_guard_agg (by kernel_rfl) op xo yo _ _ w

/-- The cells of a pair of numbers. -/
def encP (x : Int × Int) : List Value := [.int .i64 x.1, .int .i64 x.2]
theorem encP_len (x : Int × Int) : (encP x).length = 2 := rfl
/-- A pair of numbers as a value. -/
abbrev pval (x : Int × Int) : Value := .agg #[.int .i64 x.1, .int .i64 x.2]

theorem eql_pair (x y : Int × Int) (w : World) : (binOp .eql 60 (pval x) (pval y)).run Try.prog w = .ok (.bool (decide (x = y))) w := by
  have hS : Try.prog.underlying 60 = some (.struct (Try.prog.fieldsOf 60)) := by kernel_rfl
  have hp : Try.prog.stoodInHeld 60 = false := by kernel_rfl
  have e : decide (x = y) = (decide (x.1 = y.1) && decide (x.2 = y.2)) := by
    rw [Bool.eq_iff_iff]; simp only [decide_eq_true_eq, Bool.and_eq_true, Prod.ext_iff]
  rw [e, run_eql_struct, show (10000 : Nat) = 9999 + 1 from rfl, run_equalIn_agg w 9999 60 _ _ hS hp]
  simp only [Program.fieldsOf, Try.underlying60]
  have u3 := Try.underlying3
  have a3 := Try.isAgg3
  have z3 := Try.sizeOf3
  go_simp
  by_cases h1 : x.1 = y.1 <;> by_cases h2 : x.2 = y.2 <;> simp [h1, h2]
theorem neq_pair (x y : Int × Int) (w : World) : (binOp .neq 60 (pval x) (pval y)).run Try.prog w = .ok (.bool (!decide (x = y))) w := run_neq_of_eql (eql_pair x y w)
theorem guard_pair (op : BinOp) (xo yo : Operand) (x y : Int × Int) (w : World) : (eqGuard op 60 xo yo (pval x) (pval y)).run Try.prog w = .ok () w := run_guard_agg (by kernel_rfl) op xo yo _ _ w

theorem eql_entry (x y : Int × Int) (w : World) : (binOp .eql 37 (pval x) (pval y)).run Try.prog w = .ok (.bool (decide (x = y))) w := by
  have hS : Try.prog.underlying 37 = some (.struct (Try.prog.fieldsOf 37)) := by kernel_rfl
  have hp : Try.prog.stoodInHeld 37 = false := by kernel_rfl
  have e : decide (x = y) = (decide (x.1 = y.1) && decide (x.2 = y.2)) := by
    rw [Bool.eq_iff_iff]; simp only [decide_eq_true_eq, Bool.and_eq_true, Prod.ext_iff]
  rw [e, run_eql_struct, show (10000 : Nat) = 9999 + 1 from rfl, run_equalIn_agg w 9999 37 _ _ hS hp]
  simp only [Program.fieldsOf, Try.underlying37]
  have u3 := Try.underlying3
  have a3 := Try.isAgg3
  have z3 := Try.sizeOf3
  go_simp
  by_cases h1 : x.1 = y.1 <;> by_cases h2 : x.2 = y.2 <;> simp [h1, h2]
theorem neq_entry (x y : Int × Int) (w : World) : (binOp .neq 37 (pval x) (pval y)).run Try.prog w = .ok (.bool (!decide (x = y))) w := run_neq_of_eql (eql_entry x y w)
theorem guard_entry (op : BinOp) (xo yo : Operand) (x y : Int × Int) (w : World) : (eqGuard op 37 xo yo (pval x) (pval y)).run Try.prog w = .ok () w := run_guard_agg (by kernel_rfl) op xo yo _ _ w

end Go.Proofs.Ytnedoaapnfpkfaa
