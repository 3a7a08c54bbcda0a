/-
  The law of XPlan where two operations may come up in either order: a plan is a tree. Conditions: the plan is checked by the kernel.
-/
import Derived.Test.YtnedoaapnfpkfaaPlan
namespace Go.Proofs.Ytnedoaapnfpkfaa
open Go.RowKit

inductive Plan
  | done
  | one (i : Nat) (p : Plan)
  | two (i : Nat) (p : Plan) (j : Nat) (q : Plan)
def Plan.size : Plan → Nat
  | .done => 0
  | .one _ p => p.size + 1
  | .two _ p _ _ => p.size + 1

section
variable {P : Program} {ops : Array Oper} {Q : Exit → Act → World → Prop} {S : World → Prop}

def planT (ops : Array Oper) : Plan → Array Bool → Bool
  | .done, listed => (Region.ready .any ops listed).isEmpty
  | .one i p, listed => decide (Region.ready .any ops listed = [i]) && planT ops p (listed.setIfInBounds i true)
  | .two i p j q, listed => decide (Region.ready .any ops listed = [i, j]) && decide (p.size = q.size) && planT ops p (listed.setIfInBounds i true) && planT ops q (listed.setIfInBounds j true)
def planTB (ops : Array Oper) (pl : Plan) : List Nat → Array Bool → Bool
  | [], listed => planT ops pl listed
  | i :: takes, listed => (Region.ready .any ops listed).contains i && Region.free .any ops listed i && planTB ops pl takes (listed.setIfInBounds i true)

def wpPlan (P : Program) (ops : Array Oper) (Q : Exit → Act → World → Prop) (S : World → Prop) : Plan → Act → World → Prop
  | .done, a, w => Q .normal a w
  | .one i p, a, w => wpOp P ops Q i (fun a' w' => S w' ∧ wpPlan P ops Q S p a' w') a w
  | .two i p j q, a, w => wpOp P ops Q i (fun a' w' => S w' ∧ wpPlan P ops Q S p a' w') a w ∧ wpOp P ops Q j (fun a' w' => S w' ∧ wpPlan P ops Q S q a' w') a w

theorem wpAnyH_of_plan : ∀ (pl : Plan) (listed : Array Bool) (a : Act) (w : World), planT ops pl listed = true → wpPlan P ops Q S pl a w → wpAnyH P .any ops Q S pl.size listed a w
  | .done, listed, a, w, hB, h => ⟨by simpa [planT] using hB, h⟩
  | .one i p, listed, a, w, hB, h => by
    simp only [planT, Bool.and_eq_true, decide_eq_true_eq] at hB
    refine ⟨fun h0 => (by rw [hB.1] at h0; cases h0), fun j hj => ?_⟩
    rw [hB.1] at hj
    have : j = i := by simpa using hj
    subst this
    exact wpOp_mono (fun a' w' h' => ⟨h'.1, wpAnyH_of_plan p _ a' w' hB.2 h'.2⟩) h
  | .two i p j q, listed, a, w, hB, h => by
    simp only [planT, Bool.and_eq_true, decide_eq_true_eq] at hB
    refine ⟨fun h0 => (by rw [hB.1.1.1] at h0; cases h0), fun k hk => ?_⟩
    rw [hB.1.1.1] at hk
    have : k = i ∨ k = j := by simpa using hk
    rcases this with rfl | rfl
    · exact wpOp_mono (fun a' w' h' => ⟨h'.1, wpAnyH_of_plan p _ a' w' hB.1.2 h'.2⟩) h.1
    · exact wpOp_mono (fun a' w' h' => ⟨h'.1, by show wpAnyH P .any ops Q S p.size _ a' w'; rw [hB.1.1.2]; exact wpAnyH_of_plan q _ a' w' hB.2 h'.2⟩) h.2

theorem wpAnyH_of_takesT (hsel : Region.noSelect ops = true) (hQ : ∀ c a d v w, Q (.panic c) (Act.put a d v) w → Q (.panic c) a w) (pl : Plan) {w : World} (hS : S w) :
    ∀ (l : List Nat) (listed : Array Bool) (a : Act), planTB ops pl l listed = true → wpTakes P ops S (fun a' => wpPlan P ops Q S pl a' w) l a → wpAnyH P .any ops Q S (l.length + pl.size) listed a w
  | [], listed, a, hB, h => by
    rw [show ([] : List Nat).length + pl.size = pl.size by simp]
    exact wpAnyH_of_plan pl listed a w hB h
  | i :: l, listed, a, hB, h => by
    simp only [planTB, Bool.and_eq_true] at hB
    obtain ⟨o, v, ho, hy, hk⟩ := h
    rw [show (i :: l).length + pl.size = (l.length + pl.size) + 1 by simp; omega]
    exact wpAnyH_take ho hsel hB.1.2 hB.1.1 (fun c a w h => hQ c a _ _ w h) hy hS (wpAnyH_of_takesT hsel hQ pl hS l _ _ hB.2 hk)

/-- THE LAW. -/
theorem wp_region_tree {id : Nat} {a : Act} {w : World} (takes : List Nat) (pl : Plan) (S : World → Prop) (hm : P.follows .mixedOrders = true) (hB : (Region.noSelect ops && decide (takes.length + pl.size = ops.size) && planTB ops pl takes (Array.replicate ops.size false)) = true)
    (hQ : ∀ c a d v w, Q (.panic c) (Act.put a d v) w → Q (.panic c) a w) (hS : S w.drew) (h : wpTakes P ops S (fun a' => wpPlan P ops Q S pl a' w.drew) takes a) : (Code.region id ops true).wp P Q a w := by
  simp only [Bool.and_eq_true, decide_eq_true_eq] at hB
  refine wp_region_held (S := S) hm ?_
  rw [← hB.1.2]
  exact wpAnyH_of_takesT hB.1.1 hQ pl hS takes _ a (by rw [hB.1.2]; exact hB.2) h

def wpHoldT (P : Program) (ops : Array Oper) (Q : Exit → Act → World → Prop) (S : World → Prop) (p : Plan) (a : Act) (w : World) : Prop := S w ∧ wpPlan P ops Q S p a w
theorem wpHoldT_mk {p : Plan} {a : Act} {w : World} (hS : S w) (h : wpPlan P ops Q S p a w) : wpHoldT P ops Q S p a w := ⟨hS, h⟩
theorem wpPlan_one {i : Nat} {p : Plan} {o : Oper} {a : Act} {w : World} (hi : ops[i]? = some o) (hg : o.guard = none) (h : ∀ K : Act → World → Prop, (∀ a w, wpHoldT P ops Q S p a w → K a w) → o.wp P a w K Q) : wpPlan P ops Q S (.one i p) a w := by
  unfold wpPlan wpOp
  simp only [hi]
  rw [if_pos (by simp [Region.wanted, hg])]
  exact Or.inl (h _ fun _ _ h => h)
theorem wpPlan_nth {i : Nat} {p : Plan} {o : Oper} {a : Act} {w : World} (hi : nthOp ops.toList i = some o) (hg : o.guard = none) (h : ∀ K : Act → World → Prop, (∀ a w, wpHoldT P ops Q S p a w → K a w) → o.wp P a w K Q) : wpPlan P ops Q S (.one i p) a w := wpPlan_one (nthOp_arr hi) hg h
theorem wpPlan_two {i j : Nat} {p q : Plan} {a : Act} {w : World} (h : wpPlan P ops Q S (.one i p) a w) (h' : wpPlan P ops Q S (.one j q) a w) : wpPlan P ops Q S (.two i p j q) a w := ⟨h, h'⟩
theorem wpPlan_done {a : Act} {w : World} (h : Q .normal a w) : wpPlan P ops Q S .done a w := h
end

end Go.Proofs.Ytnedoaapnfpkfaa
