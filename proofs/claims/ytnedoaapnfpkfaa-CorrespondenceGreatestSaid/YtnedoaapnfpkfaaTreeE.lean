/-
  The law of XTree with a last operation that waits for all others: behind it the condition need not hold. Conditions: the plan is checked by the kernel.
-/
import Derived.Test.YtnedoaapnfpkfaaTree
namespace Go.Proofs.Ytnedoaapnfpkfaa
open Go.RowKit

section
variable {P : Program} {ops : Array Oper} {Q : Exit → Act → World → Prop} {S : World → Prop}

def planTE (ops : Array Oper) (f : Nat) : Plan → Array Bool → Bool
  | .done, listed => decide (Region.ready .any ops listed = [f]) && (Region.ready .any ops (listed.setIfInBounds f true)).isEmpty
  | .one i p, listed => decide (Region.ready .any ops listed = [i]) && decide (i ≠ f) && planTE ops f p (listed.setIfInBounds i true)
  | .two i p j q, listed => decide (Region.ready .any ops listed = [i, j]) && decide (i ≠ f) && decide (j ≠ f) && decide (p.size = q.size) && planTE ops f p (listed.setIfInBounds i true) && planTE ops f q (listed.setIfInBounds j true)
def planTBE (ops : Array Oper) (f : Nat) (pl : Plan) : List Nat → Array Bool → Bool
  | [], listed => planTE ops f pl listed
  | i :: takes, listed => (Region.ready .any ops listed).contains i && Region.free .any ops listed i && decide (i ≠ f) && planTBE ops f pl takes (listed.setIfInBounds i true)

def wpPlanE (P : Program) (ops : Array Oper) (Q : Exit → Act → World → Prop) (S : World → Prop) (f : Nat) : Plan → Act → World → Prop
  | .done, a, w => wpOp P ops Q f (Q .normal) a w
  | .one i p, a, w => wpOp P ops Q i (fun a' w' => S w' ∧ wpPlanE P ops Q S f p a' w') a w
  | .two i p j q, a, w => wpOp P ops Q i (fun a' w' => S w' ∧ wpPlanE P ops Q S f p a' w') a w ∧ wpOp P ops Q j (fun a' w' => S w' ∧ wpPlanE P ops Q S f q a' w') a w

theorem wpAnyE_of_plan {f : Nat} : ∀ (pl : Plan) (listed : Array Bool) (a : Act) (w : World), planTE ops f pl listed = true → wpPlanE P ops Q S f pl a w → wpAnyE P ops Q S f (pl.size + 1) listed a w
  | .done, listed, a, w, hB, h => by
    simp only [planTE, Bool.and_eq_true, decide_eq_true_eq, List.isEmpty_iff] at hB
    refine ⟨fun h0 => (by rw [hB.1] at h0; cases h0), fun j hj => ?_⟩
    rw [hB.1] at hj
    have : j = f := by simpa using hj
    subst this
    exact wpOp_mono (fun a' w' h' => ⟨fun h => absurd rfl h, hB.2, h'⟩) h
  | .one i p, listed, a, w, hB, h => by
    simp only [planTE, Bool.and_eq_true, decide_eq_true_eq] at hB
    refine ⟨fun h0 => (by rw [hB.1.1] at h0; cases h0), fun j hj => ?_⟩
    rw [hB.1.1] at hj
    have : j = i := by simpa using hj
    subst this
    exact wpOp_mono (fun a' w' h' => ⟨fun _ => h'.1, wpAnyE_of_plan p _ a' w' hB.2 h'.2⟩) h
  | .two i p j q, listed, a, w, hB, h => by
    simp only [planTE, Bool.and_eq_true, decide_eq_true_eq] at hB
    refine ⟨fun h0 => (by rw [hB.1.1.1.1.1] at h0; cases h0), fun k hk => ?_⟩
    rw [hB.1.1.1.1.1] at hk
    have : k = i ∨ k = j := by simpa using hk
    rcases this with rfl | rfl
    · exact wpOp_mono (fun a' w' h' => ⟨fun _ => h'.1, wpAnyE_of_plan p _ a' w' hB.1.2 h'.2⟩) h.1
    · exact wpOp_mono (fun a' w' h' => ⟨fun _ => h'.1, by show wpAnyE P ops Q S f (p.size + 1) _ a' w'; rw [hB.1.1.2]; exact wpAnyE_of_plan q _ a' w' hB.2 h'.2⟩) h.2

theorem wpAnyE_of_takesT {f : Nat} (hL : lastB ops f = true) (hsel : Region.noSelect ops = true) (hQ : ∀ c a d v w, Q (.panic c) (Act.put a d v) w → Q (.panic c) a w) (pl : Plan) {w : World} (hS : S w) :
    ∀ (l : List Nat) (listed : Array Bool) (a : Act), planTBE ops f pl l listed = true → wpTakes P ops S (fun a' => wpPlanE P ops Q S f pl a' w) l a → wpAnyE P ops Q S f (l.length + (pl.size + 1)) listed a w
  | [], listed, a, hB, h => by
    rw [show ([] : List Nat).length + (pl.size + 1) = pl.size + 1 by simp]
    exact wpAnyE_of_plan pl listed a w hB h
  | i :: l, listed, a, hB, h => by
    simp only [planTBE, Bool.and_eq_true, decide_eq_true_eq] at hB
    obtain ⟨o, v, ho, hy, hk⟩ := h
    rw [show (i :: l).length + (pl.size + 1) = (l.length + (pl.size + 1)) + 1 by simp; omega]
    exact wpAnyE_first hL hB.1.2 ho (Region.noSelect_spec hsel) (fun c a w h => hQ c a _ _ w h) _ listed a w (Region.free_spec ho hB.1.1.2) (by simpa using hB.1.1.1) hy hS (wpAnyE_of_takesT hL hsel hQ pl hS l _ _ hB.2 hk)

/-- THE LAW. -/
theorem wp_region_treeE {id : Nat} {a : Act} {w : World} (takes : List Nat) (pl : Plan) (f : Nat) (S : World → Prop) (hm : P.follows .mixedOrders = true) (hB : (Region.noSelect ops && lastB ops f && decide (takes.length + (pl.size + 1) = ops.size) && planTBE ops f pl takes (Array.replicate ops.size false)) = true)
    (hQ : ∀ c a d v w, Q (.panic c) (Act.put a d v) w → Q (.panic c) a w) (hS : S w.drew) (h : wpTakes P ops S (fun a' => wpPlanE P ops Q S f pl a' w.drew) takes a) : (Code.region id ops true).wp P Q a w := by
  simp only [Bool.and_eq_true, decide_eq_true_eq] at hB
  refine wp_region_any hm (wpAny_of_E (S := S) (f := f) _ _ _ _ ?_)
  rw [← hB.1.2]
  exact wpAnyE_of_takesT hB.1.1.2 hB.1.1.1 hQ pl hS takes _ a (by rw [hB.1.2]; exact hB.2) h

def wpHoldE (P : Program) (ops : Array Oper) (Q : Exit → Act → World → Prop) (S : World → Prop) (f : Nat) (p : Plan) (a : Act) (w : World) : Prop := S w ∧ wpPlanE P ops Q S f p a w
theorem wpHoldE_mk {f : Nat} {p : Plan} {a : Act} {w : World} (hS : S w) (h : wpPlanE P ops Q S f p a w) : wpHoldE P ops Q S f p a w := ⟨hS, h⟩
theorem wpPlanE_nth {f i : Nat} {p : Plan} {o : Oper} {a : Act} {w : World} (hi : nthOp ops.toList i = some o) (hg : o.guard = none) (h : ∀ K : Act → World → Prop, (∀ a w, wpHoldE P ops Q S f p a w → K a w) → o.wp P a w K Q) : wpPlanE P ops Q S f (.one i p) a w := by
  have hi' := nthOp_arr hi
  unfold wpPlanE wpOp
  simp only [hi']
  rw [if_pos (by simp [Region.wanted, hg])]
  exact Or.inl (h _ fun _ _ h => h)
theorem wpPlanE_two {f i j : Nat} {p q : Plan} {a : Act} {w : World} (h : wpPlanE P ops Q S f (.one i p) a w) (h' : wpPlanE P ops Q S f (.one j q) a w) : wpPlanE P ops Q S f (.two i p j q) a w := ⟨h, h'⟩
theorem wpPlanE_last {f : Nat} {o : Oper} {a : Act} {w : World} (hi : nthOp ops.toList f = some o) (hg : o.guard = none) (h : o.wp P a w (Q .normal) Q) : wpPlanE P ops Q S f .done a w := wpOp_last (nthOp_arr hi) hg h
end

end Go.Proofs.Ytnedoaapnfpkfaa
