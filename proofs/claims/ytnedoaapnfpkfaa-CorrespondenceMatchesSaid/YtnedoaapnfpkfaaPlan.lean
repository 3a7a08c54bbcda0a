/-
  A region whose order is open, walked in one order of the prover's choice: first those operations that give the same value in every world that meets a condition, then the others, which the text forces into one order; the condition is shown anew behind each of these. Conditions: the plan is checked by the kernel.
-/
import Derived.OrdersHeld
import Derived.Test.YtnedoaapnfpkfaaOps
import Derived.WalkKit
import Derived.Deep.RegionHeld3
namespace Go.Proofs.Ytnedoaapnfpkfaa
open Go.RowKit

section
variable {P : Program} {ops : Array Oper} {Q : Exit → Act → World → Prop} {S : World → Prop}

def planSeq (ops : Array Oper) : List Nat → Array Bool → Bool
  | [], listed => (Region.ready .any ops listed).isEmpty
  | i :: rest, listed => decide (Region.ready .any ops listed = [i]) && planSeq ops rest (listed.setIfInBounds i true)
def planB (ops : Array Oper) (tail : List Nat) : List Nat → Array Bool → Bool
  | [], listed => planSeq ops tail listed
  | i :: takes, listed => (Region.ready .any ops listed).contains i && Region.free .any ops listed i && planB ops tail takes (listed.setIfInBounds i true)

def wpTail (P : Program) (ops : Array Oper) (Q : Exit → Act → World → Prop) (S : World → Prop) (Fin : Act → World → Prop) : List Nat → Act → World → Prop
  | [], a, w => Fin a w
  | i :: rest, a, w => wpOp P ops Q i (fun a' w' => S w' ∧ wpTail P ops Q S Fin rest a' w') a w
def wpTakes (P : Program) (ops : Array Oper) (S : World → Prop) (K : Act → Prop) : List Nat → Act → Prop
  | [], a => K a
  | i :: rest, a => ∃ o v, ops[i]? = some o ∧ YieldsIf P ops S o v a ∧ wpTakes P ops S K rest (a.put o.dst v)

theorem wpAnyH_of_tail : ∀ (l : List Nat) (listed : Array Bool) (a : Act) (w : World), planSeq ops l listed = true → wpTail P ops Q S (Q .normal) l a w → wpAnyH P .any ops Q S l.length listed a w
  | [], listed, a, w, hB, h => ⟨by simpa [planSeq] using hB, h⟩
  | i :: l, listed, a, w, hB, h => by
    simp only [planSeq, Bool.and_eq_true, decide_eq_true_eq] at hB
    refine ⟨fun h0 => (by rw [hB.1] at h0; cases h0), fun j hj => ?_⟩
    rw [hB.1] at hj
    have : j = i := by simpa using hj
    subst this
    exact wpOp_mono (fun a' w' h' => ⟨h'.1, wpAnyH_of_tail l _ a' w' hB.2 h'.2⟩) h

theorem wpAnyH_of_takes (hsel : Region.noSelect ops = true) (hQ : ∀ c a d v w, Q (.panic c) (Act.put a d v) w → Q (.panic c) a w) (tail : List Nat) {w : World} (hS : S w) :
    ∀ (l : List Nat) (listed : Array Bool) (a : Act), planB ops tail l listed = true → wpTakes P ops S (fun a' => wpTail P ops Q S (Q .normal) tail a' w) l a → wpAnyH P .any ops Q S (l.length + tail.length) listed a w
  | [], listed, a, hB, h => by
    rw [show ([] : List Nat).length + tail.length = tail.length by simp]
    exact wpAnyH_of_tail tail listed a w hB h
  | i :: l, listed, a, hB, h => by
    simp only [planB, Bool.and_eq_true] at hB
    obtain ⟨o, v, ho, hy, hk⟩ := h
    rw [show (i :: l).length + tail.length = (l.length + tail.length) + 1 by simp; omega]
    exact wpAnyH_take ho hsel hB.1.2 hB.1.1 (fun c a w h => hQ c a _ _ w h) hy hS (wpAnyH_of_takes hsel hQ tail hS l _ _ hB.2 hk)

/-- THE LAW. -/
theorem wp_region_plan {id : Nat} {a : Act} {w : World} (takes tail : List Nat) (S : World → Prop) (hm : P.follows .mixedOrders = true) (hB : (Region.noSelect ops && decide (takes.length + tail.length = ops.size) && planB ops tail takes (Array.replicate ops.size false)) = true)
    (hQ : ∀ c a d v w, Q (.panic c) (Act.put a d v) w → Q (.panic c) a w) (hS : S w.drew) (h : wpTakes P ops S (fun a' => wpTail P ops Q S (Q .normal) tail a' w.drew) takes a) : (Code.region id ops true).wp P Q a w := by
  simp only [Bool.and_eq_true, decide_eq_true_eq] at hB
  refine wp_region_held (S := S) hm ?_
  rw [← hB.1.2]
  exact wpAnyH_of_takes hB.1.1 hQ tail hS takes _ a (by rw [hB.1.2]; exact hB.2) h

/-! The same where one operation f waits for every other: behind it the condition need not hold. -/

/-- Operation f waits for every other. -/
def lastB (ops : Array Oper) (f : Nat) : Bool := (List.range ops.size).all fun i => i == f || ((ops[f]?).map fun o => o.after.any fun e => Region.binds .any e && e.on == i).getD false

def wpAnyE (P : Program) (ops : Array Oper) (Q : Exit → Act → World → Prop) (S : World → Prop) (f : Nat) : Nat → Array Bool → Act → World → Prop
  | 0, listed, a, w => Region.ready .any ops listed = [] ∧ Q .normal a w
  | fuel + 1, listed, a, w =>
    (Region.ready .any ops listed = [] → Q .normal a w) ∧
    ∀ i ∈ Region.ready .any ops listed, wpOp P ops Q i (fun a' w' => (i ≠ f → S w') ∧ wpAnyE P ops Q S f fuel (listed.setIfInBounds i true) a' w') a w

theorem wpAny_of_E {f : Nat} : ∀ (fuel : Nat) (listed : Array Bool) (a : Act) (w : World), wpAnyE P ops Q S f fuel listed a w → wpAny P .any ops Q fuel listed a w
  | 0, _, _, _, h => h
  | fuel + 1, _, _, _, h => ⟨h.1, fun i hi => wpOp_mono (fun a' w' h' => wpAny_of_E fuel _ a' w' h'.2) (h.2 i hi)⟩

theorem lastB_spec {f i : Nat} {listed : Array Bool} (hL : lastB ops f = true) (hf : f ∈ Region.ready .any ops listed) (hi : i < ops.size) (hne : i ≠ f) : listed.getD i false = true := by
  obtain ⟨_, o, ho, hall⟩ := mem_ready.1 hf
  have h1 := List.all_eq_true.1 hL i (List.mem_range.2 hi)
  simp only [ho, Option.map_some, Option.getD_some, Bool.or_eq_true, beq_iff_eq, hne, false_or, Array.any_eq_true', Bool.and_eq_true] at h1
  obtain ⟨e, he, hb, heq⟩ := h1
  have := hall e he hb
  rwa [heq] at this

theorem wpAnyE_first {i f : Nat} {oi : Oper} {v : Value} (hL : lastB ops f = true) (hif : i ≠ f) (hi : ops[i]? = some oi) (hsel : ∀ (j : Nat) (o : Oper) cs b, ops[j]? = some o → o.op ≠ .select cs b)
    (hQ : ∀ c a w, Q (.panic c) (a.put oi.dst v) w → Q (.panic c) a w) :
    ∀ (fuel : Nat) (listed : Array Bool) (a : Act) (w : World),
      (∀ j oj, ops[j]? = some oj → j ≠ i → listed.getD j true = false → (∀ e ∈ oj.after, Region.binds .any e = true → e.on ≠ i) → oi.apart ops oj = true) →
      i ∈ Region.ready .any ops listed → YieldsIf P ops S oi v a → S w →
      wpAnyE P ops Q S f fuel (listed.setIfInBounds i true) (a.put oi.dst v) w → wpAnyE P ops Q S f (fuel + 1) listed a w := by
  intro fuel
  induction fuel with
  | zero =>
    intro listed a w _ hr hy hS H
    refine ⟨fun h => (by rw [h] at hr; cases hr), fun j hj => ?_⟩
    by_cases hji : j = i
    · subst hji; exact hy.wpOp hi hS ⟨fun _ => hS, H⟩
    · have := ready_mono hj hji
      rw [H.1] at this
      cases this
  | succ fuel ih =>
    intro listed a w hfree hr hy hS H
    refine ⟨fun h => (by rw [h] at hr; cases hr), fun j hj => ?_⟩
    by_cases hji : j = i
    · subst hji; exact hy.wpOp hi hS ⟨fun _ => hS, H⟩
    · have h1 := H.2 j (ready_mono hj hji)
      obtain ⟨hjun, oj, hoj, hall⟩ := mem_ready.1 hj
      have hiun := (mem_ready.1 hr).1
      have hil : i < ops.size := (Array.getElem?_eq_some_iff.1 hi).1
      have hnl : listed.getD i false ≠ true := fun h0 => by
        rcases Nat.lt_or_ge i listed.size with h' | h'
        · simp [h'] at h0 hiun; rw [hiun] at h0; cases h0
        · simp [Array.getElem?_eq_none h'] at h0
      have hjf : j ≠ f := fun e => hnl (lastB_spec hL (e ▸ hj) hil hif)
      have hnot : ∀ e ∈ oj.after, Region.binds .any e = true → e.on ≠ i := fun e he hb heq => hnl (by rw [← heq]; exact hall e he hb)
      have h2 := wpOp_putIf hoj (hfree j oj hoj hji hjun hnot) (fun cs b => hsel i oi cs b hi) (fun cs b => hsel j oj cs b hoj) hQ hy h1
      have hfree' : ∀ k ok, ops[k]? = some ok → k ≠ i → (listed.setIfInBounds j true).getD k true = false →
          (∀ e ∈ ok.after, Region.binds .any e = true → e.on ≠ i) → oi.apart ops ok = true := fun k ok hk hki hun hno => by
        refine hfree k ok hk hki ?_ hno
        by_cases hjk : j = k
        · subst hjk; exact hjun
        · rw [getD_set_ne true hjk] at hun; exact hun
      refine wpOp_mono (fun a' w' h3 => ⟨h3.2.1, ih (listed.setIfInBounds j true) a' w' hfree' (ready_mono hr (Ne.symm hji)) h3.1 (h3.2.1 hjf) ?_⟩) h2
      rw [Array.setIfInBounds_comm _ _ hji]
      exact h3.2.2

def planSeqE (ops : Array Oper) (f : Nat) : List Nat → Array Bool → Bool
  | [], listed => decide (Region.ready .any ops listed = [f]) && (Region.ready .any ops (listed.setIfInBounds f true)).isEmpty
  | i :: rest, listed => decide (Region.ready .any ops listed = [i]) && decide (i ≠ f) && planSeqE ops f rest (listed.setIfInBounds i true)
def planE (ops : Array Oper) (tail : List Nat) (f : Nat) : List Nat → Array Bool → Bool
  | [], listed => planSeqE ops f tail listed
  | i :: takes, listed => (Region.ready .any ops listed).contains i && Region.free .any ops listed i && decide (i ≠ f) && planE ops tail f takes (listed.setIfInBounds i true)

theorem wpAnyE_of_tail {f : Nat} : ∀ (l : List Nat) (listed : Array Bool) (a : Act) (w : World), planSeqE ops f l listed = true → wpTail P ops Q S (wpOp P ops Q f (Q .normal)) l a w → wpAnyE P ops Q S f (l.length + 1) listed a w
  | [], listed, a, w, hB, h => by
    simp only [planSeqE, Bool.and_eq_true, decide_eq_true_eq, List.isEmpty_iff] at hB
    refine ⟨fun h0 => (by rw [hB.1] at h0; cases h0), fun j hj => ?_⟩
    rw [hB.1] at hj
    have : j = f := by simpa using hj
    subst this
    exact wpOp_mono (fun a' w' h' => ⟨fun h => absurd rfl h, hB.2, h'⟩) h
  | i :: l, listed, a, w, hB, h => by
    simp only [planSeqE, Bool.and_eq_true, decide_eq_true_eq] at hB
    refine ⟨fun h0 => (by rw [hB.1.1] at h0; cases h0), fun j hj => ?_⟩
    rw [hB.1.1] at hj
    have : j = i := by simpa using hj
    subst this
    exact wpOp_mono (fun a' w' h' => ⟨fun _ => h'.1, wpAnyE_of_tail l _ a' w' hB.2 h'.2⟩) h

theorem wpAnyE_of_takes {f : Nat} (hL : lastB ops f = true) (hsel : Region.noSelect ops = true) (hQ : ∀ c a d v w, Q (.panic c) (Act.put a d v) w → Q (.panic c) a w) (tail : List Nat) {w : World} (hS : S w) :
    ∀ (l : List Nat) (listed : Array Bool) (a : Act), planE ops tail f l listed = true → wpTakes P ops S (fun a' => wpTail P ops Q S (wpOp P ops Q f (Q .normal)) tail a' w) l a → wpAnyE P ops Q S f (l.length + (tail.length + 1)) listed a w
  | [], listed, a, hB, h => by
    rw [show ([] : List Nat).length + (tail.length + 1) = tail.length + 1 by simp]
    exact wpAnyE_of_tail tail listed a w hB h
  | i :: l, listed, a, hB, h => by
    simp only [planE, Bool.and_eq_true, decide_eq_true_eq] at hB
    obtain ⟨o, v, ho, hy, hk⟩ := h
    rw [show (i :: l).length + (tail.length + 1) = (l.length + (tail.length + 1)) + 1 by simp; omega]
    exact wpAnyE_first hL hB.1.2 ho (Region.noSelect_spec hsel) (fun c a w h => hQ c a _ _ w h) _ listed a w (Region.free_spec ho hB.1.1.2) (by simpa using hB.1.1.1) hy hS (wpAnyE_of_takes hL hsel hQ tail hS l _ _ hB.2 hk)

/-- THE LAW, with a last operation. -/
theorem wp_region_planE {id : Nat} {a : Act} {w : World} (takes tail : List Nat) (f : Nat) (S : World → Prop) (hm : P.follows .mixedOrders = true) (hB : (Region.noSelect ops && lastB ops f && decide (takes.length + (tail.length + 1) = ops.size) && planE ops tail f takes (Array.replicate ops.size false)) = true)
    (hQ : ∀ c a d v w, Q (.panic c) (Act.put a d v) w → Q (.panic c) a w) (hS : S w.drew) (h : wpTakes P ops S (fun a' => wpTail P ops Q S (wpOp P ops Q f (Q .normal)) tail a' w.drew) takes a) : (Code.region id ops true).wp P Q a w := by
  simp only [Bool.and_eq_true, decide_eq_true_eq] at hB
  refine wp_region_any hm (wpAny_of_E (S := S) (f := f) _ _ _ _ ?_)
  rw [← hB.1.2]
  exact wpAnyE_of_takes hB.1.1.2 hB.1.1.1 hQ tail hS takes _ a (by rw [hB.1.2]; exact hB.2) h

theorem wpOp_last {f : Nat} {K : Act → World → Prop} {o : Oper} {a : Act} {w : World} (hi : ops[f]? = some o) (hg : o.guard = none) (h : o.wp P a w K Q) : wpOp P ops Q f K a w := by
  unfold wpOp
  simp only [hi]
  rw [if_pos (by simp [Region.wanted, hg])]
  exact Or.inl h

variable {Fin : Act → World → Prop}
def wpHold (P : Program) (ops : Array Oper) (Q : Exit → Act → World → Prop) (S : World → Prop) (Fin : Act → World → Prop) (rest : List Nat) (a : Act) (w : World) : Prop := S w ∧ wpTail P ops Q S Fin rest a w
theorem wpHold_mk {rest : List Nat} {a : Act} {w : World} (hS : S w) (h : wpTail P ops Q S Fin rest a w) : wpHold P ops Q S Fin rest a w := ⟨hS, h⟩

theorem wpTail_cons {i : Nat} {rest : List Nat} {o : Oper} {a : Act} {w : World} (hi : ops[i]? = some o) (hg : o.guard = none) (h : ∀ K : Act → World → Prop, (∀ a w, wpHold P ops Q S Fin rest a w → K a w) → o.wp P a w K Q) : wpTail P ops Q S Fin (i :: rest) a w := by
  unfold wpTail wpOp
  simp only [hi]
  rw [if_pos (by simp [Region.wanted, hg])]
  exact Or.inl (h _ fun _ _ h => h)
theorem wpTail_nil {a : Act} {w : World} (h : Fin a w) : wpTail P ops Q S Fin [] a w := h

theorem wpTakes_cons {K : Act → Prop} {i : Nat} {rest : List Nat} {o : Oper} {v : Value} {a : Act} (hi : ops[i]? = some o) (hg : o.guard = none) (h : ∀ w, S w → (execOp a.eval o).run P w = .ok (.value v) w) (hk : wpTakes P ops S K rest (a.put o.dst v)) : wpTakes P ops S K (i :: rest) a :=
  ⟨o, v, hi, Or.inl ⟨by simp [Region.wanted, hg], h⟩, hk⟩
theorem wpTakes_nil {K : Act → Prop} {a : Act} (h : K a) : wpTakes P ops S K [] a := h
end

/-- The operation that stands at a place, reckoned by going along the list. -/
def nthOp : List Oper → Nat → Option Oper
  | [], _ => none
  | o :: _, 0 => some o
  | _ :: l, n + 1 => nthOp l n
theorem nthOp_eq : ∀ (l : List Oper) (n : Nat), nthOp l n = l[n]?
  | [], _ => rfl
  | _ :: _, 0 => rfl
  | _ :: l, n + 1 => by rw [List.getElem?_cons_succ, ← nthOp_eq l n]; rfl
theorem nthOp_arr {ops : Array Oper} {n : Nat} {o : Oper} (h : nthOp ops.toList n = some o) : ops[n]? = some o := by
  rw [nthOp_eq] at h; simpa using h

section
variable {P : Program} {ops : Array Oper} {Q : Exit → Act → World → Prop} {S : World → Prop} {Fin : Act → World → Prop}
theorem wpTakes_nth {K : Act → Prop} {i : Nat} {rest : List Nat} {o : Oper} {v : Value} {a : Act} (hi : nthOp ops.toList i = some o) (hg : o.guard = none) (h : ∀ w, S w → (execOp a.eval o).run P w = .ok (.value v) w) (hk : wpTakes P ops S K rest (a.put o.dst v)) : wpTakes P ops S K (i :: rest) a := wpTakes_cons (nthOp_arr hi) hg h hk
theorem wpTail_nth {i : Nat} {rest : List Nat} {o : Oper} {a : Act} {w : World} (hi : nthOp ops.toList i = some o) (hg : o.guard = none) (h : ∀ K : Act → World → Prop, (∀ a w, wpHold P ops Q S Fin rest a w → K a w) → o.wp P a w K Q) : wpTail P ops Q S Fin (i :: rest) a w := wpTail_cons (nthOp_arr hi) hg h
end

/-- The cells of a block that holds a pair. -/
theorem cells2 {w : World} {b : Nat} {x y : Value} {t : TypeId} (h : w.heap[b]? = some (.cells #[x, y] t (0, 0))) : w.cell? ⟨b, 0, none⟩ = some x ∧ w.cell? ⟨b, 1, none⟩ = some y := by
  constructor <;> simp [World.cell?, h]

/-- append(s, x) of one element, as one operation. -/
theorem opWp_append_one {α : Type} {P : Program} {t e : TypeId} {enc : α → List Value} {k bytes : Nat} (E : ElemT P t e enc k bytes) (hb : bytes ≤ 100) {w : World} {o : Oper} {a : Act} {K : Act → World → Prop} {Q : Exit → Act → World → Prop} (s x : Operand)
    (ho : o.op = .call { callee := .builtin .append, args := #[s, x], argTypes := #[t, t] }) (base : Nat) (v : Value) (l : List α) (hs : a.eval s = v) (hown : OwnsL w base e k enc v l)
    (g c : Nat) (y : α) (hx : a.eval x = .slice (some ⟨g, 0, none⟩) 1 c) (hc : ∀ j u, (enc y)[j]? = some u → w.cell? ((⟨g, 0, none⟩ : Addr).add j) = some u) (hlen : l.length < 1099511627776) (hbase : base ≤ w.heap.size)
    (h : ∀ v' w', OwnsL w' base e k enc v' (l ++ [y]) → w.grownBy w' v.ownBlock → K (a.put o.dst v') w') : o.wp P a w K Q := by
  obtain ⟨v', w', hr, ho', hg⟩ := run_append_one (P := P) E hb o.type hown g c y hc hlen hbase
  unfold Oper.wp execOp
  simp only [ho, resolve, invoke, builtin, Sem.run_bind, Sem.run_pure, Result.andThen_ok, List.map_toArray, List.map_cons, List.map_nil, hs, hx, hr]
  exact h _ _ ho' hg

end Go.Proofs.Ytnedoaapnfpkfaa
