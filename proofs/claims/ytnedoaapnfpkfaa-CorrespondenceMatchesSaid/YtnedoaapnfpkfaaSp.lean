/-
  Plain data of coins and the plain functions that the contracts speak of: when a specimen is valid, the error of a list, the specimen with an Id. Conditions: none.
-/
import Derived.WalkKit
namespace Go.Proofs.Ytnedoaapnfpkfaa

/-- A specimen. -/
structure Sp where
  id : Int
  obv : Int
  rev : Int
  os : Int
  rs : Int
  ax : Int
  wt : Int
deriving DecidableEq, Inhabited

/-- The cells of a specimen. -/
def encSp (s : Sp) : List Value := [.int .i64 s.id, .int .i64 s.obv, .int .i64 s.rev, .int .i64 s.os, .int .i64 s.rs, .int .i64 s.ax, .int .i64 s.wt]
theorem encSp_len (s : Sp) : (encSp s).length = 7 := rfl
/-- A specimen as a value. -/
abbrev Sp.val (s : Sp) : Value := .agg #[.int .i64 s.id, .int .i64 s.obv, .int .i64 s.rev, .int .i64 s.os, .int .i64 s.rs, .int .i64 s.ax, .int .i64 s.wt]

def inB (n lo hi : Int) : Bool := decide (lo ≤ n) && decide (n ≤ hi)
theorem inB_iff {n lo hi : Int} : inB n lo hi = true ↔ lo ≤ n ∧ n ≤ hi := by simp [inB]

def validB (s : Sp) : Bool :=
  inB s.obv 1 999 && inB s.rev 1 999 && inB s.os 1 9 && inB s.rs 1 9 && inB s.id 1 9999 && inB s.ax 0 11 && inB s.wt 1 200000

theorem validB_iff {s : Sp} : validB s = true ↔ (1 ≤ s.obv ∧ s.obv ≤ 999) ∧ (1 ≤ s.rev ∧ s.rev ≤ 999) ∧ (1 ≤ s.os ∧ s.os ≤ 9) ∧ (1 ≤ s.rs ∧ s.rs ≤ 9) ∧ (1 ≤ s.id ∧ s.id ≤ 9999) ∧ (0 ≤ s.ax ∧ s.ax ≤ 11) ∧ (1 ≤ s.wt ∧ s.wt ≤ 200000) := by
  unfold validB
  simp only [Bool.and_eq_true, inB_iff, and_assoc]

/-- Two specimens with one Id. -/
def dupB : List Sp → Bool
  | [] => false
  | s :: l => l.any (fun t => t.id == s.id) || dupB l

/-- The error of a list. -/
def checkE (l : List Sp) : Int := if 64 < l.length then 6 else if l.any (fun s => !validB s) then 1 else if dupB l then 8 else 0

theorem dupB_snoc (l : List Sp) (s : Sp) : dupB (l ++ [s]) = (dupB l || l.any (fun t => t.id == s.id)) := by
  induction l with
  | nil => rfl
  | cons x l ih =>
    simp only [List.cons_append, dupB, ih, List.any_append, List.any_cons, List.any_nil, Bool.or_false]
    have : (s.id == x.id) = (x.id == s.id) := by rw [Bool.eq_iff_iff]; simp only [beq_iff_eq]; exact ⟨Eq.symm, Eq.symm⟩
    rw [this]
    generalize l.any (fun t => t.id == x.id) = p
    generalize l.any (fun t => t.id == s.id) = q
    cases p <;> cases dupB l <;> cases q <;> cases (x.id == s.id) <;> rfl

theorem dupB_false {l : List Sp} : dupB l = false ↔ (l.map Sp.id).Nodup := by
  induction l with
  | nil => simp [dupB]
  | cons x l ih =>
    simp only [dupB, Bool.or_eq_false_iff, ih, List.map_cons, List.nodup_cons, List.mem_map]
    constructor
    · rintro ⟨h1, h2⟩
      refine ⟨?_, h2⟩
      rintro ⟨t, ht, he⟩
      have := List.any_eq_false.1 h1 t ht
      simp [he] at this
    · rintro ⟨h1, h2⟩
      refine ⟨?_, h2⟩
      rw [List.any_eq_false]
      intro t ht he
      exact h1 ⟨t, ht, by simpa using he⟩

theorem checkE_ok {l : List Sp} : checkE l = 0 ↔ l.length ≤ 64 ∧ (∀ s ∈ l, validB s = true) ∧ (l.map Sp.id).Nodup := by
  unfold checkE
  rw [← dupB_false]
  by_cases h1 : 64 < l.length
  · simp only [if_pos h1]
    constructor
    · intro h; omega
    · intro h; omega
  · rw [if_neg h1]
    by_cases h2 : l.any (fun s => !validB s) = true
    · rw [if_pos h2]
      constructor
      · intro h; omega
      · rintro ⟨_, h, _⟩
        obtain ⟨s, hs, hv⟩ := List.any_eq_true.1 h2
        simp [h s hs] at hv
    · rw [if_neg h2]
      have h2' : ∀ s ∈ l, validB s = true := by
        intro s hs
        by_cases hv : validB s = true
        · exact hv
        · exact absurd (List.any_eq_true.2 ⟨s, hs, by simpa using hv⟩) h2
      by_cases h3 : dupB l = true
      · rw [if_pos h3]; simp [h3]
      · rw [if_neg h3]; simp [h3]; exact ⟨by omega, h2'⟩

/-- The first error of two. -/
def orE (x y : Int) : Int := if x = 0 then y else x
theorem orE_ok {x y : Int} : orE x y = 0 ↔ x = 0 ∧ y = 0 := by
  unfold orE; split <;> omega
theorem orE_zero (y : Int) : orE 0 y = y := rfl
theorem orE_other {x y : Int} (h : ¬ x = 0) : orE x y = x := if_neg h

/-- The first specimen with an Id. -/
def findS (l : List Sp) (n : Int) : Option Sp := l.find? (fun s => s.id == n)
def zeroSp : Sp := ⟨0, 0, 0, 0, 0, 0, 0⟩

end Go.Proofs.Ytnedoaapnfpkfaa
