/-
  Plain functions of layer 18 that the contracts speak of: the numbers of a side, the order of pairs, couples, matches, the reference's search. Conditions: none.
-/
import Derived.Test.YtnedoaapnfpkfaaSp
namespace Go.Proofs.Ytnedoaapnfpkfaa

def checkE2 (a b : List Sp) : Int := orE (checkE a) (checkE b)
/-- The number of the die of a side. -/
def numS (s : Sp) (side : Int) : Int := if side = 0 then s.obv else s.rev
def errS (a b : List Sp) (side : Int) : Int := if checkE2 a b = 0 then (if side = 0 ∨ side = 1 then 0 else 2) else checkE2 a b
/-- x before y: by the first number, then by the second. -/
def ltP (x y : Int × Int) : Bool := decide (x.1 < y.1 ∨ (x.1 = y.1 ∧ x.2 < y.2))
/-- The two pairs share a number. -/
def clash (x y : Int × Int) : Bool := y.1 == x.1 || y.2 == x.2
/-- The list a stands before the list b. -/
def firstB : List (Int × Int) → List (Int × Int) → Bool
  | [], [] => false
  | [], _ :: _ => true
  | _ :: _, [] => false
  | x :: l, y :: m => if x = y then firstB l m else ltP x y

theorem errS_ok {a b : List Sp} {side : Int} (h : errS a b side = 0) : checkE a = 0 ∧ checkE b = 0 ∧ (side = 0 ∨ side = 1) := by
  unfold errS at h
  by_cases h1 : checkE2 a b = 0
  · rw [if_pos h1] at h
    obtain ⟨h2, h3⟩ := orE_ok.1 h1
    refine ⟨h2, h3, ?_⟩
    by_cases hs : side = 0 ∨ side = 1
    · exact hs
    · rw [if_neg hs] at h; omega
  · rw [if_neg h1] at h; exact absurd h h1

/-! ### Couples -/

abbrev Cp := Int × Int × Int
def insC (c : Cp) (l : List Cp) : List Cp := l.takeWhile (fun x => decide (x.1 < c.1)) ++ c :: l.dropWhile (fun x => decide (x.1 < c.1))
def coupS (s t : Sp) (side : Int) (out : List Cp) : List Cp := if s.id = t.id then insC (s.id, numS s side, numS t side) out else out
def coup1 (s : Sp) (side : Int) (b : List Sp) (out : List Cp) : List Cp := b.foldl (fun out t => coupS s t side out) out
def couplesL (a b : List Sp) (side : Int) : List Cp := a.foldl (fun out s => coup1 s side b out) []

theorem coup1_take {s : Sp} {side : Int} {b : List Sp} {out : List Cp} {k : Nat} (h : k < b.length) : coup1 s side (b.take (k + 1)) out = coupS s b[k] side (coup1 s side (b.take k) out) := by
  unfold coup1; rw [List.take_succ_eq_append_getElem h, List.foldl_append]; rfl
theorem couplesL_take {a b : List Sp} {side : Int} {k : Nat} (h : k < a.length) : couplesL (a.take (k + 1)) b side = coup1 a[k] side b (couplesL (a.take k) b side) := by
  unfold couplesL; rw [List.take_succ_eq_append_getElem h, List.foldl_append]; rfl

/-! ### Matches -/

def insM (x : Int × Int) (l : List (Int × Int)) : List (Int × Int) :=
  if (l.dropWhile (fun y => ltP y x)).head? = some x then l else l.takeWhile (fun y => ltP y x) ++ x :: l.dropWhile (fun y => ltP y x)
def matchesL (l : List (Int × Int)) : List (Int × Int) := l.foldl (fun out x => insM x out) []
theorem matchesL_take {l : List (Int × Int)} {k : Nat} (h : k < l.length) : matchesL (l.take (k + 1)) = insM l[k] (matchesL (l.take k)) := by
  unfold matchesL; rw [List.take_succ_eq_append_getElem h, List.foldl_append]; rfl
theorem insM_length (x : Int × Int) (l : List (Int × Int)) : (insM x l).length ≤ l.length + 1 := by
  unfold insM
  split
  · omega
  · have := congrArg List.length (List.takeWhile_append_dropWhile (p := fun y => ltP y x) (l := l))
    rw [List.length_append] at this ⊢
    rw [List.length_cons]; omega
theorem matchesL_length (l : List (Int × Int)) : (matchesL l).length ≤ l.length := by
  suffices h : ∀ (l out : List (Int × Int)), (l.foldl (fun out x => insM x out) out).length ≤ out.length + l.length by simpa [matchesL] using h l []
  intro l
  induction l with
  | nil => intro out; simp
  | cons x l ih =>
    intro out
    have h1 := ih (insM x out)
    have h2 := insM_length x out
    rw [List.foldl_cons, List.length_cons]; omega


/-! ### The search of the reference -/

/-- How often the pairs of cur stand among those of l. -/
def weightL (l : List (Int × Int)) (cur : List (Int × Int)) : Int := l.foldl (fun (n : Int) x => n + ((cur.countP (fun y => decide (x = y)) : Nat) : Int)) 0
abbrev Try3 := List (Int × Int) × Int × Bool
def pick3 (b : Try3) (cur : List (Int × Int)) (n : Int) : Try3 := if !b.2.2 || decide (n > b.2.1) || (n == b.2.1 && firstB cur b.1) then (cur, n, true) else b
def searchL (l : List (Int × Int)) : List (Int × Int) → List (Int × Int) → Try3 → Try3
  | [], cur, best => pick3 best cur (weightL l cur)
  | p :: rest, cur, best => searchL l rest cur (if cur.any (clash p) then best else searchL l rest (cur ++ [p]) best)


end Go.Proofs.Ytnedoaapnfpkfaa
