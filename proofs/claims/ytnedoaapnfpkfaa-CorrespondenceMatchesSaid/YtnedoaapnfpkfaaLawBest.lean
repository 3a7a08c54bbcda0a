/-
  Plain law: the reference's search finds what the program's search finds. Conditions: none beyond those named.
-/
import Derived.Test.YtnedoaapnfpkfaaRefs
namespace Go.Proofs.Ytnedoaapnfpkfaa
open Go.Sort

/-! ### The order of lists -/

theorem cmpP_spec (x y : Int × Int) : (cmpP x y < 0 ↔ ltP x y = true) ∧ (cmpP x y = 0 ↔ x = y) ∧ (0 < cmpP x y ↔ ltP y x = true) := by
  have h : ∀ x y : Int × Int, decide (cmpP x y < 0) = ltP x y := fun x y => congrFun (congrFun ltOf_cmpP x) y
  have h1 : ∀ x y : Int × Int, (cmpP x y < 0 ↔ ltP x y = true) := fun x y => by rw [← h]; simp
  refine ⟨h1 x y, ?_, ?_⟩
  · constructor
    · intro h0
      refine Classical.byContradiction fun hne => ?_
      cases hl : ltP x y
      · have := ltP_tri hl hne
        unfold cmpP orI Lib.compareInt at h0
        rw [ltP_iff] at this
        split at h0 <;> split at h0 <;> (try split at h0) <;> (try split at h0) <;> simp_all <;> omega
      · have := (h1 x y).2 hl; omega
    · rintro rfl; unfold cmpP orI Lib.compareInt; simp
  · rw [ltP_iff]
    unfold cmpP orI Lib.compareInt
    by_cases a : x.1 < y.1
    · simp [a]; omega
    · by_cases b : y.1 < x.1
      · simp [a, b]
      · have e : x.1 = y.1 := by omega
        by_cases c : x.2 < y.2
        · simp [e, c]; omega
        · by_cases d : y.2 < x.2
          · simp [e, c, d]
          · simp [e, c, d]

theorem cmpL_refl (l : List (Int × Int)) : cmpL l l = 0 := by
  induction l with
  | nil => rfl
  | cons x l ih =>
    have : cmpP x x = 0 := (cmpP_spec x x).2.1.2 rfl
    simp [cmpL, this, ih]
theorem cmpL_zero {l m : List (Int × Int)} (h : cmpL l m = 0) : l = m := by
  induction l generalizing m with
  | nil => cases m with
    | nil => rfl
    | cons y m => simp [cmpL] at h
  | cons x l ih => cases m with
    | nil => simp [cmpL] at h
    | cons y m =>
      by_cases hc : cmpP x y = 0
      · simp [cmpL, hc] at h
        rw [(cmpP_spec x y).2.1.1 hc, ih h]
      · have : (cmpP x y != 0) = true := by simpa using hc
        simp only [cmpL, this, if_pos] at h
        exact absurd h hc
theorem cmpL_anti {l m : List (Int × Int)} (h : 0 < cmpL l m) : cmpL m l < 0 := by
  induction l generalizing m with
  | nil => cases m <;> simp [cmpL] at h
  | cons x l ih => cases m with
    | nil => simp [cmpL]
    | cons y m =>
      by_cases hc : cmpP x y = 0
      · have hc' : cmpP y x = 0 := (cmpP_spec y x).2.1.2 ((cmpP_spec x y).2.1.1 hc).symm
        simp [cmpL, hc] at h
        simp [cmpL, hc']
        exact ih h
      · have g : (cmpP x y != 0) = true := by simpa using hc
        simp only [cmpL, g, if_pos] at h
        have h2 := (cmpP_spec x y).2.2.1 h
        have h3 := (cmpP_spec y x).1.2 h2
        have g' : (cmpP y x != 0) = true := by simp; omega
        simp only [cmpL, g', if_pos]
        exact h3
theorem cmpL_trans {l m n : List (Int × Int)} (h : cmpL l m < 0) (h' : cmpL m n < 0) : cmpL l n < 0 := by
  induction l generalizing m n with
  | nil => cases m with
    | nil => simp [cmpL] at h
    | cons y m => cases n with
      | nil => simp [cmpL] at h'
      | cons z n => simp [cmpL]
  | cons x l ih => cases m with
    | nil => simp [cmpL] at h
    | cons y m => cases n with
      | nil => simp [cmpL] at h'
      | cons z n =>
        by_cases a : cmpP x y = 0
        · have hxy := (cmpP_spec x y).2.1.1 a
          subst hxy
          simp [cmpL, a] at h
          by_cases b : cmpP x z = 0
          · simp [cmpL, b] at h' ⊢
            exact ih h h'
          · have g : (cmpP x z != 0) = true := by simpa using b
            simp only [cmpL, g, if_pos] at h' ⊢
            exact h'
        · have g : (cmpP x y != 0) = true := by simpa using a
          simp only [cmpL, g, if_pos] at h
          have hxy := (cmpP_spec x y).1.1 h
          have hxz : ltP x z = true := by
            by_cases b : cmpP y z = 0
            · rw [← (cmpP_spec y z).2.1.1 b]; exact hxy
            · have g2 : (cmpP y z != 0) = true := by simpa using b
              simp only [cmpL, g2, if_pos] at h'
              exact ltP_trans hxy ((cmpP_spec y z).1.1 h')
          have h3 := (cmpP_spec x z).1.2 hxz
          have g3 : (cmpP x z != 0) = true := by simp; omega
          simp only [cmpL, g3, if_pos]
          exact h3

theorem firstB_eq (l m : List (Int × Int)) : firstB l m = decide (cmpL l m < 0) := by
  induction l generalizing m with
  | nil => cases m <;> simp [firstB, cmpL]
  | cons x l ih => cases m with
    | nil => simp [firstB, cmpL]
    | cons y m =>
      by_cases hc : x = y
      · have h0 := (cmpP_spec x y).2.1.2 hc
        simp only [firstB, if_pos hc, ih]
        simp [cmpL, h0]
      · have h0 : ¬ cmpP x y = 0 := fun h => hc ((cmpP_spec x y).2.1.1 h)
        have g : (cmpP x y != 0) = true := by simpa using h0
        simp only [firstB, if_neg hc, cmpL, g, if_pos]
        have h1 := (cmpP_spec x y).1
        cases hl : ltP x y
        · have : ¬ cmpP x y < 0 := fun h => by rw [h1.1 h] at hl; cases hl
          simp [this]
        · have := h1.2 hl
          simp [this]

/-! ### The best of candidates -/

/-- a is better than b. -/
def btr (a b : St) : Bool := decide (a.2 > b.2) || (a.2 == b.2 && decide (cmpL a.1 b.1 < 0))
theorem btr_iff {a b : St} : btr a b = true ↔ b.2 < a.2 ∨ (a.2 = b.2 ∧ cmpL a.1 b.1 < 0) := by unfold btr; simp
theorem btr_trans {a b c : St} (h : btr a b = true) (h' : btr b c = true) : btr a c = true := by
  rw [btr_iff] at *
  rcases h with h | ⟨h, g⟩ <;> rcases h' with h' | ⟨h', g'⟩
  · exact Or.inl (by omega)
  · exact Or.inl (by omega)
  · exact Or.inl (by omega)
  · exact Or.inr ⟨by omega, cmpL_trans g g'⟩
theorem btr_irrefl (a : St) : btr a a = false := by unfold btr; simp [cmpL_refl]
theorem btr_tri {a b : St} (h : btr a b = false) : b = a ∨ btr b a = true := by
  rw [btr_iff]
  have h1 : ¬ (b.2 < a.2 ∨ (a.2 = b.2 ∧ cmpL a.1 b.1 < 0)) := fun h2 => by rw [btr_iff.2 h2] at h; cases h
  by_cases h2 : a.2 < b.2
  · exact Or.inr (Or.inl h2)
  · have e : a.2 = b.2 := by omega
    have h3 : ¬ cmpL a.1 b.1 < 0 := fun h3 => h1 (Or.inr ⟨e, h3⟩)
    by_cases h4 : cmpL a.1 b.1 = 0
    · exact Or.inl (Prod.ext (cmpL_zero h4).symm e.symm)
    · exact Or.inr (Or.inr ⟨e.symm, cmpL_anti (by omega)⟩)
def pick (st c : St) : St := if btr c st then c else st
theorem pick_foldl (l : List St) (st : St) : (l.foldl pick st ∈ st :: l) ∧ ∀ c ∈ st :: l, btr c (l.foldl pick st) = false := by
  induction l generalizing st with
  | nil => simp [btr_irrefl]
  | cons x l ih =>
    obtain ⟨h1, h2⟩ := ih (pick st x)
    rw [List.foldl_cons]
    have hp : pick st x = x ∨ pick st x = st := by unfold pick; split <;> simp
    have hps : btr st (pick st x) = false ∧ btr x (pick st x) = false := by
      unfold pick
      split
      · rename_i h
        refine ⟨?_, btr_irrefl _⟩
        cases hs : btr st x
        · rfl
        · have := btr_trans h hs; rw [btr_irrefl] at this; cases this
      · rename_i h
        exact ⟨btr_irrefl _, by simpa using h⟩
    have hb := h2 _ (List.mem_cons_self)
    have hno : ∀ c, btr c (pick st x) = false → btr c (l.foldl pick (pick st x)) = false := by
      intro c hc
      cases hcc : btr c (l.foldl pick (pick st x))
      · rfl
      · rcases btr_tri hb with e | e
        · rw [e] at hcc; rw [hcc] at hc; cases hc
        · have := btr_trans hcc e; rw [this] at hc; cases hc
    constructor
    · rcases List.mem_cons.1 h1 with h | h
      · rw [h]; rcases hp with e | e <;> rw [e] <;> simp
      · exact List.mem_cons_of_mem _ (List.mem_cons_of_mem _ h)
    · intro c hc
      rcases List.mem_cons.1 hc with rfl | hc
      · exact hno _ hps.1
      · rcases List.mem_cons.1 hc with rfl | hc
        · exact hno _ hps.2
        · exact h2 c (List.mem_cons_of_mem _ hc)
/-- The best of the same candidates is the same. -/
theorem pick_unique {l m : List St} {s t : St} (h : ∀ c, c ∈ s :: l ↔ c ∈ t :: m) : l.foldl pick s = m.foldl pick t := by
  obtain ⟨h1, h2⟩ := pick_foldl l s
  obtain ⟨h3, h4⟩ := pick_foldl m t
  have h5 := h4 _ ((h _).1 h1)
  have h6 := h2 _ ((h _).2 h3)
  rcases btr_tri h5 with e | e
  · exact e.symm
  · rw [e] at h6; cases h6

/-! ### The program's candidates -/

def candL (wt : Int × Int → Int) : List (Int × Int) → List (Int × Int) → Int → List St
  | [], _, _ => []
  | p :: rest, taken, sum => (if taken.any (clash p) then [] else (taken ++ [p], sum + wt p) :: candL wt rest (taken ++ [p]) (sum + wt p)) ++ candL wt rest taken sum
theorem loopL_cand (wt : Int × Int → Int) (rest taken : List (Int × Int)) (sum : Int) (st : St) : loopL wt rest taken sum st = (candL wt rest taken sum).foldl pick st := by
  induction rest generalizing taken sum st with
  | nil => rfl
  | cons p rest ih =>
    unfold loopL candL
    rw [List.foldl_append, ih]
    congr 1
    split
    · rfl
    · rw [List.foldl_cons, ih]; rfl
theorem tryL_cand (wt : Int × Int → Int) (rest taken : List (Int × Int)) (sum : Int) (st : St) : tryL wt rest taken sum st = ((taken, sum) :: candL wt rest taken sum).foldl pick st := by
  rw [List.foldl_cons, ← loopL_cand]; rfl

/-! ### The reference's search -/

def candR (l : List (Int × Int)) : List (Int × Int) → List (Int × Int) → List St
  | [], cur => [(cur, weightL l cur)]
  | p :: rest, cur => (if cur.any (clash p) then [] else candR l rest (cur ++ [p])) ++ candR l rest cur
def pickO (b : Option St) (c : St) : Option St := match b with
  | none => some c
  | some s => some (pick s c)
def toO (b : Try3) : Option St := if b.2.2 then some (b.1, b.2.1) else none
theorem pick3_cmp (b : Try3) (cur : List (Int × Int)) (n : Int) : pick3 b cur n = if !b.2.2 || decide (n > b.2.1) || (n == b.2.1 && decide (cmpL cur b.1 < 0)) then (cur, n, true) else b := by
  unfold pick3; rw [firstB_eq]
theorem toO_pick3 (b : Try3) (cur : List (Int × Int)) (n : Int) : toO (pick3 b cur n) = pickO (toO b) (cur, n) := by
  rw [pick3_cmp]
  obtain ⟨l, m, f⟩ := b
  cases f
  · simp [toO, pickO]
  · cases h : btr (cur, n) (l, m)
    · have h' : (decide (n > m) || (n == m && decide (cmpL cur l < 0))) = false := h
      have e : (if !(l, m, true).2.2 || decide (n > (l, m, true).2.1) || (n == (l, m, true).2.1 && decide (cmpL cur (l, m, true).1 < 0)) then (cur, n, true) else (l, m, true)) = (l, m, true) := by
        rw [show (!(l, m, true).2.2 || decide (n > (l, m, true).2.1) || (n == (l, m, true).2.1 && decide (cmpL cur (l, m, true).1 < 0))) = (decide (n > m) || (n == m && decide (cmpL cur l < 0))) from by simp, h']; rfl
      rw [e]
      simp [toO, pickO, pick, h]
    · have h' : (decide (n > m) || (n == m && decide (cmpL cur l < 0))) = true := h
      have e : (if !(l, m, true).2.2 || decide (n > (l, m, true).2.1) || (n == (l, m, true).2.1 && decide (cmpL cur (l, m, true).1 < 0)) then (cur, n, true) else (l, m, true)) = (cur, n, true) := by
        rw [show (!(l, m, true).2.2 || decide (n > (l, m, true).2.1) || (n == (l, m, true).2.1 && decide (cmpL cur (l, m, true).1 < 0))) = (decide (n > m) || (n == m && decide (cmpL cur l < 0))) from by simp, h']; rfl
      rw [e]
      simp [toO, pickO, pick, h]
theorem toO_search (l : List (Int × Int)) (rest cur : List (Int × Int)) (b : Try3) : toO (searchL l rest cur b) = (candR l rest cur).foldl pickO (toO b) := by
  induction rest generalizing cur b with
  | nil => exact toO_pick3 _ _ _
  | cons p rest ih =>
    unfold searchL candR
    rw [List.foldl_append, ih]
    congr 1
    split
    · rfl
    · exact ih _ _
theorem foldl_pickO (c : St) (l : List St) : l.foldl pickO (some c) = some (l.foldl pick c) := by
  induction l generalizing c with
  | nil => rfl
  | cons x l ih => exact ih _
theorem candR_ne (l : List (Int × Int)) (rest cur : List (Int × Int)) : candR l rest cur ≠ [] := by
  induction rest generalizing cur with
  | nil => simp [candR]
  | cons p rest ih => simp [candR, ih]

theorem weightL_append (l cur : List (Int × Int)) (p : Int × Int) : weightL l (cur ++ [p]) = weightL l cur + l.count p := by
  unfold weightL
  suffices h : ∀ (l : List (Int × Int)) (n m : Int), l.foldl (fun (n : Int) x => n + (((cur ++ [p]).countP (fun y => decide (x = y)) : Nat) : Int)) (n + m) = l.foldl (fun (n : Int) x => n + ((cur.countP (fun y => decide (x = y)) : Nat) : Int)) n + (m + l.count p) by
    have := h l 0 0
    simpa using this
  intro l
  induction l with
  | nil => intro n m; simp
  | cons x l ih =>
    intro n m
    rw [List.foldl_cons, List.foldl_cons, List.countP_append, List.count_cons]
    by_cases e : x = p
    · have h1 := ih (n + ((cur.countP (fun y => decide (x = y)) : Nat) : Int)) (m + 1)
      have e1 : List.countP (fun y => decide (x = y)) [p] = 1 := by simp [e]
      rw [e1]
      rw [show n + m + ((cur.countP (fun y => decide (x = y)) + 1 : Nat) : Int) = n + ((cur.countP (fun y => decide (x = y)) : Nat) : Int) + (m + 1) by omega, h1]
      simp [e]; omega
    · have h1 := ih (n + ((cur.countP (fun y => decide (x = y)) : Nat) : Int)) m
      have e1 : List.countP (fun y => decide (x = y)) [p] = 0 := by simp [e]
      rw [e1]
      rw [show n + m + ((cur.countP (fun y => decide (x = y)) + 0 : Nat) : Int) = n + ((cur.countP (fun y => decide (x = y)) : Nat) : Int) + m by omega, h1]
      simp [e]

theorem cand_mem (wt : Int × Int → Int) (l : List (Int × Int)) (hw : ∀ p, wt p = l.count p) (rest taken : List (Int × Int)) (sum : Int) (hs : sum = weightL l taken) (c : St) : c ∈ (taken, sum) :: candL wt rest taken sum ↔ c ∈ candR l rest taken := by
  induction rest generalizing taken sum with
  | nil => simp [candL, candR, hs]
  | cons p rest ih =>
    unfold candL candR
    rw [List.mem_append, ← ih taken sum hs, List.mem_cons, List.mem_append, List.mem_cons]
    by_cases hc : taken.any (clash p) = true
    · rw [if_pos hc, if_pos hc]
      simp
    · rw [if_neg hc, if_neg hc]
      rw [← ih (taken ++ [p]) (sum + wt p) (by rw [weightL_append, hs, hw])]
      constructor
      · rintro (h | h | h)
        · exact Or.inr (Or.inl h)
        · exact Or.inl h
        · exact Or.inr (Or.inr h)
      · rintro (h | h | h)
        · exact Or.inr (Or.inl h)
        · exact Or.inl h
        · exact Or.inr (Or.inr h)

/-- Both searches find the same. -/
theorem search_eq (wt : Int × Int → Int) (l rest : List (Int × Int)) (hw : ∀ p, wt p = l.count p) : searchL l rest [] ([], 0, false) = ((tryL wt rest [] 0 ([], 0)).1, (tryL wt rest [] 0 ([], 0)).2, true) := by
  have h0 : weightL l [] = 0 := by
    unfold weightL
    have : ∀ (l : List (Int × Int)) (n : Int), l.foldl (fun (n : Int) x => n + ((([] : List (Int × Int)).countP (fun y => decide (x = y)) : Nat) : Int)) n = n := by
      intro l
      induction l with
      | nil => intro n; rfl
      | cons x l ih => intro n; rw [List.foldl_cons]; simpa using ih n
    exact this l 0
  have h1 := toO_search l rest [] ([], 0, false)
  rw [show toO ([], 0, false) = none from rfl] at h1
  have hm := cand_mem wt l hw rest [] 0 h0.symm
  cases hc : candR l rest [] with
  | nil => exact absurd hc (candR_ne _ _ _)
  | cons c cs =>
    rw [hc, List.foldl_cons, show pickO none c = some c from rfl, foldl_pickO] at h1
    have h2 : cs.foldl pick c = tryL wt rest [] 0 ([], 0) := by
      rw [tryL_cand]
      refine pick_unique fun d => ?_
      have := hm d
      rw [hc] at this
      rw [← this]
      simp
    rw [h2] at h1
    generalize searchL l rest [] ([], 0, false) = r at h1 ⊢
    obtain ⟨r1, r2, r3⟩ := r
    unfold toO at h1
    cases r3
    · simp at h1
    · simp at h1
      simp [← h1]

/-! ### How many kinds -/

theorem compact_sorted {zs : List Int} (hs : zs.Pairwise (· ≤ ·)) : ∀ m, m ≤ zs.length → (Lib.compactUpTo zs.toArray m).Pairwise (· < ·) ∧ ∀ x, x ∈ Lib.compactUpTo zs.toArray m ↔ x ∈ zs.take m := by
  intro m
  induction m with
  | zero => intro _; simp [Lib.compactUpTo]
  | succ m ih =>
    intro hm
    obtain ⟨h1, h2⟩ := ih (by omega)
    have hlt : m < zs.length := by omega
    have hle : ∀ x ∈ zs.take m, x ≤ zs[m] := by
      intro x hx
      obtain ⟨i, hi, rfl⟩ := List.getElem_of_mem hx
      rw [List.length_take] at hi
      rw [List.getElem_take]
      exact List.pairwise_iff_getElem.1 hs i m (by omega) hlt (by omega)
    have hg : zs.toArray[m]! = zs[m] := by simp [hlt]
    rw [Lib.compactUpTo_succ, List.take_succ_eq_append_getElem hlt, hg]
    cases hk : Lib.keeps zs.toArray m
    · have hmz : m ≠ 0 := by rintro rfl; simp [Lib.keeps] at hk
      have he : zs[m] = zs[m - 1] := by
        unfold Lib.keeps at hk
        have h3 := of_decide_eq_false hk
        have h4 : zs.toArray[m]! = zs.toArray[m - 1]! := Classical.byContradiction fun h => h3 (Or.inr h)
        have hg1 : zs.toArray[m - 1]! = zs[m - 1] := by simp [show m - 1 < zs.length by omega]
        rw [hg, hg1] at h4
        exact h4
      refine ⟨by simpa using h1, fun x => ?_⟩
      have hin : zs[m] ∈ zs.take m := by
        rw [he]
        exact List.mem_take_iff_getElem.2 ⟨m - 1, by omega, rfl⟩
      simp only [Bool.false_eq_true, if_false, List.append_nil, h2, List.mem_append, List.mem_singleton]
      exact ⟨Or.inl, fun h => h.elim id (fun e => e ▸ hin)⟩
    · have hlt' : ∀ x ∈ zs.take m, x < zs[m] := by
        intro x hx
        have h3 := hle x hx
        refine Classical.byContradiction fun hnl => ?_
        have e : x = zs[m] := by omega
        clear hnl h3
        obtain ⟨i, hi, rfl⟩ := List.getElem_of_mem hx
        rw [List.length_take] at hi
        rw [List.getElem_take] at e
        have hmz : m ≠ 0 := by omega
        have h4 := of_decide_eq_true hk
        have hg1 : zs.toArray[m - 1]! = zs[m - 1] := by simp [show m - 1 < zs.length by omega]
        rw [hg, hg1] at h4
        have h5 := h4.resolve_left hmz
        have h6 : zs[i] ≤ zs[m - 1] := by
          rcases Nat.lt_or_ge i (m - 1) with h7 | h7
          · exact List.pairwise_iff_getElem.1 hs i (m - 1) (by omega) (by omega) h7
          · have : i = m - 1 := by omega
            subst this; exact Int.le_refl _
        have h8 : zs[m - 1] ≤ zs[m] := List.pairwise_iff_getElem.1 hs (m - 1) m (by omega) hlt (by omega)
        omega
      refine ⟨?_, fun x => ?_⟩
      · simp only [if_pos]
        refine List.pairwise_append.2 ⟨h1, by simp, fun x hx y hy => ?_⟩
        simp at hy
        rw [hy]
        exact hlt' x ((h2 x).1 hx)
      · rw [if_pos rfl, List.mem_append, List.mem_append, h2]
theorem kinds_eq {l m : List Int} (hn : m.Nodup) (h : ∀ x, x ∈ m ↔ x ∈ l) : kinds l = m.length := by
  have hs := compact_sorted (sortI_sorted l) (sortI l).length (Nat.le_refl _)
  unfold kinds Lib.compact
  refine List.Perm.length_eq ((List.perm_ext_iff_of_nodup ?_ hn).2 fun x => ?_)
  · exact List.nodup_iff_pairwise_ne.2 (hs.1.imp fun h e => by omega)
  · rw [hs.2, List.take_length, (sortI_perm l).mem_iff, h]

end Go.Proofs.Ytnedoaapnfpkfaa
