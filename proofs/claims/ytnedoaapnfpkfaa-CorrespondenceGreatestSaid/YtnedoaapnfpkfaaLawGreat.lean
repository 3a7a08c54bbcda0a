/-
  Plain law: no choice of corresponding pairs without clashes weighs more than the best one. Conditions: the lists are valid.
-/
import Derived.Test.YtnedoaapnfpkfaaLawBest
import Derived.Test.YtnedoaapnfpkfaaMatchesP
namespace Go.Proofs.Ytnedoaapnfpkfaa
open Go.Sort

theorem clash_symm (x y : Int × Int) : clash x y = clash y x := by
  unfold clash
  rw [Bool.eq_iff_iff]
  simp only [Bool.or_eq_true, beq_iff_eq]
  constructor
  · rintro (h | h)
    · exact Or.inl h.symm
    · exact Or.inr h.symm
  · rintro (h | h)
    · exact Or.inl h.symm
    · exact Or.inr h.symm
theorem clash_self (x : Int × Int) : clash x x = true := by simp [clash]

/-- No two pairs clash. -/
def NoClash (l : List (Int × Int)) : Prop := l.Pairwise (fun y x => clash x y = false)
theorem NoClash.nodup {l : List (Int × Int)} (h : NoClash l) : l.Nodup :=
  List.nodup_iff_pairwise_ne.2 (h.imp fun {a b} h e => by subst e; rw [clash_self] at h; cases h)
theorem NoClash.mem {l : List (Int × Int)} (h : NoClash l) {x y : Int × Int} (hx : x ∈ l) (hy : y ∈ l) (hne : x ≠ y) : clash x y = false := by
  obtain ⟨i, hi, rfl⟩ := List.getElem_of_mem hx
  obtain ⟨j, hj, rfl⟩ := List.getElem_of_mem hy
  rcases Nat.lt_trichotomy i j with h1 | h1 | h1
  · rw [clash_symm]; exact List.pairwise_iff_getElem.1 h i j hi hj h1
  · subst h1; exact absurd rfl hne
  · exact List.pairwise_iff_getElem.1 h j i hj hi h1

theorem cand_sub (l : List (Int × Int)) : ∀ (rest cur s : List (Int × Int)), s.Sublist rest → NoClash (cur ++ s) → (cur ++ s, weightL l (cur ++ s)) ∈ candR l rest cur := by
  intro rest
  induction rest with
  | nil =>
    intro cur s hs _
    have : s = [] := List.sublist_nil.1 hs
    subst this
    simp [candR]
  | cons p rest ih =>
    intro cur s hs hn
    unfold candR
    rw [List.mem_append]
    cases hs with
    | cons _ h => exact Or.inr (ih cur s h hn)
    | cons_cons _ h =>
      rename_i s'
      have hc : cur.any (clash p) = false := by
        rw [List.any_eq_false]
        intro y hy
        have := (List.pairwise_append.1 hn).2.2 y hy p (by simp)
        rw [this]; simp
      rw [if_neg (by rw [hc]; simp)]
      have := ih (cur ++ [p]) s' h (by simpa using hn)
      rw [List.append_assoc] at this
      exact Or.inl this

theorem sum_zero : ∀ {l : List Nat}, (∀ n ∈ l, n = 0) → l.sum = 0
  | [], _ => rfl
  | n :: l, h => by rw [List.sum_cons, h n (by simp), sum_zero (fun m hm => h m (by simp [hm]))]
theorem weightL_sum (l cur : List (Int × Int)) : weightL l cur = ((l.map fun x => cur.countP (fun y => decide (x = y))).sum : Nat) := by
  unfold weightL
  suffices h : ∀ (l : List (Int × Int)) (n : Int), l.foldl (fun (n : Int) x => n + ((cur.countP (fun y => decide (x = y)) : Nat) : Int)) n = n + ((l.map fun x => cur.countP (fun y => decide (x = y))).sum : Nat) by simpa using h l 0
  intro l
  induction l with
  | nil => intro n; simp
  | cons x l ih => intro n; rw [List.foldl_cons, ih, List.map_cons, List.sum_cons]; omega
theorem weightL_perm {l cur cur' : List (Int × Int)} (h : cur.Perm cur') : weightL l cur = weightL l cur' := by
  rw [weightL_sum, weightL_sum]
  congr 2
  refine List.map_congr_left fun x _ => h.countP_eq _
theorem weightL_perm_left {l l' cur : List (Int × Int)} (h : l.Perm l') : weightL l cur = weightL l' cur := by
  rw [weightL_sum, weightL_sum]
  have := (h.map fun x => cur.countP (fun y => decide (x = y))).sum_nat
  rw [this]

/-- THE LAW. -/
theorem greatest (L mine : List (Int × Int)) (hm : ∀ x ∈ mine, x ∈ sortP ((countP L).map (·.1))) (hn : NoClash mine) : weightL L mine ≤ (bestSt L).2 := by
  have hnd : (sortP ((countP L).map (·.1))).Nodup := (sortP_perm _).nodup_iff.2 (nodup_countP L)
  generalize hms : sortP ((countP L).map (·.1)) = ms at *
  have hs : (ms.filter fun x => decide (x ∈ mine)).Sublist ms := List.filter_sublist
  have hp : (ms.filter fun x => decide (x ∈ mine)).Perm mine := by
    refine (List.perm_ext_iff_of_nodup (hnd.sublist hs) hn.nodup).2 fun x => ?_
    rw [List.mem_filter]
    constructor
    · rintro ⟨_, h⟩; simpa using h
    · intro h; exact ⟨hm x h, by simpa using h⟩
  have hns : NoClash (ms.filter fun x => decide (x ∈ mine)) := by
    have h1 := List.nodup_iff_pairwise_ne.1 (hnd.sublist hs)
    refine List.Pairwise.imp_of_mem (R := fun a b => a ≠ b) (fun {a b} ha hb hne => ?_) h1
    exact hn.mem (hp.mem_iff.1 hb) (hp.mem_iff.1 ha) (Ne.symm hne)
  have hc := cand_sub L ms [] _ hs (by simpa using hns)
  rw [List.nil_append] at hc
  have h0 : (0 : Int) = weightL L [] := by
    rw [weightL_sum]
    have : ((L.map fun x => ([] : List (Int × Int)).countP (fun y => decide (x = y))).sum) = 0 := by
      refine sum_zero fun n hn => ?_
      obtain ⟨x, _, rfl⟩ := List.mem_map.1 hn; simp
    rw [this]; rfl
  have hmem := (cand_mem (wtOf (countP L)) L (fun p => by unfold wtOf; rw [alook_countP]) ms [] 0 h0 _).2 hc
  have hb : bestSt L = (([], 0) :: candL (wtOf (countP L)) ms [] 0).foldl pick ([], 0) := by
    unfold bestSt; rw [hms, tryL_cand]
  have h2 := (pick_foldl (([], 0) :: candL (wtOf (countP L)) ms [] 0) ([], 0)).2 _ (List.mem_cons_of_mem _ hmem)
  rw [← hb] at h2
  rw [← weightL_perm hp]
  refine Int.not_lt.1 fun hlt => ?_
  rw [btr_iff.2 (Or.inl hlt)] at h2
  cases h2

/-! ### The weight as the statement counts it -/

def cnt3 (s t : Sp) (mine : List (Int × Int)) : Nat := mine.countP fun x => decide (s.id = t.id) && decide (s.obv = x.1) && decide (t.obv = x.2)
def cnt2 (s : Sp) (b : List Sp) (mine : List (Int × Int)) : Nat := (b.map fun t => cnt3 s t mine).sum
def cnt1 (a b : List Sp) (mine : List (Int × Int)) : Nat := (a.map fun s => cnt2 s b mine).sum

theorem cnt3_ne {s t : Sp} (h : s.id ≠ t.id) (mine : List (Int × Int)) : cnt3 s t mine = 0 := by
  unfold cnt3; rw [List.countP_eq_zero]; intro x _; simp [h]
theorem cnt3_eq {s t : Sp} (h : s.id = t.id) (mine : List (Int × Int)) : cnt3 s t mine = mine.countP (fun y => decide ((s.obv, t.obv) = y)) := by
  unfold cnt3
  refine List.countP_congr fun x _ => ?_
  simp [h, Prod.ext_iff]
theorem cnt2_none {s : Sp} {b : List Sp} (h : findS b s.id = none) (mine : List (Int × Int)) : cnt2 s b mine = 0 := by
  unfold cnt2
  refine sum_zero fun n hn => ?_
  obtain ⟨t, ht, rfl⟩ := List.mem_map.1 hn
  refine cnt3_ne (fun e => findS_none.1 h ?_) mine
  rw [e]; exact List.mem_map_of_mem ht
theorem cnt2_some {s t : Sp} {b : List Sp} (hn : (b.map Sp.id).Nodup) (h : findS b s.id = some t) (mine : List (Int × Int)) : cnt2 s b mine = mine.countP (fun y => decide ((s.obv, t.obv) = y)) := by
  induction b with
  | nil => simp [findS] at h
  | cons u b ih =>
    rw [List.map_cons, List.nodup_cons] at hn
    have h' := h
    unfold findS at h'
    rw [List.find?_cons] at h'
    unfold cnt2
    rw [List.map_cons, List.sum_cons]
    split at h'
    · rename_i hu
      cases h'
      have hu' : t.id = s.id := by simpa using hu
      have h0 : (b.map fun t => cnt3 s t mine).sum = 0 := cnt2_none (findS_none.2 (hu' ▸ hn.1)) mine
      rw [h0, cnt3_eq hu'.symm]; rfl
    · rename_i hu
      have hu' : s.id ≠ u.id := fun e => by rw [e] at hu; simp at hu
      rw [cnt3_ne hu', Nat.zero_add]
      exact ih hn.2 h'

theorem cnt1_weight {a b : List Sp} (ha : (a.map Sp.id).Nodup) (hb : (b.map Sp.id).Nodup) (mine : List (Int × Int)) : (cnt1 a b mine : Int) = weightL (commonPairs a b 0) mine := by
  have hp := (couples_of (side := 0) (a := a) hb).2.map (·.2)
  rw [couples_pairs ha hb, List.map_map] at hp
  rw [weightL_perm_left hp, weightL_sum, List.map_map]
  congr 1
  clear hp ha
  unfold cnt1
  induction a with
  | nil => rfl
  | cons s a ih =>
    rw [List.map_cons, List.sum_cons, ih]
    cases hf : findS b s.id with
    | none => rw [cnt2_none hf, List.filter_cons_of_neg (by simp [hf])]; simp
    | some t =>
      have et : theS b s.id = t := by unfold theS; rw [hf]; rfl
      rw [cnt2_some hb hf, List.filter_cons_of_pos (by simp [hf]), List.map_cons, List.sum_cons]
      simp [et, numS]

end Go.Proofs.Ytnedoaapnfpkfaa
