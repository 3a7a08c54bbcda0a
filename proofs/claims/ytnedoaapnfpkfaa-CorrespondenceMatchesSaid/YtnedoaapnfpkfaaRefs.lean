/-
  Plain functions: what the references of layer 18 compute, and that it is what the program computes. Conditions: those of the lists (valid).
-/
import Derived.Test.YtnedoaapnfpkfaaBest
namespace Go.Proofs.Ytnedoaapnfpkfaa
open Go.Sort

/-! ### Couples -/


theorem tw_dw {α : Type} (p : α → Bool) (l : List α) : l.takeWhile p ++ l.dropWhile p = l := List.takeWhile_append_dropWhile
theorem insC_perm (c : Cp) (l : List Cp) : (insC c l).Perm (c :: l) := by
  unfold insC
  refine List.perm_middle.trans ?_
  rw [tw_dw]
theorem insC_length (c : Cp) (l : List Cp) : (insC c l).length = l.length + 1 := by rw [(insC_perm c l).length_eq]; rfl
theorem coupS_length (s t : Sp) (side : Int) (out : List Cp) : (coupS s t side out).length ≤ out.length + 1 := by
  unfold coupS; split
  · rw [insC_length]; exact Nat.le_refl _
  · omega
theorem coup1_length (s : Sp) (side : Int) (b : List Sp) (out : List Cp) : (coup1 s side b out).length ≤ out.length + b.length := by
  induction b generalizing out with
  | nil => simp [coup1]
  | cons t b ih =>
    have h1 := ih (coupS s t side out)
    have h2 := coupS_length s t side out
    show (coup1 s side b (coupS s t side out)).length ≤ _
    rw [List.length_cons]; omega

theorem all_takeWhile {α : Type} {p : α → Bool} {l : List α} {x : α} (h : x ∈ l.takeWhile p) : p x = true := by
  induction l with
  | nil => simp at h
  | cons y l ih =>
    rw [List.takeWhile_cons] at h
    split at h
    · rcases List.mem_cons.1 h with rfl | h
      · assumption
      · exact ih h
    · simp at h
theorem dropWhile_ge {l : List Cp} {n : Int} (hs : l.Pairwise (fun x y => x.1 ≤ y.1)) {x : Cp} (h : x ∈ l.dropWhile (fun x => decide (x.1 < n))) : n ≤ x.1 := by
  induction l with
  | nil => simp at h
  | cons y l ih =>
    rw [List.pairwise_cons] at hs
    rw [List.dropWhile_cons] at h
    split at h
    · exact ih hs.2 h
    · rename_i hy
      simp at hy
      rcases List.mem_cons.1 h with rfl | h
      · exact hy
      · have := hs.1 x h; omega
theorem insC_sorted {c : Cp} {l : List Cp} (hs : l.Pairwise (fun x y => x.1 ≤ y.1)) : (insC c l).Pairwise (fun x y => x.1 ≤ y.1) := by
  have h0 := hs
  rw [← tw_dw (fun x : Cp => decide (x.1 < c.1)) l] at h0
  obtain ⟨h1, h2, h3⟩ := List.pairwise_append.1 h0
  unfold insC
  refine List.pairwise_append.2 ⟨h1, List.pairwise_cons.2 ⟨fun x hx => dropWhile_ge hs hx, h2⟩, fun x hx y hy => ?_⟩
  rcases List.mem_cons.1 hy with rfl | hy
  · have := all_takeWhile hx; simp at this; omega
  · exact h3 x hx y hy

theorem coup1_none {s : Sp} {side : Int} {b : List Sp} {out : List Cp} (h : findS b s.id = none) : coup1 s side b out = out := by
  induction b generalizing out with
  | nil => rfl
  | cons t b ih =>
    unfold findS at h ih
    rw [List.find?_cons] at h
    split at h
    · cases h
    · rename_i ht
      show coup1 s side b (coupS s t side out) = out
      have e : coupS s t side out = out := by
        unfold coupS; rw [if_neg]; intro e; rw [e] at ht; simp at ht
      rw [e]; exact ih h
theorem findS_id {b : List Sp} {n : Int} {t : Sp} (h : findS b n = some t) : t ∈ b ∧ t.id = n := by
  unfold findS at h
  exact ⟨List.mem_of_find?_eq_some h, by have := List.find?_some h; simpa using this⟩
theorem findS_none {b : List Sp} {n : Int} : findS b n = none ↔ n ∉ b.map Sp.id := by
  unfold findS
  rw [List.find?_eq_none]
  simp only [List.mem_map, not_exists, not_and, beq_iff_eq]
theorem coup1_some {s : Sp} {side : Int} {b : List Sp} {out : List Cp} {t : Sp} (hn : (b.map Sp.id).Nodup) (h : findS b s.id = some t) : coup1 s side b out = insC (s.id, numS s side, numS t side) out := by
  induction b generalizing out with
  | nil => simp [findS] at h
  | cons u b ih =>
    rw [List.map_cons, List.nodup_cons] at hn
    have h' := h
    unfold findS at h'
    rw [List.find?_cons] at h'
    show coup1 s side b (coupS s u side out) = _
    split at h'
    · rename_i hu
      cases h'
      have hu' : t.id = s.id := by simpa using hu
      have e : coupS s t side out = insC (s.id, numS s side, numS t side) out := by unfold coupS; rw [if_pos hu'.symm]
      rw [e]
      exact coup1_none (findS_none.2 (hu' ▸ hn.1))
    · rename_i hu
      have e : coupS s u side out = out := by
        unfold coupS; rw [if_neg]; intro e; rw [e] at hu; simp at hu
      rw [e]
      exact ih hn.2 h'

theorem couples_of {a b : List Sp} {side : Int} (hb : (b.map Sp.id).Nodup) : (couplesL a b side).Pairwise (fun x y => x.1 ≤ y.1) ∧ (couplesL a b side).Perm ((a.filter fun s => (findS b s.id).isSome).map fun s => (s.id, numS s side, numS (theS b s.id) side)) := by
  suffices h : ∀ (a : List Sp) (out : List Cp), out.Pairwise (fun x y => x.1 ≤ y.1) → (a.foldl (fun out s => coup1 s side b out) out).Pairwise (fun x y => x.1 ≤ y.1) ∧ (a.foldl (fun out s => coup1 s side b out) out).Perm (out ++ (a.filter fun s => (findS b s.id).isSome).map fun s => (s.id, numS s side, numS (theS b s.id) side)) by
    have := h a [] List.Pairwise.nil
    simpa [couplesL] using this
  intro a
  induction a with
  | nil => intro out h; simpa using h
  | cons s a ih =>
    intro out hs
    rw [List.foldl_cons]
    cases hf : findS b s.id with
    | none =>
      rw [coup1_none hf, List.filter_cons_of_neg (by simp [hf])]
      exact ih out hs
    | some t =>
      rw [coup1_some hb hf, List.filter_cons_of_pos (by simp [hf])]
      obtain ⟨h1, h2⟩ := ih _ (insC_sorted (c := (s.id, numS s side, numS t side)) hs)
      refine ⟨h1, h2.trans ?_⟩
      have et : theS b s.id = t := by unfold theS; rw [hf]; rfl
      rw [List.map_cons, et]
      exact ((insC_perm _ _).append_right _).trans (List.perm_middle.symm)

theorem theS_mem {a : List Sp} (hn : (a.map Sp.id).Nodup) {s : Sp} (h : s ∈ a) : theS a s.id = s := by
  unfold theS
  cases hf : findS a s.id with
  | none => exact absurd (List.mem_map_of_mem h) (findS_none.1 hf)
  | some t =>
    obtain ⟨h1, h2⟩ := findS_id hf
    show t = s
    obtain ⟨i, hi, rfl⟩ := List.getElem_of_mem h
    obtain ⟨j, hj, rfl⟩ := List.getElem_of_mem h1
    have := (List.nodup_iff_pairwise_ne.1 hn)
    rw [List.pairwise_iff_getElem] at this
    rcases Nat.lt_trichotomy i j with hij | hij | hij
    · exact absurd (by rw [List.getElem_map, List.getElem_map]; exact h2.symm) (this i j (by simpa using hi) (by simpa using hj) hij)
    · subst hij; rfl
    · exact absurd (by rw [List.getElem_map, List.getElem_map]; exact h2) (this j i (by simpa using hj) (by simpa using hi) hij)

/-- The common Ids with their numbers, as the program has them. -/
theorem couples_eq {a b : List Sp} {side : Int} (ha : (a.map Sp.id).Nodup) (hb : (b.map Sp.id).Nodup) : couplesL a b side = (commonIds a b).map fun id => (id, numS (theS a id) side, numS (theS b id) side) := by
  obtain ⟨h1, h2⟩ := couples_of (side := side) (a := a) hb
  have h3 : ((a.filter fun s => (findS b s.id).isSome).map fun s => (s.id, numS s side, numS (theS b s.id) side)) = (commonRaw a b).map fun id => (id, numS (theS a id) side, numS (theS b id) side) := by
    unfold commonRaw
    rw [List.map_map]
    refine List.map_congr_left fun s hs => ?_
    have := theS_mem ha (List.mem_filter.1 hs).1
    simp [this]
  rw [h3] at h2
  have h4 : ((commonIds a b).map fun id => (id, numS (theS a id) side, numS (theS b id) side)).Perm ((commonRaw a b).map fun id => (id, numS (theS a id) side, numS (theS b id) side)) := (sortI_perm _).map _
  refine List.Perm.eq_of_pairwise (le := fun x y : Cp => x.1 ≤ y.1) (fun x y hx hy h5 h6 => ?_) h1 ?_ (h2.trans h4.symm)
  · obtain ⟨i, _, rfl⟩ := List.mem_map.1 ((h2.trans h4.symm).mem_iff.1 hx)
    obtain ⟨j, _, rfl⟩ := List.mem_map.1 hy
    simp only at h5 h6
    have : i = j := by omega
    rw [this]
  · exact List.pairwise_map.2 ((sortI_sorted _).imp fun h => h)
theorem couples_ids {a b : List Sp} {side : Int} (ha : (a.map Sp.id).Nodup) (hb : (b.map Sp.id).Nodup) : (couplesL a b side).map (·.1) = commonIds a b := by
  rw [couples_eq ha hb, List.map_map]; exact List.map_id' _
theorem couples_pairs {a b : List Sp} {side : Int} (ha : (a.map Sp.id).Nodup) (hb : (b.map Sp.id).Nodup) : (couplesL a b side).map (·.2) = commonPairs a b side := by
  rw [couples_eq ha hb, List.map_map]; rfl

/-! ### Matches -/

theorem ltP_iff {x y : Int × Int} : ltP x y = true ↔ x.1 < y.1 ∨ (x.1 = y.1 ∧ x.2 < y.2) := by unfold ltP; simp
theorem ltP_trans {x y z : Int × Int} (h : ltP x y = true) (h' : ltP y z = true) : ltP x z = true := by rw [ltP_iff] at *; omega
theorem ltP_irrefl (x : Int × Int) : ltP x x = false := by simp [ltP]
theorem ltP_tri {x y : Int × Int} (h : ltP x y = false) (h' : x ≠ y) : ltP y x = true := by
  rw [ltP_iff]
  by_cases hx : y.1 < x.1 ∨ (y.1 = x.1 ∧ y.2 < x.2)
  · exact hx
  · exfalso
    have h1 : ¬ (x.1 < y.1 ∨ (x.1 = y.1 ∧ x.2 < y.2)) := fun h2 => by rw [ltP_iff.2 h2] at h; cases h
    exact h' (Prod.ext (by omega) (by omega))
theorem dropWhile_head {l : List (Int × Int)} {x : Int × Int} (hs : l.Pairwise (fun y z => ltP y z = true)) (h : (l.dropWhile (fun y => ltP y x)).head? ≠ some x) : ∀ y ∈ l.dropWhile (fun y => ltP y x), ltP x y = true := by
  induction l with
  | nil => simp
  | cons z l ih =>
    rw [List.pairwise_cons] at hs
    rw [List.dropWhile_cons] at h ⊢
    split
    · rename_i hz; rw [if_pos hz] at h; exact ih hs.2 h
    · rename_i hz
      rw [if_neg hz] at h
      have hz' : ltP z x = false := by simpa using hz
      have hzx : z ≠ x := fun e => by subst e; simp at h
      have hxz := ltP_tri hz' hzx
      intro y hy
      rcases List.mem_cons.1 hy with rfl | hy
      · exact hxz
      · exact ltP_trans hxz (hs.1 y hy)
theorem insM_sorted {x : Int × Int} {l : List (Int × Int)} (hs : l.Pairwise (fun y z => ltP y z = true)) : (insM x l).Pairwise (fun y z => ltP y z = true) := by
  unfold insM
  split
  · exact hs
  · rename_i hh
    have h0 := hs
    rw [← tw_dw (fun y => ltP y x) l] at h0
    obtain ⟨h1, h2, h3⟩ := List.pairwise_append.1 h0
    refine List.pairwise_append.2 ⟨h1, List.pairwise_cons.2 ⟨dropWhile_head hs hh, h2⟩, fun y hy z hz => ?_⟩
    rcases List.mem_cons.1 hz with rfl | hz
    · exact all_takeWhile (p := fun y => ltP y z) hy
    · exact h3 y hy z hz
theorem mem_insM {x y : Int × Int} {l : List (Int × Int)} : y ∈ insM x l ↔ y = x ∨ y ∈ l := by
  unfold insM
  split
  · rename_i hh
    have hx : x ∈ l := by
      have : x ∈ l.dropWhile (fun y => ltP y x) := List.mem_of_mem_head? (by rw [hh]; rfl)
      rw [← tw_dw (fun y => ltP y x) l]
      exact List.mem_append.2 (Or.inr this)
    exact ⟨Or.inr, fun h => h.elim (fun e => e ▸ hx) id⟩
  · have : y ∈ l ↔ y ∈ l.takeWhile (fun y => ltP y x) ∨ y ∈ l.dropWhile (fun y => ltP y x) := by
      rw [← List.mem_append, tw_dw]
    rw [this, List.mem_append, List.mem_cons]
    constructor
    · rintro (h | h | h)
      · exact Or.inr (Or.inl h)
      · exact Or.inl h
      · exact Or.inr (Or.inr h)
    · rintro (h | h | h)
      · exact Or.inr (Or.inl h)
      · exact Or.inl h
      · exact Or.inr (Or.inr h)
theorem matchesL_sorted (l : List (Int × Int)) : (matchesL l).Pairwise (fun y z => ltP y z = true) := by
  suffices h : ∀ (l out : List (Int × Int)), out.Pairwise (fun y z => ltP y z = true) → (l.foldl (fun out x => insM x out) out).Pairwise (fun y z => ltP y z = true) from h l [] List.Pairwise.nil
  intro l
  induction l with
  | nil => intro out h; exact h
  | cons x l ih => intro out h; exact ih _ (insM_sorted h)
theorem mem_matchesL {l : List (Int × Int)} {y : Int × Int} : y ∈ matchesL l ↔ y ∈ l := by
  suffices h : ∀ (l out : List (Int × Int)), y ∈ l.foldl (fun out x => insM x out) out ↔ y ∈ out ∨ y ∈ l by simpa [matchesL] using h l []
  intro l
  induction l with
  | nil => intro out; simp
  | cons x l ih =>
    intro out
    rw [List.foldl_cons, ih, mem_insM, List.mem_cons]
    constructor
    · rintro ((h | h) | h)
      · exact Or.inr (Or.inl h)
      · exact Or.inl h
      · exact Or.inr (Or.inr h)
    · rintro (h | h | h)
      · exact Or.inl (Or.inr h)
      · exact Or.inl (Or.inl h)
      · exact Or.inr h
theorem nodup_of_lt {l : List (Int × Int)} (h : l.Pairwise (fun y z => ltP y z = true)) : l.Nodup :=
  List.nodup_iff_pairwise_ne.2 (h.imp fun {a b} h e => by subst e; rw [ltP_irrefl] at h; cases h)
/-- The matches, as the program has them. -/
theorem matches_eq (l : List (Int × Int)) : matchesL l = sortP ((countP l).map (·.1)) := by
  have hs := sortP_sorted ((countP l).map (·.1))
  have hn : (sortP ((countP l).map (·.1))).Nodup := (sortP_perm _).nodup_iff.2 (nodup_countP l)
  have hp : (matchesL l).Perm (sortP ((countP l).map (·.1))) := by
    refine (List.perm_ext_iff_of_nodup (nodup_of_lt (matchesL_sorted l)) hn).2 fun y => ?_
    rw [mem_matchesL, (sortP_perm _).mem_iff, mem_countP]
  refine List.Perm.eq_of_pairwise (le := fun x y => (!ltP y x) = true) (fun a b _ _ h1 h2 => ?_) ((matchesL_sorted l).imp fun {a b} h => ?_) hs hp
  · simp [ltP] at h1 h2
    exact Prod.ext (by omega) (by omega)
  · rw [ltP_iff] at h; simp [ltP]; omega

end Go.Proofs.Ytnedoaapnfpkfaa
