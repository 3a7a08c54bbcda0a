/-
  Plain law: the reference's Common, Matches, Splits and Lumps are the program's. Conditions: the lists are valid.
-/
import Derived.Test.YtnedoaapnfpkfaaRefs
import Derived.Test.YtnedoaapnfpkfaaRefM
import Derived.Test.YtnedoaapnfpkfaaSplits
namespace Go.Proofs.Ytnedoaapnfpkfaa

theorem count_take {l : List Int} {k : Nat} (h : k < l.length) (x : Int) : (l.take (k + 1)).count x = (l.take k).count x + if l[k] = x then 1 else 0 := by
  rw [List.take_succ_eq_append_getElem h, List.count_append, List.count_singleton]
  by_cases e : l[k] = x <;> simp [e]

theorem splitsTo_spec {ms : List (Int × Int)} (hs : ms.Pairwise (fun x y => ltP x y = true)) : ∀ k, k ≤ ms.length → (splitsTo ms k).Pairwise (· < ·) ∧ ∀ x, x ∈ splitsTo ms k ↔ 2 ≤ ((ms.map (·.1)).take k).count x := by
  intro k
  induction k with
  | zero => intro _; simp [splitsTo]
  | succ k ih =>
    intro hk
    obtain ⟨h1, h2⟩ := ih (by omega)
    have hlt : k < ms.length := by omega
    have hlt' : k < (ms.map (·.1)).length := by simpa using hlt
    have hle : ∀ y ∈ (ms.map (·.1)).take k, y ≤ ms[k].1 := by
      intro y hy
      obtain ⟨i, hi, rfl⟩ := List.getElem_of_mem hy
      have hi' : i < k ∧ i < ms.length := by rw [List.length_take, List.length_map] at hi; omega
      rw [List.getElem_take, List.getElem_map]
      have := ltP_iff.1 (List.pairwise_iff_getElem.1 hs i k hi'.2 hlt hi'.1)
      omega
    have hin : ∀ y ∈ splitsTo ms k, y ∈ (ms.map (·.1)).take k := fun y hy => List.count_pos_iff.1 (by have := (h2 y).1 hy; omega)
    have hct : ∀ x, ((ms.map (·.1)).take (k + 1)).count x = ((ms.map (·.1)).take k).count x + if ms[k].1 = x then 1 else 0 := fun x => by
      rw [count_take hlt' x, List.getElem_map]
    by_cases hk0 : k = 0
    · subst hk0
      refine ⟨by simp [splitsTo], fun x => ?_⟩
      rw [hct x]
      simp [splitsTo]
      split <;> omega
    · have hk1 : k - 1 < ms.length := by omega
      rw [splitsTo_step (by omega) hlt]
      by_cases he : ms[k].1 = ms[k - 1].1
      · have hpos : 0 < ((ms.map (·.1)).take k).count ms[k].1 := by
          refine List.count_pos_iff.2 ?_
          rw [he]
          exact List.mem_take_iff_getElem.2 ⟨k - 1, by simp; omega, by simp⟩
        by_cases hm : ms[k].1 ∈ splitsTo ms k
        · rw [if_neg (fun h => h.2 hm)]
          refine ⟨h1, fun x => ?_⟩
          rw [hct x, h2]
          by_cases e : ms[k].1 = x
          · have := (h2 _).1 hm
            rw [e] at this
            rw [if_pos e]; omega
          · rw [if_neg e]; simp
        · rw [if_pos ⟨he, hm⟩]
          refine ⟨List.pairwise_append.2 ⟨h1, by simp, fun y hy z hz => ?_⟩, fun x => ?_⟩
          · simp at hz
            subst hz
            have h3 := hle y (hin y hy)
            have h4 : y ≠ ms[k].1 := fun e => hm (e ▸ hy)
            omega
          · rw [hct x, List.mem_append, h2, List.mem_singleton]
            by_cases e : ms[k].1 = x
            · rw [if_pos e]
              rw [e] at hpos
              constructor
              · intro _; omega
              · intro _; exact Or.inr e.symm
            · rw [if_neg e]
              constructor
              · rintro (h | h)
                · omega
                · exact absurd h.symm e
              · intro h; exact Or.inl (by omega)
      · rw [if_neg (fun h => he h.1)]
        refine ⟨h1, fun x => ?_⟩
        rw [hct x, h2]
        by_cases e : ms[k].1 = x
        · have h0 : ((ms.map (·.1)).take k).count x = 0 := by
            refine List.count_eq_zero.2 fun hx => ?_
            obtain ⟨i, hi, hix⟩ := List.getElem_of_mem hx
            have hi' : i < k ∧ i < ms.length := by rw [List.length_take, List.length_map] at hi; omega
            rw [List.getElem_take, List.getElem_map] at hix
            have h5 : ms[k - 1].1 ≤ ms[k].1 := by
              have := ltP_iff.1 (List.pairwise_iff_getElem.1 hs (k - 1) k hk1 hlt (by omega))
              omega
            have h6 : ms[i].1 ≤ ms[k - 1].1 := by
              rcases Nat.lt_or_ge i (k - 1) with h7 | h7
              · have := ltP_iff.1 (List.pairwise_iff_getElem.1 hs i (k - 1) hi'.2 hk1 h7)
                omega
              · have : i = k - 1 := by omega
                subst this; exact Int.le_refl _
            omega
          rw [if_pos e, h0]
          simp
        · rw [if_neg e]; simp

theorem splits_eq {ms : List (Int × Int)} (hs : ms.Pairwise (fun x y => ltP x y = true)) : splitsTo ms ms.length = splitsP (ms.map (·.1)) := by
  obtain ⟨h1, h2⟩ := splitsTo_spec hs ms.length (Nat.le_refl _)
  obtain ⟨h3, h4, h5⟩ := splitsP_spec (ms.map (·.1))
  have hn : (splitsTo ms ms.length).Nodup := List.nodup_iff_pairwise_ne.2 (h1.imp fun h e => by omega)
  refine List.Perm.eq_of_pairwise (le := fun x y : Int => x ≤ y) (fun a b _ _ g1 g2 => by omega) (h1.imp fun h => by omega) h3 ((List.perm_ext_iff_of_nodup hn h4).2 fun x => ?_)
  rw [h2, h5, List.take_of_length_le (by simp)]

theorem msR_eq {a b : List Sp} {side : Int} (h : errS a b side = 0) : msR a b side = msL a b side := by
  obtain ⟨h1, h2, _⟩ := errS_ok h
  unfold msR msL
  rw [couples_pairs (checkE_ok.1 h1).2.2 (checkE_ok.1 h2).2.2, matches_eq]
theorem msL_sorted {a b : List Sp} {side : Int} (h : errS a b side = 0) : (msL a b side).Pairwise (fun x y => ltP x y = true) := by
  rw [← msR_eq h]
  exact matchesL_sorted _

theorem same_matches (a b : List Sp) (side : Int) : (if errS a b side = 0 then matchesL ((couplesL a b side).map (·.2)) else []) = (if errS a b side = 0 then msL a b side else []) := by
  by_cases h : errS a b side = 0
  · rw [if_pos h, if_pos h]; exact msR_eq h
  · rw [if_neg h, if_neg h]
theorem same_splits (a b : List Sp) (side : Int) : (if errS a b side = 0 then splitsTo (msR a b side) (msR a b side).length else []) = (if errS a b side = 0 then splitsP ((msL a b side).map (·.1)) else []) := by
  by_cases h : errS a b side = 0
  · rw [if_pos h, if_pos h, msR_eq h]; exact splits_eq (msL_sorted h)
  · rw [if_neg h, if_neg h]
theorem same_lumps (a b : List Sp) (side : Int) : (if errS a b side = 0 then splitsTo (msR b a side) (msR b a side).length else []) = (if errS a b side = 0 then splitsP ((msL b a side).map (·.1)) else []) := by
  by_cases h : errS a b side = 0
  · have h' := errS_swap' h
    rw [if_pos h, if_pos h, msR_eq h']; exact splits_eq (msL_sorted h')
  · rw [if_neg h, if_neg h]
theorem same_common (a b : List Sp) : (if checkE2 a b = 0 then (couplesL a b 0).map (·.1) else []) = (if checkE2 a b = 0 then commonIds a b else []) := by
  by_cases h : checkE2 a b = 0
  · obtain ⟨h1, h2⟩ := orE_ok.1 h
    rw [if_pos h, if_pos h, couples_ids (checkE_ok.1 h1).2.2 (checkE_ok.1 h2).2.2]
  · rw [if_neg h, if_neg h]

end Go.Proofs.Ytnedoaapnfpkfaa
