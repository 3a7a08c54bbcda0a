/-
  slices.SortFunc by byBoth at a row of the call's own; slices.SortedFunc(maps.Keys(m), byBoth). Conditions: fewer than 2^40 elements.
-/
import Derived.Test.YtnedoaapnfpkfaaByboth
import Derived.Test.YtnedoaapnfpkfaaDefs
import Derived.Test.YtnedoaapnfpkfaaAppend
import Derived.Test.YtnedoaapnfpkfaaSort
namespace Go.Proofs.Ytnedoaapnfpkfaa
open Go.RowKit Go.Sort Go.Shelf

theorem ltOf_cmpP : ltOf cmpP = ltP := by
  funext x y
  unfold ltOf cmpP ltP orI Lib.compareInt
  by_cases h1 : x.1 < y.1
  · simp [h1]
  · by_cases h2 : y.1 < x.1
    · have : ¬ x.1 = y.1 := by omega
      simp [h1, h2, this]
    · have e : x.1 = y.1 := by omega
      by_cases h3 : x.2 < y.2
      · simp [e, h3]
      · by_cases h4 : y.2 < x.2 <;> simp [e, h3, h4]
theorem swoP : SWO (ltOf cmpP) := by
  rw [ltOf_cmpP]
  exact ⟨fun x => by simp [ltP], fun x y z h1 h2 => by simp [ltP] at *; omega, fun x y z h1 h2 => by simp [ltP] at *; omega⟩
theorem totalP : ∀ x y, ltOf cmpP x y = false → ltOf cmpP y x = false → x = y := by
  rw [ltOf_cmpP]
  intro x y h1 h2
  simp [ltP] at h1 h2
  exact Prod.ext (by omega) (by omega)

/-- The pairs, ascending. -/
def sortP (l : List (Int × Int)) : List (Int × Int) := l.mergeSort fun x y => !ltP y x
theorem sortP_length (l : List (Int × Int)) : (sortP l).length = l.length := List.length_mergeSort _
theorem sortP_perm (l : List (Int × Int)) : (sortP l).Perm l := List.mergeSort_perm _ _
theorem sortP_sorted (l : List (Int × Int)) : (sortP l).Pairwise (fun x y => (!ltP y x) = true) :=
  List.pairwise_mergeSort (le := fun x y => !ltP y x) (by intro a b c h1 h2; simp [ltP] at *; omega) (by intro a b; simp [ltP]; omega) l
theorem sortP_of_perm {l l' : List (Int × Int)} (h : l.Perm l') : sortP l = sortP l' := by
  refine List.Perm.eq_of_pairwise (le := fun x y => (!ltP y x) = true) (fun a b _ _ h1 h2 => ?_) (sortP_sorted l) (sortP_sorted l') (((sortP_perm l).trans h).trans (sortP_perm l').symm)
  simp [ltP] at h1 h2
  exact Prod.ext (by omega) (by omega)

theorem cmpLaysP (blk off size : Nat) (w : World) : CmpLays Try.prog 51 #[] encP 2 cmpP blk off size w := fun _ _ _ _ x y => byBoth_any x y _

theorem flatK_flat {α : Type} [Inhabited α] (enc : α → List Value) (k : Nat) (hk : ∀ x, (enc x).length = k) (l : List α) : (flatK enc k l.toArray).toList = l.flatMap enc := by
  apply List.ext_getElem?
  intro t
  have hlen := length_flat enc k hk l
  by_cases ht : t < l.length * k
  · have hk0 : 0 < k := Nat.pos_of_ne_zero (fun e => by subst e; omega)
    have hj : t / k < l.length := Nat.div_lt_of_lt_mul (by rw [Nat.mul_comm]; exact ht)
    have hi : t % k < (enc l[t / k]).length := by rw [hk]; exact Nat.mod_lt _ hk0
    have h1 := flat_getElem enc k hk l (t / k) hj (t % k) _ (List.getElem?_eq_getElem hi)
    rw [Nat.div_add_mod' t k] at h1
    rw [h1]
    simp only [flatK, Array.toList_map, Array.toList_range, List.getElem?_map, List.size_toArray]
    rw [List.getElem?_range ht]
    simp [hj, hi]
  · rw [List.getElem?_eq_none (by simp; omega), List.getElem?_eq_none (by rw [hlen]; omega)]

/-- slices.SortFunc by byBoth. -/
theorem sortP_own {base e : Nat} {v : Value} {l : List (Int × Int)} {w : World} (h : OwnsL w base e 2 encP v l) (hsz : l.length < 4611686018427387904) :
    Calls Try.prog 79 #[v, .func (.func 51) #[] #[]] w fun e' w' => e' = .returned (.tuple #[]) ∧ OwnsL w' base e 2 encP v (sortP l) ∧ w.grownBy w' v.ownBlock := by
  have h0 := h
  unfold OwnsL at h h0
  unfold OwnsL
  rw [sortP_length]
  have eg : ∀ args w, (callFunc 51 args).run Try.prog w = .ok (.enter 51 args) w := enters_of Try.func51 (by kernel_rfl) rfl
  obtain ⟨hlen, ⟨hv, hl⟩ | ⟨g, cap, cur, hv, hg, hh, hle, hmax, hsz', htake⟩⟩ := h
  · subst hv
    have hl' : l = [] := List.eq_nil_of_length_eq_zero hl
    subst hl'
    refine (AnyF.slices_SortFunc_none Try.sortPair none 0 _ w).mono fun e' w' ⟨he, hw⟩ => ⟨he, ?_, ?_⟩
    · rw [hw]; simpa [sortP] using h0
    · rw [hw]; exact World.grownBy.refl w _
  · subst hv
    have hflat : (flatK encP 2 l.toArray).toList.map id = l.flatMap encP := by rw [List.map_id, flatK_flat encP 2 encP_len]
    have h1 : w.ownsRow base e 2 (.slice (some ⟨g, 0, none⟩) l.length cap) l.length ((flatK encP 2 l.toArray).toList.map id) := by rw [hflat]; exact h0
    refine (AnyQ.slices_SortFunc_total Try.sortPair 2 Try.isAgg60 Try.sizeOf60 encP encP_len one_encP cmpP swoP 51 #[] g 0 cap l.toArray w eg (cmpLaysP _ _ _ _) (holds_owns id h1) (lt_of_block hh) (by simpa using hsz) totalP).mono fun e' w' ⟨he, n, os, hw⟩ => ⟨he, ?_, ?_⟩
    · rw [hw, ltOf_cmpP]
      have := owns_putRow id (d := flatK encP 2 (sortP l).toArray) n os h1 (by simp [sortP_length])
      rw [List.map_id, flatK_flat encP 2 encP_len] at this
      exact this
    · rw [hw]; exact grownBy_putRow _ _ _ _ _ _ _

end Go.Proofs.Ytnedoaapnfpkfaa
