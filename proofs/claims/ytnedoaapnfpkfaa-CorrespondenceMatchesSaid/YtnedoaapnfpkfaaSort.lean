/-
  A sort of a row of the call's own: slices.Sort at []int sorts it, nothing else turns. Conditions: fewer than 2^47 elements.
-/
import Derived.Test.YtnedoaapnfpkfaaBase
import Derived.Test.YtnedoaapnfpkfaaShelf
namespace Go.Proofs.Ytnedoaapnfpkfaa
open Go.RowKit Go.Sort

theorem grownBy_putRow {α : Type} [Inhabited α] (enc : α → Value) (w : World) (m g off : Nat) (d : Array α) (os : Array Obj) : w.grownBy (grow (putRow enc (Sort.ahead w m) g off d) os) (some g) where
  os := rfl
  tape := rfl
  output := rfl
  size := by simp [grow, putRow, mapBlock, Sort.ahead]
  block := fun k hk hne => by
    have hk' : k < (putRow enc (Sort.ahead w m) g off d).heap.size := by simp [putRow, mapBlock, Sort.ahead]; exact hk
    rw [heap_grow_old _ os hk']
    simp only [putRow, mapBlock, Sort.ahead, Array.getElem?_modify]
    rw [if_neg (fun e => hne (by rw [e]))]

theorem owns_putRow {α : Type} [Inhabited α] (enc : α → Value) {w : World} {base : Nat} {e : TypeId} {size g n cap : Nat} {d0 d : Array α} (m : Nat) (os : Array Obj)
    (h : w.ownsRow base e size (.slice (some ⟨g, 0, none⟩) n cap) n (d0.toList.map enc)) (hs : d.size = d0.size) :
    (grow (putRow enc (Sort.ahead w m) g 0 d) os).ownsRow base e size (.slice (some ⟨g, 0, none⟩) n cap) n (d.toList.map enc) := by
  obtain ⟨hlen, ⟨h1, _⟩ | ⟨g', cap', cur, hv, hg, hh, hle, hmax, hsz, htake⟩⟩ := h
  · cases h1
  · cases hv
    have hd0 : d0.size = n * size := by simpa using hlen
    refine ⟨by simp [hs, hd0], Or.inr ⟨g, cap, putCells enc 0 d cur, rfl, hg, ?_, hle, hmax, by simp [putCells, hsz], ?_⟩⟩
    · have hk' : g < (putRow enc (Sort.ahead w m) g 0 d).heap.size := by simp [putRow, mapBlock, Sort.ahead]; exact lt_of_block hh
      rw [heap_grow_old _ os hk']
      simp only [putRow, mapBlock, Sort.ahead, Array.getElem?_modify, hh]
      simp [onCells]
    · have hcs : n * size ≤ cur.size := by rw [hsz]; exact Nat.mul_le_mul_right _ hle
      apply List.ext_getElem?
      intro k
      rw [List.getElem?_take]
      by_cases hk : k < n * size
      · rw [if_pos hk]
        have hkd : k < d.size := by omega
        have hkc : k < cur.size := by omega
        simp [putCells, hkc, hkd]
      · rw [if_neg hk]
        exact (List.getElem?_eq_none (by rw [List.length_map, Array.length_toList, hs, hd0]; omega)).symm

theorem holds_owns {α : Type} [Inhabited α] (enc : α → Value) {w : World} {base : Nat} {e : TypeId} {size g n cap : Nat} {d0 : Array α}
    (h : w.ownsRow base e size (.slice (some ⟨g, 0, none⟩) n cap) n (d0.toList.map enc)) : Holds enc w g 0 d0 := by
  obtain ⟨hlen, ⟨h1, _⟩ | ⟨g', cap', cur, hv, hg, hh, hle, hmax, hsz, htake⟩⟩ := h
  · cases h1
  · cases hv
    have hd0 : d0.size = n * size := by simpa using hlen
    intro j hj
    have h2 : cur[j]? = some (enc d0[j]!) := by
      have h3 : (d0.toList.map enc)[j]? = some (enc d0[j]!) := by simp [hj]
      rw [← htake, List.getElem?_take, if_pos (by omega)] at h3
      simpa using h3
    rw [Nat.zero_add]
    exact ⟨by simp [World.cell?, hh, h2], by simp [World.frozen?, hh]⟩

/-- The numbers, ascending. -/
def sortI (l : List Int) : List Int := l.mergeSort fun x y => decide (x ≤ y)
theorem sortI_length (l : List Int) : (sortI l).length = l.length := List.length_mergeSort _
theorem sortI_perm (l : List Int) : (sortI l).Perm l := List.mergeSort_perm _ _
theorem sortI_sorted (l : List Int) : (sortI l).Pairwise (· ≤ ·) := by
  have := List.pairwise_mergeSort (le := fun (x y : Int) => decide (x ≤ y)) (by intro a b c; simp; omega) (by intro a b; simp; omega) l
  exact this.imp (by simp)

theorem sort_nil (p : Option Addr) (cap : Nat) (w : World) : Calls Try.prog 29 #[.slice p 0 cap] w fun e w' => e = .returned (.tuple #[]) ∧ w' = w := Try.slices_Sort_int_none p cap w

/-- slices.Sort at a row of the call's own. -/
theorem sort_own {base e : Nat} {v : Value} {l : List Int} {w : World} (h : OwnsL w base e 1 encI v l) (hsz : l.length < 4611686018427387904) :
    Calls Try.prog 29 #[v] w fun e' w' => e' = .returned (.tuple #[]) ∧ OwnsL w' base e 1 encI v (sortI l) ∧ w.grownBy w' v.ownBlock := by
  have h0 := h
  unfold OwnsL at h h0
  rw [flat_encI] at h0
  unfold OwnsL
  rw [flat_encI, sortI_length]
  obtain ⟨hlen, ⟨hv, hl⟩ | ⟨g, cap, cur, hv, hg, hh, hle, hmax, hsz', htake⟩⟩ := h
  · subst hv
    have hl' : l = [] := List.eq_nil_of_length_eq_zero hl
    subst hl'
    refine (sort_nil none 0 w).mono fun e' w' ⟨he, hw⟩ => ⟨he, ?_, ?_⟩
    · rw [hw]; simpa [sortI] using h0
    · rw [hw]; exact World.grownBy.refl w _
  · subst hv
    refine (Try.slices_Sort_int g 0 cap l w (holds_owns (Value.int .i64) (d0 := l.toArray) (by simpa using h0)) (lt_of_block hh) hsz).mono fun e' w' ⟨he, n, os, hw⟩ => ⟨he, ?_, ?_⟩
    · have := owns_putRow (Value.int .i64) (d0 := l.toArray) (d := (sortI l).toArray) n os (by simpa using h0) (by simp [sortI_length])
      rw [hw]; simpa [sortI] using this
    · rw [hw]; exact grownBy_putRow _ _ _ _ _ _ _

end Go.Proofs.Ytnedoaapnfpkfaa
