/-
  An argument that is a slice of bytes reads as a list of numbers. Conditions: none.
-/
import Derived.Test.YtnedoaapnfpkfaaReads
import Derived.Test.YtnedoaapnfpkfaaBytes
namespace Go.Proofs.Ytnedoaapnfpkfaa
open Go.ChangeShapes Go.WideShapes Go.ChangeAt Go.RowKit Go.Deep

theorem cellsU8 : Try.prog.cellsOf 5 = 1 := by kernel_rfl
theorem wf_u8 {z : Int} (h : (Lit.int .u8 z).wf = true) : 0 ≤ z ∧ z ≤ 255 := by
  have h1 : IntKind.u8.min = 0 := rfl
  have h2 : IntKind.u8.max = 255 := rfl
  simp only [Lit.wf, Bool.and_eq_true, decide_eq_true_eq] at h
  omega

section
variable {H : Type} {enc : TypeId × Value → H} {w : World} {base : Nat} {held : Bool}
theorem read_u8s {fuel : Nat} {a0 : Option Addr} {len cap : Nat} {d : DataW H} {p : List MemPlace} (h : DataW.trod enc Try.prog w base (fun _ => true) held fuel 32 [.slice a0 len cap] = some (d, p)) (hlt : ∀ y ∈ p, y.block < w.heap.size) :
    ∃ l : List Int, l.length = len ∧ (∀ z ∈ l, 0 ≤ z ∧ z ≤ 255) ∧ SliceAt w encU 1 a0 cap l := by
  rcases open_slice Try.underlying32 h with ⟨h0, _⟩ | ⟨a, len', cap', m, n, D, Pl, hcs, hb, hl, hm, hmm, hx, hi⟩
  · simp at h0
    obtain ⟨rfl, rfl, rfl⟩ := h0
    exact ⟨[], rfl, by simp, SliceAt.nil _ _ _ _ _ (Nat.zero_le _)⟩
  · simp at hcs
    obtain ⟨rfl, rfl, rfl⟩ := hcs
    simp only [if_true] at hmm
    subst hmm
    rw [cellsU8] at hx hi
    by_cases h0 : len = 0
    · subst h0
      exact ⟨[], rfl, by simp, SliceAt.nil _ _ _ _ _ hm⟩
    · have hcell : ∀ i, i < m → ∃ z : Int, (0 ≤ z ∧ z ≤ 255) ∧ w.cell? (a.add i) = some (.int .u8 z) := by
        intro i him
        obtain ⟨cs', hc, ht⟩ := hi i him
        obtain ⟨z, rfl, _, hwf⟩ := DataW.trod_int Try.underlying5 ht
        obtain ⟨_, _, hat⟩ := World.cells?_some hc
        have := hat 0 (by decide)
        rw [Nat.mul_one, add_add, Nat.add_zero] at this
        exact ⟨z, wf_u8 hwf, by simpa using this⟩
      have hch : ∃ f : Fin len → Int, ∀ i : Fin len, (0 ≤ f i ∧ f i ≤ 255) ∧ w.cell? (a.add i.1) = some (.int .u8 (f i)) :=
        Classical.axiomOfChoice (fun i : Fin len => hcell i.1 (Nat.lt_of_lt_of_le i.2 hl))
      obtain ⟨f, hf⟩ := hch
      obtain ⟨b, off, spot⟩ := a
      have hspot : spot = none := by
        have h1 := (hf ⟨0, by omega⟩).2
        simpa [Addr.add] using World.cell?_spot h1
      subst hspot
      have hbW : b < w.heap.size := by
        have hp : MemPlace.cell b off ∈ p := by
          simp only [Prod.mk.injEq] at hx
          rw [hx.2]
          exact List.mem_append.2 (Or.inl (MemPlace.mem_row.2 ⟨0, by omega, by simp⟩))
        exact hlt _ hp
      refine ⟨List.ofFn f, List.length_ofFn, fun z hz => ?_, ⟨by rw [List.length_ofFn]; exact hl, hm, fun _ => ⟨b, off, rfl, hbW, fun j hj i u hu => ?_⟩⟩⟩
      · obtain ⟨i, rfl⟩ := (List.mem_ofFn).1 hz
        exact (hf i).1
      · rw [List.getElem_ofFn] at hu
        have := (hf ⟨j, by simpa using hj⟩).2
        rw [Addr.add_lit] at this
        match i, hu with
        | 0, hu => simp [encU] at hu; rw [← hu, Nat.mul_one, Nat.add_zero]; exact this
        | i + 1, hu => simp [encU] at hu
end

end Go.Proofs.Ytnedoaapnfpkfaa
