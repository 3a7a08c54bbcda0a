/-
  The statement CorrespondenceGreatest, proved: for every two lists of specimens and every choice the law answers true, and the arguments read afterwards as before. Conditions: none.
-/
import Derived.Test.YtnedoaapnfpkfaaLawB
import Derived.Test.YtnedoaapnfpkfaaReadsB
namespace Go.Proofs.Ytnedoaapnfpkfaa
open Go.ChangeShapes Go.WideShapes Go.ChangeAt Go.RowKit

set_option maxRecDepth 100000 in
theorem greatest_lifted (os : Os) (started : os.Started) (H : Type) (enc : TypeId × Value → H) :
    ReturnsInHanded {} Try.checked os 4 .any (Rows.correspondenceGreatestSpec.pre6 enc Try.prog Try.f4 Rows.correspondenceGreatestRow.domain false) (Rows.correspondenceGreatestSpec.post enc Try.prog Try.f4 false true false false) := by
  refine returnsInHanded_of_change (C := Try.checked) own started (by kernel_rfl) Try.func4
    (ChangeSpec.witness6 (enc := enc) (C := Try.checked) false ⟨#[], #[.slice none 0 0, .slice none 0 0, .slice none 0 0], []⟩ 8 (by kernel_rfl) (by kernel_rfl) (by kernel_rfl) (by kernel_rfl)) ?_
  intro W base args ds gs before hval0 hW _ _
  have hval : ∀ (j : Nat) t v, Try.f4.params[j]? = some t → args[j]? = some v → Value.okWide Try.prog W .any base t v := hval0
  have hW' := hW
  obtain ⟨p, q, hA0, hV, rfl, _, _⟩ := hW
  have hA : DataW.TrodAll enc Try.prog W 0 (fun _ => true) true Try.f4.params.toList args.toList ds p := hA0
  rw [Try.params4] at hA hval
  obtain ⟨v0, v1, v2, d0, d1, d2, p0, p1, p2, rfl, rfl, rfl, h0, h1, h2⟩ := trodAll_three hA
  obtain ⟨rfl, rfl⟩ := trodVars_none hV
  obtain ⟨a2, len2, cap2, rfl⟩ := okWide_slice Try.underlying32 (hval 2 32 v2 rfl rfl)
  obtain ⟨a0, len0, cap0, rfl⟩ := okWide_slice Try.underlying22 (hval 0 22 v0 rfl rfl)
  obtain ⟨a1, len1, cap1, rfl⟩ := okWide_slice Try.underlying22 (hval 1 22 v1 rfl rfl)
  have h0k := h0
  have h1k := h1
  have h2k := h2
  obtain ⟨fuel0, hf0⟩ := h0
  obtain ⟨fuel1, hf1⟩ := h1
  obtain ⟨fuel2, hf2⟩ := h2
  clear hA0 hval0
  simp only [List.append_nil] at hW'
  have hlt : ∀ x ∈ p0 ++ p1 ++ p2, x.block < W.heap.size := fun x hx => by simpa using hW'.lt x hx
  have hlt0 : ∀ x ∈ p0, x.block < W.heap.size := fun x hx => hlt x (List.mem_append.2 (Or.inl (List.mem_append.2 (Or.inl hx))))
  have hlt1 : ∀ x ∈ p1, x.block < W.heap.size := fun x hx => hlt x (List.mem_append.2 (Or.inl (List.mem_append.2 (Or.inr hx))))
  have hlt2 : ∀ x ∈ p2, x.block < W.heap.size := fun x hx => hlt x (List.mem_append.2 (Or.inr hx))
  simp only [Value.cells] at hf0 hf1 hf2
  obtain ⟨la, rfl, hSa⟩ := read_sps hf0 hlt0
  obtain ⟨lb, rfl, hSb⟩ := read_sps hf1 hlt1
  obtain ⟨lc, rfl, hU, hSc⟩ := read_u8s hf2 hlt2
  refine (law_greatest a0 a1 a2 cap0 cap1 cap2 la lb lc hU W hSa hSb hSc).mono fun e W' ⟨he, hnx⟩ => ?_
  subst he
  have k0 := Below.trod laidOut (by kernel_rfl) (of_decide_eq_true (by kernel_rfl)) h0k hnx hlt0
  have k1 := Below.trod laidOut (by kernel_rfl) (of_decide_eq_true (by kernel_rfl)) h1k hnx hlt1
  have k2 := Below.trod laidOut (by kernel_rfl) (of_decide_eq_true (by kernel_rfl)) h2k hnx hlt2
  have hargs : DataW.TrodAll enc Try.prog W' 0 (fun b => decide (b < W.heap.size)) true [22, 22, 32] [.slice a0 la.length cap0, .slice a1 lb.length cap1, .slice a2 lc.length cap2] [d0, d1, d2] (p0 ++ p1 ++ p2) := by
    simpa using trodAll_mk3 k0 k1 k2
  exact ⟨_, rfl, _, _, _, [], p0 ++ p1 ++ p2, [], hW', trodAll_mk1 (shut_bool Try.underlying4 true), hargs, rfl, hnx.frame _, fun h => by cases h⟩

theorem CorrespondenceGreatest_holds : Rows.CorrespondenceGreatestSaid :=
  OpenClaim.holds_of_wide 4 Try.f4 rfl rfl rfl rfl rfl rfl rfl ⟨rfl, rfl, rfl, rfl, rfl⟩ rfl rfl rfl rfl rfl (by kernel_rfl) Try.func4 (by kernel_rfl)
    (of_decide_eq_true (by kernel_rfl)) (by unfold Func.isWrapper; first | (rw [if_pos (by decide +kernel)]; kernel_rfl) | (rw [if_neg (by decide +kernel)]; exact ⟨rfl, rfl⟩))
    (fun os started H enc _ => greatest_lifted os started H enc)

#print axioms CorrespondenceGreatest_holds
end Go.Proofs.Ytnedoaapnfpkfaa
