/-
  An argument that is a slice of specimens reads as a list of plain specimens. Conditions: none.
-/
import Derived.Test.YtnedoaapnfpkfaaBase
import Derived.Test.YtnedoaapnfpkfaaSp
import Derived.Test.YtnedoaapnfpkfaaRows
import Derived.ProofKit
import Derived.Deep.Slices
import Derived.Deep.Fields
namespace Go.Proofs.Ytnedoaapnfpkfaa
open Go.ChangeShapes Go.WideShapes Go.ChangeAt Go.RowKit Go.Deep

theorem own : ownKnob Try.prog.godebug = none := by kernel_rfl
theorem laidOut : laidOutB Try.prog = true := by kernel_rfl
theorem cellsSp : Try.prog.cellsOf 39 = 7 := by kernel_rfl
theorem cellsInt1 : Try.prog.cellsOf 3 = 1 := by kernel_rfl

section
variable {H : Type} {enc : TypeId × Value → H} {w : World} {base : Nat} {spare : Nat → Bool} {held : Bool}

theorem list7 : ∀ {l : List Value}, l.length = 7 → ∃ c0 c1 c2 c3 c4 c5 c6, l = [c0, c1, c2, c3, c4, c5, c6]
  | [c0, c1, c2, c3, c4, c5, c6], _ => ⟨c0, c1, c2, c3, c4, c5, c6, rfl⟩
/-- The cells of one specimen. -/
theorem read_sp {n : Nat} {cs : List Value} {x : DataW H × List MemPlace} (h : DataW.trod enc Try.prog w base spare held n 39 cs = some x) : ∃ s : Sp, cs = encSp s := by
  obtain ⟨xs, m, _, _, hlen, hxl, hf⟩ := DataW.trod_struct Try.underlying39 h
  rw [cellsSp] at hlen
  obtain ⟨c0, c1, c2, c3, c4, c5, c6, rfl⟩ := list7 hlen
  have hxl7 : xs.length = 7 := hxl
  have hx : ∀ i, i < 7 → ∃ y, xs[i]? = some y := fun i hi => ⟨xs[i]'(by rw [hxl7]; exact hi), List.getElem?_eq_getElem _⟩
  have k0 : DataW.trod enc Try.prog w base spare held m 3 (([c0, c1, c2, c3, c4, c5, c6].drop 0).take (Try.prog.cellsOf 3)) = xs[0]? := hf 0 _ rfl
  rw [cellsInt1] at k0
  obtain ⟨y0, e0⟩ := hx 0 (by decide)
  rw [e0] at k0
  obtain ⟨z0, h0, _⟩ := DataW.trod_int Try.underlying3 k0
  have k1 : DataW.trod enc Try.prog w base spare held m 3 (([c0, c1, c2, c3, c4, c5, c6].drop 1).take (Try.prog.cellsOf 3)) = xs[1]? := hf 1 _ rfl
  rw [cellsInt1] at k1
  obtain ⟨y1, e1⟩ := hx 1 (by decide)
  rw [e1] at k1
  obtain ⟨z1, h1, _⟩ := DataW.trod_int Try.underlying3 k1
  have k2 : DataW.trod enc Try.prog w base spare held m 3 (([c0, c1, c2, c3, c4, c5, c6].drop 2).take (Try.prog.cellsOf 3)) = xs[2]? := hf 2 _ rfl
  rw [cellsInt1] at k2
  obtain ⟨y2, e2⟩ := hx 2 (by decide)
  rw [e2] at k2
  obtain ⟨z2, h2, _⟩ := DataW.trod_int Try.underlying3 k2
  have k3 : DataW.trod enc Try.prog w base spare held m 3 (([c0, c1, c2, c3, c4, c5, c6].drop 3).take (Try.prog.cellsOf 3)) = xs[3]? := hf 3 _ rfl
  rw [cellsInt1] at k3
  obtain ⟨y3, e3⟩ := hx 3 (by decide)
  rw [e3] at k3
  obtain ⟨z3, h3, _⟩ := DataW.trod_int Try.underlying3 k3
  have k4 : DataW.trod enc Try.prog w base spare held m 3 (([c0, c1, c2, c3, c4, c5, c6].drop 4).take (Try.prog.cellsOf 3)) = xs[4]? := hf 4 _ rfl
  rw [cellsInt1] at k4
  obtain ⟨y4, e4⟩ := hx 4 (by decide)
  rw [e4] at k4
  obtain ⟨z4, h4, _⟩ := DataW.trod_int Try.underlying3 k4
  have k5 : DataW.trod enc Try.prog w base spare held m 3 (([c0, c1, c2, c3, c4, c5, c6].drop 5).take (Try.prog.cellsOf 3)) = xs[5]? := hf 5 _ rfl
  rw [cellsInt1] at k5
  obtain ⟨y5, e5⟩ := hx 5 (by decide)
  rw [e5] at k5
  obtain ⟨z5, h5, _⟩ := DataW.trod_int Try.underlying3 k5
  have k6 : DataW.trod enc Try.prog w base spare held m 3 (([c0, c1, c2, c3, c4, c5, c6].drop 6).take (Try.prog.cellsOf 3)) = xs[6]? := hf 6 _ rfl
  rw [cellsInt1] at k6
  obtain ⟨y6, e6⟩ := hx 6 (by decide)
  rw [e6] at k6
  obtain ⟨z6, h6, _⟩ := DataW.trod_int Try.underlying3 k6
  simp at h0 h1 h2 h3 h4 h5 h6
  exact ⟨⟨z0, z1, z2, z3, z4, z5, z6⟩, by simp [encSp, h0, h1, h2, h3, h4, h5, h6]⟩

/-- A slice of specimens. -/
theorem read_sps {fuel : Nat} {a0 : Option Addr} {len cap : Nat} {d : DataW H} {p : List MemPlace} (h : DataW.trod enc Try.prog w base (fun _ => true) held fuel 22 [.slice a0 len cap] = some (d, p)) (hlt : ∀ y ∈ p, y.block < w.heap.size) :
    ∃ l : List Sp, l.length = len ∧ SliceAt w encSp 7 a0 cap l := by
  rcases open_slice Try.underlying22 h with ⟨h0, _⟩ | ⟨a, len', cap', m, n, D, Pl, hcs, hb, hl, hm, hmm, hx, hi⟩
  · simp at h0
    obtain ⟨rfl, rfl, rfl⟩ := h0
    exact ⟨[], rfl, SliceAt.nil _ _ _ _ _ (Nat.zero_le _)⟩
  · simp at hcs
    obtain ⟨rfl, rfl, rfl⟩ := hcs
    simp only [if_true] at hmm
    subst hmm
    rw [cellsSp] at hx hi
    by_cases h0 : len = 0
    · subst h0
      exact ⟨[], rfl, SliceAt.nil _ _ _ _ _ hm⟩
    · have hcell : ∀ i, i < m → ∃ s : Sp, ∀ j u, (encSp s)[j]? = some u → w.cell? (a.add (i * 7 + j)) = some u := by
        intro i him
        obtain ⟨cs', hc, ht⟩ := hi i him
        obtain ⟨s, rfl⟩ := read_sp ht
        obtain ⟨_, _, hat⟩ := World.cells?_some hc
        refine ⟨s, fun j u hu => ?_⟩
        have hj : j < 7 := by have := (List.getElem?_eq_some_iff.1 hu).1; simpa [encSp] using this
        have := hat j hj
        rw [hu] at this
        rw [← add_add]
        exact this
      have hch : ∃ f : Fin len → Sp, ∀ i : Fin len, ∀ j u, (encSp (f i))[j]? = some u → w.cell? (a.add (i.1 * 7 + j)) = some u :=
        Classical.axiomOfChoice (fun i : Fin len => hcell i.1 (Nat.lt_of_lt_of_le i.2 hl))
      obtain ⟨f, hf⟩ := hch
      obtain ⟨b, off, spot⟩ := a
      have hspot : spot = none := by
        have h1 := hf ⟨0, by omega⟩ 0 _ rfl
        simpa [Addr.add] using World.cell?_spot h1
      subst hspot
      have hbW : b < w.heap.size := by
        have hp : MemPlace.cell b off ∈ p := by
          simp only [Prod.mk.injEq] at hx
          rw [hx.2]
          exact List.mem_append.2 (Or.inl (MemPlace.mem_row.2 ⟨0, by omega, by simp⟩))
        exact hlt _ hp
      refine ⟨List.ofFn f, List.length_ofFn, ⟨by rw [List.length_ofFn]; exact hl, hm, fun _ => ⟨b, off, rfl, hbW, fun j hj i u hu => ?_⟩⟩⟩
      rw [List.getElem_ofFn] at hu
      have := hf ⟨j, by simpa using hj⟩ i u hu
      rw [Addr.add_lit] at this
      rw [Nat.add_assoc]
      exact this
end

end Go.Proofs.Ytnedoaapnfpkfaa
