/-
  slices.Clone and slices.ContainsFunc at pairs, as correspondence.Best uses them. Conditions: fewer than 2^40 elements.
-/
import Derived.Test.YtnedoaapnfpkfaaCompare
import Derived.Test.YtnedoaapnfpkfaaPairs
namespace Go.Proofs.Ytnedoaapnfpkfaa
open Go.RowKit Go.Sort Go.Shelf Go.Lib

theorem cloneP_any (p : Option Addr) (cap : Nat) (l : List (Int × Int)) (w : World) (h : SliceAt w encP 2 p cap l) (hp : p = none ∨ 0 < l.length) (hlen : l.length < 1099511627776) :
    Calls Try.prog 53 #[.slice p l.length cap] w fun e w' => ∃ v', e = .returned v' ∧ OwnsL w' w.heap.size 60 2 encP v' l ∧ Ext w w' := by
  by_cases h0 : 0 < l.length
  · obtain ⟨b, off, rfl, hb, hc⟩ := h.place h0
    obtain ⟨i, z, hi, hz, h1, h2, h3⟩ := elemP.info
    refine (AnyE.slices_Clone Try.clonePair i z 2 16 hi hz h1 h2 h3 (by decide) Try.sizeOf60 b off l.length cap (l.flatMap encP) w (length_flat encP 2 encP_len l) (by unfold maxLen; omega) (by omega) ?_ ?_).mono ?_
    · intro j u hj
      have hjl : j < l.length * 2 := by have := (List.getElem?_eq_some_iff.1 hj).1; rwa [length_flat encP 2 encP_len] at this
      have hj2 : j / 2 < l.length := by omega
      have hm : j % 2 < (encP l[j / 2]).length := by rw [encP_len]; omega
      have hg := flat_getElem encP 2 encP_len l (j / 2) hj2 (j % 2) _ (List.getElem?_eq_getElem hm)
      rw [Nat.div_add_mod' j 2, hj] at hg
      have := hc (j / 2) hj2 (j % 2) u (by rw [List.getElem?_eq_getElem hm]; exact hg.symm)
      rwa [Nat.add_assoc, Nat.div_add_mod' j 2] at this
    · intro u hu
      obtain ⟨x, _, hx⟩ := List.mem_flatMap.1 hu
      exact one_encP x u hx
    · rintro e w' ⟨v', rfl, ho, _, hb'⟩
      exact ⟨v', rfl, ho, hb'⟩
  · have hl : l = [] := List.eq_nil_of_length_eq_zero (by omega)
    subst hl
    have hp' : p = none := hp.resolve_right (by simp)
    subst hp'
    refine (AnyE.slices_Clone_nil Try.clonePair 0 cap w).mono ?_
    rintro e w' ⟨rfl, rfl⟩
    exact ⟨_, rfl, OwnsL.nil _ _ _ _ _, Ext.refl _⟩


set_option maxRecDepth 10000 in
theorem clash_any (c : Nat) (x y : Int × Int) (w : World) (h : w.heap[c]? = some (.cells #[.int .i64 x.1, .int .i64 x.2] 60 (0, 0))) :
    Calls Try.prog 55 #[pval y, .pointer (some ⟨c, 0, none⟩)] w fun e w' => e = .returned (.bool (clash x y)) ∧ Ext w w' := by
  obtain ⟨c0, c1⟩ := cells2 h
  have hlt := lt_of_block h
  by_cases h1 : y.1 = x.1
  · have g : (y.1 == x.1) = true := by simpa using h1
    have hr : clash x y = true := by simp [clash, g]
    have HR := hid hr
    clear hr h1
    go_enter Try.func55, Try.ntmps55
    go_wp2
    go_ret
    exact ⟨ret_bool HR.out.symm, (Ext.refl _).alloc _⟩
  · have g : (y.1 == x.1) = false := by simpa using h1
    have hr : clash x y = (y.2 == x.2) := by simp [clash, g]
    have HR := hid hr
    clear hr h1
    by_cases h2 : y.2 = x.2
    · have g2 : (y.2 == x.2) = true := by simpa using h2
      have HG2 := hid g2
      clear h2
      go_enter Try.func55, Try.ntmps55
      go_wp2
      go_ret
      exact ⟨ret_bool (by rw [HR.out, HG2.out]), (Ext.refl _).alloc _⟩
    · have g2 : (y.2 == x.2) = false := by simpa using h2
      have HG2 := hid g2
      clear h2
      go_enter Try.func55, Try.ntmps55
      go_wp2
      go_ret
      exact ⟨ret_bool (by rw [HR.out, HG2.out]), (Ext.refl _).alloc _⟩

theorem index_none (p : Option Addr) (cap : Nat) (f : Value) (w : World) : Calls Try.prog 83 #[.slice p 0 cap, f] w fun e w' => e = .returned (.int .i64 (-1)) ∧ w' = w := by
  go_enter Try.func83, Try.ntmps83
  go_wp2
  go_loopw [8] (fun i wr => i = .int .i64 0 ∧ wr = w) (fun _ _ => 0)
  case atStart => exact ⟨rfl, rfl⟩
  case round =>
    obtain ⟨rfl, rfl⟩ := hrel
    go_wp2
    go_ret
    exact ⟨rfl, rfl⟩

/-- slices.ContainsFunc(taken, func(q) bool { q and p share a number }). -/
theorem contains_any (c : Nat) (x : Int × Int) (p : Option Addr) (cap : Nat) (l : List (Int × Int)) (w : World) (h : w.heap[c]? = some (.cells #[.int .i64 x.1, .int .i64 x.2] 60 (0, 0))) (hs : SliceAt w encP 2 p cap l) (hlen : l.length < 1099511627776) :
    Calls Try.prog 54 #[.slice p l.length cap, .func (.func 55) #[] #[.pointer (some ⟨c, 0, none⟩)]] w fun e w' => e = .returned (.bool (l.any (clash x))) ∧ Ext w w' := by
  have eg : ∀ args w, (callFunc 55 args).run Try.prog w = .ok (.enter 55 args) w := enters_of Try.func55 (by kernel_rfl) rfl
  by_cases h0 : 0 < l.length
  · obtain ⟨b, off, rfl, hb, hc⟩ := hs.place h0
    have := AnyQ.slices_ContainsFunc Try.containsPair 2 Try.isAgg60 Try.sizeOf60 encP encP_len (clash x) 55 #[.pointer (some ⟨c, 0, none⟩)] eg b off l.length cap l w
      (fun W y hW => (clash_any c x y W ((hW.block c (lt_of_block h)).trans h)).mono fun _ _ ⟨he, hx⟩ => ⟨he, hW.trans (hx.mono hW.size)⟩) (Nat.le_refl _) (by omega) hb (fun j hj i v hv => hc j hj i v (by simpa [hj] using hv))
    rw [List.take_length] at this
    exact this
  · have hl : l = [] := List.eq_nil_of_length_eq_zero (by omega)
    subst hl
    go_enter Try.func54, Try.ntmps54
    go_wp2_with fail
    refine (index_none p cap _ _).mono ?_
    rintro e w1 ⟨rfl, rfl⟩
    go_wp2
    go_ret
    exact ⟨rfl, Ext.refl _⟩

end Go.Proofs.Ytnedoaapnfpkfaa
