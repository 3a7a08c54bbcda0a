/-
  cmp.Or at int, correspondence.byBoth: the order of pairs. Conditions: none.
-/
import Derived.Test.YtnedoaapnfpkfaaPlan
import Derived.Test.YtnedoaapnfpkfaaEq
import Derived.Test.YtnedoaapnfpkfaaCmp
import Derived.Test.YtnedoaapnfpkfaaShelfB
import Derived.Deep.Draws
namespace Go.Proofs.Ytnedoaapnfpkfaa
open Go.RowKit Go.Sort

/-- The first number that is not 0. -/
def orI (l : List Int) : Int := (l.find? (fun x => x != 0)).getD 0

theorem or_int (p : Option Addr) (cap : Nat) (l : List Int) (w : World) (h : SliceAt w encI 1 p cap l) :
    Calls Try.prog 81 #[.slice p l.length cap] w fun e w' => e = .returned (.int .i64 (orI l)) ∧ w' = w := by
  have hmax := h.max
  have hle := h.le
  unfold maxLen at hmax
  go_enter Try.func81, Try.ntmps81
  go_wp2
  go_loopw [5, 8] (fun _ i wr => ∃ k : Nat, k ≤ l.length ∧ i = .int .i64 k ∧ (∀ x ∈ l.take k, (x != 0) = false) ∧ wr = w) (fun _ i _ => l.length - (intOf i).toNat)
  case atStart => exact ⟨0, by omega, rfl, by simp, rfl⟩
  case round =>
    obtain ⟨k, hk, rfl, hz, rfl⟩ := hrel
    by_cases hlt : k < l.length
    · obtain ⟨b, off, rfl, hb, c0⟩ := h.int_at hlt
      by_cases hx : l[k] = 0
      · have g : (l[k] != 0) = false := by simp [hx]
        have HZ := hid hz
        clear hz hx
        go_wp2
        go_roundw
        case rel =>
          refine ⟨k + 1, by omega, by simp, ?_, trivial⟩
          intro x hx
          rw [List.take_succ_eq_append_getElem hlt] at hx
          rcases List.mem_append.1 hx with h1 | h1
          · exact HZ.out x h1
          · simp at h1; rw [h1]; exact g
        case measure => simp [intOf]; omega
      · have g : (l[k] != 0) = true := by simp [hx]
        have hor : orI l = l[k] := by
          have hf : l.find? (fun x => x != 0) = some l[k] := by
            have hs : l = l.take k ++ l[k] :: l.drop (k + 1) := by simp
            have : (l.take k ++ l[k] :: l.drop (k + 1)).find? (fun x => x != 0) = some l[k] := by
              rw [List.find?_append, List.find?_eq_none.2 (fun x hx => by simpa using hz x hx), List.find?_cons, show (l[k] != 0) = true by simp [hx]]
              rfl
            rwa [← hs] at this
          unfold orI
          rw [hf]; rfl
        have HOR := hid hor
        clear hz hx hor
        go_wp2
        go_ret
        exact ⟨by rw [HOR.out]; rfl, rfl⟩
    · have hke : k = l.length := by omega
      subst hke
      have hor : orI l = 0 := by
        unfold orI
        rw [List.take_length] at hz
        rw [List.find?_eq_none.2 (fun x hx => by simpa using hz x hx)]
        rfl
      have HOR := hid hor
      clear hz hor
      go_wp2
      go_ret
      exact ⟨by rw [HOR.out]; rfl, rfl⟩

/-- The order of pairs: by the first, then by the second. -/
def cmpP (x y : Int × Int) : Int := orI [Lib.compareInt x.1 y.1, Lib.compareInt x.2 y.2]

theorem blk_new_at {w : World} {n : Nat} (h : n = w.heap.size) (xs : Array Value) (t : TypeId) : (w.alloc (.cells xs t)).drew.heap[n]? = some (.cells xs t (0, 0)) := by
  subst h; exact blk_new w _

/-- Two numbers in a block are a slice of two. -/
theorem slice2 {w : World} {b : Nat} {x y : Int} {t : TypeId} (h : w.heap[b]? = some (.cells #[.int .i64 x, .int .i64 y] t (0, 0))) : SliceAt w encI 1 (some ⟨b, 0, none⟩) 2 [x, y] where
  le := Nat.le_refl _
  max := by unfold maxLen; omega
  place := fun _ => by
    refine ⟨b, 0, rfl, lt_of_block h, ?_⟩
    obtain ⟨c0, c1⟩ := cells2 h
    intro j hj i u hu
    match j, hj, i, hu with
    | 0, _, 0, hu => simp [encI] at hu; subst hu; simpa using c0
    | 1, _, 0, hu => simp [encI] at hu; subst hu; simpa using c1
    | 0, _, i + 1, hu => simp [encI] at hu
    | 1, _, i + 1, hu => simp [encI] at hu

/-- What a comparison leaves behind: draws and blocks of its own. -/
def Laid (W W' : World) : Prop := ∃ q os, W' = grow (W.drewN q) os
theorem laid_refl (W : World) : Laid W W := ⟨0, #[], by simp [grow, World.drewN]⟩
theorem laid_alloc {W W' : World} (h : Laid W W') (o : Obj) : Laid W (W'.alloc o) := by
  obtain ⟨q, os, rfl⟩ := h
  exact ⟨q, os ++ #[o], by rw [alloc_eq_grow, grow_grow]⟩
theorem laid_drew {W W' : World} (h : Laid W W') : Laid W W'.drew := by
  obtain ⟨q, os, rfl⟩ := h
  exact ⟨q + 1, os, by rw [drew_grow]; rfl⟩

set_option maxRecDepth 10000 in
set_option maxHeartbeats 1000000 in
theorem byBoth_any (x y : Int × Int) (w : World) : Calls Try.prog 51 #[pval x, pval y] w fun e w' => e = .returned (.int .i64 (cmpP x y)) ∧ Laid w w' := by
  have hc1 := fun W => Try.cmp_Compare_int x.1 y.1 W
  have hc2 := fun W => Try.cmp_Compare_int x.2 y.2 W
  unfold cmpP
  generalize Lib.compareInt x.1 y.1 = r1 at *
  generalize Lib.compareInt x.2 y.2 = r2 at *
  go_enter Try.func51, Try.ntmps51
  go_wp2_with fail
  have e1 : ((w.alloc (.cells #[.int .i64 x.1, .int .i64 x.2] 60)).alloc (.cells #[.int .i64 y.1, .int .i64 y.2] 60)).heap[w.heap.size]? = some (.cells #[.int .i64 x.1, .int .i64 x.2] 60 (0, 0)) := blk_alloc (blk_new _ _)
  have e2 : ((w.alloc (.cells #[.int .i64 x.1, .int .i64 x.2] 60)).alloc (.cells #[.int .i64 y.1, .int .i64 y.2] 60)).heap[w.heap.size + 1]? = some (.cells #[.int .i64 y.1, .int .i64 y.2] 60 (0, 0)) := by
    have := blk_new (w.alloc (.cells #[.int .i64 x.1, .int .i64 x.2] 60)) (.cells #[.int .i64 y.1, .int .i64 y.2] 60)
    simpa using this
  (refine wp_region_noPanic (wp_region_plan [0, 1, 2, 3, 5, 6, 7, 8] [4, 9, 10, 11, 12] (fun w' => w'.heap[w.heap.size]? = some (.cells #[.int .i64 x.1, .int .i64 x.2] 60 (0, 0)) ∧ w'.heap[w.heap.size + 1]? = some (.cells #[.int .i64 y.1, .int .i64 y.2] 60 (0, 0))) (by kernel_rfl) (by kernel_rfl) (fun _ _ _ _ _ h => h) ⟨e1, e2⟩ ?_))
  (refine wpTakes_nth (v := ?_) rfl rfl ?_ ?_; rotate_left 1; (· ((intro w hw; (try dsimp only at hw); (try go_split_ands); go_simp; try with_reducible rfl); all_goals go_simp; all_goals with_reducible rfl)); (try simp only [Act.put, List.setIfInBounds_toArray, List.set_cons_zero, List.set_cons_succ]))
  (refine wpTakes_nth (v := ?_) rfl rfl ?_ ?_; rotate_left 1; (· ((intro wl hwl; obtain ⟨l0, l1⟩ := cells2 hwl.1; clear hwl); all_goals go_simp; all_goals with_reducible rfl)); (try simp only [Act.put, List.setIfInBounds_toArray, List.set_cons_zero, List.set_cons_succ]))
  (refine wpTakes_nth (v := ?_) rfl rfl ?_ ?_; rotate_left 1; (· ((intro w hw; (try dsimp only at hw); (try go_split_ands); go_simp; try with_reducible rfl); all_goals go_simp; all_goals with_reducible rfl)); (try simp only [Act.put, List.setIfInBounds_toArray, List.set_cons_zero, List.set_cons_succ]))
  (refine wpTakes_nth (v := ?_) rfl rfl ?_ ?_; rotate_left 1; (· ((intro wl hwl; obtain ⟨l0, l1⟩ := cells2 hwl.2; clear hwl); all_goals go_simp; all_goals with_reducible rfl)); (try simp only [Act.put, List.setIfInBounds_toArray, List.set_cons_zero, List.set_cons_succ]))
  (refine wpTakes_nth (v := ?_) rfl rfl ?_ ?_; rotate_left 1; (· ((intro w hw; (try dsimp only at hw); (try go_split_ands); go_simp; try with_reducible rfl); all_goals go_simp; all_goals with_reducible rfl)); (try simp only [Act.put, List.setIfInBounds_toArray, List.set_cons_zero, List.set_cons_succ]))
  (refine wpTakes_nth (v := ?_) rfl rfl ?_ ?_; rotate_left 1; (· ((intro wl hwl; obtain ⟨l0, l1⟩ := cells2 hwl.1; clear hwl); all_goals go_simp; all_goals with_reducible rfl)); (try simp only [Act.put, List.setIfInBounds_toArray, List.set_cons_zero, List.set_cons_succ]))
  (refine wpTakes_nth (v := ?_) rfl rfl ?_ ?_; rotate_left 1; (· ((intro w hw; (try dsimp only at hw); (try go_split_ands); go_simp; try with_reducible rfl); all_goals go_simp; all_goals with_reducible rfl)); (try simp only [Act.put, List.setIfInBounds_toArray, List.set_cons_zero, List.set_cons_succ]))
  (refine wpTakes_nth (v := ?_) rfl rfl ?_ ?_; rotate_left 1; (· ((intro wl hwl; obtain ⟨l0, l1⟩ := cells2 hwl.2; clear hwl); all_goals go_simp; all_goals with_reducible rfl)); (try simp only [Act.put, List.setIfInBounds_toArray, List.set_cons_zero, List.set_cons_succ]))
  refine wpTakes_nil ?_
  (refine wpTail_nth rfl rfl (fun K hK => ?_); go_simp)
  refine (hc1 _).mono ?_
  rintro e w1 ⟨rfl, rfl⟩
  go_wp2_with fail
  ((try refine hK _ _ ?_); refine wpHold_mk ?_ ?_; (· (exact ⟨e1, e2⟩)); (try clear hK K); (try simp only [Act.put, List.setIfInBounds_toArray, List.set_cons_zero, List.set_cons_succ]))
  (refine wpTail_nth rfl rfl (fun K hK => ?_); go_simp)
  refine (hc2 _).mono ?_
  rintro e w1 ⟨rfl, rfl⟩
  go_wp2_with fail
  ((try refine hK _ _ ?_); refine wpHold_mk ?_ ?_; (· (exact ⟨e1, e2⟩)); (try clear hK K); (try simp only [Act.put, List.setIfInBounds_toArray, List.set_cons_zero, List.set_cons_succ]))
  (refine wpTail_nth rfl rfl (fun K hK => ?_); go_simp)
  ((try refine hK _ _ ?_); refine wpHold_mk ?_ ?_; (· (exact ⟨blk_alloc e1, blk_alloc e2⟩)); (try clear hK K); (try simp only [Act.put, List.setIfInBounds_toArray, List.set_cons_zero, List.set_cons_succ]))
  (refine wpTail_nth rfl rfl (fun K hK => ?_); go_simp)
  have hnew : (((w.alloc (.cells #[.int .i64 x.1, .int .i64 x.2] 60)).alloc (.cells #[.int .i64 y.1, .int .i64 y.2] 60)).alloc (.cells #[.int .i64 r1, .int .i64 r2] 3)).drew.heap[w.heap.size + 1 + 1]? = some (.cells #[.int .i64 r1, .int .i64 r2] 3 (0, 0)) := by
    exact blk_new_at (by simp) _ _
  refine (or_int _ _ _ _ (slice2 hnew)).mono ?_
  rintro e w1 ⟨rfl, rfl⟩
  go_wp2_with fail
  ((try refine hK _ _ ?_); refine wpHold_mk ?_ ?_; (· (exact ⟨blk_alloc e1, blk_alloc e2⟩)); (try clear hK K); (try simp only [Act.put, List.setIfInBounds_toArray, List.set_cons_zero, List.set_cons_succ]))
  (refine wpTail_nth rfl rfl (fun K hK => ?_); go_simp)
  ((try refine hK _ _ ?_); refine wpHold_mk ?_ ?_; (· (exact ⟨blk_alloc e1, blk_alloc e2⟩)); (try clear hK K); (try simp only [Act.put, List.setIfInBounds_toArray, List.set_cons_zero, List.set_cons_succ]))
  (refine wpTail_nil (NoPanic.normal ?_))
  go_wp2
  go_ret
  exact ⟨rfl, laid_drew (laid_alloc (laid_alloc (laid_alloc (laid_refl w) _) _) _)⟩

end Go.Proofs.Ytnedoaapnfpkfaa
