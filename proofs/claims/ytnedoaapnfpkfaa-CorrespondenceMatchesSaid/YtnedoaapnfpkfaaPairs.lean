/-
  The contract of correspondence.common: the numbers of both studies for each common Id. Conditions: none beyond how the arguments read.
-/
import Derived.Test.YtnedoaapnfpkfaaCommon
import Derived.Test.YtnedoaapnfpkfaaPlan
namespace Go.Proofs.Ytnedoaapnfpkfaa
open Go.RowKit


def theS (l : List Sp) (id : Int) : Sp := (findS l id).getD zeroSp
/-- The numbers of both studies for each common Id. -/
def commonPairs (a b : List Sp) (side : Int) : List (Int × Int) := (commonIds a b).map fun id => (numS (theS a id) side, numS (theS b id) side)

def PairsPost (w : World) (a b : List Sp) (side : Int) (e : Ending) (w' : World) : Prop :=
  ∃ v l, e = .returned (.tuple #[v, .int .i64 (errS a b side)]) ∧ l = (if errS a b side = 0 then commonPairs a b side else []) ∧ OwnsL w' w.heap.size 60 2 encP v l ∧ Ext w w'

set_option maxHeartbeats 1000000 in
set_option maxRecDepth 10000 in
theorem pairs_any (p q : Option Addr) (cp cq : Nat) (a b : List Sp) (side : Int) (w : World) (h : SliceAt w encSp 7 p cp a) (h' : SliceAt w encSp 7 q cq b) :
    Calls Try.prog 28 #[.slice p a.length cp, .slice q b.length cq, .int .i64 side] w (PairsPost w a b side) := by
  by_cases hok : checkE2 a b = 0
  · by_cases hside : side = 0 ∨ side = 1
    · have hres : errS a b side = 0 := by unfold errS; rw [if_pos hok, if_pos hside]
      have HRES := hid hres
      have HOK := hid hok
      clear hres
      have hgo : ∀ w, Calls Try.prog 14 #[.slice p a.length cp, .slice q b.length cq] w (CommonPost w a b) → True := fun _ _ => trivial
      clear hgo
      have hs1 : side = 0 ∨ side = 1 := hside
      have hlen : (commonIds a b).length ≤ 64 := by
        have h1 := (checkE_ok.1 (orE_ok.1 hok).1).1
        unfold commonIds; rw [sortI_length]; exact Nat.le_trans (commonRaw_length _ _) h1
      clear hok hside
      have hcase : ((side != 0) = false ∧ (side == 0) = true) ∨ ((side != 0) = true ∧ (side == 0) = false ∧ (side != 1) = false ∧ (side == 1) = true) := by
        rcases hs1 with rfl | rfl
        · left; exact ⟨rfl, rfl⟩
        · right; exact ⟨rfl, rfl, rfl, rfl⟩
      clear hs1
      rcases hcase with ⟨g0, g1⟩ | ⟨g0, g1, g2, g3⟩
      all_goals
        go_enter Try.func28, Try.ntmps28
        go_wp2_with fail
        refine (common_any p q cp cq a b _ h h').mono ?_
        rintro e w1 ⟨v, l, rfl, hl, HO1, HX1⟩
        rw [if_pos HOK.out] at hl
        subst hl
        rw [HOK.out]
        obtain ⟨pi, ci, rfl, HI⟩ := HO1.slice encI_len
        have hmi := HI.max
        have hli := HI.le
        unfold maxLen at hmi
        generalize hids : commonIds a b = ids at *
        have HIDS := hid hids
        clear hids
        go_wp2
        go_loopw [10, 12, 13, 15, 34] (fun v _ _ _ i wr => ∃ k : Nat, k ≤ ids.length ∧ i = .int .i64 k ∧ OwnsL wr w1.heap.size 60 2 encP v ((ids.take k).map fun id => (numS (theS a id) side, numS (theS b id) side)) ∧ Ext w wr ∧ Ext w1 wr) (fun _ _ _ _ i _ => ids.length - (intOf i).toNat)
        case atStart => exact ⟨0, by omega, rfl, OwnsL.nil _ _ _ _ _, HX1, Ext.refl _⟩
        case round =>
          obtain ⟨k, hk, rfl, HO, HX, HXX⟩ := hrel
          by_cases hlt : k < ids.length
          · obtain ⟨bi, oi, rfl, hbi, ci⟩ := (HI.ext HXX).int_at hlt
            go_wp2_with fail
            refine (find_any p cp a ids[k] _ (h.ext HX)).mono ?_
            rintro e w2 ⟨s2, rfl, hs2, HX2⟩
            have HS2 := hid hs2
            clear hs2
            go_wp2_with fail
            refine (find_any q cq b ids[k] _ (((h'.ext HX).ext HX2).ext ((Ext.refl _).alloc _))).mono ?_
            rintro e w3 ⟨s3, rfl, hs3, HX3⟩
            have HS3 := hid hs3
            clear hs3
            obtain ⟨d0, d1, d2, d3, d4, d5, d6⟩ := cells7 (blk_ext HX3 (blk_new _ _))
            have hz3 : w2.heap.size < w3.heap.size := lt_of_block (blk_ext HX3 (blk_new _ _))
            go_wp2_with fail
            have e2 : (w3.alloc (.cells #[.int .i64 s3.id, .int .i64 s3.obv, .int .i64 s3.rev, .int .i64 s3.os, .int .i64 s3.rs, .int .i64 s3.ax, .int .i64 s3.wt] 39)).heap[w2.heap.size]? = some (.cells #[.int .i64 s2.id, .int .i64 s2.obv, .int .i64 s2.rev, .int .i64 s2.os, .int .i64 s2.rs, .int .i64 s2.ax, .int .i64 s2.wt] 39 (0, 0)) := blk_alloc (blk_ext HX3 (blk_new _ _))
            have e3 : (w3.alloc (.cells #[.int .i64 s3.id, .int .i64 s3.obv, .int .i64 s3.rev, .int .i64 s3.os, .int .i64 s3.rs, .int .i64 s3.ax, .int .i64 s3.wt] 39)).heap[w3.heap.size]? = some (.cells #[.int .i64 s3.id, .int .i64 s3.obv, .int .i64 s3.rev, .int .i64 s3.os, .int .i64 s3.rs, .int .i64 s3.ax, .int .i64 s3.wt] 39 (0, 0)) := blk_new _ _
            have HX4 := (Ext.refl w3).alloc (.cells #[.int .i64 s3.id, .int .i64 s3.obv, .int .i64 s3.rev, .int .i64 s3.os, .int .i64 s3.rs, .int .i64 s3.ax, .int .i64 s3.wt] 39)
            have HO4 := (((HO.ext HX2).alloc (.cells #[.int .i64 s2.id, .int .i64 s2.obv, .int .i64 s2.rev, .int .i64 s2.os, .int .i64 s2.rs, .int .i64 s2.ax, .int .i64 s2.wt] 39)).ext HX3).ext HX4
            have hlen1 : ((ids.take k).map fun id => (numS (theS a id) side, numS (theS b id) side)).length < 1099511627776 := by rw [List.length_map, List.length_take]; omega
            have hne2 := HO.ne (b := w2.heap.size) HX2.size
            have hne3 := HO.ne (b := w3.heap.size) (by have := HX2.size; omega)
            generalize (w3.alloc (.cells #[.int .i64 s3.id, .int .i64 s3.obv, .int .i64 s3.rev, .int .i64 s3.os, .int .i64 s3.rs, .int .i64 s3.ax, .int .i64 s3.wt] 39)) = w4 at *
            have hwz : w1.heap.size ≤ w4.heap.size := by have := HXX.size; have := HX2.size; have := HX3.size; have := HX4.size; simp at *; omega
            clear d0 d1 d2 d3 d4 d5 d6
            have k2 := fun (w' : World) (h : w'.heap[w2.heap.size]? = some (.cells #[.int .i64 s2.id, .int .i64 s2.obv, .int .i64 s2.rev, .int .i64 s2.os, .int .i64 s2.rs, .int .i64 s2.ax, .int .i64 s2.wt] 39 (0, 0))) => cells7 h
            have k3 := fun (w' : World) (h : w'.heap[w3.heap.size]? = some (.cells #[.int .i64 s3.id, .int .i64 s3.obv, .int .i64 s3.rev, .int .i64 s3.os, .int .i64 s3.rs, .int .i64 s3.ax, .int .i64 s3.wt] 39 (0, 0))) => cells7 h
            (refine wp_region_noPanic (wp_region_plan [0, 1, 2, 4, 5] [3, 6, 7, 8, 9, 10] (fun w' => w'.heap[w2.heap.size]? = some (.cells #[.int .i64 s2.id, .int .i64 s2.obv, .int .i64 s2.rev, .int .i64 s2.os, .int .i64 s2.rs, .int .i64 s2.ax, .int .i64 s2.wt] 39 (0, 0)) ∧ w'.heap[w3.heap.size]? = some (.cells #[.int .i64 s3.id, .int .i64 s3.obv, .int .i64 s3.rev, .int .i64 s3.os, .int .i64 s3.rs, .int .i64 s3.ax, .int .i64 s3.wt] 39 (0, 0))) (by kernel_rfl) (by kernel_rfl) (fun _ _ _ _ _ h => h) ⟨e2, e3⟩ ?_))
            (refine wpTakes_nth (v := ?_) rfl rfl ?_ ?_; rotate_left 1; (· ((intro w hw; (try dsimp only at hw); (try go_split_ands); go_simp; try with_reducible rfl); all_goals go_simp; all_goals with_reducible rfl)); (try simp only [Act.put, List.setIfInBounds_toArray, List.set_cons_zero, List.set_cons_succ]))
            (refine wpTakes_nth (v := ?_) rfl rfl ?_ ?_; rotate_left 1; (· ((intro wl hwl; obtain ⟨l0, l1, l2, l3, l4, l5, l6⟩ := cells7 hwl.1; clear hwl); all_goals go_simp; all_goals with_reducible rfl)); (try simp only [Act.put, List.setIfInBounds_toArray, List.set_cons_zero, List.set_cons_succ]))
            (refine wpTakes_nth (v := ?_) rfl rfl ?_ ?_; rotate_left 1; (· ((intro w hw; (try dsimp only at hw); (try go_split_ands); go_simp; try with_reducible rfl); all_goals go_simp; all_goals with_reducible rfl)); (try simp only [Act.put, List.setIfInBounds_toArray, List.set_cons_zero, List.set_cons_succ]))
            (refine wpTakes_nth (v := ?_) rfl rfl ?_ ?_; rotate_left 1; (· ((intro wl hwl; obtain ⟨l0, l1, l2, l3, l4, l5, l6⟩ := cells7 hwl.2; clear hwl); all_goals go_simp; all_goals with_reducible rfl)); (try simp only [Act.put, List.setIfInBounds_toArray, List.set_cons_zero, List.set_cons_succ]))
            (refine wpTakes_nth (v := ?_) rfl rfl ?_ ?_; rotate_left 1; (· ((intro w hw; (try dsimp only at hw); (try go_split_ands); go_simp; try with_reducible rfl); all_goals go_simp; all_goals with_reducible rfl)); (try simp only [Act.put, List.setIfInBounds_toArray, List.set_cons_zero, List.set_cons_succ]))
            refine wpTakes_nil ?_
            (refine wpTail_nth rfl rfl (fun K hK => ?_); go_simp)
            refine (number_any s2 side _).mono ?_
            rintro e w5 ⟨rfl, HX5⟩
            go_wp2_with fail
            ((try refine hK _ _ ?_); refine wpHold_mk ?_ ?_; (· (exact ⟨blk_ext HX5 e2, blk_ext HX5 e3⟩)); (try clear hK K); (try simp only [Act.put, List.setIfInBounds_toArray, List.set_cons_zero, List.set_cons_succ]))
            (refine wpTail_nth rfl rfl (fun K hK => ?_); go_simp)
            refine (number_any s3 side _).mono ?_
            rintro e w6 ⟨rfl, HX6⟩
            go_wp2_with fail
            ((try refine hK _ _ ?_); refine wpHold_mk ?_ ?_; (· (exact ⟨blk_ext HX6 (blk_ext HX5 e2), blk_ext HX6 (blk_ext HX5 e3)⟩)); (try clear hK K); (try simp only [Act.put, List.setIfInBounds_toArray, List.set_cons_zero, List.set_cons_succ]))
            (refine wpTail_nth rfl rfl (fun K hK => ?_); go_simp)
            ((try refine hK _ _ ?_); refine wpHold_mk ?_ ?_; (· (exact ⟨blk_ext HX6 (blk_ext HX5 e2), blk_ext HX6 (blk_ext HX5 e3)⟩)); (try clear hK K); (try simp only [Act.put, List.setIfInBounds_toArray, List.set_cons_zero, List.set_cons_succ]))
            (refine wpTail_nth rfl rfl (fun K hK => ?_); go_simp)
            ((try refine hK _ _ ?_); refine wpHold_mk ?_ ?_; (· (exact ⟨blk_alloc (blk_ext HX6 (blk_ext HX5 e2)), blk_alloc (blk_ext HX6 (blk_ext HX5 e3))⟩)); (try clear hK K); (try simp only [Act.put, List.setIfInBounds_toArray, List.set_cons_zero, List.set_cons_succ]))
            (refine wpTail_nth rfl rfl (fun K hK => ?_))
            refine opWp_append_one elemP (by decide) _ _ rfl w1.heap.size _ _ rfl ((((HO4.ext ((Ext.refl _).drew)).ext HX5).ext HX6).alloc (.cells (encP (numS s2 side, numS s3 side)).toArray 60)) w6.heap.size 1 (numS s2 side, numS s3 side) rfl (cells_new rfl (encP (numS s2 side, numS s3 side)) _) hlen1 (by have := HX5.size; have := HX6.size; simp at *; omega) ?_
            intro v7 w7 HO7 HG7
            ((try refine hK _ _ ?_); refine wpHold_mk ?_ ?_; (· (exact ⟨blk_grownL HG7 (blk_alloc (blk_ext HX6 (blk_ext HX5 e2))) hne2, blk_grownL HG7 (blk_alloc (blk_ext HX6 (blk_ext HX5 e3))) hne3⟩)); (try clear hK K); (try simp only [Act.put, List.setIfInBounds_toArray, List.set_cons_zero, List.set_cons_succ]))
            (refine wpTail_nth rfl rfl (fun K hK => ?_); go_simp)
            ((try refine hK _ _ ?_); refine wpHold_mk ?_ ?_; (· (exact ⟨blk_grownL HG7 (blk_alloc (blk_ext HX6 (blk_ext HX5 e2))) hne2, blk_grownL HG7 (blk_alloc (blk_ext HX6 (blk_ext HX5 e3))) hne3⟩)); (try clear hK K); (try simp only [Act.put, List.setIfInBounds_toArray, List.set_cons_zero, List.set_cons_succ]))
            (refine wpTail_nil (NoPanic.normal ?_))
            have HX6' : Ext w3 w6 := (HX4.drew).trans (HX5.trans HX6)
            have HXA : Ext w w7 := (((((HX.trans HX2).alloc _).trans HX3).trans HX6').alloc _).grownL ((((HO4.ext ((Ext.refl _).drew)).ext HX5).ext HX6).alloc _) HX1.size HG7
            have HXB : Ext w1 w7 := (((((HXX.trans HX2).alloc _).trans HX3).trans HX6').alloc _).grownL ((((HO4.ext ((Ext.refl _).drew)).ext HX5).ext HX6).alloc _) (Nat.le_refl _) HG7
            have hstep : ((ids.take k).map fun id => (numS (theS a id) side, numS (theS b id) side)) ++ [(numS s2 side, numS s3 side)] = (ids.take (k + 1)).map fun id => (numS (theS a id) side, numS (theS b id) side) := by
              rw [HS2.out, HS3.out, List.take_succ_eq_append_getElem hlt, List.map_append]; rfl
            rw [hstep] at HO7
            clear HX6' hstep HX4 HO4 HX5 HX6 HX2 HX3 hne2 hne3 hwz hz3 k2 k3 e2 e3 HG7 hlen1 HO
            go_wp2
            go_roundw
            case rel => exact ⟨k + 1, by omega, by simp, HO7, HXA, HXB⟩
            case measure => simp [intOf]; omega
          · have hke : k = ids.length := by omega
            subst hke
            rw [List.take_length] at HO
            go_wp2
            go_ret2
            have hown : OwnsL wr w.heap.size 60 2 encP u10 (commonPairs a b side) := by
              unfold commonPairs; rw [HIDS.out]; exact HO.of_base HX1.size
            refine ⟨_, commonPairs a b side, ?_, (if_pos HRES.out).symm, hown, HX⟩
            rw [HRES.out]
            rfl
    · have g0 : (side != 0) = true := by simpa using fun h => hside (Or.inl h)
      have g0' : (side == 0) = false := by simpa using fun h => hside (Or.inl h)
      have g1 : (side != 1) = true := by simpa using fun h => hside (Or.inr h)
      have g1' : (side == 1) = false := by simpa using fun h => hside (Or.inr h)
      have hres : errS a b side = 2 := by unfold errS; rw [if_pos hok, if_neg hside]
      have HRES := hid hres
      have HOK := hid hok
      clear hres hok hside
      go_enter Try.func28, Try.ntmps28
      go_wp2_with fail
      refine (common_any p q cp cq a b _ h h').mono ?_
      rintro e w1 ⟨v, l, rfl, hl, HO1, HX1⟩
      clear hl
      rw [HOK.out]
      go_wp2
      go_ret2
      refine ⟨_, [], ?_, (if_neg (by rw [HRES.out]; decide)).symm, OwnsL.nil _ _ _ _ _, HX1⟩
      rw [HRES.out]
      rfl
  · have g0 : (checkE2 a b == 0) = false := by simpa using hok
    have g0' : (checkE2 a b != 0) = true := by rw [bne, g0]; rfl
    have hres : errS a b side = checkE2 a b := by unfold errS; rw [if_neg hok]
    have hne : errS a b side ≠ 0 := by rw [hres]; exact hok
    have HRES := hid hres
    have HNE := hid hne
    clear hok hres hne
    go_enter Try.func28, Try.ntmps28
    go_wp2_with fail
    refine (common_any p q cp cq a b _ h h').mono ?_
    rintro e w1 ⟨v, l, rfl, hl, HO1, HX1⟩
    clear hl
    go_wp2
    go_ret2
    refine ⟨_, [], ?_, (if_neg HNE.out).symm, OwnsL.nil _ _ _ _ _, HX1⟩
    rw [HRES.out]
    rfl

end Go.Proofs.Ytnedoaapnfpkfaa
