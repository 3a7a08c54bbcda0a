/-
  The contract of correspondence.Best. Conditions: the numbers are such as an int holds.
-/
import Derived.Test.YtnedoaapnfpkfaaNumbers
import Derived.Test.YtnedoaapnfpkfaaTry
namespace Go.Proofs.Ytnedoaapnfpkfaa
open Go.RowKit Go.Sort Go.Shelf Go.Maps

/-- How many different numbers. -/
def kinds (l : List Int) : Nat := (Lib.compact (sortI l)).length
def errB (a b : List Sp) (side : Int) : Int := if errS a b side = 0 then (if kinds ((commonPairs a b side).map (·.1)) > 7 ∨ kinds ((commonPairs a b side).map (·.2)) > 7 then 6 else 0) else errS a b side
def bestSt (l : List (Int × Int)) : St := tryL (wtOf (countP l)) (sortP ((countP l).map (·.1))) [] 0 ([], 0)
def BestPost (w : World) (a b : List Sp) (side : Int) (e : Ending) (w' : World) : Prop :=
  ∃ p cap l n, e = .returned (.tuple #[.slice p l.length cap, .int .i64 n, .int .i64 (errB a b side)]) ∧ (l, n) = (if errB a b side = 0 then bestSt (commonPairs a b side) else ([], 0)) ∧ SliceAt w' encP 2 p cap l ∧ Ext w w'

theorem validB_num {s : Sp} (h : validB s = true) (side : Int) : 1 ≤ numS s side ∧ numS s side ≤ 999 := by
  obtain ⟨h1, h2, _⟩ := validB_iff.1 h
  unfold numS; split <;> omega
theorem findS_mem {l : List Sp} {n : Int} {t : Sp} (h : findS l n = some t) : t ∈ l := List.mem_of_find?_eq_some h
theorem theS_valid {l : List Sp} {n : Int} (hv : ∀ s ∈ l, validB s = true) (h : (findS l n).isSome = true) : validB (theS l n) = true := by
  unfold theS
  cases hf : findS l n with
  | none => rw [hf] at h; cases h
  | some t => exact hv t (findS_mem hf)
/-- The numbers of a corpus. -/
theorem common_nums {a b : List Sp} {side : Int} (h : errS a b side = 0) : ∀ x ∈ commonPairs a b side, (1 ≤ x.1 ∧ x.1 ≤ 999) ∧ (1 ≤ x.2 ∧ x.2 ≤ 999) := by
  obtain ⟨h1, h2, _⟩ := errS_ok h
  have v1 := (checkE_ok.1 h1).2.1
  have v2 := (checkE_ok.1 h2).2.1
  intro x hx
  unfold commonPairs at hx
  obtain ⟨id, hid, rfl⟩ := List.mem_map.1 hx
  have h3 : id ∈ commonRaw a b := (sortI_perm _).mem_iff.1 hid
  unfold commonRaw at h3
  obtain ⟨s, hs, rfl⟩ := List.mem_map.1 h3
  obtain ⟨hs1, hs2⟩ := List.mem_filter.1 hs
  refine ⟨validB_num (theS_valid v1 ?_) side, validB_num (theS_valid v2 hs2) side⟩
  unfold findS
  rw [List.find?_isSome]
  exact ⟨s, hs1, by simp⟩
theorem common_fits {a b : List Sp} {side : Int} (h : errS a b side = 0) : ∀ x ∈ commonPairs a b side, fits x := fun x hx => by
  have := common_nums h x hx
  unfold fits; omega
theorem wtOf_bounds {l : List (Int × Int)} (h : l.length ≤ 1000000) (x : Int × Int) : 0 ≤ wtOf (countP l) x ∧ wtOf (countP l) x ≤ 1000000 := by
  unfold wtOf
  rw [alook_countP]
  have := List.count_le_length (a := x) (l := l)
  omega

set_option maxRecDepth 10000 in
set_option maxHeartbeats 2000000 in
theorem best_any (p q : Option Addr) (cp cq : Nat) (a b : List Sp) (side : Int) (w : World) (h : SliceAt w encSp 7 p cp a) (h' : SliceAt w encSp 7 q cq b) :
    Calls Try.prog 9 #[.slice p a.length cp, .slice q b.length cq, .int .i64 side] w (BestPost w a b side) := by
  by_cases hok : errS a b side = 0
  · go_enter Try.func9, Try.ntmps9
    go_wp2_with fail
    refine (pairs_any p q cp cq a b side _ h h').mono ?_
    rintro e w1 ⟨v, l, rfl, hl, HO1, HX1⟩
    rw [if_pos hok] at hl
    subst hl
    rw [hok]
    have HOK := hid hok
    clear hok
    obtain ⟨pl, cl, rfl, HL⟩ := HO1.slice encP_len
    have hlm := HL.max
    have hll := HL.le
    unfold maxLen at hlm
    have hL64 : (commonPairs a b side).length ≤ 64 := by
      have h0 : checkE2 a b = 0 := by
        have := HOK.out
        unfold errS at this
        by_cases h1 : checkE2 a b = 0
        · exact h1
        · rw [if_neg h1] at this; exact this
      have h1 := (checkE_ok.1 (orE_ok.1 h0).1).1
      unfold commonPairs commonIds
      rw [List.length_map, sortI_length]
      exact Nat.le_trans (commonRaw_length _ _) h1
    generalize hL : commonPairs a b side = L at *
    have HCP := hid hL
    clear hL
    go_wp2
    go_loopw [11, 12, 14, 30] (fun x y _ i wr => ∃ k : Nat, k ≤ L.length ∧ i = .int .i64 k ∧ OwnsL wr w1.heap.size 3 1 encI x ((L.take k).map (·.1)) ∧ OwnsL wr w1.heap.size 3 1 encI y ((L.take k).map (·.2)) ∧ (∀ r, x.ownBlock = some r → y.ownBlock ≠ some r) ∧ Ext w wr ∧ Ext w1 wr) (fun _ _ _ i _ => L.length - (intOf i).toNat)
    case atStart => exact ⟨0, by omega, rfl, OwnsL.nil _ _ _ _ _, OwnsL.nil _ _ _ _ _, fun r hr => (by cases hr), HX1, Ext.refl _⟩
    case round =>
      obtain ⟨k, hk, rfl, HA, HB, hab, HX, HXX⟩ := hrel
      by_cases hlt : k < L.length
      · obtain ⟨bi, oi, rfl, hbi, c0, c1⟩ := (HL.ext HXX).pair_at hlt
        go_wp2_with fail
        generalize hx : L[k] = x at *
        have HXK := hid hx
        clear hx
        have e0 : (wr.alloc (.cells #[.int .i64 x.1, .int .i64 x.2] 60)).heap[wr.heap.size]? = some (.cells #[.int .i64 x.1, .int .i64 x.2] 60 (0, 0)) := blk_new _ _
        (refine wp_region_noPanic (wp_region_tree [0, 1, 2, 5, 6, 7] (.two 3 (.two 4 (.one 8 (.one 9 (.one 10 (.one 11 .done)))) 8 (.one 4 (.one 9 (.one 10 (.one 11 .done))))) 8 (.one 3 (.one 4 (.one 9 (.one 10 (.one 11 .done)))))) (fun w' => w'.heap[wr.heap.size]? = some (.cells #[.int .i64 x.1, .int .i64 x.2] 60 (0, 0))) (by kernel_rfl) (by kernel_rfl) (fun _ _ _ _ _ h => h) e0 ?_))
        (refine wpTakes_nth (v := ?_) rfl rfl ?_ ?_; rotate_left 1; (· ((intro w hw; (try dsimp only at hw); (try go_split_ands); go_simp; try with_reducible rfl); all_goals go_simp; all_goals with_reducible rfl)); (try simp only [Act.put, List.setIfInBounds_toArray, List.set_cons_zero, List.set_cons_succ]))
        (refine wpTakes_nth (v := ?_) rfl rfl ?_ ?_; rotate_left 1; (· ((intro w hw; (try dsimp only at hw); (try go_split_ands); go_simp; try with_reducible rfl); all_goals go_simp; all_goals with_reducible rfl)); (try simp only [Act.put, List.setIfInBounds_toArray, List.set_cons_zero, List.set_cons_succ]))
        (refine wpTakes_nth (v := (.int .i64 x.1)) rfl rfl ?_ ?_; (· ((intro wl hwl; obtain ⟨l0, l1⟩ := cells2 hwl; clear hwl); all_goals go_simp; all_goals with_reducible rfl)); (try simp only [Act.put, List.setIfInBounds_toArray, List.set_cons_zero, List.set_cons_succ]))
        (refine wpTakes_nth (v := ?_) rfl rfl ?_ ?_; rotate_left 1; (· ((intro w hw; (try dsimp only at hw); (try go_split_ands); go_simp; try with_reducible rfl); all_goals go_simp; all_goals with_reducible rfl)); (try simp only [Act.put, List.setIfInBounds_toArray, List.set_cons_zero, List.set_cons_succ]))
        (refine wpTakes_nth (v := ?_) rfl rfl ?_ ?_; rotate_left 1; (· ((intro w hw; (try dsimp only at hw); (try go_split_ands); go_simp; try with_reducible rfl); all_goals go_simp; all_goals with_reducible rfl)); (try simp only [Act.put, List.setIfInBounds_toArray, List.set_cons_zero, List.set_cons_succ]))
        (refine wpTakes_nth (v := (.int .i64 x.2)) rfl rfl ?_ ?_; (· ((intro wl hwl; obtain ⟨l0, l1⟩ := cells2 hwl; clear hwl); all_goals go_simp; all_goals with_reducible rfl)); (try simp only [Act.put, List.setIfInBounds_toArray, List.set_cons_zero, List.set_cons_succ]))
        refine wpTakes_nil ?_
        refine wpPlan_two ?_ ?_
        · (refine wpPlan_nth rfl rfl (fun K hK => ?_); go_simp)
          ((try refine hK _ _ ?_); refine wpHoldT_mk ?_ ?_; (· (exact blk_alloc e0)); (try clear hK K); (try simp only [Act.put, List.setIfInBounds_toArray, List.set_cons_zero, List.set_cons_succ]))
          refine wpPlan_two ?_ ?_
          · have c1' : ∀ j u, (encI x.1)[j]? = some u → ((wr.alloc (.cells #[.int .i64 x.1, .int .i64 x.2] 60)).alloc (.cells #[.int .i64 x.1] 3)).drew.cell? ((⟨wr.heap.size + 1, 0, none⟩ : Addr).add j) = some u := fun j u hj => by
              have := cells_new (w := wr.alloc (.cells #[.int .i64 x.1, .int .i64 x.2] 60)) (B := wr.heap.size + 1) (by simp) (encI x.1) 3 j u hj
              exact this
            have hA1 := ((HA.alloc (.cells #[.int .i64 x.1, .int .i64 x.2] 60)).alloc (.cells #[.int .i64 x.1] 3)).ext ((Ext.refl _).drew)
            have hlA : ((L.take k).map (·.1)).length < 1099511627776 := by rw [List.length_map, List.length_take]; omega
            (refine wpPlan_nth rfl rfl (fun K hK => ?_))
            refine opWp_append_at elemI (by decide) _ _ rfl w1.heap.size _ _ rfl hA1 (wr.heap.size + 1) 1 x.1 rfl c1' hlA (by have := HXX.size; simp; omega) ?_
            intro v1 w2 HA2 hg2 hat2
            ((try refine hK _ _ ?_); refine wpHoldT_mk ?_ ?_; (· (exact blk_grownL hg2 (blk_alloc e0) (HA.ne (Nat.le_refl _)))); (try clear hK K); (try simp only [Act.put, List.setIfInBounds_toArray, List.set_cons_zero, List.set_cons_succ]))
            have hB1 := ((HB.alloc (.cells #[.int .i64 x.1, .int .i64 x.2] 60)).alloc (.cells #[.int .i64 x.1] 3)).ext ((Ext.refl _).drew)
            have hB2 := hB1.keptR hg2 (fun r hr e => hab r e hr)
            have hs2 : wr.heap.size + 2 ≤ w2.heap.size := by have := hg2.size; simpa using this
            have hsep2 : ∀ r, v1.ownBlock = some r → u12.ownBlock ≠ some r := by
              intro r hr e
              rcases hat2 with h1 | h1
              · exact hab r (h1 ▸ hr) e
              · have h2 := (World.ownsRow.lt hB1 r e).2
                rw [h1] at hr
                have := Option.some.inj hr
                omega
            have hX2 : Ext w w2 := (((HX.alloc (.cells #[.int .i64 x.1, .int .i64 x.2] 60)).alloc (.cells #[.int .i64 x.1] 3)).drew).grownL hA1 HX1.size hg2
            have hXX2 : Ext w1 w2 := (((HXX.alloc (.cells #[.int .i64 x.1, .int .i64 x.2] 60)).alloc (.cells #[.int .i64 x.1] 3)).drew).grownL hA1 (Nat.le_refl _) hg2
            (refine wpPlan_nth rfl rfl (fun K hK => ?_); go_simp)
            ((try refine hK _ _ ?_); refine wpHoldT_mk ?_ ?_; (· (exact blk_alloc (blk_grownL hg2 (blk_alloc e0) (HA.ne (Nat.le_refl _))))); (try clear hK K); (try simp only [Act.put, List.setIfInBounds_toArray, List.set_cons_zero, List.set_cons_succ]))
            have c2' : ∀ j u, (encI x.2)[j]? = some u → (w2.alloc (.cells #[.int .i64 x.2] 3)).cell? ((⟨w2.heap.size, 0, none⟩ : Addr).add j) = some u := fun j u hj => by
              have := cells_new (w := w2) rfl (encI x.2) 3 j u hj
              exact this
            have hlB : ((L.take k).map (·.2)).length < 1099511627776 := by rw [List.length_map, List.length_take]; omega
            (refine wpPlan_nth rfl rfl (fun K hK => ?_))
            refine opWp_append_at elemI (by decide) _ _ rfl w1.heap.size _ _ rfl (hB2.alloc (.cells #[.int .i64 x.2] 3)) w2.heap.size 1 x.2 rfl c2' hlB (by have := hXX2.size; simp; omega) ?_
            intro v2 w3 HB3 hg3 hat3
            have hA3 := (HA2.alloc (.cells #[.int .i64 x.2] 3)).keptR hg3 (fun r hr e => hsep2 r hr e)
            have hsep3 : ∀ r, v1.ownBlock = some r → v2.ownBlock ≠ some r := by
              intro r hr e
              rcases hat3 with h1 | h1
              · exact hsep2 r hr (h1 ▸ e)
              · have h2 := (World.ownsRow.lt HA2 r hr).2
                rw [h1] at e
                have := Option.some.inj e
                simp at this
                omega
            have hX3 := (hX2.alloc (.cells #[.int .i64 x.2] 3)).grownL (hB2.alloc (.cells #[.int .i64 x.2] 3)) HX1.size hg3
            have hXX3 := (hXX2.alloc (.cells #[.int .i64 x.2] 3)).grownL (hB2.alloc (.cells #[.int .i64 x.2] 3)) (Nat.le_refl _) hg3
            have e3 := blk_grownL hg3 (blk_alloc (blk_grownL hg2 (blk_alloc e0) (HA.ne (Nat.le_refl _)))) (fun r hr e => by have := (World.ownsRow.lt HB r hr).2; omega)
            ((try refine hK _ _ ?_); refine wpHoldT_mk ?_ ?_; (· (exact e3)); (try clear hK K); (try simp only [Act.put, List.setIfInBounds_toArray, List.set_cons_zero, List.set_cons_succ]))
            (refine wpPlan_nth rfl rfl (fun K hK => ?_); go_simp)
            ((try refine hK _ _ ?_); refine wpHoldT_mk ?_ ?_; (· (exact e3)); (try clear hK K); (try simp only [Act.put, List.setIfInBounds_toArray, List.set_cons_zero, List.set_cons_succ]))
            (refine wpPlan_nth rfl rfl (fun K hK => ?_); go_simp)
            ((try refine hK _ _ ?_); refine wpHoldT_mk ?_ ?_; (· (exact e3)); (try clear hK K); (try simp only [Act.put, List.setIfInBounds_toArray, List.set_cons_zero, List.set_cons_succ]))
            (refine wpPlan_done (NoPanic.normal ?_))
            have hA4 : OwnsL w3 w1.heap.size 3 1 encI v1 ((L.take (k + 1)).map (·.1)) := by
              rw [List.take_succ_eq_append_getElem hlt, List.map_append]; simpa [HXK.out] using hA3
            have hB4 : OwnsL w3 w1.heap.size 3 1 encI v2 ((L.take (k + 1)).map (·.2)) := by
              rw [List.take_succ_eq_append_getElem hlt, List.map_append]; simpa [HXK.out] using HB3
            have HSEP := hid hsep3
            clear hsep3 hsep2 hat2 hat3 hg2 hg3 e0 e3 c1' c2' hA1 hB1 hB2
            go_wp2
            go_roundw
            case rel => exact ⟨k + 1, by omega, by simp, hA4, hB4, HSEP.out, hX3, hXX3⟩
            case measure => simp [intOf]; omega
          · (refine wpPlan_nth rfl rfl (fun K hK => ?_); go_simp)
            ((try refine hK _ _ ?_); refine wpHoldT_mk ?_ ?_; (· (exact blk_alloc (blk_alloc e0))); (try clear hK K); (try simp only [Act.put, List.setIfInBounds_toArray, List.set_cons_zero, List.set_cons_succ]))
            have ef : (((wr.alloc (.cells #[.int .i64 x.1, .int .i64 x.2] 60)).alloc (.cells #[.int .i64 x.1] 3)).alloc (.cells #[.int .i64 x.2] 3)).heap[wr.heap.size + 1]? = some (.cells #[.int .i64 x.1] 3 (0, 0)) := blk_alloc (blk_at2 (by simp) _)
            have es : (((wr.alloc (.cells #[.int .i64 x.1, .int .i64 x.2] 60)).alloc (.cells #[.int .i64 x.1] 3)).alloc (.cells #[.int .i64 x.2] 3)).heap[wr.heap.size + 2]? = some (.cells #[.int .i64 x.2] 3 (0, 0)) := blk_at2 (by simp) _
            have hA1 := (((HA.alloc (.cells #[.int .i64 x.1, .int .i64 x.2] 60)).alloc (.cells #[.int .i64 x.1] 3)).alloc (.cells #[.int .i64 x.2] 3)).ext ((Ext.refl _).drew)
            have hB1 := (((HB.alloc (.cells #[.int .i64 x.1, .int .i64 x.2] 60)).alloc (.cells #[.int .i64 x.1] 3)).alloc (.cells #[.int .i64 x.2] 3)).ext ((Ext.refl _).drew)
            have hlA : ((L.take k).map (·.1)).length < 1099511627776 := by rw [List.length_map, List.length_take]; omega
            have hlB : ((L.take k).map (·.2)).length < 1099511627776 := by rw [List.length_map, List.length_take]; omega
            (refine wpPlan_nth rfl rfl (fun K hK => ?_))
            refine opWp_append_at elemI (by decide) _ _ rfl w1.heap.size _ _ rfl hA1 (wr.heap.size + 1) 1 x.1 rfl (cells1_at (blk_drew ef)) hlA (by have := HXX.size; simp; omega) ?_
            intro v1 w2 HA2 hg2 hat2
            have e2 := blk_grownL hg2 (blk_drew (blk_alloc (blk_alloc e0))) (HA.ne (Nat.le_refl _))
            have ey := blk_grownL hg2 (blk_drew es) (HA.ne (Nat.le_add_right _ _))
            ((try refine hK _ _ ?_); refine wpHoldT_mk ?_ ?_; (· (exact e2)); (try clear hK K); (try simp only [Act.put, List.setIfInBounds_toArray, List.set_cons_zero, List.set_cons_succ]))
            have hB2 := hB1.keptR hg2 (fun r hr e => hab r e hr)
            have hsep2 : ∀ r, v1.ownBlock = some r → u12.ownBlock ≠ some r := by
              intro r hr e
              rcases hat2 with h1 | h1
              · exact hab r (h1 ▸ hr) e
              · have h2 := (World.ownsRow.lt hB1 r e).2
                rw [h1] at hr
                have := Option.some.inj hr
                omega
            have hX2 : Ext w w2 := ((((HX.alloc (.cells #[.int .i64 x.1, .int .i64 x.2] 60)).alloc (.cells #[.int .i64 x.1] 3)).alloc (.cells #[.int .i64 x.2] 3)).drew).grownL hA1 HX1.size hg2
            have hXX2 : Ext w1 w2 := ((((HXX.alloc (.cells #[.int .i64 x.1, .int .i64 x.2] 60)).alloc (.cells #[.int .i64 x.1] 3)).alloc (.cells #[.int .i64 x.2] 3)).drew).grownL hA1 (Nat.le_refl _) hg2
            (refine wpPlan_nth rfl rfl (fun K hK => ?_))
            refine opWp_append_at elemI (by decide) _ _ rfl w1.heap.size _ _ rfl hB2 (wr.heap.size + 2) 1 x.2 rfl (cells1_at ey) hlB (by have := hXX2.size; omega) ?_
            intro v2 w3 HB3 hg3 hat3
            have hA3 := HA2.keptR hg3 (fun r hr e => hsep2 r hr e)
            have hsep3 : ∀ r, v1.ownBlock = some r → v2.ownBlock ≠ some r := by
              intro r hr e
              rcases hat3 with h1 | h1
              · exact hsep2 r hr (h1 ▸ e)
              · have h2 := (World.ownsRow.lt HA2 r hr).2
                rw [h1] at e
                have := Option.some.inj e
                omega
            have hX3 := hX2.grownL hB2 HX1.size hg3
            have hXX3 := hXX2.grownL hB2 (Nat.le_refl _) hg3
            have e3 := blk_grownL hg3 e2 (fun r hr e => by have := (World.ownsRow.lt HB r hr).2; omega)
            ((try refine hK _ _ ?_); refine wpHoldT_mk ?_ ?_; (· (exact e3)); (try clear hK K); (try simp only [Act.put, List.setIfInBounds_toArray, List.set_cons_zero, List.set_cons_succ]))
            (refine wpPlan_nth rfl rfl (fun K hK => ?_); go_simp)
            ((try refine hK _ _ ?_); refine wpHoldT_mk ?_ ?_; (· (exact e3)); (try clear hK K); (try simp only [Act.put, List.setIfInBounds_toArray, List.set_cons_zero, List.set_cons_succ]))
            (refine wpPlan_nth rfl rfl (fun K hK => ?_); go_simp)
            ((try refine hK _ _ ?_); refine wpHoldT_mk ?_ ?_; (· (exact e3)); (try clear hK K); (try simp only [Act.put, List.setIfInBounds_toArray, List.set_cons_zero, List.set_cons_succ]))
            (refine wpPlan_done (NoPanic.normal ?_))
            have hA4 : OwnsL w3 w1.heap.size 3 1 encI v1 ((L.take (k + 1)).map (·.1)) := by
              rw [List.take_succ_eq_append_getElem hlt, List.map_append]; simpa [HXK.out] using hA3
            have hB4 : OwnsL w3 w1.heap.size 3 1 encI v2 ((L.take (k + 1)).map (·.2)) := by
              rw [List.take_succ_eq_append_getElem hlt, List.map_append]; simpa [HXK.out] using HB3
            have HSEP := hid hsep3
            clear hsep3 hsep2 hat2 hat3 hg2 hg3 e0 e2 e3 ef es ey hA1 hB1 hB2
            go_wp2
            go_roundw
            case rel => exact ⟨k + 1, by omega, by simp, hA4, hB4, HSEP.out, hX3, hXX3⟩
            case measure => simp [intOf]; omega
        · (refine wpPlan_nth rfl rfl (fun K hK => ?_); go_simp)
          ((try refine hK _ _ ?_); refine wpHoldT_mk ?_ ?_; (· (exact blk_alloc e0)); (try clear hK K); (try simp only [Act.put, List.setIfInBounds_toArray, List.set_cons_zero, List.set_cons_succ]))
          (refine wpPlan_nth rfl rfl (fun K hK => ?_); go_simp)
          ((try refine hK _ _ ?_); refine wpHoldT_mk ?_ ?_; (· (exact blk_alloc (blk_alloc e0))); (try clear hK K); (try simp only [Act.put, List.setIfInBounds_toArray, List.set_cons_zero, List.set_cons_succ]))
          have ef : (((wr.alloc (.cells #[.int .i64 x.1, .int .i64 x.2] 60)).alloc (.cells #[.int .i64 x.2] 3)).alloc (.cells #[.int .i64 x.1] 3)).heap[wr.heap.size + 1]? = some (.cells #[.int .i64 x.2] 3 (0, 0)) := blk_alloc (blk_at2 (by simp) _)
          have es : (((wr.alloc (.cells #[.int .i64 x.1, .int .i64 x.2] 60)).alloc (.cells #[.int .i64 x.2] 3)).alloc (.cells #[.int .i64 x.1] 3)).heap[wr.heap.size + 2]? = some (.cells #[.int .i64 x.1] 3 (0, 0)) := blk_at2 (by simp) _
          have hA1 := (((HA.alloc (.cells #[.int .i64 x.1, .int .i64 x.2] 60)).alloc (.cells #[.int .i64 x.2] 3)).alloc (.cells #[.int .i64 x.1] 3)).ext ((Ext.refl _).drew)
          have hB1 := (((HB.alloc (.cells #[.int .i64 x.1, .int .i64 x.2] 60)).alloc (.cells #[.int .i64 x.2] 3)).alloc (.cells #[.int .i64 x.1] 3)).ext ((Ext.refl _).drew)
          have hlA : ((L.take k).map (·.1)).length < 1099511627776 := by rw [List.length_map, List.length_take]; omega
          have hlB : ((L.take k).map (·.2)).length < 1099511627776 := by rw [List.length_map, List.length_take]; omega
          (refine wpPlan_nth rfl rfl (fun K hK => ?_))
          refine opWp_append_at elemI (by decide) _ _ rfl w1.heap.size _ _ rfl hA1 (wr.heap.size + 2) 1 x.1 rfl (cells1_at (blk_drew es)) hlA (by have := HXX.size; simp; omega) ?_
          intro v1 w2 HA2 hg2 hat2
          have e2 := blk_grownL hg2 (blk_drew (blk_alloc (blk_alloc e0))) (HA.ne (Nat.le_refl _))
          have ey := blk_grownL hg2 (blk_drew ef) (HA.ne (Nat.le_add_right _ _))
          ((try refine hK _ _ ?_); refine wpHoldT_mk ?_ ?_; (· (exact e2)); (try clear hK K); (try simp only [Act.put, List.setIfInBounds_toArray, List.set_cons_zero, List.set_cons_succ]))
          have hB2 := hB1.keptR hg2 (fun r hr e => hab r e hr)
          have hsep2 : ∀ r, v1.ownBlock = some r → u12.ownBlock ≠ some r := by
            intro r hr e
            rcases hat2 with h1 | h1
            · exact hab r (h1 ▸ hr) e
            · have h2 := (World.ownsRow.lt hB1 r e).2
              rw [h1] at hr
              have := Option.some.inj hr
              omega
          have hX2 : Ext w w2 := ((((HX.alloc (.cells #[.int .i64 x.1, .int .i64 x.2] 60)).alloc (.cells #[.int .i64 x.2] 3)).alloc (.cells #[.int .i64 x.1] 3)).drew).grownL hA1 HX1.size hg2
          have hXX2 : Ext w1 w2 := ((((HXX.alloc (.cells #[.int .i64 x.1, .int .i64 x.2] 60)).alloc (.cells #[.int .i64 x.2] 3)).alloc (.cells #[.int .i64 x.1] 3)).drew).grownL hA1 (Nat.le_refl _) hg2
          (refine wpPlan_nth rfl rfl (fun K hK => ?_))
          refine opWp_append_at elemI (by decide) _ _ rfl w1.heap.size _ _ rfl hB2 (wr.heap.size + 1) 1 x.2 rfl (cells1_at ey) hlB (by have := hXX2.size; omega) ?_
          intro v2 w3 HB3 hg3 hat3
          have hA3 := HA2.keptR hg3 (fun r hr e => hsep2 r hr e)
          have hsep3 : ∀ r, v1.ownBlock = some r → v2.ownBlock ≠ some r := by
            intro r hr e
            rcases hat3 with h1 | h1
            · exact hsep2 r hr (h1 ▸ e)
            · have h2 := (World.ownsRow.lt HA2 r hr).2
              rw [h1] at e
              have := Option.some.inj e
              omega
          have hX3 := hX2.grownL hB2 HX1.size hg3
          have hXX3 := hXX2.grownL hB2 (Nat.le_refl _) hg3
          have e3 := blk_grownL hg3 e2 (fun r hr e => by have := (World.ownsRow.lt HB r hr).2; omega)
          ((try refine hK _ _ ?_); refine wpHoldT_mk ?_ ?_; (· (exact e3)); (try clear hK K); (try simp only [Act.put, List.setIfInBounds_toArray, List.set_cons_zero, List.set_cons_succ]))
          (refine wpPlan_nth rfl rfl (fun K hK => ?_); go_simp)
          ((try refine hK _ _ ?_); refine wpHoldT_mk ?_ ?_; (· (exact e3)); (try clear hK K); (try simp only [Act.put, List.setIfInBounds_toArray, List.set_cons_zero, List.set_cons_succ]))
          (refine wpPlan_nth rfl rfl (fun K hK => ?_); go_simp)
          ((try refine hK _ _ ?_); refine wpHoldT_mk ?_ ?_; (· (exact e3)); (try clear hK K); (try simp only [Act.put, List.setIfInBounds_toArray, List.set_cons_zero, List.set_cons_succ]))
          (refine wpPlan_done (NoPanic.normal ?_))
          have hA4 : OwnsL w3 w1.heap.size 3 1 encI v1 ((L.take (k + 1)).map (·.1)) := by
            rw [List.take_succ_eq_append_getElem hlt, List.map_append]; simpa [HXK.out] using hA3
          have hB4 : OwnsL w3 w1.heap.size 3 1 encI v2 ((L.take (k + 1)).map (·.2)) := by
            rw [List.take_succ_eq_append_getElem hlt, List.map_append]; simpa [HXK.out] using HB3
          have HSEP := hid hsep3
          clear hsep3 hsep2 hat2 hat3 hg2 hg3 e0 e2 e3 ef es ey hA1 hB1 hB2
          go_wp2
          go_roundw
          case rel => exact ⟨k + 1, by omega, by simp, hA4, hB4, HSEP.out, hX3, hXX3⟩
          case measure => simp [intOf]; omega
      · have hke : k = L.length := by omega
        subst hke
        rw [List.take_length] at HA HB
        obtain ⟨pa, ca, hpa, _⟩ := HA.slice encI_len
        obtain ⟨pb, cb, hpb, _⟩ := HB.slice encI_len
        rw [List.length_map] at hpa hpb
        subst hpa hpb
        have HAB := hid hab
        clear hab
        obtain ⟨wo, hwo⟩ : ∃ wo : World, wo = wr := ⟨_, rfl⟩
        subst hwo
        go_wp2
        go_loopw [6, 7, 8, 16, 49] (fun _ _ _ _ i w2 => ∃ m : Nat, m ≤ 2 ∧ i = .int .i64 m ∧ w2.heap[wo.heap.size]? = some (.cells #[.slice pa L.length ca, .slice pb L.length cb] 41 (0, 0)) ∧ (m = 0 → OwnsL w2 w1.heap.size 3 1 encI (.slice pa L.length ca) (L.map (·.1))) ∧ (m ≤ 1 → OwnsL w2 w1.heap.size 3 1 encI (.slice pb L.length cb) (L.map (·.2))) ∧ (1 ≤ m → kinds (L.map (·.1)) ≤ 7) ∧ (2 ≤ m → kinds (L.map (·.2)) ≤ 7) ∧ Ext w w2 ∧ Ext w1 w2) (fun _ _ _ _ i _ => 2 - (intOf i).toNat)
        case atStart => exact ⟨0, by omega, rfl, blk_new _ _, fun _ => HA.alloc _, fun _ => HB.alloc _, fun h => absurd h (by omega), fun h => absurd h (by omega), HX.alloc _, HXX.alloc _⟩
        case round =>
          obtain ⟨m, hm, rfl, hbk, hma, hmb, hk1, hk2, hX, hXX⟩ := hrel
          obtain ⟨d0, d1⟩ := cells2 hbk
          match m, hm with
          | 0, _ =>
            have HA2 := hma rfl
            have HB2 := hmb (by omega)
            clear hma hmb hk1 hk2
            go_wp2_with fail
            refine (sort_own HA2 (by rw [List.length_map]; omega)).mono ?_
            rintro e w3 ⟨rfl, HA3, hg3⟩
            have HB3 := HB2.keptR hg3 (fun r hr e => HAB.out r e hr)
            have hX3 := hX.grownL HA2 HX1.size hg3
            have hXX3 := hXX.grownL HA2 (Nat.le_refl _) hg3
            have hbk3 := blk_grownL hg3 hbk (fun r hr e => by have := (World.ownsRow.lt HA r hr).2; omega)
            go_wp2_with fail
            refine (compact_own HA3 (by rw [sortI_length, List.length_map]; omega)).mono ?_
            rintro e w4 ⟨p4, cap4, rfl, hle4, hmx4, hg4⟩
            have HB4 := HB3.keptR hg4 (fun r hr e => HAB.out r e hr)
            have hX4 := hX3.grownL HA3 HX1.size hg4
            have hXX4 := hXX3.grownL HA3 (Nat.le_refl _) hg4
            have hbk4 := blk_grownL hg4 hbk3 (fun r hr e => by have := (World.ownsRow.lt HA r hr).2; omega)
            have hkd : (Lib.compact (sortI (L.map (·.1)))).length = kinds (L.map (·.1)) := rfl
            rw [hkd] at hle4
            rw [hkd]
            generalize hkq : kinds (L.map (·.1)) = kq at *
            have HKQ := hid hkq
            clear hkd hkq hg3 hg4 HA2 HA3 hbk hbk3
            unfold maxLen at hmx4
            by_cases h7 : kq ≤ 7
            · go_wp2
              go_roundw
              case rel => exact ⟨1, by omega, rfl, hbk4, fun h => absurd h (by omega), fun _ => HB4, fun _ => by rw [HKQ.out]; exact h7, fun h => absurd h (by omega), hX4, hXX4⟩
              case measure => simp [intOf]
            · have he6 : errB a b side = 6 := by
                unfold errB
                rw [if_pos HOK.out, HCP.out, HKQ.out, if_pos (Or.inl (by omega))]
              have HE6 := hid he6
              clear he6
              go_wp2
              go_ret3
              refine ⟨none, 0, [], 0, ?_, ?_, SliceAt.nil _ _ _ _ _ (Nat.zero_le _), hX4⟩
              · rw [HE6.out]; rfl
              · rw [HE6.out, if_neg (by decide)]
          | 1, _ =>
            have HB2 := hmb (by omega)
            have hk7 := hk1 (by omega)
            have HK7 := hid hk7
            clear hma hmb hk1 hk2 hk7
            go_wp2_with fail
            refine (sort_own HB2 (by rw [List.length_map]; omega)).mono ?_
            rintro e w3 ⟨rfl, HB3, hg3⟩
            have hX3 := hX.grownL HB2 HX1.size hg3
            have hXX3 := hXX.grownL HB2 (Nat.le_refl _) hg3
            have hbk3 := blk_grownL hg3 hbk (fun r hr e => by have := (World.ownsRow.lt HB r hr).2; omega)
            go_wp2_with fail
            refine (compact_own HB3 (by rw [sortI_length, List.length_map]; omega)).mono ?_
            rintro e w4 ⟨p4, cap4, rfl, hle4, hmx4, hg4⟩
            have hX4 := hX3.grownL HB3 HX1.size hg4
            have hXX4 := hXX3.grownL HB3 (Nat.le_refl _) hg4
            have hbk4 := blk_grownL hg4 hbk3 (fun r hr e => by have := (World.ownsRow.lt HB r hr).2; omega)
            have hkd : (Lib.compact (sortI (L.map (·.2)))).length = kinds (L.map (·.2)) := rfl
            rw [hkd] at hle4
            rw [hkd]
            generalize hkq : kinds (L.map (·.2)) = kq at *
            have HKQ := hid hkq
            clear hkd hkq hg3 hg4 HB2 HB3 hbk hbk3
            unfold maxLen at hmx4
            by_cases h7 : kq ≤ 7
            · go_wp2
              go_roundw
              case rel => exact ⟨2, by omega, rfl, hbk4, fun h => absurd h (by omega), fun h => absurd h (by omega), fun _ => HK7.out, fun _ => by rw [HKQ.out]; exact h7, hX4, hXX4⟩
              case measure => simp [intOf]
            · have he6 : errB a b side = 6 := by
                unfold errB
                rw [if_pos HOK.out, HCP.out, HKQ.out, if_pos (Or.inr (by omega))]
              have HE6 := hid he6
              clear he6
              go_wp2
              go_ret3
              refine ⟨none, 0, [], 0, ?_, ?_, SliceAt.nil _ _ _ _ _ (Nat.zero_le _), hX4⟩
              · rw [HE6.out]; rfl
              · rw [HE6.out, if_neg (by decide)]
          | 2, _ =>
            have he0 : errB a b side = 0 := by
              have h1 := hk1 (by omega)
              have h2 := hk2 (by omega)
              unfold errB
              rw [if_pos HOK.out, HCP.out, if_neg (by omega)]
            have HE0 := hid he0
            clear he0 hma hmb hk1 hk2
            go_wp2_with fail
            have hfit : ∀ x ∈ L, fits x := by rw [← HCP.out]; exact common_fits HOK.out
            have HFIT := hid hfit
            clear hfit
            refine (distinct_any pl cl L _ ((HL.ext hXX).ext ((Ext.refl _).alloc _)) HFIT.out (by omega)).mono ?_
            rintro e w4 ⟨v, mb, rfl, hmb, HM, HO4, HX4⟩
            have hbox := blk_ext HX4 (blk_new wr (.cells #[.slice none 0 0, .map none, .slice none 0 0, .int .i64 0] 69))
            obtain ⟨pp, pc, rfl, HPP⟩ := HO4.slice encP_len
            have hpo := HO4.off (b := wr.heap.size) (by simp)
            have hmbs : mb ≠ wr.heap.size := by simp at hmb; omega
            have hpl : (sortP ((countP L).map (·.1))).length ≤ 64 := by rw [sortP_length, List.length_map]; have := length_countP L; omega
            have hpf : ∀ x ∈ sortP ((countP L).map (·.1)), fits x := fun x hx => HFIT.out x ((mem_countP L x).1 ((sortP_perm _).mem_iff.1 hx))
            have hwb := wtOf_bounds (l := L) (by omega)
            have hres : bestSt L = tryL (wtOf (countP L)) (sortP ((countP L).map (·.1))) [] 0 ([], 0) := rfl
            generalize sortP ((countP L).map (·.1)) = prs at *
            generalize countP L = wts at *
            have HRES := hid hres
            have HWB := hid hwb
            have HPF := hid hpf
            have HPO := hid hpo
            clear hres hwb hpf hpo
            obtain ⟨x0, x1, x2, x3⟩ := cells4 hbox
            obtain ⟨y0, y1, y2, y3⟩ := free4 hbox
            go_wp2_with fail
            have hsx := hX.size
            have hX5 : Ext w ((w4.setCell ⟨wr.heap.size, 0, none⟩ (.slice pp prs.length pc)).setCell ⟨wr.heap.size, 1, none⟩ (.map (some mb))) := (((hX.alloc _).trans HX4).setCell (p := ⟨wr.heap.size, 0, none⟩) hsx _).setCell (p := ⟨wr.heap.size, 1, none⟩) hsx _
            have hb5 := set_at (i := 1) (set_at (i := 0) hbox (.slice pp prs.length pc)) (.map (some mb))
            simp only [List.setIfInBounds_toArray, List.set_cons_zero, List.set_cons_succ] at hb5
            have hg5 : w4.grownBy ((w4.setCell ⟨wr.heap.size, 0, none⟩ (.slice pp prs.length pc)).setCell ⟨wr.heap.size, 1, none⟩ (.map (some mb))) (some wr.heap.size) :=
              ⟨rfl, rfl, rfl, by simp [World.setCell], fun k _ hk => (Below.heap_setCell _ _ _ k (fun e => hk (by rw [e]))).trans (Below.heap_setCell _ _ _ k (fun e => hk (by rw [e])))⟩
            have HP5 := HPP.kept hg5 HPO.out
            have HM5 := (HM.setCell (a := ⟨wr.heap.size, 0, none⟩) hmbs (.slice pp prs.length pc)).setCell (a := ⟨wr.heap.size, 1, none⟩) hmbs (.map (some mb))
            clear x0 x1 x2 x3 y0 y1 y2 y3 hg5 hbox HM HPP hX HX4
            generalize ((w4.setCell ⟨wr.heap.size, 0, none⟩ (.slice pp prs.length pc)).setCell ⟨wr.heap.size, 1, none⟩ (.map (some mb))) = w5 at *
            have htry := try_any wr.heap.size mb hmbs pp pc prs wts HPO.out HPF.out (by omega) HWB.out prs.length 0 (by omega) (by omega) none 0 [] 0 ([], 0) w5 ⟨none, 0, hb5, SliceAt.nil _ _ _ _ _ (Nat.zero_le _), fun c off h => by cases h⟩ HP5 HM5 (SliceAt.nil _ _ _ _ _ (Nat.zero_le _)) (fun c off h => by cases h) (Or.inl rfl) (by simp) (by simp)
            refine Calls.mono htry ?_
            rintro e w6 ⟨rfl, ⟨bp, bcap, hb6, hs6, hof⟩, hg6⟩
            rw [List.drop_zero, ← HRES.out] at hb6 hs6
            have hX6 : Ext w w6 := Below.grown hX5 hg6 hX5.size (fun k e => by cases e; exact hsx)
            obtain ⟨x0, x1, x2, x3⟩ := cells4 hb6
            generalize hst : bestSt L = st at *
            obtain ⟨bl, bn⟩ := st
            have HST := hid hst
            clear hst hof hb6 hg6 hb5 htry HP5 HM5 HPF HWB HFIT
            go_wp2_with fail
            go_quiet (fail)
            go_wp2
            go_ret3
            refine ⟨bp, bcap, bl, bn, ?_, ?_, hs6.ext ((Ext.refl _).drewN _), hX6.drewN _⟩
            · rw [HE0.out]; rfl
            · rw [HE0.out, if_pos rfl, HCP.out, HST.out]
  · have g0 : (errS a b side == 0) = false := by simpa using hok
    have g0' : (errS a b side != 0) = true := by rw [bne, g0]; rfl
    have hb : errB a b side = errS a b side := by unfold errB; rw [if_neg hok]
    have HB := hid hb
    have HOK := hid hok
    clear hb hok
    go_enter Try.func9, Try.ntmps9
    go_wp2_with fail
    refine (pairs_any p q cp cq a b side _ h h').mono ?_
    rintro e w1 ⟨v, l, rfl, hl, HO1, HX1⟩
    clear hl
    go_wp2
    go_ret3
    refine ⟨none, 0, [], 0, ?_, ?_, SliceAt.nil _ _ _ _ _ (Nat.zero_le _), HX1⟩
    · rw [HB.out]; rfl
    · rw [HB.out, if_neg HOK.out]

end Go.Proofs.Ytnedoaapnfpkfaa
