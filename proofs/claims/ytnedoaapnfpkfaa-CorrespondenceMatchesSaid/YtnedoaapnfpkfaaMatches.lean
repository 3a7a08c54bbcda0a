/-
  The contract of the reference's Matches. Conditions: none beyond how the arguments read.
-/
import Derived.Test.YtnedoaapnfpkfaaCouples
import Derived.Test.YtnedoaapnfpkfaaCmp
import Derived.Test.YtnedoaapnfpkfaaNumbers
namespace Go.Proofs.Ytnedoaapnfpkfaa
open Go.RowKit

theorem insM_other {x : Int × Int} {l : List (Int × Int)} {r : Nat} (hr : r ≤ l.length) (h1 : ∀ c ∈ l.take r, ltP c x = true) (h2 : ∀ h : r < l.length, ltP l[r] x = false) (h3 : ∀ h : r < l.length, l[r] ≠ x) : insM x l = l.take r ++ x :: l.drop r := by
  obtain ⟨h4, h5⟩ := split_at (p := fun y => ltP y x) hr h1 h2
  unfold insM
  rw [h4, h5, if_neg]
  intro h
  by_cases hl : r < l.length
  · rw [List.drop_eq_getElem_cons hl, List.head?_cons] at h
    exact h3 hl (Option.some.inj h)
  · rw [List.drop_eq_nil_of_le (by omega)] at h
    simp at h
theorem insM_same {x : Int × Int} {l : List (Int × Int)} {r : Nat} (hl : r < l.length) (h1 : ∀ c ∈ l.take r, ltP c x = true) (h2 : ltP l[r] x = false) (h3 : l[r] = x) : insM x l = l := by
  obtain ⟨h4, h5⟩ := split_at (p := fun y => ltP y x) (Nat.le_of_lt hl) h1 (fun _ => h2)
  unfold insM
  rw [h5, if_pos]
  rw [List.drop_eq_getElem_cons hl]
  simp [h3]
theorem couplesL_le (a b : List Sp) (side : Int) : (couplesL a b side).length ≤ a.length * b.length := by
  have h1 : ∀ (s : Sp) (b : List Sp) (out : List Cp), (coup1 s side b out).length ≤ out.length + b.length := by
    intro s b
    induction b with
    | nil => intro out; simp [coup1]
    | cons t b ih =>
      intro out
      have h2 := ih (coupS s t side out)
      have h3 := coupS_length' s t side out
      show (coup1 s side b (coupS s t side out)).length ≤ _
      rw [List.length_cons]; omega
  have h2 : ∀ (a : List Sp) (out : List Cp), (a.foldl (fun out s => coup1 s side b out) out).length ≤ out.length + a.length * b.length := by
    intro a
    induction a with
    | nil => intro out; simp
    | cons s a ih =>
      intro out
      have h3 := ih (coup1 s side b out)
      have h4 := h1 s b out
      rw [List.foldl_cons, List.length_cons, Nat.succ_mul]; omega
  simpa [couplesL] using h2 a []

theorem cells2_at {w : World} {b : Nat} {x : Int × Int} {t : TypeId} (h : w.heap[b]? = some (.cells #[.int .i64 x.1, .int .i64 x.2] t (0, 0))) : ∀ j u, (encP x)[j]? = some u → w.cell? ((⟨b, 0, none⟩ : Addr).add j) = some u := by
  intro j u hj
  match j, hj with
  | 0, hj => simp [encP] at hj; subst hj; simp [Addr.add, World.cell?, h]
  | 1, hj => simp [encP] at hj; subst hj; simp [Addr.add, World.cell?, h]
  | j + 2, hj => simp [encP] at hj
theorem free2 {w : World} {b : Nat} {t : TypeId} {v0 v1 : Value} (h : w.heap[b]? = some (.cells #[v0, v1] t (0, 0))) : w.frozen? ⟨b, 0, none⟩ = false ∧ w.frozen? ⟨b, 1, none⟩ = false := by
  simp [World.frozen?, h]

def RMatchesPost (w : World) (a b : List Sp) (side : Int) (e : Ending) (w' : World) : Prop :=
  ∃ v l, e = .returned (.tuple #[v, .int .i64 (errS a b side)]) ∧ l = (if errS a b side = 0 then matchesL ((couplesL a b side).map (·.2)) else []) ∧ OwnsL w' w.heap.size 37 2 encP v l ∧ Ext w w'

set_option maxRecDepth 10000 in
set_option maxHeartbeats 4000000 in
theorem rmatches_any (p q : Option Addr) (cp cq : Nat) (a b : List Sp) (side : Int) (w : World) (h : SliceAt w encSp 7 p cp a) (h' : SliceAt w encSp 7 q cq b) :
    Calls Try.prog 18 #[.slice p a.length cp, .slice q b.length cq, .int .i64 side] w (RMatchesPost w a b side) := by
  by_cases hok : errS a b side = 0
  · obtain ⟨hk1, hk2, _⟩ := errS_ok hok
    have ha := (checkE_ok.1 hk1).1
    have hb := (checkE_ok.1 hk2).1
    clear hk1 hk2
    have HOK := hid hok
    clear hok
    go_enter Try.func18, Try.ntmps18
    go_wp2_with fail
    refine (sided_any p q cp cq a b side _ h h').mono ?_
    rintro e w1 ⟨rfl, hx1⟩
    rw [HOK.out]
    have HX1 := hid hx1
    clear hx1
    go_wp2_with fail
    refine (couples_any p q cp cq a b side _ (h.ext HX1.out) (h'.ext HX1.out) (by omega) (by omega)).mono ?_
    rintro e w2 ⟨v, rfl, HOC, hx2⟩
    have hcl : (couplesL a b side).length ≤ 4096 := Nat.le_trans (couplesL_le a b side) (Nat.mul_le_mul ha hb)
    obtain ⟨pc, cc, rfl, HC⟩ := HOC.slice encC_len
    have hmc := HC.max
    have hlc := HC.le
    unfold maxLen at hmc
    have HX2 := HX1.out.trans hx2
    generalize hcps : couplesL a b side = cps at *
    have HCPS := hid hcps
    clear hcps hx2
    go_wp2
    go_loopw [10, 11, 12, 13] (fun v i _ _ wr => ∃ k : Nat, k ≤ cps.length ∧ i = .int .i64 k ∧ OwnsL wr w2.heap.size 37 2 encP v (matchesL ((cps.take k).map (·.2))) ∧ Ext w wr ∧ Ext w2 wr) (fun _ i _ _ _ => cps.length - (intOf i).toNat)
    case atStart => exact ⟨0, by omega, rfl, by simpa [matchesL] using OwnsL.nil _ _ _ _ _, HX2, Ext.refl _⟩
    case round =>
      obtain ⟨k, hk, rfl, HO, HX, HXX⟩ := hrel
      by_cases hlt : k < cps.length
      · have hml := matchesL_length ((cps.take k).map (·.2))
        rw [List.length_map, List.length_take] at hml
        generalize hout : matchesL ((cps.take k).map (·.2)) = o1 at *
        have hstep : matchesL ((cps.take (k + 1)).map (·.2)) = insM cps[k].2 o1 := by
          rw [List.take_succ_eq_append_getElem hlt, List.map_append, ← hout]
          unfold matchesL
          rw [List.foldl_append]; rfl
        have HSTEP := hid hstep
        clear hout hstep
        obtain ⟨po, co, rfl, HSL⟩ := HO.slice encP_len
        have hmo := HSL.max
        have hlo := HSL.le
        unfold maxLen at hmo
        obtain ⟨bc, fc, rfl, hbc, hcc⟩ := (HC.ext HXX).cp_at hlt
        generalize hx : cps[k].2 = x at *
        have HXK := hid hx
        have HCC := hid hcc
        obtain ⟨c0, c1, c2⟩ := hcc
        clear hx
        go_wp2_with fail
        (refine wp_region_noPanic (wp_region_plan [0, 1, 2, 3, 4, 5, 6, 7, 8, 9, 10] [11, 12] (fun w' => Ext wr w') (by kernel_rfl) (by kernel_rfl) (fun _ _ _ _ _ h => h) ((Ext.refl _).drew) ?_))
        ((refine wpTakes_nth (v := ?_) rfl rfl ?_ ?_; rotate_left 1; (· ((intro w hw; (try dsimp only at hw); (try go_split_ands); go_simp; try with_reducible rfl); all_goals go_simp; all_goals with_reducible rfl)); (try simp only [Act.put, List.setIfInBounds_toArray, List.set_cons_zero, List.set_cons_succ])); (refine wpTakes_nth (v := ?_) rfl rfl ?_ ?_; rotate_left 1; (· ((intro w hw; (try dsimp only at hw); (try go_split_ands); go_simp; try with_reducible rfl); all_goals go_simp; all_goals with_reducible rfl)); (try simp only [Act.put, List.setIfInBounds_toArray, List.set_cons_zero, List.set_cons_succ])); (refine wpTakes_nth (v := ?_) rfl rfl ?_ ?_; rotate_left 1; (· ((intro w hw; (try dsimp only at hw); (try go_split_ands); go_simp; try with_reducible rfl); all_goals go_simp; all_goals with_reducible rfl)); (try simp only [Act.put, List.setIfInBounds_toArray, List.set_cons_zero, List.set_cons_succ])); (refine wpTakes_nth (v := ?_) rfl rfl ?_ ?_; rotate_left 1; (· ((intro w hw; (try dsimp only at hw); (try go_split_ands); go_simp; try with_reducible rfl); all_goals go_simp; all_goals with_reducible rfl)); (try simp only [Act.put, List.setIfInBounds_toArray, List.set_cons_zero, List.set_cons_succ])))
        (refine wpTakes_nth (v := ?_) rfl rfl ?_ ?_; rotate_left 1; (· ((intro wl hwl; have l1 := (hwl.cell (p := ⟨bc, fc + k * 3 + 1, none⟩) hbc).trans HCC.out.2.1; clear hwl); all_goals go_simp; all_goals with_reducible rfl)); (try simp only [Act.put, List.setIfInBounds_toArray, List.set_cons_zero, List.set_cons_succ]))
        ((refine wpTakes_nth (v := ?_) rfl rfl ?_ ?_; rotate_left 1; (· ((intro w hw; (try dsimp only at hw); (try go_split_ands); go_simp; try with_reducible rfl); all_goals go_simp; all_goals with_reducible rfl)); (try simp only [Act.put, List.setIfInBounds_toArray, List.set_cons_zero, List.set_cons_succ])); (refine wpTakes_nth (v := ?_) rfl rfl ?_ ?_; rotate_left 1; (· ((intro w hw; (try dsimp only at hw); (try go_split_ands); go_simp; try with_reducible rfl); all_goals go_simp; all_goals with_reducible rfl)); (try simp only [Act.put, List.setIfInBounds_toArray, List.set_cons_zero, List.set_cons_succ])); (refine wpTakes_nth (v := ?_) rfl rfl ?_ ?_; rotate_left 1; (· ((intro w hw; (try dsimp only at hw); (try go_split_ands); go_simp; try with_reducible rfl); all_goals go_simp; all_goals with_reducible rfl)); (try simp only [Act.put, List.setIfInBounds_toArray, List.set_cons_zero, List.set_cons_succ])); (refine wpTakes_nth (v := ?_) rfl rfl ?_ ?_; rotate_left 1; (· ((intro w hw; (try dsimp only at hw); (try go_split_ands); go_simp; try with_reducible rfl); all_goals go_simp; all_goals with_reducible rfl)); (try simp only [Act.put, List.setIfInBounds_toArray, List.set_cons_zero, List.set_cons_succ])))
        (refine wpTakes_nth (v := ?_) rfl rfl ?_ ?_; rotate_left 1; (· ((intro wl hwl; have l1 := (hwl.cell (p := ⟨bc, fc + k * 3 + 2, none⟩) hbc).trans HCC.out.2.2; clear hwl); all_goals go_simp; all_goals with_reducible rfl)); (try simp only [Act.put, List.setIfInBounds_toArray, List.set_cons_zero, List.set_cons_succ]))
        (refine wpTakes_nth (v := ?_) rfl rfl ?_ ?_; rotate_left 1; (· ((intro w hw; (try dsimp only at hw); (try go_split_ands); go_simp; try with_reducible rfl); all_goals go_simp; all_goals with_reducible rfl)); (try simp only [Act.put, List.setIfInBounds_toArray, List.set_cons_zero, List.set_cons_succ]))
        refine wpTakes_nil ?_
        have HS0 := (Ext.refl wr).drew
        have e1 : (wr.drew.alloc (.cells #[.int .i64 0, .int .i64 0] 37)).heap[wr.heap.size]? = some (.cells #[.int .i64 0, .int .i64 0] 37 (0, 0)) := blk_newat (by simp) _
        (refine wpTail_nth rfl rfl (fun K hK => ?_); go_simp)
        ((try refine hK _ _ ?_); refine wpHold_mk ?_ ?_; (· (exact HS0.alloc _)); (try clear hK K); (try simp only [Act.put, List.setIfInBounds_toArray, List.set_cons_zero, List.set_cons_succ]))
        obtain ⟨z0, z1⟩ := cells2 e1
        obtain ⟨y0, y1⟩ := free2 e1
        (refine wpTail_nth rfl rfl (fun K hK => ?_); go_simp)
        ((try refine hK _ _ ?_); refine wpHold_mk ?_ ?_; (· (exact HS0.alloc _)); (try clear hK K); (try simp only [Act.put, List.setIfInBounds_toArray, List.set_cons_zero, List.set_cons_succ]))
        (refine wpTail_nil (NoPanic.normal ?_))
        -- begin of what gen_matches.py prints
        have e2 : (wr.alloc (.cells #[.int .i64 x.1, .int .i64 x.2] 37)).drew.heap[wr.heap.size]? = some (.cells #[.int .i64 x.1, .int .i64 x.2] 37 (0, 0)) := blk_drew (blk_new _ _)
        have hxc : Ext wr (wr.alloc (.cells #[.int .i64 x.1, .int .i64 x.2] 37)).drew := ((Ext.refl _).alloc _).drew
        obtain ⟨wc, hwc⟩ : ∃ wc, wc = (wr.alloc (.cells #[.int .i64 x.1, .int .i64 x.2] 37)).drew := ⟨_, rfl⟩
        rw [← hwc] at hxc e2 ⊢
        obtain ⟨wo, rfl⟩ : ∃ wo : World, wo = wr := ⟨_, rfl⟩
        have hblk : wc.heap[wo.heap.size]? = some (.cells #[.int .i64 x.1, .int .i64 x.2] 37 (0, 0)) := e2
        clear hwc e1 e2 z0 z1 y0 y1 c0 c1 c2
        go_wp2
        go_loopw [13] (fun i wz => ∃ r : Nat, r ≤ o1.length ∧ i = .int .i64 r ∧ (∀ c ∈ o1.take r, ltP c x = true) ∧ Ext wc wz) (fun i _ => o1.length - (intOf i).toNat)
        case atStart => exact ⟨0, by omega, rfl, by simp, Ext.refl _⟩
        case round =>
          obtain ⟨r, hr, rfl, hall, hxz⟩ := hrel
          have HALL := hid hall
          clear hall
          have hblk2 := blk_ext hxz hblk
          by_cases hrl : r < o1.length
          · obtain ⟨bo, fo, rfl, hbo, c0, c1⟩ := (HSL.ext (hxc.trans hxz)).pair_at hrl
            obtain ⟨d0, d1⟩ := cells2 hblk2
            have hcut : (ltP o1[r] x = true ∧ (decide (o1[r].1 < x.1) = true ∨ (decide (o1[r].1 < x.1) = false ∧ (o1[r].1 == x.1) = true ∧ decide (o1[r].2 < x.2) = true))) ∨
                (ltP o1[r] x = false ∧ ((decide (o1[r].1 < x.1) = false ∧ (o1[r].1 == x.1) = false ∧ o1[r] ≠ x) ∨ (decide (o1[r].1 < x.1) = false ∧ (o1[r].1 == x.1) = true ∧ decide (o1[r].2 < x.2) = false ∧ o1[r] ≠ x) ∨ (decide (o1[r].1 < x.1) = false ∧ (o1[r].1 == x.1) = true ∧ decide (o1[r].2 < x.2) = false ∧ o1[r] = x))) := by
              unfold ltP
              by_cases g1 : o1[r].1 < x.1
              · left; simp [g1]
              · by_cases g2 : o1[r].1 = x.1
                · by_cases g3 : o1[r].2 < x.2
                  · left; simp [g2, g3]
                  · right
                    by_cases g4 : o1[r] = x
                    · simp [g4]
                    · refine ⟨by simp [g2, g3], Or.inr (Or.inl ⟨by simp [g2], by simp [g2], by simpa using g3, g4⟩)⟩
                · right
                  refine ⟨by simp; omega, Or.inl ⟨by simpa using g1, by simpa using g2, fun e => g2 (by rw [e])⟩⟩
            generalize hy : o1[r] = y at *
            have HY := hid hy
            clear hy
            rcases hcut with ⟨hlt1, hcut⟩ | ⟨hge1, hcut⟩
            · have HL1 := hid hlt1
              clear hlt1
              rcases hcut with g1 | ⟨g1, g2, g3⟩
              all_goals
                go_wp2_with fail
                go_quiet (fail)
                go_wp2
                go_roundw
                case rel =>
                  refine ⟨r + 1, by omega, by go_num, ?_, hxz.drewN _⟩
                  intro c hc
                  rw [List.take_succ_eq_append_getElem hrl] at hc
                  rcases List.mem_append.1 hc with hc | hc
                  · exact HALL.out c hc
                  · simp at hc; rw [hc, HY.out]; exact HL1.out
                case measure => simp [intOf]; omega
            · have HG1 := hid hge1
              clear hge1
              have hneq := neq_entry y x
              have hgrd := fun xo yo => guard_entry .neq xo yo y x
              have hrne : ((r : Int) == (o1.length : Int)) = false := by simp; omega
              have hcr : ¬ co = r := by omega
              have hrco : r ≤ co := by omega
              rcases hcut with ⟨g1, g2, hne⟩ | ⟨g1, g2, g3, hne⟩ | ⟨g1, g2, g3, heq⟩
              · have hins : insM x o1 = o1.take r ++ x :: o1.drop r := insM_other hr HALL.out (fun _ => by rw [HY.out]; exact HG1.out) (fun _ => by rw [HY.out]; exact hne)
                have htl : (o1.take r).length = r := by rw [List.length_take]; omega
                have hdl : (o1.drop r).length = o1.length - r := List.length_drop
                have ht : (!decide (y = x)) = true := by simpa using hne
                have HINS := hid hins
                have HTL := hid htl
                have HDL := hid hdl
                clear hins htl hdl hne
                go_wp2_with fail
                go_quiet (fail)
                go_wp2
                obtain ⟨wq, hwq⟩ : ∃ wq, wq = wr.drewN nq := ⟨_, rfl⟩
                have hxq : Ext wc wq := by rw [hwq]; exact hxz.drewN _
                rw [← hwq]
                clear hwq hblk2 nq
                have hblk2 := blk_ext hxq hblk
                have HSLW := HSL.ext (hxc.trans hxq)
                obtain ⟨b3, f3, hpe, hb3, c0', c1'⟩ := HSLW.pair_at hrl
                cases hpe
                rw [HY.out] at c0' c1'
                obtain ⟨d0', d1'⟩ := cells2 hblk2
                clear c0 c1 d0 d1
                go_quiet (fail)
                go_wp2
                clear c0' c1' d0' d1'
                (refine wp_region_noPanic (wp_region_tree [1, 2, 3, 5, 8, 9, 10] (.two 0 (.two 4 (.one 6 (.one 7 (.one 11 (.one 12 .done)))) 6 (.one 4 (.one 7 (.one 11 (.one 12 .done))))) 6 (.one 0 (.one 4 (.one 7 (.one 11 (.one 12 .done)))))) (fun w' => w'.heap[wo.heap.size]? = some (.cells #[.int .i64 x.1, .int .i64 x.2] 37 (0, 0))) (by kernel_rfl) (by kernel_rfl) (fun _ _ _ _ _ h => h) hblk2 ?_))
                (refine wpTakes_nth (v := ?_) rfl rfl ?_ ?_; rotate_left 1; (· ((intro w hw; (try dsimp only at hw); (try go_split_ands); go_simp; try with_reducible rfl); all_goals go_simp; all_goals with_reducible rfl)); (try simp only [Act.put, List.setIfInBounds_toArray, List.set_cons_zero, List.set_cons_succ]))
                (refine wpTakes_nth (v := ?_) rfl rfl ?_ ?_; rotate_left 1; (· ((intro w hw; (try dsimp only at hw); (try go_split_ands); go_simp; try with_reducible rfl); all_goals go_simp; all_goals with_reducible rfl)); (try simp only [Act.put, List.setIfInBounds_toArray, List.set_cons_zero, List.set_cons_succ]))
                (refine wpTakes_nth (v := ?_) rfl rfl ?_ ?_; rotate_left 1; (· ((intro w hw; (try dsimp only at hw); (try go_split_ands); go_simp; try with_reducible rfl); all_goals go_simp; all_goals with_reducible rfl)); (try simp only [Act.put, List.setIfInBounds_toArray, List.set_cons_zero, List.set_cons_succ]))
                (refine wpTakes_nth (v := (.agg #[.int .i64 x.1, .int .i64 x.2])) rfl rfl ?_ ?_; (· ((intro wl hwl; obtain ⟨l0, l1⟩ := cells2 hwl; clear hwl); all_goals go_simp; all_goals with_reducible rfl)); (try simp only [Act.put, List.setIfInBounds_toArray, List.set_cons_zero, List.set_cons_succ]))
                ((refine wpTakes_nth (v := ?_) rfl rfl ?_ ?_; rotate_left 1; (· ((intro w hw; (try dsimp only at hw); (try go_split_ands); go_simp; try with_reducible rfl); all_goals go_simp; all_goals with_reducible rfl)); (try simp only [Act.put, List.setIfInBounds_toArray, List.set_cons_zero, List.set_cons_succ])); (refine wpTakes_nth (v := ?_) rfl rfl ?_ ?_; rotate_left 1; (· ((intro w hw; (try dsimp only at hw); (try go_split_ands); go_simp; try with_reducible rfl); all_goals go_simp; all_goals with_reducible rfl)); (try simp only [Act.put, List.setIfInBounds_toArray, List.set_cons_zero, List.set_cons_succ])); (refine wpTakes_nth (v := ?_) rfl rfl ?_ ?_; rotate_left 1; (· ((intro w hw; (try dsimp only at hw); (try go_split_ands); go_simp; try with_reducible rfl); all_goals go_simp; all_goals with_reducible rfl)); (try simp only [Act.put, List.setIfInBounds_toArray, List.set_cons_zero, List.set_cons_succ])))
                refine wpTakes_nil ?_
                have htl := HTL.out
                have hdl := HDL.out
                have HE0 : Ext wq (wq.drewN (nq + 1)) := (Ext.refl _).drewN _
                refine wpPlan_two ?_ ?_
                · (refine wpPlan_nth rfl rfl (fun K hK => ?_); go_simp)
                  have hOa : OwnsL ((wq.drewN (nq + 1)).alloc (.cells #[] 37)) wq.heap.size 37 2 encP (.slice (some ⟨wq.heap.size, 0, none⟩) 0 0) [] := OwnsL.fresh_at _ _ _ _ (blk_newat (by simp) _) (by omega)
                  have HE1 := HE0.alloc (.cells #[] 37)
                  ((try refine hK _ _ ?_); refine wpHoldT_mk ?_ ?_; (· (exact blk_ext HE1 hblk2)); (try clear hK K); (try simp only [Act.put, List.setIfInBounds_toArray, List.set_cons_zero, List.set_cons_succ]))
                  refine wpPlan_two ?_ ?_
                  · (refine wpPlan_nth rfl rfl (fun K hK => ?_))
                    refine opWp_append_many elemE (by decide) _ _ rfl wq.heap.size _ [] (o1.take r) rfl hOa _ _ (by rw [htl]; rfl) ((HSLW.ext HE1).take r) (by rw [htl]; simp; omega) HE1.size ?_
                    intro v1 w2 hO2 hg2 hat2
                    have HE2 := HE1.grownL hOa (Nat.le_refl _) hg2
                    ((try refine hK _ _ ?_); refine wpHoldT_mk ?_ ?_; (· (exact blk_ext HE2 hblk2)); (try clear hK K); (try simp only [Act.put, List.setIfInBounds_toArray, List.set_cons_zero, List.set_cons_succ]))
                    (refine wpPlan_nth rfl rfl (fun K hK => ?_); go_simp)
                    have hbox : (w2.alloc (.cells #[.int .i64 x.1, .int .i64 x.2] 37)).heap[w2.heap.size]? = some (.cells #[.int .i64 x.1, .int .i64 x.2] 37 (0, 0)) := blk_newat (by simp) _
                    have HE3 := HE2.alloc (.cells #[.int .i64 x.1, .int .i64 x.2] 37)
                    ((try refine hK _ _ ?_); refine wpHoldT_mk ?_ ?_; (· (exact blk_ext HE3 hblk2)); (try clear hK K); (try simp only [Act.put, List.setIfInBounds_toArray, List.set_cons_zero, List.set_cons_succ]))
                    have hOb := hO2.alloc (.cells #[.int .i64 x.1, .int .i64 x.2] 37)
                    (refine wpPlan_nth rfl rfl (fun K hK => ?_))
                    refine opWp_append_one elemE (by decide) _ _ rfl wq.heap.size _ _ rfl hOb (w2.heap.size) 1 x rfl (cells2_at hbox) (by simp; omega) HE3.size ?_
                    intro v3 w4 hO4 hg4
                    have HE4 := HE3.grownL hOb (Nat.le_refl _) hg4
                    ((try refine hK _ _ ?_); refine wpHoldT_mk ?_ ?_; (· (exact blk_ext HE4 hblk2)); (try clear hK K); (try simp only [Act.put, List.setIfInBounds_toArray, List.set_cons_zero, List.set_cons_succ]))
                    (refine wpPlan_nth rfl rfl (fun K hK => ?_))
                    refine opWp_append_many elemE (by decide) _ _ rfl wq.heap.size _ _ (o1.drop r) rfl hO4 _ _ (by rw [hdl]; rfl) ((HSLW.ext HE4).drop_some hrl) (by simp; omega) HE4.size ?_
                    intro v5 w6 hO6 hg6 hat6
                    have HEZ := HE4.grownL hO4 (Nat.le_refl _) hg6
                    ((try refine hK _ _ ?_); refine wpHoldT_mk ?_ ?_; (· (exact blk_ext HEZ hblk2)); (try clear hK K); (try simp only [Act.put, List.setIfInBounds_toArray, List.set_cons_zero, List.set_cons_succ]))
                    (refine wpPlan_nth rfl rfl (fun K hK => ?_); go_simp)
                    ((try refine hK _ _ ?_); refine wpHoldT_mk ?_ ?_; (· (exact blk_ext HEZ hblk2)); (try clear hK K); (try simp only [Act.put, List.setIfInBounds_toArray, List.set_cons_zero, List.set_cons_succ]))
                    (refine wpPlan_done (NoPanic.normal ?_))
                    go_wp2
                    go_roundw
                    case rel =>
                      refine ⟨k + 1, by omega, by go_num, ?_, (HX.trans (hxc.trans hxq)).trans HEZ, (HXX.trans (hxc.trans hxq)).trans HEZ⟩
                      rw [HSTEP.out, HINS.out]
                      simpa using hO6.of_base ((HXX.trans (hxc.trans hxq)).size)
                    case measure => simp [intOf]; omega
                  · (refine wpPlan_nth rfl rfl (fun K hK => ?_); go_simp)
                    have hbox : (((wq.drewN (nq + 1)).alloc (.cells #[] 37)).alloc (.cells #[.int .i64 x.1, .int .i64 x.2] 37)).heap[wq.heap.size + 1]? = some (.cells #[.int .i64 x.1, .int .i64 x.2] 37 (0, 0)) := blk_newat (by simp) _
                    have HE2 := HE1.alloc (.cells #[.int .i64 x.1, .int .i64 x.2] 37)
                    ((try refine hK _ _ ?_); refine wpHoldT_mk ?_ ?_; (· (exact blk_ext HE2 hblk2)); (try clear hK K); (try simp only [Act.put, List.setIfInBounds_toArray, List.set_cons_zero, List.set_cons_succ]))
                    have hOb := hOa.alloc (.cells #[.int .i64 x.1, .int .i64 x.2] 37)
                    (refine wpPlan_nth rfl rfl (fun K hK => ?_))
                    refine opWp_append_many elemE (by decide) _ _ rfl wq.heap.size _ [] (o1.take r) rfl hOb _ _ (by rw [htl]; rfl) ((HSLW.ext HE2).take r) (by rw [htl]; simp; omega) HE2.size ?_
                    intro v1 w2 hO2 hg2 hat2
                    have HE3 := HE2.grownL hOb (Nat.le_refl _) hg2
                    ((try refine hK _ _ ?_); refine wpHoldT_mk ?_ ?_; (· (exact blk_ext HE3 hblk2)); (try clear hK K); (try simp only [Act.put, List.setIfInBounds_toArray, List.set_cons_zero, List.set_cons_succ]))
                    have hbx := blk_grownL hg2 hbox (fun r hr e => by have := Option.some.inj hr; simp at this; omega)
                    (refine wpPlan_nth rfl rfl (fun K hK => ?_))
                    refine opWp_append_one elemE (by decide) _ _ rfl wq.heap.size _ _ rfl hO2 (wq.heap.size + 1) 1 x rfl (cells2_at hbx) (by simp; omega) HE3.size ?_
                    intro v3 w4 hO4 hg4
                    have HE4 := HE3.grownL hO2 (Nat.le_refl _) hg4
                    ((try refine hK _ _ ?_); refine wpHoldT_mk ?_ ?_; (· (exact blk_ext HE4 hblk2)); (try clear hK K); (try simp only [Act.put, List.setIfInBounds_toArray, List.set_cons_zero, List.set_cons_succ]))
                    (refine wpPlan_nth rfl rfl (fun K hK => ?_))
                    refine opWp_append_many elemE (by decide) _ _ rfl wq.heap.size _ _ (o1.drop r) rfl hO4 _ _ (by rw [hdl]; rfl) ((HSLW.ext HE4).drop_some hrl) (by simp; omega) HE4.size ?_
                    intro v5 w6 hO6 hg6 hat6
                    have HEZ := HE4.grownL hO4 (Nat.le_refl _) hg6
                    ((try refine hK _ _ ?_); refine wpHoldT_mk ?_ ?_; (· (exact blk_ext HEZ hblk2)); (try clear hK K); (try simp only [Act.put, List.setIfInBounds_toArray, List.set_cons_zero, List.set_cons_succ]))
                    (refine wpPlan_nth rfl rfl (fun K hK => ?_); go_simp)
                    ((try refine hK _ _ ?_); refine wpHoldT_mk ?_ ?_; (· (exact blk_ext HEZ hblk2)); (try clear hK K); (try simp only [Act.put, List.setIfInBounds_toArray, List.set_cons_zero, List.set_cons_succ]))
                    (refine wpPlan_done (NoPanic.normal ?_))
                    go_wp2
                    go_roundw
                    case rel =>
                      refine ⟨k + 1, by omega, by go_num, ?_, (HX.trans (hxc.trans hxq)).trans HEZ, (HXX.trans (hxc.trans hxq)).trans HEZ⟩
                      rw [HSTEP.out, HINS.out]
                      simpa using hO6.of_base ((HXX.trans (hxc.trans hxq)).size)
                    case measure => simp [intOf]; omega
                · (refine wpPlan_nth rfl rfl (fun K hK => ?_); go_simp)
                  have hbox : ((wq.drewN (nq + 1)).alloc (.cells #[.int .i64 x.1, .int .i64 x.2] 37)).heap[wq.heap.size]? = some (.cells #[.int .i64 x.1, .int .i64 x.2] 37 (0, 0)) := blk_newat (by simp) _
                  have HE1 := HE0.alloc (.cells #[.int .i64 x.1, .int .i64 x.2] 37)
                  ((try refine hK _ _ ?_); refine wpHoldT_mk ?_ ?_; (· (exact blk_ext HE1 hblk2)); (try clear hK K); (try simp only [Act.put, List.setIfInBounds_toArray, List.set_cons_zero, List.set_cons_succ]))
                  (refine wpPlan_nth rfl rfl (fun K hK => ?_); go_simp)
                  have hOa : OwnsL (((wq.drewN (nq + 1)).alloc (.cells #[.int .i64 x.1, .int .i64 x.2] 37)).alloc (.cells #[] 37)) wq.heap.size 37 2 encP (.slice (some ⟨wq.heap.size + 1, 0, none⟩) 0 0) [] := OwnsL.fresh_at _ _ _ _ (blk_newat (by simp) _) (by omega)
                  have HE2 := HE1.alloc (.cells #[] 37)
                  ((try refine hK _ _ ?_); refine wpHoldT_mk ?_ ?_; (· (exact blk_ext HE2 hblk2)); (try clear hK K); (try simp only [Act.put, List.setIfInBounds_toArray, List.set_cons_zero, List.set_cons_succ]))
                  (refine wpPlan_nth rfl rfl (fun K hK => ?_))
                  refine opWp_append_many elemE (by decide) _ _ rfl wq.heap.size _ [] (o1.take r) rfl hOa _ _ (by rw [htl]; rfl) ((HSLW.ext HE2).take r) (by rw [htl]; simp; omega) HE2.size ?_
                  intro v1 w2 hO2 hg2 hat2
                  have HE3 := HE2.grownL hOa (Nat.le_refl _) hg2
                  ((try refine hK _ _ ?_); refine wpHoldT_mk ?_ ?_; (· (exact blk_ext HE3 hblk2)); (try clear hK K); (try simp only [Act.put, List.setIfInBounds_toArray, List.set_cons_zero, List.set_cons_succ]))
                  have hbx := blk_grownL hg2 (blk_alloc hbox) (fun r hr e => by have := Option.some.inj hr; simp at this; omega)
                  (refine wpPlan_nth rfl rfl (fun K hK => ?_))
                  refine opWp_append_one elemE (by decide) _ _ rfl wq.heap.size _ _ rfl hO2 (wq.heap.size) 1 x rfl (cells2_at hbx) (by simp; omega) HE3.size ?_
                  intro v3 w4 hO4 hg4
                  have HE4 := HE3.grownL hO2 (Nat.le_refl _) hg4
                  ((try refine hK _ _ ?_); refine wpHoldT_mk ?_ ?_; (· (exact blk_ext HE4 hblk2)); (try clear hK K); (try simp only [Act.put, List.setIfInBounds_toArray, List.set_cons_zero, List.set_cons_succ]))
                  (refine wpPlan_nth rfl rfl (fun K hK => ?_))
                  refine opWp_append_many elemE (by decide) _ _ rfl wq.heap.size _ _ (o1.drop r) rfl hO4 _ _ (by rw [hdl]; rfl) ((HSLW.ext HE4).drop_some hrl) (by simp; omega) HE4.size ?_
                  intro v5 w6 hO6 hg6 hat6
                  have HEZ := HE4.grownL hO4 (Nat.le_refl _) hg6
                  ((try refine hK _ _ ?_); refine wpHoldT_mk ?_ ?_; (· (exact blk_ext HEZ hblk2)); (try clear hK K); (try simp only [Act.put, List.setIfInBounds_toArray, List.set_cons_zero, List.set_cons_succ]))
                  (refine wpPlan_nth rfl rfl (fun K hK => ?_); go_simp)
                  ((try refine hK _ _ ?_); refine wpHoldT_mk ?_ ?_; (· (exact blk_ext HEZ hblk2)); (try clear hK K); (try simp only [Act.put, List.setIfInBounds_toArray, List.set_cons_zero, List.set_cons_succ]))
                  (refine wpPlan_done (NoPanic.normal ?_))
                  go_wp2
                  go_roundw
                  case rel =>
                    refine ⟨k + 1, by omega, by go_num, ?_, (HX.trans (hxc.trans hxq)).trans HEZ, (HXX.trans (hxc.trans hxq)).trans HEZ⟩
                    rw [HSTEP.out, HINS.out]
                    simpa using hO6.of_base ((HXX.trans (hxc.trans hxq)).size)
                  case measure => simp [intOf]; omega
              · have hins : insM x o1 = o1.take r ++ x :: o1.drop r := insM_other hr HALL.out (fun _ => by rw [HY.out]; exact HG1.out) (fun _ => by rw [HY.out]; exact hne)
                have htl : (o1.take r).length = r := by rw [List.length_take]; omega
                have hdl : (o1.drop r).length = o1.length - r := List.length_drop
                have ht : (!decide (y = x)) = true := by simpa using hne
                have HINS := hid hins
                have HTL := hid htl
                have HDL := hid hdl
                clear hins htl hdl hne
                go_wp2_with fail
                go_quiet (fail)
                go_wp2
                obtain ⟨wq, hwq⟩ : ∃ wq, wq = wr.drewN nq := ⟨_, rfl⟩
                have hxq : Ext wc wq := by rw [hwq]; exact hxz.drewN _
                rw [← hwq]
                clear hwq hblk2 nq
                have hblk2 := blk_ext hxq hblk
                have HSLW := HSL.ext (hxc.trans hxq)
                obtain ⟨b3, f3, hpe, hb3, c0', c1'⟩ := HSLW.pair_at hrl
                cases hpe
                rw [HY.out] at c0' c1'
                obtain ⟨d0', d1'⟩ := cells2 hblk2
                clear c0 c1 d0 d1
                go_quiet (fail)
                go_wp2
                clear c0' c1' d0' d1'
                (refine wp_region_noPanic (wp_region_tree [1, 2, 3, 5, 8, 9, 10] (.two 0 (.two 4 (.one 6 (.one 7 (.one 11 (.one 12 .done)))) 6 (.one 4 (.one 7 (.one 11 (.one 12 .done))))) 6 (.one 0 (.one 4 (.one 7 (.one 11 (.one 12 .done)))))) (fun w' => w'.heap[wo.heap.size]? = some (.cells #[.int .i64 x.1, .int .i64 x.2] 37 (0, 0))) (by kernel_rfl) (by kernel_rfl) (fun _ _ _ _ _ h => h) hblk2 ?_))
                (refine wpTakes_nth (v := ?_) rfl rfl ?_ ?_; rotate_left 1; (· ((intro w hw; (try dsimp only at hw); (try go_split_ands); go_simp; try with_reducible rfl); all_goals go_simp; all_goals with_reducible rfl)); (try simp only [Act.put, List.setIfInBounds_toArray, List.set_cons_zero, List.set_cons_succ]))
                (refine wpTakes_nth (v := ?_) rfl rfl ?_ ?_; rotate_left 1; (· ((intro w hw; (try dsimp only at hw); (try go_split_ands); go_simp; try with_reducible rfl); all_goals go_simp; all_goals with_reducible rfl)); (try simp only [Act.put, List.setIfInBounds_toArray, List.set_cons_zero, List.set_cons_succ]))
                (refine wpTakes_nth (v := ?_) rfl rfl ?_ ?_; rotate_left 1; (· ((intro w hw; (try dsimp only at hw); (try go_split_ands); go_simp; try with_reducible rfl); all_goals go_simp; all_goals with_reducible rfl)); (try simp only [Act.put, List.setIfInBounds_toArray, List.set_cons_zero, List.set_cons_succ]))
                (refine wpTakes_nth (v := (.agg #[.int .i64 x.1, .int .i64 x.2])) rfl rfl ?_ ?_; (· ((intro wl hwl; obtain ⟨l0, l1⟩ := cells2 hwl; clear hwl); all_goals go_simp; all_goals with_reducible rfl)); (try simp only [Act.put, List.setIfInBounds_toArray, List.set_cons_zero, List.set_cons_succ]))
                ((refine wpTakes_nth (v := ?_) rfl rfl ?_ ?_; rotate_left 1; (· ((intro w hw; (try dsimp only at hw); (try go_split_ands); go_simp; try with_reducible rfl); all_goals go_simp; all_goals with_reducible rfl)); (try simp only [Act.put, List.setIfInBounds_toArray, List.set_cons_zero, List.set_cons_succ])); (refine wpTakes_nth (v := ?_) rfl rfl ?_ ?_; rotate_left 1; (· ((intro w hw; (try dsimp only at hw); (try go_split_ands); go_simp; try with_reducible rfl); all_goals go_simp; all_goals with_reducible rfl)); (try simp only [Act.put, List.setIfInBounds_toArray, List.set_cons_zero, List.set_cons_succ])); (refine wpTakes_nth (v := ?_) rfl rfl ?_ ?_; rotate_left 1; (· ((intro w hw; (try dsimp only at hw); (try go_split_ands); go_simp; try with_reducible rfl); all_goals go_simp; all_goals with_reducible rfl)); (try simp only [Act.put, List.setIfInBounds_toArray, List.set_cons_zero, List.set_cons_succ])))
                refine wpTakes_nil ?_
                have htl := HTL.out
                have hdl := HDL.out
                have HE0 : Ext wq (wq.drewN (nq + 1)) := (Ext.refl _).drewN _
                refine wpPlan_two ?_ ?_
                · (refine wpPlan_nth rfl rfl (fun K hK => ?_); go_simp)
                  have hOa : OwnsL ((wq.drewN (nq + 1)).alloc (.cells #[] 37)) wq.heap.size 37 2 encP (.slice (some ⟨wq.heap.size, 0, none⟩) 0 0) [] := OwnsL.fresh_at _ _ _ _ (blk_newat (by simp) _) (by omega)
                  have HE1 := HE0.alloc (.cells #[] 37)
                  ((try refine hK _ _ ?_); refine wpHoldT_mk ?_ ?_; (· (exact blk_ext HE1 hblk2)); (try clear hK K); (try simp only [Act.put, List.setIfInBounds_toArray, List.set_cons_zero, List.set_cons_succ]))
                  refine wpPlan_two ?_ ?_
                  · (refine wpPlan_nth rfl rfl (fun K hK => ?_))
                    refine opWp_append_many elemE (by decide) _ _ rfl wq.heap.size _ [] (o1.take r) rfl hOa _ _ (by rw [htl]; rfl) ((HSLW.ext HE1).take r) (by rw [htl]; simp; omega) HE1.size ?_
                    intro v1 w2 hO2 hg2 hat2
                    have HE2 := HE1.grownL hOa (Nat.le_refl _) hg2
                    ((try refine hK _ _ ?_); refine wpHoldT_mk ?_ ?_; (· (exact blk_ext HE2 hblk2)); (try clear hK K); (try simp only [Act.put, List.setIfInBounds_toArray, List.set_cons_zero, List.set_cons_succ]))
                    (refine wpPlan_nth rfl rfl (fun K hK => ?_); go_simp)
                    have hbox : (w2.alloc (.cells #[.int .i64 x.1, .int .i64 x.2] 37)).heap[w2.heap.size]? = some (.cells #[.int .i64 x.1, .int .i64 x.2] 37 (0, 0)) := blk_newat (by simp) _
                    have HE3 := HE2.alloc (.cells #[.int .i64 x.1, .int .i64 x.2] 37)
                    ((try refine hK _ _ ?_); refine wpHoldT_mk ?_ ?_; (· (exact blk_ext HE3 hblk2)); (try clear hK K); (try simp only [Act.put, List.setIfInBounds_toArray, List.set_cons_zero, List.set_cons_succ]))
                    have hOb := hO2.alloc (.cells #[.int .i64 x.1, .int .i64 x.2] 37)
                    (refine wpPlan_nth rfl rfl (fun K hK => ?_))
                    refine opWp_append_one elemE (by decide) _ _ rfl wq.heap.size _ _ rfl hOb (w2.heap.size) 1 x rfl (cells2_at hbox) (by simp; omega) HE3.size ?_
                    intro v3 w4 hO4 hg4
                    have HE4 := HE3.grownL hOb (Nat.le_refl _) hg4
                    ((try refine hK _ _ ?_); refine wpHoldT_mk ?_ ?_; (· (exact blk_ext HE4 hblk2)); (try clear hK K); (try simp only [Act.put, List.setIfInBounds_toArray, List.set_cons_zero, List.set_cons_succ]))
                    (refine wpPlan_nth rfl rfl (fun K hK => ?_))
                    refine opWp_append_many elemE (by decide) _ _ rfl wq.heap.size _ _ (o1.drop r) rfl hO4 _ _ (by rw [hdl]; rfl) ((HSLW.ext HE4).drop_some hrl) (by simp; omega) HE4.size ?_
                    intro v5 w6 hO6 hg6 hat6
                    have HEZ := HE4.grownL hO4 (Nat.le_refl _) hg6
                    ((try refine hK _ _ ?_); refine wpHoldT_mk ?_ ?_; (· (exact blk_ext HEZ hblk2)); (try clear hK K); (try simp only [Act.put, List.setIfInBounds_toArray, List.set_cons_zero, List.set_cons_succ]))
                    (refine wpPlan_nth rfl rfl (fun K hK => ?_); go_simp)
                    ((try refine hK _ _ ?_); refine wpHoldT_mk ?_ ?_; (· (exact blk_ext HEZ hblk2)); (try clear hK K); (try simp only [Act.put, List.setIfInBounds_toArray, List.set_cons_zero, List.set_cons_succ]))
                    (refine wpPlan_done (NoPanic.normal ?_))
                    go_wp2
                    go_roundw
                    case rel =>
                      refine ⟨k + 1, by omega, by go_num, ?_, (HX.trans (hxc.trans hxq)).trans HEZ, (HXX.trans (hxc.trans hxq)).trans HEZ⟩
                      rw [HSTEP.out, HINS.out]
                      simpa using hO6.of_base ((HXX.trans (hxc.trans hxq)).size)
                    case measure => simp [intOf]; omega
                  · (refine wpPlan_nth rfl rfl (fun K hK => ?_); go_simp)
                    have hbox : (((wq.drewN (nq + 1)).alloc (.cells #[] 37)).alloc (.cells #[.int .i64 x.1, .int .i64 x.2] 37)).heap[wq.heap.size + 1]? = some (.cells #[.int .i64 x.1, .int .i64 x.2] 37 (0, 0)) := blk_newat (by simp) _
                    have HE2 := HE1.alloc (.cells #[.int .i64 x.1, .int .i64 x.2] 37)
                    ((try refine hK _ _ ?_); refine wpHoldT_mk ?_ ?_; (· (exact blk_ext HE2 hblk2)); (try clear hK K); (try simp only [Act.put, List.setIfInBounds_toArray, List.set_cons_zero, List.set_cons_succ]))
                    have hOb := hOa.alloc (.cells #[.int .i64 x.1, .int .i64 x.2] 37)
                    (refine wpPlan_nth rfl rfl (fun K hK => ?_))
                    refine opWp_append_many elemE (by decide) _ _ rfl wq.heap.size _ [] (o1.take r) rfl hOb _ _ (by rw [htl]; rfl) ((HSLW.ext HE2).take r) (by rw [htl]; simp; omega) HE2.size ?_
                    intro v1 w2 hO2 hg2 hat2
                    have HE3 := HE2.grownL hOb (Nat.le_refl _) hg2
                    ((try refine hK _ _ ?_); refine wpHoldT_mk ?_ ?_; (· (exact blk_ext HE3 hblk2)); (try clear hK K); (try simp only [Act.put, List.setIfInBounds_toArray, List.set_cons_zero, List.set_cons_succ]))
                    have hbx := blk_grownL hg2 hbox (fun r hr e => by have := Option.some.inj hr; simp at this; omega)
                    (refine wpPlan_nth rfl rfl (fun K hK => ?_))
                    refine opWp_append_one elemE (by decide) _ _ rfl wq.heap.size _ _ rfl hO2 (wq.heap.size + 1) 1 x rfl (cells2_at hbx) (by simp; omega) HE3.size ?_
                    intro v3 w4 hO4 hg4
                    have HE4 := HE3.grownL hO2 (Nat.le_refl _) hg4
                    ((try refine hK _ _ ?_); refine wpHoldT_mk ?_ ?_; (· (exact blk_ext HE4 hblk2)); (try clear hK K); (try simp only [Act.put, List.setIfInBounds_toArray, List.set_cons_zero, List.set_cons_succ]))
                    (refine wpPlan_nth rfl rfl (fun K hK => ?_))
                    refine opWp_append_many elemE (by decide) _ _ rfl wq.heap.size _ _ (o1.drop r) rfl hO4 _ _ (by rw [hdl]; rfl) ((HSLW.ext HE4).drop_some hrl) (by simp; omega) HE4.size ?_
                    intro v5 w6 hO6 hg6 hat6
                    have HEZ := HE4.grownL hO4 (Nat.le_refl _) hg6
                    ((try refine hK _ _ ?_); refine wpHoldT_mk ?_ ?_; (· (exact blk_ext HEZ hblk2)); (try clear hK K); (try simp only [Act.put, List.setIfInBounds_toArray, List.set_cons_zero, List.set_cons_succ]))
                    (refine wpPlan_nth rfl rfl (fun K hK => ?_); go_simp)
                    ((try refine hK _ _ ?_); refine wpHoldT_mk ?_ ?_; (· (exact blk_ext HEZ hblk2)); (try clear hK K); (try simp only [Act.put, List.setIfInBounds_toArray, List.set_cons_zero, List.set_cons_succ]))
                    (refine wpPlan_done (NoPanic.normal ?_))
                    go_wp2
                    go_roundw
                    case rel =>
                      refine ⟨k + 1, by omega, by go_num, ?_, (HX.trans (hxc.trans hxq)).trans HEZ, (HXX.trans (hxc.trans hxq)).trans HEZ⟩
                      rw [HSTEP.out, HINS.out]
                      simpa using hO6.of_base ((HXX.trans (hxc.trans hxq)).size)
                    case measure => simp [intOf]; omega
                · (refine wpPlan_nth rfl rfl (fun K hK => ?_); go_simp)
                  have hbox : ((wq.drewN (nq + 1)).alloc (.cells #[.int .i64 x.1, .int .i64 x.2] 37)).heap[wq.heap.size]? = some (.cells #[.int .i64 x.1, .int .i64 x.2] 37 (0, 0)) := blk_newat (by simp) _
                  have HE1 := HE0.alloc (.cells #[.int .i64 x.1, .int .i64 x.2] 37)
                  ((try refine hK _ _ ?_); refine wpHoldT_mk ?_ ?_; (· (exact blk_ext HE1 hblk2)); (try clear hK K); (try simp only [Act.put, List.setIfInBounds_toArray, List.set_cons_zero, List.set_cons_succ]))
                  (refine wpPlan_nth rfl rfl (fun K hK => ?_); go_simp)
                  have hOa : OwnsL (((wq.drewN (nq + 1)).alloc (.cells #[.int .i64 x.1, .int .i64 x.2] 37)).alloc (.cells #[] 37)) wq.heap.size 37 2 encP (.slice (some ⟨wq.heap.size + 1, 0, none⟩) 0 0) [] := OwnsL.fresh_at _ _ _ _ (blk_newat (by simp) _) (by omega)
                  have HE2 := HE1.alloc (.cells #[] 37)
                  ((try refine hK _ _ ?_); refine wpHoldT_mk ?_ ?_; (· (exact blk_ext HE2 hblk2)); (try clear hK K); (try simp only [Act.put, List.setIfInBounds_toArray, List.set_cons_zero, List.set_cons_succ]))
                  (refine wpPlan_nth rfl rfl (fun K hK => ?_))
                  refine opWp_append_many elemE (by decide) _ _ rfl wq.heap.size _ [] (o1.take r) rfl hOa _ _ (by rw [htl]; rfl) ((HSLW.ext HE2).take r) (by rw [htl]; simp; omega) HE2.size ?_
                  intro v1 w2 hO2 hg2 hat2
                  have HE3 := HE2.grownL hOa (Nat.le_refl _) hg2
                  ((try refine hK _ _ ?_); refine wpHoldT_mk ?_ ?_; (· (exact blk_ext HE3 hblk2)); (try clear hK K); (try simp only [Act.put, List.setIfInBounds_toArray, List.set_cons_zero, List.set_cons_succ]))
                  have hbx := blk_grownL hg2 (blk_alloc hbox) (fun r hr e => by have := Option.some.inj hr; simp at this; omega)
                  (refine wpPlan_nth rfl rfl (fun K hK => ?_))
                  refine opWp_append_one elemE (by decide) _ _ rfl wq.heap.size _ _ rfl hO2 (wq.heap.size) 1 x rfl (cells2_at hbx) (by simp; omega) HE3.size ?_
                  intro v3 w4 hO4 hg4
                  have HE4 := HE3.grownL hO2 (Nat.le_refl _) hg4
                  ((try refine hK _ _ ?_); refine wpHoldT_mk ?_ ?_; (· (exact blk_ext HE4 hblk2)); (try clear hK K); (try simp only [Act.put, List.setIfInBounds_toArray, List.set_cons_zero, List.set_cons_succ]))
                  (refine wpPlan_nth rfl rfl (fun K hK => ?_))
                  refine opWp_append_many elemE (by decide) _ _ rfl wq.heap.size _ _ (o1.drop r) rfl hO4 _ _ (by rw [hdl]; rfl) ((HSLW.ext HE4).drop_some hrl) (by simp; omega) HE4.size ?_
                  intro v5 w6 hO6 hg6 hat6
                  have HEZ := HE4.grownL hO4 (Nat.le_refl _) hg6
                  ((try refine hK _ _ ?_); refine wpHoldT_mk ?_ ?_; (· (exact blk_ext HEZ hblk2)); (try clear hK K); (try simp only [Act.put, List.setIfInBounds_toArray, List.set_cons_zero, List.set_cons_succ]))
                  (refine wpPlan_nth rfl rfl (fun K hK => ?_); go_simp)
                  ((try refine hK _ _ ?_); refine wpHoldT_mk ?_ ?_; (· (exact blk_ext HEZ hblk2)); (try clear hK K); (try simp only [Act.put, List.setIfInBounds_toArray, List.set_cons_zero, List.set_cons_succ]))
                  (refine wpPlan_done (NoPanic.normal ?_))
                  go_wp2
                  go_roundw
                  case rel =>
                    refine ⟨k + 1, by omega, by go_num, ?_, (HX.trans (hxc.trans hxq)).trans HEZ, (HXX.trans (hxc.trans hxq)).trans HEZ⟩
                    rw [HSTEP.out, HINS.out]
                    simpa using hO6.of_base ((HXX.trans (hxc.trans hxq)).size)
                  case measure => simp [intOf]; omega
              · have hins : insM x o1 = o1 := insM_same hrl HALL.out (by rw [HY.out]; exact HG1.out) (by rw [HY.out]; exact heq)
                have ht : (!decide (y = x)) = false := by simpa using heq
                have HINS := hid hins
                clear hins heq
                go_wp2_with fail
                go_quiet (fail)
                go_wp2
                obtain ⟨wq, hwq⟩ : ∃ wq, wq = wr.drewN nq := ⟨_, rfl⟩
                have hxq : Ext wc wq := by rw [hwq]; exact hxz.drewN _
                rw [← hwq]
                clear hwq hblk2 nq
                have hblk2 := blk_ext hxq hblk
                have HSLW := HSL.ext (hxc.trans hxq)
                obtain ⟨b3, f3, hpe, hb3, c0', c1'⟩ := HSLW.pair_at hrl
                cases hpe
                rw [HY.out] at c0' c1'
                obtain ⟨d0', d1'⟩ := cells2 hblk2
                clear c0 c1 d0 d1
                go_quiet (fail)
                go_wp2
                clear c0' c1' d0' d1'
                go_roundw
                case rel => exact ⟨k + 1, by omega, by go_num, by rw [HSTEP.out, HINS.out]; exact (HO.ext (hxc.trans hxq)).drewN _, (HX.trans (hxc.trans hxq)).drewN _, (HXX.trans (hxc.trans hxq)).drewN _⟩
                case measure => simp [intOf]; omega
          · have hke : r = o1.length := by omega
            subst hke
            have hins : insM x o1 = o1.take o1.length ++ x :: o1.drop o1.length := insM_other (Nat.le_refl _) HALL.out (fun h => absurd h (Nat.lt_irrefl _)) (fun h => absurd h (Nat.lt_irrefl _))
            have htl : (o1.take o1.length).length = o1.length := by rw [List.length_take]; omega
            have hdl : (o1.drop o1.length).length = o1.length - o1.length := List.length_drop
            have hrn : decide ((o1.length : Int) < (o1.length : Int)) = false := by simp
            have hrne : ((o1.length : Int) == (o1.length : Int)) = true := by simp
            have hrco : o1.length ≤ co := by omega
            have HINS := hid hins
            have HTL := hid htl
            have HDL := hid hdl
            obtain ⟨d0, d1⟩ := cells2 hblk2
            clear hins htl hdl
            go_wp2_with fail
            go_quiet (fail)
            go_wp2
            obtain ⟨wq, hwq⟩ : ∃ wq, wq = wr.drewN nq := ⟨_, rfl⟩
            have hxq : Ext wc wq := by rw [hwq]; exact hxz.drewN _
            rw [← hwq]
            clear hwq hblk2 nq
            have hblk2 := blk_ext hxq hblk
            have HSLW := HSL.ext (hxc.trans hxq)
            clear d0 d1
            go_quiet (fail)
            go_wp2
            (refine wp_region_noPanic (wp_region_tree [1, 2, 3, 5, 8, 9, 10] (.two 0 (.two 4 (.one 6 (.one 7 (.one 11 (.one 12 .done)))) 6 (.one 4 (.one 7 (.one 11 (.one 12 .done))))) 6 (.one 0 (.one 4 (.one 7 (.one 11 (.one 12 .done)))))) (fun w' => w'.heap[wo.heap.size]? = some (.cells #[.int .i64 x.1, .int .i64 x.2] 37 (0, 0))) (by kernel_rfl) (by kernel_rfl) (fun _ _ _ _ _ h => h) hblk2 ?_))
            (refine wpTakes_nth (v := ?_) rfl rfl ?_ ?_; rotate_left 1; (· ((intro w hw; (try dsimp only at hw); (try go_split_ands); go_simp; try with_reducible rfl); all_goals go_simp; all_goals with_reducible rfl)); (try simp only [Act.put, List.setIfInBounds_toArray, List.set_cons_zero, List.set_cons_succ]))
            (refine wpTakes_nth (v := ?_) rfl rfl ?_ ?_; rotate_left 1; (· ((intro w hw; (try dsimp only at hw); (try go_split_ands); go_simp; try with_reducible rfl); all_goals go_simp; all_goals with_reducible rfl)); (try simp only [Act.put, List.setIfInBounds_toArray, List.set_cons_zero, List.set_cons_succ]))
            (refine wpTakes_nth (v := ?_) rfl rfl ?_ ?_; rotate_left 1; (· ((intro w hw; (try dsimp only at hw); (try go_split_ands); go_simp; try with_reducible rfl); all_goals go_simp; all_goals with_reducible rfl)); (try simp only [Act.put, List.setIfInBounds_toArray, List.set_cons_zero, List.set_cons_succ]))
            (refine wpTakes_nth (v := (.agg #[.int .i64 x.1, .int .i64 x.2])) rfl rfl ?_ ?_; (· ((intro wl hwl; obtain ⟨l0, l1⟩ := cells2 hwl; clear hwl); all_goals go_simp; all_goals with_reducible rfl)); (try simp only [Act.put, List.setIfInBounds_toArray, List.set_cons_zero, List.set_cons_succ]))
            ((refine wpTakes_nth (v := ?_) rfl rfl ?_ ?_; rotate_left 1; (· ((intro w hw; (try dsimp only at hw); (try go_split_ands); go_simp; try with_reducible rfl); all_goals go_simp; all_goals with_reducible rfl)); (try simp only [Act.put, List.setIfInBounds_toArray, List.set_cons_zero, List.set_cons_succ])); (refine wpTakes_nth (v := ?_) rfl rfl ?_ ?_; rotate_left 1; (· ((intro w hw; (try dsimp only at hw); (try go_split_ands); go_simp; try with_reducible rfl); all_goals go_simp; all_goals with_reducible rfl)); (try simp only [Act.put, List.setIfInBounds_toArray, List.set_cons_zero, List.set_cons_succ])); (refine wpTakes_nth (v := ?_) rfl rfl ?_ ?_; rotate_left 1; (· ((intro w hw; (try dsimp only at hw); (try go_split_ands); go_simp; try with_reducible rfl); all_goals go_simp; all_goals with_reducible rfl)); (try simp only [Act.put, List.setIfInBounds_toArray, List.set_cons_zero, List.set_cons_succ])))
            refine wpTakes_nil ?_
            have htl := HTL.out
            have hdl := HDL.out
            have HE0 : Ext wq (wq.drewN (nq + 1)) := (Ext.refl _).drewN _
            refine wpPlan_two ?_ ?_
            · (refine wpPlan_nth rfl rfl (fun K hK => ?_); go_simp)
              have hOa : OwnsL ((wq.drewN (nq + 1)).alloc (.cells #[] 37)) wq.heap.size 37 2 encP (.slice (some ⟨wq.heap.size, 0, none⟩) 0 0) [] := OwnsL.fresh_at _ _ _ _ (blk_newat (by simp) _) (by omega)
              have HE1 := HE0.alloc (.cells #[] 37)
              ((try refine hK _ _ ?_); refine wpHoldT_mk ?_ ?_; (· (exact blk_ext HE1 hblk2)); (try clear hK K); (try simp only [Act.put, List.setIfInBounds_toArray, List.set_cons_zero, List.set_cons_succ]))
              refine wpPlan_two ?_ ?_
              · (refine wpPlan_nth rfl rfl (fun K hK => ?_))
                refine opWp_append_many elemE (by decide) _ _ rfl wq.heap.size _ [] (o1.take o1.length) rfl hOa _ _ (by rw [htl]; rfl) ((HSLW.ext HE1).take o1.length) (by rw [htl]; simp; omega) HE1.size ?_
                intro v1 w2 hO2 hg2 hat2
                have HE2 := HE1.grownL hOa (Nat.le_refl _) hg2
                ((try refine hK _ _ ?_); refine wpHoldT_mk ?_ ?_; (· (exact blk_ext HE2 hblk2)); (try clear hK K); (try simp only [Act.put, List.setIfInBounds_toArray, List.set_cons_zero, List.set_cons_succ]))
                (refine wpPlan_nth rfl rfl (fun K hK => ?_); go_simp)
                have hbox : (w2.alloc (.cells #[.int .i64 x.1, .int .i64 x.2] 37)).heap[w2.heap.size]? = some (.cells #[.int .i64 x.1, .int .i64 x.2] 37 (0, 0)) := blk_newat (by simp) _
                have HE3 := HE2.alloc (.cells #[.int .i64 x.1, .int .i64 x.2] 37)
                ((try refine hK _ _ ?_); refine wpHoldT_mk ?_ ?_; (· (exact blk_ext HE3 hblk2)); (try clear hK K); (try simp only [Act.put, List.setIfInBounds_toArray, List.set_cons_zero, List.set_cons_succ]))
                have hOb := hO2.alloc (.cells #[.int .i64 x.1, .int .i64 x.2] 37)
                (refine wpPlan_nth rfl rfl (fun K hK => ?_))
                refine opWp_append_one elemE (by decide) _ _ rfl wq.heap.size _ _ rfl hOb (w2.heap.size) 1 x rfl (cells2_at hbox) (by simp; omega) HE3.size ?_
                intro v3 w4 hO4 hg4
                have HE4 := HE3.grownL hOb (Nat.le_refl _) hg4
                ((try refine hK _ _ ?_); refine wpHoldT_mk ?_ ?_; (· (exact blk_ext HE4 hblk2)); (try clear hK K); (try simp only [Act.put, List.setIfInBounds_toArray, List.set_cons_zero, List.set_cons_succ]))
                (refine wpPlan_nth rfl rfl (fun K hK => ?_))
                refine opWp_append_many elemE (by decide) _ _ rfl wq.heap.size _ _ (o1.drop o1.length) rfl hO4 _ _ (by rw [hdl, Nat.sub_self]; rfl) ((HSLW.ext HE4).drop_all) (by simp; omega) HE4.size ?_
                intro v5 w6 hO6 hg6 hat6
                have HEZ := HE4.grownL hO4 (Nat.le_refl _) hg6
                ((try refine hK _ _ ?_); refine wpHoldT_mk ?_ ?_; (· (exact blk_ext HEZ hblk2)); (try clear hK K); (try simp only [Act.put, List.setIfInBounds_toArray, List.set_cons_zero, List.set_cons_succ]))
                (refine wpPlan_nth rfl rfl (fun K hK => ?_); go_simp)
                ((try refine hK _ _ ?_); refine wpHoldT_mk ?_ ?_; (· (exact blk_ext HEZ hblk2)); (try clear hK K); (try simp only [Act.put, List.setIfInBounds_toArray, List.set_cons_zero, List.set_cons_succ]))
                (refine wpPlan_done (NoPanic.normal ?_))
                go_wp2
                go_roundw
                case rel =>
                  refine ⟨k + 1, by omega, by go_num, ?_, (HX.trans (hxc.trans hxq)).trans HEZ, (HXX.trans (hxc.trans hxq)).trans HEZ⟩
                  rw [HSTEP.out, HINS.out]
                  simpa using hO6.of_base ((HXX.trans (hxc.trans hxq)).size)
                case measure => simp [intOf]; omega
              · (refine wpPlan_nth rfl rfl (fun K hK => ?_); go_simp)
                have hbox : (((wq.drewN (nq + 1)).alloc (.cells #[] 37)).alloc (.cells #[.int .i64 x.1, .int .i64 x.2] 37)).heap[wq.heap.size + 1]? = some (.cells #[.int .i64 x.1, .int .i64 x.2] 37 (0, 0)) := blk_newat (by simp) _
                have HE2 := HE1.alloc (.cells #[.int .i64 x.1, .int .i64 x.2] 37)
                ((try refine hK _ _ ?_); refine wpHoldT_mk ?_ ?_; (· (exact blk_ext HE2 hblk2)); (try clear hK K); (try simp only [Act.put, List.setIfInBounds_toArray, List.set_cons_zero, List.set_cons_succ]))
                have hOb := hOa.alloc (.cells #[.int .i64 x.1, .int .i64 x.2] 37)
                (refine wpPlan_nth rfl rfl (fun K hK => ?_))
                refine opWp_append_many elemE (by decide) _ _ rfl wq.heap.size _ [] (o1.take o1.length) rfl hOb _ _ (by rw [htl]; rfl) ((HSLW.ext HE2).take o1.length) (by rw [htl]; simp; omega) HE2.size ?_
                intro v1 w2 hO2 hg2 hat2
                have HE3 := HE2.grownL hOb (Nat.le_refl _) hg2
                ((try refine hK _ _ ?_); refine wpHoldT_mk ?_ ?_; (· (exact blk_ext HE3 hblk2)); (try clear hK K); (try simp only [Act.put, List.setIfInBounds_toArray, List.set_cons_zero, List.set_cons_succ]))
                have hbx := blk_grownL hg2 hbox (fun r hr e => by have := Option.some.inj hr; simp at this; omega)
                (refine wpPlan_nth rfl rfl (fun K hK => ?_))
                refine opWp_append_one elemE (by decide) _ _ rfl wq.heap.size _ _ rfl hO2 (wq.heap.size + 1) 1 x rfl (cells2_at hbx) (by simp; omega) HE3.size ?_
                intro v3 w4 hO4 hg4
                have HE4 := HE3.grownL hO2 (Nat.le_refl _) hg4
                ((try refine hK _ _ ?_); refine wpHoldT_mk ?_ ?_; (· (exact blk_ext HE4 hblk2)); (try clear hK K); (try simp only [Act.put, List.setIfInBounds_toArray, List.set_cons_zero, List.set_cons_succ]))
                (refine wpPlan_nth rfl rfl (fun K hK => ?_))
                refine opWp_append_many elemE (by decide) _ _ rfl wq.heap.size _ _ (o1.drop o1.length) rfl hO4 _ _ (by rw [hdl, Nat.sub_self]; rfl) ((HSLW.ext HE4).drop_all) (by simp; omega) HE4.size ?_
                intro v5 w6 hO6 hg6 hat6
                have HEZ := HE4.grownL hO4 (Nat.le_refl _) hg6
                ((try refine hK _ _ ?_); refine wpHoldT_mk ?_ ?_; (· (exact blk_ext HEZ hblk2)); (try clear hK K); (try simp only [Act.put, List.setIfInBounds_toArray, List.set_cons_zero, List.set_cons_succ]))
                (refine wpPlan_nth rfl rfl (fun K hK => ?_); go_simp)
                ((try refine hK _ _ ?_); refine wpHoldT_mk ?_ ?_; (· (exact blk_ext HEZ hblk2)); (try clear hK K); (try simp only [Act.put, List.setIfInBounds_toArray, List.set_cons_zero, List.set_cons_succ]))
                (refine wpPlan_done (NoPanic.normal ?_))
                go_wp2
                go_roundw
                case rel =>
                  refine ⟨k + 1, by omega, by go_num, ?_, (HX.trans (hxc.trans hxq)).trans HEZ, (HXX.trans (hxc.trans hxq)).trans HEZ⟩
                  rw [HSTEP.out, HINS.out]
                  simpa using hO6.of_base ((HXX.trans (hxc.trans hxq)).size)
                case measure => simp [intOf]; omega
            · (refine wpPlan_nth rfl rfl (fun K hK => ?_); go_simp)
              have hbox : ((wq.drewN (nq + 1)).alloc (.cells #[.int .i64 x.1, .int .i64 x.2] 37)).heap[wq.heap.size]? = some (.cells #[.int .i64 x.1, .int .i64 x.2] 37 (0, 0)) := blk_newat (by simp) _
              have HE1 := HE0.alloc (.cells #[.int .i64 x.1, .int .i64 x.2] 37)
              ((try refine hK _ _ ?_); refine wpHoldT_mk ?_ ?_; (· (exact blk_ext HE1 hblk2)); (try clear hK K); (try simp only [Act.put, List.setIfInBounds_toArray, List.set_cons_zero, List.set_cons_succ]))
              (refine wpPlan_nth rfl rfl (fun K hK => ?_); go_simp)
              have hOa : OwnsL (((wq.drewN (nq + 1)).alloc (.cells #[.int .i64 x.1, .int .i64 x.2] 37)).alloc (.cells #[] 37)) wq.heap.size 37 2 encP (.slice (some ⟨wq.heap.size + 1, 0, none⟩) 0 0) [] := OwnsL.fresh_at _ _ _ _ (blk_newat (by simp) _) (by omega)
              have HE2 := HE1.alloc (.cells #[] 37)
              ((try refine hK _ _ ?_); refine wpHoldT_mk ?_ ?_; (· (exact blk_ext HE2 hblk2)); (try clear hK K); (try simp only [Act.put, List.setIfInBounds_toArray, List.set_cons_zero, List.set_cons_succ]))
              (refine wpPlan_nth rfl rfl (fun K hK => ?_))
              refine opWp_append_many elemE (by decide) _ _ rfl wq.heap.size _ [] (o1.take o1.length) rfl hOa _ _ (by rw [htl]; rfl) ((HSLW.ext HE2).take o1.length) (by rw [htl]; simp; omega) HE2.size ?_
              intro v1 w2 hO2 hg2 hat2
              have HE3 := HE2.grownL hOa (Nat.le_refl _) hg2
              ((try refine hK _ _ ?_); refine wpHoldT_mk ?_ ?_; (· (exact blk_ext HE3 hblk2)); (try clear hK K); (try simp only [Act.put, List.setIfInBounds_toArray, List.set_cons_zero, List.set_cons_succ]))
              have hbx := blk_grownL hg2 (blk_alloc hbox) (fun r hr e => by have := Option.some.inj hr; simp at this; omega)
              (refine wpPlan_nth rfl rfl (fun K hK => ?_))
              refine opWp_append_one elemE (by decide) _ _ rfl wq.heap.size _ _ rfl hO2 (wq.heap.size) 1 x rfl (cells2_at hbx) (by simp; omega) HE3.size ?_
              intro v3 w4 hO4 hg4
              have HE4 := HE3.grownL hO2 (Nat.le_refl _) hg4
              ((try refine hK _ _ ?_); refine wpHoldT_mk ?_ ?_; (· (exact blk_ext HE4 hblk2)); (try clear hK K); (try simp only [Act.put, List.setIfInBounds_toArray, List.set_cons_zero, List.set_cons_succ]))
              (refine wpPlan_nth rfl rfl (fun K hK => ?_))
              refine opWp_append_many elemE (by decide) _ _ rfl wq.heap.size _ _ (o1.drop o1.length) rfl hO4 _ _ (by rw [hdl, Nat.sub_self]; rfl) ((HSLW.ext HE4).drop_all) (by simp; omega) HE4.size ?_
              intro v5 w6 hO6 hg6 hat6
              have HEZ := HE4.grownL hO4 (Nat.le_refl _) hg6
              ((try refine hK _ _ ?_); refine wpHoldT_mk ?_ ?_; (· (exact blk_ext HEZ hblk2)); (try clear hK K); (try simp only [Act.put, List.setIfInBounds_toArray, List.set_cons_zero, List.set_cons_succ]))
              (refine wpPlan_nth rfl rfl (fun K hK => ?_); go_simp)
              ((try refine hK _ _ ?_); refine wpHoldT_mk ?_ ?_; (· (exact blk_ext HEZ hblk2)); (try clear hK K); (try simp only [Act.put, List.setIfInBounds_toArray, List.set_cons_zero, List.set_cons_succ]))
              (refine wpPlan_done (NoPanic.normal ?_))
              go_wp2
              go_roundw
              case rel =>
                refine ⟨k + 1, by omega, by go_num, ?_, (HX.trans (hxc.trans hxq)).trans HEZ, (HXX.trans (hxc.trans hxq)).trans HEZ⟩
                rw [HSTEP.out, HINS.out]
                simpa using hO6.of_base ((HXX.trans (hxc.trans hxq)).size)
              case measure => simp [intOf]; omega
        -- end of what gen_matches.py prints
      · have hke : k = cps.length := by omega
        subst hke
        rw [List.take_length] at HO
        go_wp2
        go_ret2
        refine ⟨_, matchesL (cps.map (·.2)), ?_, ?_, HO.of_base HX2.size, HX⟩
        · rw [HOK.out]; rfl
        · rw [if_pos HOK.out, HCPS.out]
  · have g : (errS a b side == 0) = false := by simpa using hok
    have g' : (errS a b side != 0) = true := by rw [bne, g]; rfl
    have HOK := hid hok
    clear hok
    go_enter Try.func18, Try.ntmps18
    go_wp2_with fail
    refine (sided_any p q cp cq a b side _ h h').mono ?_
    rintro e w1 ⟨rfl, hx1⟩
    go_wp2
    go_ret2
    exact ⟨_, [], rfl, (if_neg HOK.out).symm, OwnsL.nil _ _ _ _ _, hx1⟩

end Go.Proofs.Ytnedoaapnfpkfaa
