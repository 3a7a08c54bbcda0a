/-
  The contract of the reference's search, the step and the whole. Conditions: few couples, few matches.
-/
import Derived.Test.YtnedoaapnfpkfaaSearch
import Derived.Test.YtnedoaapnfpkfaaTreeE
namespace Go.Proofs.Ytnedoaapnfpkfaa
open Go.RowKit

/-- The step: a match is looked at. -/
theorem any_take {α : Type} {p : α → Bool} {l : List α} {k : Nat} (h : k < l.length) : (l.take (k + 1)).any p = ((l.take k).any p || p l[k]) := by
  rw [List.take_succ_eq_append_getElem h, List.any_append]; simp

set_option maxRecDepth 10000 in
set_option maxHeartbeats 1000000 in
theorem search_step (pl pm : Option Addr) (cl cm : Nat) (cps : List Cp) (ms : List (Int × Int)) (hml : ms.length ≤ 4096) (j : Nat) (hj : j < ms.length)
    (ih : ∀ (pc pb : Option Addr) (cc cb : Nat) (cur : List (Int × Int)) (best : Try3) (w : World), SliceAt w encC 3 pl cl cps → SliceAt w encP 2 pm cm ms → SliceAt w encP 2 pc cc cur → SliceAt w encP 2 pb cb best.1 → cur.length ≤ j + 1 →
      Calls Try.prog 33 #[.slice pl cps.length cl, .slice pm ms.length cm, .int .i64 ((j + 1 : Nat) : Int), .slice pc cur.length cc, .agg #[.slice pb best.1.length cb, .int .i64 best.2.1, .bool best.2.2]] w (SearchPost w pc pb cur best (searchL (cps.map (·.2)) (ms.drop (j + 1)) cur best)))
    (pc pb : Option Addr) (cc cb : Nat) (cur : List (Int × Int)) (best : Try3) (w : World) (HL : SliceAt w encC 3 pl cl cps) (HM : SliceAt w encP 2 pm cm ms) (HC : SliceAt w encP 2 pc cc cur) (HB : SliceAt w encP 2 pb cb best.1) (hcur : cur.length ≤ j) (r : Try3) (hr : r = searchL (cps.map (·.2)) (ms.drop (j + 1)) cur (if cur.any (clash ms[j]) then best else searchL (cps.map (·.2)) (ms.drop (j + 1)) (cur ++ [ms[j]]) best)) :
      Calls Try.prog 33 #[.slice pl cps.length cl, .slice pm ms.length cm, .int .i64 j, .slice pc cur.length cc, .agg #[.slice pb best.1.length cb, .int .i64 best.2.1, .bool best.2.2]] w (SearchPost w pc pb cur best r) := by
  have HIH := hid ih
  clear ih
  have hm2 := HC.max
  have hl2 := HC.le
  have hm3 := HM.max
  have hl3 := HM.le
  unfold maxLen at hm2 hm3
  have hee : ((j : Int) == (ms.length : Int)) = false := by simp; omega
  have hwj : IntKind.i64.wrap ((j : Int) + 1) = (j : Int) + 1 := IntWalk.i64_in _ (by omega)
  have hj1 : ((j + 1 : Nat) : Int) = (j : Int) + 1 := by omega
  have HJ1 := hid hj1
  clear hj1
  obtain ⟨bm, fm, rfl, hbm, hmm⟩ := HM.pair_at hj
  generalize hx : ms[j] = x at *
  have HMX := hid hx
  have HR := hid hr
  have HMM := hid hmm
  clear hx hmm hr
  go_enter Try.func33, Try.ntmps33
  go_wp2
  go_loopw [14, 15] (fun f i wr => ∃ (t : Nat) (fb : Bool), t ≤ cur.length ∧ i = .int .i64 t ∧ f = .bool fb ∧ (!(cur.take t).any (clash x)) = fb ∧ wr.heap[w.heap.size]? = some (.cells #[.slice pb best.1.length cb, .int .i64 best.2.1, .bool best.2.2] 74 (0, 0)) ∧ wr.heap[w.heap.size + 1]? = some (.cells #[.slice none 0 0, .int .i64 0, .bool false] 74 (0, 0)) ∧ Ext w wr) (fun _ i _ => cur.length - (intOf i).toNat)
  case atStart => exact ⟨0, true, by omega, rfl, rfl, by simp, blk_alloc (blk_new _ _), blk_newat (by simp) _, ((Ext.refl _).alloc _).alloc _⟩
  case round =>
    obtain ⟨t, fb, ht, rfl, rfl, hfb, h9, h10, HX⟩ := hrel
    have c0 := (HX.cell (p := ⟨bm, fm + j * 2, none⟩) hbm).trans HMM.out.1
    have c1 := (HX.cell (p := ⟨bm, fm + j * 2 + 1, none⟩) hbm).trans HMM.out.2
    by_cases htl : t < cur.length
    · obtain ⟨b2, f2, rfl, hb2, d0, d1⟩ := (HC.ext HX).pair_at htl
      have hat := any_take (p := clash x) htl
      generalize cur[t] = y at *
      have hcut : ((y.1 == x.1) = true ∧ (y.1 != x.1) = false ∧ clash x y = true) ∨ ((y.1 == x.1) = false ∧ (y.1 != x.1) = true ∧ (y.2 == x.2) = true ∧ (y.2 != x.2) = false ∧ clash x y = true) ∨ ((y.1 == x.1) = false ∧ (y.1 != x.1) = true ∧ (y.2 == x.2) = false ∧ (y.2 != x.2) = true ∧ clash x y = false) := by
        unfold clash
        by_cases g1 : y.1 = x.1
        · left; simp [g1]
        · by_cases g2 : y.2 = x.2
          · right; left; simp [g1, g2]
          · right; right; simp [g1, g2]
      cases fb
      · have hf : (cur.take t).any (clash x) = true := by simpa using hfb
        rw [hf, Bool.true_or] at hat
        have HAT := hid hat
        clear hat hf hcut hfb
        go_wp2_with fail
        go_quiet (fail)
        go_wp2
        go_roundw
        case rel => exact ⟨t + 1, false, by omega, by go_num, rfl, by rw [HAT.out]; rfl, h9, h10, HX.drewN _⟩
        case measure => simp [intOf]; omega
      · have hf : (cur.take t).any (clash x) = false := by simpa using hfb
        rw [hf, Bool.false_or] at hat
        have HAT := hid hat
        clear hat hf hfb
        rcases hcut with ⟨g1, g2, hc⟩ | ⟨g1, g2, g3, g4, hc⟩ | ⟨g1, g2, g3, g4, hc⟩
        · have HCL := hid hc
          clear hc
          go_wp2_with fail
          go_quiet (fail)
          go_wp2
          go_roundw
          case rel => exact ⟨t + 1, false, by omega, by go_num, rfl, by rw [HAT.out, HCL.out]; rfl, h9, h10, HX.drewN _⟩
          case measure => simp [intOf]; omega
        · have HCL := hid hc
          clear hc
          go_wp2_with fail
          go_quiet (fail)
          go_wp2
          go_roundw
          case rel => exact ⟨t + 1, false, by omega, by go_num, rfl, by rw [HAT.out, HCL.out]; rfl, h9, h10, HX.drewN _⟩
          case measure => simp [intOf]; omega
        · have HCL := hid hc
          clear hc
          go_wp2_with fail
          go_quiet (fail)
          go_wp2
          go_roundw
          case rel => exact ⟨t + 1, true, by omega, by go_num, rfl, by rw [HAT.out, HCL.out]; rfl, h9, h10, HX.drewN _⟩
          case measure => simp [intOf]; omega
    · have hke : t = cur.length := by omega
      subst hke
      rw [List.take_length] at hfb
      generalize hfl : cur.any (clash x) = fl at *
      have HFL := hid hfl
      have HFB := hid hfb
      clear hfl hfb
      go_upto_if 116 with fail
      go_cut [9] from 117 (fun v wx => v = .pointer (some ⟨w.heap.size, 0, none⟩) ∧ ∃ (pr : Option Addr) (cr : Nat) (rl : List (Int × Int)) (rn : Int) (rb : Bool), (if fl = true then best else searchL (cps.map (·.2)) (ms.drop (j + 1)) (cur ++ [x]) best) = (rl, rn, rb) ∧ wx.heap[w.heap.size]? = some (.cells #[.slice pr rl.length cr, .int .i64 rn, .bool rb] 74 (0, 0)) ∧ wx.heap[w.heap.size + 1]? = some (.cells #[.slice none 0 0, .int .i64 0, .bool false] 74 (0, 0)) ∧ SliceAt wx encP 2 pr cr rl ∧ Ext w wx ∧ OffR pr rl (w.heap.size + 1) ∧ ∀ b, b < w.heap.size → OffR pc cur b → OffR pb best.1 b → OffR pr rl b)
      case first =>
        cases fb
        rotate_left 1
        · have hcut : ∀ r : Try3, (if fl = true then best else r) = r := fun r => by rw [show fl = false by simpa using HFB.out]; rfl
          have HCUT := hid hcut
          clear hcut
          go_wp2_with fail
          (refine wp_region_noPanic (wp_region_treeE [0, 1, 2, 3, 5, 7, 8, 9, 10, 11, 12, 13, 14, 15, 16, 17, 20] (.two 4 (.two 6 (.one 18 (.one 19 (.one 21 .done))) 18 (.one 6 (.one 19 (.one 21 .done)))) 18 (.one 4 (.one 6 (.one 19 (.one 21 .done))))) 22 (fun w' => Ext wr w') (by kernel_rfl) (by kernel_rfl) (fun _ _ _ _ _ h => h) ((Ext.refl _).drew) ?_))
          ((refine wpTakes_nth (v := ?_) rfl rfl ?_ ?_; rotate_left 1; (· ((intro w hw; (try dsimp only at hw); (try go_split_ands); go_simp; try with_reducible rfl); all_goals go_simp; all_goals with_reducible rfl)); (try simp only [Act.put, List.setIfInBounds_toArray, List.set_cons_zero, List.set_cons_succ])); (refine wpTakes_nth (v := ?_) rfl rfl ?_ ?_; rotate_left 1; (· ((intro w hw; (try dsimp only at hw); (try go_split_ands); go_simp; try with_reducible rfl); all_goals go_simp; all_goals with_reducible rfl)); (try simp only [Act.put, List.setIfInBounds_toArray, List.set_cons_zero, List.set_cons_succ])); (refine wpTakes_nth (v := ?_) rfl rfl ?_ ?_; rotate_left 1; (· ((intro w hw; (try dsimp only at hw); (try go_split_ands); go_simp; try with_reducible rfl); all_goals go_simp; all_goals with_reducible rfl)); (try simp only [Act.put, List.setIfInBounds_toArray, List.set_cons_zero, List.set_cons_succ])); (refine wpTakes_nth (v := ?_) rfl rfl ?_ ?_; rotate_left 1; (· ((intro w hw; (try dsimp only at hw); (try go_split_ands); go_simp; try with_reducible rfl); all_goals go_simp; all_goals with_reducible rfl)); (try simp only [Act.put, List.setIfInBounds_toArray, List.set_cons_zero, List.set_cons_succ])); (refine wpTakes_nth (v := ?_) rfl rfl ?_ ?_; rotate_left 1; (· ((intro w hw; (try dsimp only at hw); (try go_split_ands); go_simp; try with_reducible rfl); all_goals go_simp; all_goals with_reducible rfl)); (try simp only [Act.put, List.setIfInBounds_toArray, List.set_cons_zero, List.set_cons_succ])); (refine wpTakes_nth (v := ?_) rfl rfl ?_ ?_; rotate_left 1; (· ((intro w hw; (try dsimp only at hw); (try go_split_ands); go_simp; try with_reducible rfl); all_goals go_simp; all_goals with_reducible rfl)); (try simp only [Act.put, List.setIfInBounds_toArray, List.set_cons_zero, List.set_cons_succ])); (refine wpTakes_nth (v := ?_) rfl rfl ?_ ?_; rotate_left 1; (· ((intro w hw; (try dsimp only at hw); (try go_split_ands); go_simp; try with_reducible rfl); all_goals go_simp; all_goals with_reducible rfl)); (try simp only [Act.put, List.setIfInBounds_toArray, List.set_cons_zero, List.set_cons_succ])); (refine wpTakes_nth (v := ?_) rfl rfl ?_ ?_; rotate_left 1; (· ((intro w hw; (try dsimp only at hw); (try go_split_ands); go_simp; try with_reducible rfl); all_goals go_simp; all_goals with_reducible rfl)); (try simp only [Act.put, List.setIfInBounds_toArray, List.set_cons_zero, List.set_cons_succ])); (refine wpTakes_nth (v := ?_) rfl rfl ?_ ?_; rotate_left 1; (· ((intro w hw; (try dsimp only at hw); (try go_split_ands); go_simp; try with_reducible rfl); all_goals go_simp; all_goals with_reducible rfl)); (try simp only [Act.put, List.setIfInBounds_toArray, List.set_cons_zero, List.set_cons_succ])))
          (refine wpTakes_nth (v := ?_) rfl rfl ?_ ?_; rotate_left 1; (· ((intro wl hwl; have l0 := (hwl.cell (p := ⟨bm, fm + j * 2, none⟩) (Nat.lt_of_lt_of_le hbm HX.size)).trans c0; clear hwl); all_goals go_simp; all_goals with_reducible rfl)); (try simp only [Act.put, List.setIfInBounds_toArray, List.set_cons_zero, List.set_cons_succ]))
          ((refine wpTakes_nth (v := ?_) rfl rfl ?_ ?_; rotate_left 1; (· ((intro w hw; (try dsimp only at hw); (try go_split_ands); go_simp; try with_reducible rfl); all_goals go_simp; all_goals with_reducible rfl)); (try simp only [Act.put, List.setIfInBounds_toArray, List.set_cons_zero, List.set_cons_succ])); (refine wpTakes_nth (v := ?_) rfl rfl ?_ ?_; rotate_left 1; (· ((intro w hw; (try dsimp only at hw); (try go_split_ands); go_simp; try with_reducible rfl); all_goals go_simp; all_goals with_reducible rfl)); (try simp only [Act.put, List.setIfInBounds_toArray, List.set_cons_zero, List.set_cons_succ])); (refine wpTakes_nth (v := ?_) rfl rfl ?_ ?_; rotate_left 1; (· ((intro w hw; (try dsimp only at hw); (try go_split_ands); go_simp; try with_reducible rfl); all_goals go_simp; all_goals with_reducible rfl)); (try simp only [Act.put, List.setIfInBounds_toArray, List.set_cons_zero, List.set_cons_succ])); (refine wpTakes_nth (v := ?_) rfl rfl ?_ ?_; rotate_left 1; (· ((intro w hw; (try dsimp only at hw); (try go_split_ands); go_simp; try with_reducible rfl); all_goals go_simp; all_goals with_reducible rfl)); (try simp only [Act.put, List.setIfInBounds_toArray, List.set_cons_zero, List.set_cons_succ])))
          (refine wpTakes_nth (v := ?_) rfl rfl ?_ ?_; rotate_left 1; (· ((intro wl hwl; have l1 := (hwl.cell (p := ⟨bm, fm + j * 2 + 1, none⟩) (Nat.lt_of_lt_of_le hbm HX.size)).trans c1; clear hwl); all_goals go_simp; all_goals with_reducible rfl)); (try simp only [Act.put, List.setIfInBounds_toArray, List.set_cons_zero, List.set_cons_succ]))
          (refine wpTakes_nth (v := ?_) rfl rfl ?_ ?_; rotate_left 1; (· ((intro w hw; (try dsimp only at hw); (try go_split_ands); go_simp; try with_reducible rfl); all_goals go_simp; all_goals with_reducible rfl)); (try simp only [Act.put, List.setIfInBounds_toArray, List.set_cons_zero, List.set_cons_succ]))
          (refine wpTakes_nth (v := (.agg #[.slice pb best.1.length cb, .int .i64 best.2.1, .bool best.2.2])) rfl rfl ?_ ?_; (· ((intro wl hwl; obtain ⟨l0, l1, l2⟩ := cells3 (blk_ext hwl h9); clear hwl); all_goals go_simp; all_goals with_reducible rfl)); (try simp only [Act.put, List.setIfInBounds_toArray, List.set_cons_zero, List.set_cons_succ]))
          refine wpTakes_nil ?_
          have hj1 := HJ1.out
          -- begin of what gen_search.py prints
          have HE0 := (Ext.refl wr).drew
          refine wpPlanE_two ?_ ?_
          · (refine wpPlanE_nth rfl rfl (fun K hK => ?_); go_simp)
            have hOa : OwnsL (wr.drew.alloc (.cells #[] 60)) wr.heap.size 60 2 encP (.slice (some ⟨wr.heap.size, 0, none⟩) 0 0) [] := OwnsL.fresh_at _ _ _ _ (blk_newat (by simp) _) (by omega)
            have HE1 := HE0.alloc (.cells #[] 60)
            ((try refine hK _ _ ?_); refine wpHoldE_mk ?_ ?_; (· (exact HE1)); (try clear hK K); (try simp only [Act.put, List.setIfInBounds_toArray, List.set_cons_zero, List.set_cons_succ]))
            refine wpPlanE_two ?_ ?_
            · (refine wpPlanE_nth rfl rfl (fun K hK => ?_))
              refine opWp_append_many elemP (by decide) _ _ rfl wr.heap.size _ [] cur rfl hOa _ _ rfl ((HC.ext HX).ext HE1) (by simp; omega) HE1.size ?_
              intro v1 w2 hO2 hg2 hat2
              have HE2 := HE1.grownL hOa (Nat.le_refl _) hg2
              ((try refine hK _ _ ?_); refine wpHoldE_mk ?_ ?_; (· (exact HE2)); (try clear hK K); (try simp only [Act.put, List.setIfInBounds_toArray, List.set_cons_zero, List.set_cons_succ]))
              (refine wpPlanE_nth rfl rfl (fun K hK => ?_); go_simp)
              have hbox : (w2.alloc (.cells #[.int .i64 x.1, .int .i64 x.2] 60)).heap[w2.heap.size]? = some (.cells #[.int .i64 x.1, .int .i64 x.2] 60 (0, 0)) := blk_newat (by simp) _
              have HE3 := HE2.alloc (.cells #[.int .i64 x.1, .int .i64 x.2] 60)
              ((try refine hK _ _ ?_); refine wpHoldE_mk ?_ ?_; (· (exact HE3)); (try clear hK K); (try simp only [Act.put, List.setIfInBounds_toArray, List.set_cons_zero, List.set_cons_succ]))
              have hOb := hO2.alloc (.cells #[.int .i64 x.1, .int .i64 x.2] 60)
              (refine wpPlanE_nth rfl rfl (fun K hK => ?_))
              refine opWp_append_one elemP (by decide) _ _ rfl wr.heap.size _ _ rfl hOb (w2.heap.size) 1 x rfl (cells2_at hbox) (by simp; omega) HE3.size ?_
              intro v3 w4 hO4 hg4
              have HE4 := HE3.grownL hOb (Nat.le_refl _) hg4
              obtain ⟨p3, c3, rfl, hS3⟩ := hO4.slice encP_len
              ((try refine hK _ _ ?_); refine wpHoldE_mk ?_ ?_; (· (exact HE4)); (try clear hK K); (try simp only [Act.put, List.setIfInBounds_toArray, List.set_cons_zero, List.set_cons_succ]))
              have HEB := HE4
              have hwz : w.heap.size < wr.heap.size := lt_of_block h9
              have hcall := HIH.out p3 pb c3 cb ([] ++ cur ++ [x]) best w4 ((HL.ext HX).ext HE4) ((HM.ext HX).ext HE4) hS3 ((HB.ext HX).ext HE4) (by simp; omega)
              rw [hj1, show ([] ++ cur ++ [x]) = cur ++ [x] from rfl, List.length_append, List.length_singleton] at hcall
              have HCALL := hid hcall
              clear hcall
              (refine wpPlanE_nth rfl rfl (fun K hK => ?_); go_simp)
              refine HCALL.out.mono ?_
              rintro e w5 ⟨pr, cr, rfl, hSr, hxr, hoff⟩
              have HEZ := HE4.trans hxr
              have h9z := blk_ext HEZ h9
              have h10z := blk_ext HEZ h10
              obtain ⟨z0, z1, z2⟩ := cells3 h9z
              obtain ⟨y0, y1, y2⟩ := free3 h9z
              go_wp2_with fail
              ((try refine hK _ _ ?_); refine wpHoldE_mk ?_ ?_; (· (exact HEZ)); (try clear hK K); (try simp only [Act.put, List.setIfInBounds_toArray, List.set_cons_zero, List.set_cons_succ]))
              generalize hr1 : searchL (cps.map (·.2)) (ms.drop (j + 1)) (cur ++ [x]) best = r1 at *
              obtain ⟨rl, rn, rb⟩ := r1
              have HR1 := hid hr1
              clear hr1
              have hfin := set3 h9z (.slice pr rl.length cr) (.int .i64 rn) (.bool rb)
              have h10f := (Below.heap_setCell (((w5.setCell ⟨w.heap.size, 0, none⟩ (.slice pr rl.length cr)).setCell ⟨w.heap.size, 1, none⟩ (.int .i64 rn))) ⟨w.heap.size, 2, none⟩ (.bool rb) (w.heap.size + 1) (by simp)).trans ((Below.heap_setCell (w5.setCell ⟨w.heap.size, 0, none⟩ (.slice pr rl.length cr)) ⟨w.heap.size, 1, none⟩ (.int .i64 rn) (w.heap.size + 1) (by simp)).trans ((Below.heap_setCell w5 ⟨w.heap.size, 0, none⟩ (.slice pr rl.length cr) (w.heap.size + 1) (by simp)).trans h10z))
              have hgz : w5.grownBy (((w5.setCell ⟨w.heap.size, 0, none⟩ (.slice pr rl.length cr)).setCell ⟨w.heap.size, 1, none⟩ (.int .i64 rn)).setCell ⟨w.heap.size, 2, none⟩ (.bool rb)) (some w.heap.size) :=
                ⟨rfl, rfl, rfl, by simp [World.setCell], fun k _ hk => (Below.heap_setCell _ _ _ k (fun e => hk (by rw [e]))).trans ((Below.heap_setCell _ _ _ k (fun e => hk (by rw [e]))).trans (Below.heap_setCell _ _ _ k (fun e => hk (by rw [e]))))⟩
              have hxz := (((HX.trans HEZ).setCell (p := ⟨w.heap.size, 0, none⟩) (Nat.le_refl _) (.slice pr rl.length cr)).setCell (p := ⟨w.heap.size, 1, none⟩) (Nat.le_refl _) (.int .i64 rn)).setCell (p := ⟨w.heap.size, 2, none⟩) (Nat.le_refl _) (.bool rb)
              have HF := hid hfin
              have H10F := hid h10f
              clear hfin h10f
              (refine wpPlanE_last rfl rfl ?_; go_simp; refine NoPanic.normal ?_)
              go_wp2
              go_meet
              case rel =>
                refine ⟨rfl, pr, cr, rl, rn, rb, ?_, HF.out, H10F.out, ?_, hxz, hoff (w.heap.size + 1) (Nat.lt_of_lt_of_le (lt_of_block h10) HEB.size) (hO4.offR (lt_of_block h10)) (HB.offR (Nat.le_succ _)), fun b hb _ h2 => hoff b (Nat.lt_of_lt_of_le hb (HX.trans HEB).size) (hO4.offR (Nat.lt_of_lt_of_le hb HX.size)) h2⟩
                · rw [HCUT.out]
                · exact hSr.keptR hgz (hoff w.heap.size (Nat.lt_of_lt_of_le hwz HEB.size) (hO4.offR hwz) (HB.offR (Nat.le_refl _)))
            · (refine wpPlanE_nth rfl rfl (fun K hK => ?_); go_simp)
              have hbox : ((wr.drew.alloc (.cells #[] 60)).alloc (.cells #[.int .i64 x.1, .int .i64 x.2] 60)).heap[wr.heap.size + 1]? = some (.cells #[.int .i64 x.1, .int .i64 x.2] 60 (0, 0)) := blk_newat (by simp) _
              have HE2 := HE1.alloc (.cells #[.int .i64 x.1, .int .i64 x.2] 60)
              ((try refine hK _ _ ?_); refine wpHoldE_mk ?_ ?_; (· (exact HE2)); (try clear hK K); (try simp only [Act.put, List.setIfInBounds_toArray, List.set_cons_zero, List.set_cons_succ]))
              have hOb := hOa.alloc (.cells #[.int .i64 x.1, .int .i64 x.2] 60)
              (refine wpPlanE_nth rfl rfl (fun K hK => ?_))
              refine opWp_append_many elemP (by decide) _ _ rfl wr.heap.size _ [] cur rfl hOb _ _ rfl ((HC.ext HX).ext HE2) (by simp; omega) HE2.size ?_
              intro v1 w2 hO2 hg2 hat2
              have HE3 := HE2.grownL hOb (Nat.le_refl _) hg2
              ((try refine hK _ _ ?_); refine wpHoldE_mk ?_ ?_; (· (exact HE3)); (try clear hK K); (try simp only [Act.put, List.setIfInBounds_toArray, List.set_cons_zero, List.set_cons_succ]))
              have hbx := blk_grownL hg2 hbox (fun r hr e => by have := Option.some.inj hr; simp at this; omega)
              (refine wpPlanE_nth rfl rfl (fun K hK => ?_))
              refine opWp_append_one elemP (by decide) _ _ rfl wr.heap.size _ _ rfl hO2 (wr.heap.size + 1) 1 x rfl (cells2_at hbx) (by simp; omega) HE3.size ?_
              intro v3 w4 hO4 hg4
              have HE4 := HE3.grownL hO2 (Nat.le_refl _) hg4
              obtain ⟨p3, c3, rfl, hS3⟩ := hO4.slice encP_len
              ((try refine hK _ _ ?_); refine wpHoldE_mk ?_ ?_; (· (exact HE4)); (try clear hK K); (try simp only [Act.put, List.setIfInBounds_toArray, List.set_cons_zero, List.set_cons_succ]))
              have HEB := HE4
              have hwz : w.heap.size < wr.heap.size := lt_of_block h9
              have hcall := HIH.out p3 pb c3 cb ([] ++ cur ++ [x]) best w4 ((HL.ext HX).ext HE4) ((HM.ext HX).ext HE4) hS3 ((HB.ext HX).ext HE4) (by simp; omega)
              rw [hj1, show ([] ++ cur ++ [x]) = cur ++ [x] from rfl, List.length_append, List.length_singleton] at hcall
              have HCALL := hid hcall
              clear hcall
              (refine wpPlanE_nth rfl rfl (fun K hK => ?_); go_simp)
              refine HCALL.out.mono ?_
              rintro e w5 ⟨pr, cr, rfl, hSr, hxr, hoff⟩
              have HEZ := HE4.trans hxr
              have h9z := blk_ext HEZ h9
              have h10z := blk_ext HEZ h10
              obtain ⟨z0, z1, z2⟩ := cells3 h9z
              obtain ⟨y0, y1, y2⟩ := free3 h9z
              go_wp2_with fail
              ((try refine hK _ _ ?_); refine wpHoldE_mk ?_ ?_; (· (exact HEZ)); (try clear hK K); (try simp only [Act.put, List.setIfInBounds_toArray, List.set_cons_zero, List.set_cons_succ]))
              generalize hr1 : searchL (cps.map (·.2)) (ms.drop (j + 1)) (cur ++ [x]) best = r1 at *
              obtain ⟨rl, rn, rb⟩ := r1
              have HR1 := hid hr1
              clear hr1
              have hfin := set3 h9z (.slice pr rl.length cr) (.int .i64 rn) (.bool rb)
              have h10f := (Below.heap_setCell (((w5.setCell ⟨w.heap.size, 0, none⟩ (.slice pr rl.length cr)).setCell ⟨w.heap.size, 1, none⟩ (.int .i64 rn))) ⟨w.heap.size, 2, none⟩ (.bool rb) (w.heap.size + 1) (by simp)).trans ((Below.heap_setCell (w5.setCell ⟨w.heap.size, 0, none⟩ (.slice pr rl.length cr)) ⟨w.heap.size, 1, none⟩ (.int .i64 rn) (w.heap.size + 1) (by simp)).trans ((Below.heap_setCell w5 ⟨w.heap.size, 0, none⟩ (.slice pr rl.length cr) (w.heap.size + 1) (by simp)).trans h10z))
              have hgz : w5.grownBy (((w5.setCell ⟨w.heap.size, 0, none⟩ (.slice pr rl.length cr)).setCell ⟨w.heap.size, 1, none⟩ (.int .i64 rn)).setCell ⟨w.heap.size, 2, none⟩ (.bool rb)) (some w.heap.size) :=
                ⟨rfl, rfl, rfl, by simp [World.setCell], fun k _ hk => (Below.heap_setCell _ _ _ k (fun e => hk (by rw [e]))).trans ((Below.heap_setCell _ _ _ k (fun e => hk (by rw [e]))).trans (Below.heap_setCell _ _ _ k (fun e => hk (by rw [e]))))⟩
              have hxz := (((HX.trans HEZ).setCell (p := ⟨w.heap.size, 0, none⟩) (Nat.le_refl _) (.slice pr rl.length cr)).setCell (p := ⟨w.heap.size, 1, none⟩) (Nat.le_refl _) (.int .i64 rn)).setCell (p := ⟨w.heap.size, 2, none⟩) (Nat.le_refl _) (.bool rb)
              have HF := hid hfin
              have H10F := hid h10f
              clear hfin h10f
              (refine wpPlanE_last rfl rfl ?_; go_simp; refine NoPanic.normal ?_)
              go_wp2
              go_meet
              case rel =>
                refine ⟨rfl, pr, cr, rl, rn, rb, ?_, HF.out, H10F.out, ?_, hxz, hoff (w.heap.size + 1) (Nat.lt_of_lt_of_le (lt_of_block h10) HEB.size) (hO4.offR (lt_of_block h10)) (HB.offR (Nat.le_succ _)), fun b hb _ h2 => hoff b (Nat.lt_of_lt_of_le hb (HX.trans HEB).size) (hO4.offR (Nat.lt_of_lt_of_le hb HX.size)) h2⟩
                · rw [HCUT.out]
                · exact hSr.keptR hgz (hoff w.heap.size (Nat.lt_of_lt_of_le hwz HEB.size) (hO4.offR hwz) (HB.offR (Nat.le_refl _)))
          · (refine wpPlanE_nth rfl rfl (fun K hK => ?_); go_simp)
            have hbox : (wr.drew.alloc (.cells #[.int .i64 x.1, .int .i64 x.2] 60)).heap[wr.heap.size]? = some (.cells #[.int .i64 x.1, .int .i64 x.2] 60 (0, 0)) := blk_newat (by simp) _
            have HE1 := HE0.alloc (.cells #[.int .i64 x.1, .int .i64 x.2] 60)
            ((try refine hK _ _ ?_); refine wpHoldE_mk ?_ ?_; (· (exact HE1)); (try clear hK K); (try simp only [Act.put, List.setIfInBounds_toArray, List.set_cons_zero, List.set_cons_succ]))
            (refine wpPlanE_nth rfl rfl (fun K hK => ?_); go_simp)
            have hOa : OwnsL ((wr.drew.alloc (.cells #[.int .i64 x.1, .int .i64 x.2] 60)).alloc (.cells #[] 60)) wr.heap.size 60 2 encP (.slice (some ⟨wr.heap.size + 1, 0, none⟩) 0 0) [] := OwnsL.fresh_at _ _ _ _ (blk_newat (by simp) _) (by omega)
            have HE2 := HE1.alloc (.cells #[] 60)
            ((try refine hK _ _ ?_); refine wpHoldE_mk ?_ ?_; (· (exact HE2)); (try clear hK K); (try simp only [Act.put, List.setIfInBounds_toArray, List.set_cons_zero, List.set_cons_succ]))
            (refine wpPlanE_nth rfl rfl (fun K hK => ?_))
            refine opWp_append_many elemP (by decide) _ _ rfl wr.heap.size _ [] cur rfl hOa _ _ rfl ((HC.ext HX).ext HE2) (by simp; omega) HE2.size ?_
            intro v1 w2 hO2 hg2 hat2
            have HE3 := HE2.grownL hOa (Nat.le_refl _) hg2
            ((try refine hK _ _ ?_); refine wpHoldE_mk ?_ ?_; (· (exact HE3)); (try clear hK K); (try simp only [Act.put, List.setIfInBounds_toArray, List.set_cons_zero, List.set_cons_succ]))
            have hbx := blk_grownL hg2 (blk_alloc hbox) (fun r hr e => by have := Option.some.inj hr; simp at this; omega)
            (refine wpPlanE_nth rfl rfl (fun K hK => ?_))
            refine opWp_append_one elemP (by decide) _ _ rfl wr.heap.size _ _ rfl hO2 (wr.heap.size) 1 x rfl (cells2_at hbx) (by simp; omega) HE3.size ?_
            intro v3 w4 hO4 hg4
            have HE4 := HE3.grownL hO2 (Nat.le_refl _) hg4
            obtain ⟨p3, c3, rfl, hS3⟩ := hO4.slice encP_len
            ((try refine hK _ _ ?_); refine wpHoldE_mk ?_ ?_; (· (exact HE4)); (try clear hK K); (try simp only [Act.put, List.setIfInBounds_toArray, List.set_cons_zero, List.set_cons_succ]))
            have HEB := HE4
            have hwz : w.heap.size < wr.heap.size := lt_of_block h9
            have hcall := HIH.out p3 pb c3 cb ([] ++ cur ++ [x]) best w4 ((HL.ext HX).ext HE4) ((HM.ext HX).ext HE4) hS3 ((HB.ext HX).ext HE4) (by simp; omega)
            rw [hj1, show ([] ++ cur ++ [x]) = cur ++ [x] from rfl, List.length_append, List.length_singleton] at hcall
            have HCALL := hid hcall
            clear hcall
            (refine wpPlanE_nth rfl rfl (fun K hK => ?_); go_simp)
            refine HCALL.out.mono ?_
            rintro e w5 ⟨pr, cr, rfl, hSr, hxr, hoff⟩
            have HEZ := HE4.trans hxr
            have h9z := blk_ext HEZ h9
            have h10z := blk_ext HEZ h10
            obtain ⟨z0, z1, z2⟩ := cells3 h9z
            obtain ⟨y0, y1, y2⟩ := free3 h9z
            go_wp2_with fail
            ((try refine hK _ _ ?_); refine wpHoldE_mk ?_ ?_; (· (exact HEZ)); (try clear hK K); (try simp only [Act.put, List.setIfInBounds_toArray, List.set_cons_zero, List.set_cons_succ]))
            generalize hr1 : searchL (cps.map (·.2)) (ms.drop (j + 1)) (cur ++ [x]) best = r1 at *
            obtain ⟨rl, rn, rb⟩ := r1
            have HR1 := hid hr1
            clear hr1
            have hfin := set3 h9z (.slice pr rl.length cr) (.int .i64 rn) (.bool rb)
            have h10f := (Below.heap_setCell (((w5.setCell ⟨w.heap.size, 0, none⟩ (.slice pr rl.length cr)).setCell ⟨w.heap.size, 1, none⟩ (.int .i64 rn))) ⟨w.heap.size, 2, none⟩ (.bool rb) (w.heap.size + 1) (by simp)).trans ((Below.heap_setCell (w5.setCell ⟨w.heap.size, 0, none⟩ (.slice pr rl.length cr)) ⟨w.heap.size, 1, none⟩ (.int .i64 rn) (w.heap.size + 1) (by simp)).trans ((Below.heap_setCell w5 ⟨w.heap.size, 0, none⟩ (.slice pr rl.length cr) (w.heap.size + 1) (by simp)).trans h10z))
            have hgz : w5.grownBy (((w5.setCell ⟨w.heap.size, 0, none⟩ (.slice pr rl.length cr)).setCell ⟨w.heap.size, 1, none⟩ (.int .i64 rn)).setCell ⟨w.heap.size, 2, none⟩ (.bool rb)) (some w.heap.size) :=
              ⟨rfl, rfl, rfl, by simp [World.setCell], fun k _ hk => (Below.heap_setCell _ _ _ k (fun e => hk (by rw [e]))).trans ((Below.heap_setCell _ _ _ k (fun e => hk (by rw [e]))).trans (Below.heap_setCell _ _ _ k (fun e => hk (by rw [e]))))⟩
            have hxz := (((HX.trans HEZ).setCell (p := ⟨w.heap.size, 0, none⟩) (Nat.le_refl _) (.slice pr rl.length cr)).setCell (p := ⟨w.heap.size, 1, none⟩) (Nat.le_refl _) (.int .i64 rn)).setCell (p := ⟨w.heap.size, 2, none⟩) (Nat.le_refl _) (.bool rb)
            have HF := hid hfin
            have H10F := hid h10f
            clear hfin h10f
            (refine wpPlanE_last rfl rfl ?_; go_simp; refine NoPanic.normal ?_)
            go_wp2
            go_meet
            case rel =>
              refine ⟨rfl, pr, cr, rl, rn, rb, ?_, HF.out, H10F.out, ?_, hxz, hoff (w.heap.size + 1) (Nat.lt_of_lt_of_le (lt_of_block h10) HEB.size) (hO4.offR (lt_of_block h10)) (HB.offR (Nat.le_succ _)), fun b hb _ h2 => hoff b (Nat.lt_of_lt_of_le hb (HX.trans HEB).size) (hO4.offR (Nat.lt_of_lt_of_le hb HX.size)) h2⟩
              · rw [HCUT.out]
              · exact hSr.keptR hgz (hoff w.heap.size (Nat.lt_of_lt_of_le hwz HEB.size) (hO4.offR hwz) (HB.offR (Nat.le_refl _)))
          -- end of what gen_search.py prints
        · have hcut : ∀ r : Try3, (if fl = true then best else r) = (best.1, best.2.1, best.2.2) := fun r => by rw [show fl = true by simpa using HFB.out]; rfl
          have HCUT := hid hcut
          clear hcut
          go_wp2
          go_meet
          case rel => exact ⟨rfl, pb, cb, best.1, best.2.1, best.2.2, HCUT.out _, h9, h10, HB.ext HX, HX, HB.offR (Nat.le_succ _), fun b _ _ h => h⟩
      case rest =>
        obtain ⟨rfl, pr, cr, rl, rn, rb, hr1, h9b, h10b, hSr, hXc, hof1, hoff⟩ := hcut
        have HR1 := hid hr1
        clear hr1
        obtain ⟨x0, x1, x2⟩ := cells3 h9b
        have hcall := HIH.out pc pr cc cr cur (rl, rn, rb) wc (HL.ext hXc) (HM.ext hXc) (HC.ext hXc) hSr (by omega)
        rw [HJ1.out] at hcall
        have HCALL := hid hcall
        clear hcall
        go_wp2_with fail
        refine HCALL.out.mono ?_
        rintro e w6 ⟨ps, cs, rfl, hSs, hxs, hoff2⟩
        have h10z := blk_ext hxs h10b
        have hz1 : w.heap.size + 1 < wc.heap.size := lt_of_block h10b
        have hres : r = searchL (cps.map (·.2)) (ms.drop (j + 1)) cur (rl, rn, rb) := by
          rw [HR.out]
          exact congrArg (searchL (cps.map (·.2)) (ms.drop (j + 1)) cur) HR1.out
        have HRES := hid hres
        clear hres
        generalize hr2 : searchL (cps.map (·.2)) (ms.drop (j + 1)) cur (rl, rn, rb) = r2 at *
        have hrr : r = r2 := HRES.out
        have HRR := hid hrr
        clear hrr HRES hr2
        obtain ⟨sl, sn, sb⟩ := r2
        clear x0 x1 x2
        obtain ⟨z0, z1, z2⟩ := cells3 h10z
        obtain ⟨y0, y1, y2⟩ := free3 h10z
        have hfin := set3 h10z (.slice ps sl.length cs) (.int .i64 sn) (.bool sb)
        have hxf := (((hXc.trans hxs).setCell (p := ⟨w.heap.size + 1, 0, none⟩) (Nat.le_succ _) (.slice ps sl.length cs)).setCell (p := ⟨w.heap.size + 1, 1, none⟩) (Nat.le_succ _) (.int .i64 sn)).setCell (p := ⟨w.heap.size + 1, 2, none⟩) (Nat.le_succ _) (.bool sb)
        have hgf : w6.grownBy (((w6.setCell ⟨w.heap.size + 1, 0, none⟩ (.slice ps sl.length cs)).setCell ⟨w.heap.size + 1, 1, none⟩ (.int .i64 sn)).setCell ⟨w.heap.size + 1, 2, none⟩ (.bool sb)) (some (w.heap.size + 1)) :=
          ⟨rfl, rfl, rfl, by simp [World.setCell], fun k _ hk => (Below.heap_setCell _ _ _ k (fun e => hk (by rw [e]))).trans ((Below.heap_setCell _ _ _ k (fun e => hk (by rw [e]))).trans (Below.heap_setCell _ _ _ k (fun e => hk (by rw [e]))))⟩
        have hsf := hSs.keptR hgf (hoff2 (w.heap.size + 1) hz1 (HC.offR (Nat.le_succ _)) hof1)
        have HFIN := hid hfin
        have HGF := hid hgf
        clear hfin hgf
        go_wp2
        refine bodyPost_at fun W hW => ?_
        have hbW := cells3 (w := W) (by rw [hW]; exact HFIN.out)
        have hxW : Ext w W := by rw [hW]; exact hxf
        have hsW : SliceAt W encP 2 ps cs sl := by rw [hW]; exact hsf
        clear hW
        obtain ⟨s0, s1, s2⟩ := hbW
        refine bodyPost_ret (v := .agg #[.slice ps sl.length cs, .int .i64 sn, .bool sb]) (by simp [results, Try.results33, go_sem, s0, s1, s2]) rfl ?_
        refine ⟨ps, cs, by rw [HRR.out], by rw [HRR.out]; exact hsW, hxW, fun b hb h1 h2 => ?_⟩
        rw [HRR.out]
        exact hoff2 b (by have := hXc.size; omega) h1 (hoff b hb h1 h2)

set_option maxHeartbeats 1000000 in
theorem search_any (pl pm : Option Addr) (cl cm : Nat) (cps : List Cp) (ms : List (Int × Int)) (hcl : cps.length ≤ 4096) (hml : ms.length ≤ 4096) :
    ∀ (n j : Nat), ms.length - j ≤ n → j ≤ ms.length → ∀ (pc pb : Option Addr) (cc cb : Nat) (cur : List (Int × Int)) (best : Try3) (w : World), SliceAt w encC 3 pl cl cps → SliceAt w encP 2 pm cm ms → SliceAt w encP 2 pc cc cur → SliceAt w encP 2 pb cb best.1 → cur.length ≤ j →
      Calls Try.prog 33 #[.slice pl cps.length cl, .slice pm ms.length cm, .int .i64 j, .slice pc cur.length cc, .agg #[.slice pb best.1.length cb, .int .i64 best.2.1, .bool best.2.2]] w (SearchPost w pc pb cur best (searchL (cps.map (·.2)) (ms.drop j) cur best)) := by
  intro n
  induction n with
  | zero =>
    intro j h1 h2 pc pb cc cb cur best w HL HM HC HB hcur
    have hj : j = ms.length := by omega
    subst hj
    rw [List.drop_length]
    exact search_leaf pl pm cl cm cps ms hcl hml pc pb cc cb cur best w HL HM HC HB hcur
  | succ n ih =>
    intro j h1 h2 pc pb cc cb cur best w HL HM HC HB hcur
    by_cases hj : j < ms.length
    · rw [List.drop_eq_getElem_cons hj]
      exact search_step pl pm cl cm cps ms hml j hj (fun pc pb cc cb cur best w a b c d e => ih (j + 1) (by omega) (by omega) pc pb cc cb cur best w a b c d e) pc pb cc cb cur best w HL HM HC HB hcur _ rfl
    · have hj : j = ms.length := by omega
      subst hj
      rw [List.drop_length]
      exact search_leaf pl pm cl cm cps ms hcl hml pc pb cc cb cur best w HL HM HC HB hcur

end Go.Proofs.Ytnedoaapnfpkfaa
