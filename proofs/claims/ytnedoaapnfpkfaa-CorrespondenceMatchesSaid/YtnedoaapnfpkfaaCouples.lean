/-
  The contract of the reference's couples: the common Ids with the numbers of their dies. Conditions: few specimens.
-/
import Derived.Test.YtnedoaapnfpkfaaRefA
import Derived.Test.YtnedoaapnfpkfaaMore
import Derived.Test.YtnedoaapnfpkfaaSpecimen
import Derived.Deep.DeepCutAuto
import Derived.Deep.Cut
namespace Go.Proofs.Ytnedoaapnfpkfaa
open Go.RowKit

theorem split_at {α : Type} {p : α → Bool} : ∀ {l : List α} {t : Nat}, t ≤ l.length → (∀ x ∈ l.take t, p x = true) → (∀ h : t < l.length, p l[t] = false) → l.takeWhile p = l.take t ∧ l.dropWhile p = l.drop t
  | [], t, _, _, _ => by simp
  | x :: l, 0, _, _, h => by
    have := h (by simp)
    simp at this
    simp [this]
  | x :: l, t + 1, ht, h1, h2 => by
    have hx : p x = true := h1 x (by simp)
    obtain ⟨h3, h4⟩ := split_at (l := l) (t := t) (by simpa using ht) (fun y hy => h1 y (by simp [hy])) (fun h => by have := h2 (by simpa using h); rwa [List.getElem_cons_succ] at this)
    simp [hx, h3, h4]
theorem spcells_ext {w w' : World} {b o : Nat} {s : Sp} (hx : Ext w w') (hb : b < w.heap.size) (h : w.cell? ⟨b, o, none⟩ = some (.int .i64 s.id) ∧ w.cell? ⟨b, o + 1, none⟩ = some (.int .i64 s.obv) ∧ w.cell? ⟨b, o + 2, none⟩ = some (.int .i64 s.rev) ∧
      w.cell? ⟨b, o + 3, none⟩ = some (.int .i64 s.os) ∧ w.cell? ⟨b, o + 4, none⟩ = some (.int .i64 s.rs) ∧ w.cell? ⟨b, o + 5, none⟩ = some (.int .i64 s.ax) ∧ w.cell? ⟨b, o + 6, none⟩ = some (.int .i64 s.wt)) :
    w'.cell? ⟨b, o, none⟩ = some (.int .i64 s.id) ∧ w'.cell? ⟨b, o + 1, none⟩ = some (.int .i64 s.obv) ∧ w'.cell? ⟨b, o + 2, none⟩ = some (.int .i64 s.rev) ∧
      w'.cell? ⟨b, o + 3, none⟩ = some (.int .i64 s.os) ∧ w'.cell? ⟨b, o + 4, none⟩ = some (.int .i64 s.rs) ∧ w'.cell? ⟨b, o + 5, none⟩ = some (.int .i64 s.ax) ∧ w'.cell? ⟨b, o + 6, none⟩ = some (.int .i64 s.wt) := by
  have hc : ∀ o', w'.cell? ⟨b, o', none⟩ = w.cell? ⟨b, o', none⟩ := fun o' => hx.cell (p := ⟨b, o', none⟩) hb
  simp only [hc]
  exact h

theorem coupS_length' (s t : Sp) (side : Int) (out : List Cp) : (coupS s t side out).length ≤ out.length + 1 := by
  unfold coupS insC; split
  · have := congrArg List.length (List.takeWhile_append_dropWhile (p := fun x : Cp => decide (x.1 < (s.id, numS s side, numS t side).1)) (l := out))
    rw [List.length_append] at this ⊢
    rw [List.length_cons]; omega
  · omega
theorem SliceAt.cp_at {w : World} {p : Option Addr} {cap : Nat} {l : List Cp} (h : SliceAt w encC 3 p cap l) {j : Nat} (hj : j < l.length) :
    ∃ b off, p = some ⟨b, off, none⟩ ∧ b < w.heap.size ∧ w.cell? ⟨b, off + j * 3, none⟩ = some (.int .i64 l[j].1) ∧ w.cell? ⟨b, off + j * 3 + 1, none⟩ = some (.int .i64 l[j].2.1) ∧ w.cell? ⟨b, off + j * 3 + 2, none⟩ = some (.int .i64 l[j].2.2) := by
  obtain ⟨b, off, hp, hb, hc⟩ := h.place (by omega)
  exact ⟨b, off, hp, hb, hc j hj 0 _ rfl, hc j hj 1 _ rfl, hc j hj 2 _ rfl⟩
theorem free3 {w : World} {b : Nat} {t : TypeId} {v0 v1 v2 : Value} (h : w.heap[b]? = some (.cells #[v0, v1, v2] t (0, 0))) :
    w.frozen? ⟨b, 0, none⟩ = false ∧ w.frozen? ⟨b, 1, none⟩ = false ∧ w.frozen? ⟨b, 2, none⟩ = false := by
  simp [World.frozen?, h]
theorem set3 {w : World} {b : Nat} {t : TypeId} {f : Nat × Nat} {v0 v1 v2 : Value} (h : w.heap[b]? = some (.cells #[v0, v1, v2] t f)) (u0 u1 u2 : Value) :
    (((w.setCell ⟨b, 0, none⟩ u0).setCell ⟨b, 1, none⟩ u1).setCell ⟨b, 2, none⟩ u2).heap[b]? = some (.cells #[u0, u1, u2] t f) := by
  have h2 := set_at (i := 2) (set_at (i := 1) (set_at (i := 0) h u0) u1) u2
  simpa using h2
theorem cells3_at {w : World} {b : Nat} {x : Cp} {t : TypeId} (h : w.heap[b]? = some (.cells #[.int .i64 x.1, .int .i64 x.2.1, .int .i64 x.2.2] t (0, 0))) : ∀ j u, (encC x)[j]? = some u → w.cell? ((⟨b, 0, none⟩ : Addr).add j) = some u := by
  intro j u hj
  match j, hj with
  | 0, hj => simp [encC] at hj; subst hj; simp [Addr.add, World.cell?, h]
  | 1, hj => simp [encC] at hj; subst hj; simp [Addr.add, World.cell?, h]
  | 2, hj => simp [encC] at hj; subst hj; simp [Addr.add, World.cell?, h]
  | j + 3, hj => simp [encC] at hj
theorem cells3 {w : World} {b : Nat} {t : TypeId} {v0 v1 v2 : Value} (h : w.heap[b]? = some (.cells #[v0, v1, v2] t (0, 0))) :
    w.cell? ⟨b, 0, none⟩ = some v0 ∧ w.cell? ⟨b, 1, none⟩ = some v1 ∧ w.cell? ⟨b, 2, none⟩ = some v2 := by
  simp [World.cell?, h]

def CouplesPost (w : World) (l : List Cp) (e : Ending) (w' : World) : Prop := ∃ v, e = .returned v ∧ OwnsL w' w.heap.size 89 3 encC v l ∧ Ext w w'

set_option maxRecDepth 10000 in
set_option maxHeartbeats 2000000 in
theorem couples_any (p q : Option Addr) (cp cq : Nat) (a b : List Sp) (side : Int) (w : World) (h : SliceAt w encSp 7 p cp a) (h' : SliceAt w encSp 7 q cq b) (ha : a.length ≤ 100) (hb : b.length ≤ 100) :
    Calls Try.prog 34 #[.slice p a.length cp, .slice q b.length cq, .int .i64 side] w (CouplesPost w (couplesL a b side)) := by
  have hmax := h.max
  have hle := h.le
  have hmax' := h'.max
  have hle' := h'.le
  unfold maxLen at hmax hmax'
  go_enter Try.func34, Try.ntmps34
  go_wp2
  go_loopw [7, 8, 9, 10, 11] (fun v i _ _ _ wr => ∃ k : Nat, k ≤ a.length ∧ i = .int .i64 k ∧ OwnsL wr w.heap.size 89 3 encC v (couplesL (a.take k) b side) ∧ (couplesL (a.take k) b side).length ≤ k * 100 ∧ Ext w wr) (fun _ i _ _ _ _ => a.length - (intOf i).toNat)
  case atStart => exact ⟨0, by omega, rfl, OwnsL.nil _ _ _ _ _, by simp [couplesL], Ext.refl _⟩
  case round =>
    obtain ⟨k, hk, rfl, HO, HL, HX⟩ := hrel
    by_cases hlt : k < a.length
    · generalize hout : couplesL (a.take k) b side = out at *
      have hstep := couplesL_take (b := b) (side := side) hlt
      rw [hout] at hstep
      have HOUT := hid hout
      have HSTEP := hid hstep
      clear hout hstep
      go_wp2
      obtain ⟨wo, rfl⟩ : ∃ wo : World, wo = wr := ⟨_, rfl⟩
      go_loopw [7, 9, 10, 11] (fun v j _ _ wr => ∃ t : Nat, t ≤ b.length ∧ j = .int .i64 t ∧ OwnsL wr w.heap.size 89 3 encC v (coup1 a[k] side (b.take t) out) ∧ (coup1 a[k] side (b.take t) out).length ≤ k * 100 + t ∧ Ext w wr) (fun _ j _ _ _ => b.length - (intOf j).toNat)
      case atStart => exact ⟨0, by omega, rfl, HO, by simpa [coup1] using HL, HX⟩
      case round =>
        clear HO HL HX
        obtain ⟨t, ht, rfl, HO, HL, HX⟩ := hrel
        by_cases hlt' : t < b.length
        · generalize hout : coup1 a[k] side (b.take t) out = o1 at *
          have hstep := coup1_take (s := a[k]) (side := side) (out := out) hlt'
          rw [hout] at hstep
          have HOUT1 := hid hout
          have HSTEP1 := hid hstep
          clear hout hstep
          obtain ⟨b1, f1, rfl, hb1, hcs1⟩ := (h.ext HX).sp_at hlt
          obtain ⟨b2, f2, rfl, hb2, hcs2⟩ := (h'.ext HX).sp_at hlt'
          generalize hx : a[k] = x at *
          generalize hy : b[t] = y at *
          have HXK := hid hx
          have HYT := hid hy
          clear hx hy
          by_cases he : x.id = y.id
          · have g : (x.id == y.id) = true := by simpa using he
            have g' : (x.id != y.id) = false := by simpa using he
            have HE := hid he
            clear he
            have HC1 := hid hcs1
            have HC2 := hid hcs2
            obtain ⟨c0, c1, c2, c3, c4, c5, c6⟩ := hcs1
            obtain ⟨d0, d1, d2, d3, d4, d5, d6⟩ := hcs2
            go_wp2_with fail
            go_quiet (fail)
            go_upto_region 9 with fail
            go_cut [10] (fun v wx => ∃ g, v = .pointer (some ⟨g, 0, none⟩) ∧ wx.heap[g]? = some (.cells #[.int .i64 x.id, .int .i64 (numS x side), .int .i64 (numS y side)] 89 (0, 0)) ∧ Ext wr wx)
            case first =>
              (refine wp_region_noPanic (wp_region_tree [0, 1, 2, 3, 4, 5, 6, 7, 8, 9, 11, 12, 13, 14, 15] (.two 10 (.two 16 (.two 17 (.one 18 (.one 19 .done)) 18 (.one 17 (.one 19 .done))) 18 (.one 16 (.one 17 (.one 19 .done)))) 18 (.one 10 (.one 16 (.one 17 (.one 19 .done))))) (fun w' => Ext wr w') (by kernel_rfl) (by kernel_rfl) (fun _ _ _ _ _ h => h) ((Ext.refl _).drewN _).drew ?_))
              ((refine wpTakes_nth (v := ?_) rfl rfl ?_ ?_; rotate_left 1; (· ((intro w hw; (try dsimp only at hw); (try go_split_ands); go_simp; try with_reducible rfl); all_goals go_simp; all_goals with_reducible rfl)); (try simp only [Act.put, List.setIfInBounds_toArray, List.set_cons_zero, List.set_cons_succ])); (refine wpTakes_nth (v := ?_) rfl rfl ?_ ?_; rotate_left 1; (· ((intro w hw; (try dsimp only at hw); (try go_split_ands); go_simp; try with_reducible rfl); all_goals go_simp; all_goals with_reducible rfl)); (try simp only [Act.put, List.setIfInBounds_toArray, List.set_cons_zero, List.set_cons_succ])); (refine wpTakes_nth (v := ?_) rfl rfl ?_ ?_; rotate_left 1; (· ((intro w hw; (try dsimp only at hw); (try go_split_ands); go_simp; try with_reducible rfl); all_goals go_simp; all_goals with_reducible rfl)); (try simp only [Act.put, List.setIfInBounds_toArray, List.set_cons_zero, List.set_cons_succ])); (refine wpTakes_nth (v := ?_) rfl rfl ?_ ?_; rotate_left 1; (· ((intro w hw; (try dsimp only at hw); (try go_split_ands); go_simp; try with_reducible rfl); all_goals go_simp; all_goals with_reducible rfl)); (try simp only [Act.put, List.setIfInBounds_toArray, List.set_cons_zero, List.set_cons_succ])))
              (refine wpTakes_nth (v := ?_) rfl rfl ?_ ?_; rotate_left 1; (· ((intro wl hwl; obtain ⟨l0, l1, l2, l3, l4, l5, l6⟩ := spcells_ext hwl hb1 HC1.out; clear hwl); all_goals go_simp; all_goals with_reducible rfl)); (try simp only [Act.put, List.setIfInBounds_toArray, List.set_cons_zero, List.set_cons_succ]))
              ((refine wpTakes_nth (v := ?_) rfl rfl ?_ ?_; rotate_left 1; (· ((intro w hw; (try dsimp only at hw); (try go_split_ands); go_simp; try with_reducible rfl); all_goals go_simp; all_goals with_reducible rfl)); (try simp only [Act.put, List.setIfInBounds_toArray, List.set_cons_zero, List.set_cons_succ])); (refine wpTakes_nth (v := ?_) rfl rfl ?_ ?_; rotate_left 1; (· ((intro w hw; (try dsimp only at hw); (try go_split_ands); go_simp; try with_reducible rfl); all_goals go_simp; all_goals with_reducible rfl)); (try simp only [Act.put, List.setIfInBounds_toArray, List.set_cons_zero, List.set_cons_succ])); (refine wpTakes_nth (v := ?_) rfl rfl ?_ ?_; rotate_left 1; (· ((intro w hw; (try dsimp only at hw); (try go_split_ands); go_simp; try with_reducible rfl); all_goals go_simp; all_goals with_reducible rfl)); (try simp only [Act.put, List.setIfInBounds_toArray, List.set_cons_zero, List.set_cons_succ])))
              (refine wpTakes_nth (v := x.val) rfl rfl ?_ ?_; (· ((intro wl hwl; obtain ⟨l0, l1, l2, l3, l4, l5, l6⟩ := spcells_ext hwl hb1 HC1.out; clear hwl); all_goals go_simp; all_goals with_reducible rfl)); (try simp only [Act.put, List.setIfInBounds_toArray, List.set_cons_zero, List.set_cons_succ]))
              ((refine wpTakes_nth (v := ?_) rfl rfl ?_ ?_; rotate_left 1; (· ((intro w hw; (try dsimp only at hw); (try go_split_ands); go_simp; try with_reducible rfl); all_goals go_simp; all_goals with_reducible rfl)); (try simp only [Act.put, List.setIfInBounds_toArray, List.set_cons_zero, List.set_cons_succ])); (refine wpTakes_nth (v := ?_) rfl rfl ?_ ?_; rotate_left 1; (· ((intro w hw; (try dsimp only at hw); (try go_split_ands); go_simp; try with_reducible rfl); all_goals go_simp; all_goals with_reducible rfl)); (try simp only [Act.put, List.setIfInBounds_toArray, List.set_cons_zero, List.set_cons_succ])); (refine wpTakes_nth (v := ?_) rfl rfl ?_ ?_; rotate_left 1; (· ((intro w hw; (try dsimp only at hw); (try go_split_ands); go_simp; try with_reducible rfl); all_goals go_simp; all_goals with_reducible rfl)); (try simp only [Act.put, List.setIfInBounds_toArray, List.set_cons_zero, List.set_cons_succ])); (refine wpTakes_nth (v := ?_) rfl rfl ?_ ?_; rotate_left 1; (· ((intro w hw; (try dsimp only at hw); (try go_split_ands); go_simp; try with_reducible rfl); all_goals go_simp; all_goals with_reducible rfl)); (try simp only [Act.put, List.setIfInBounds_toArray, List.set_cons_zero, List.set_cons_succ])))
              (refine wpTakes_nth (v := y.val) rfl rfl ?_ ?_; (· ((intro wl hwl; obtain ⟨l0, l1, l2, l3, l4, l5, l6⟩ := spcells_ext hwl hb2 HC2.out; clear hwl); all_goals go_simp; all_goals with_reducible rfl)); (try simp only [Act.put, List.setIfInBounds_toArray, List.set_cons_zero, List.set_cons_succ]))
              (refine wpTakes_nth (v := ?_) rfl rfl ?_ ?_; rotate_left 1; (· ((intro w hw; (try dsimp only at hw); (try go_split_ands); go_simp; try with_reducible rfl); all_goals go_simp; all_goals with_reducible rfl)); (try simp only [Act.put, List.setIfInBounds_toArray, List.set_cons_zero, List.set_cons_succ]))
              refine wpTakes_nil ?_
              have HS0 := ((Ext.refl wr).drewN nq).drew
              refine wpPlan_two ?_ ?_
              · (refine wpPlan_nth rfl rfl (fun K hK => ?_); go_simp)
                refine (die_any x side _).mono ?_
                rintro e wa ⟨rfl, hx1⟩
                have HS1 := HS0.trans hx1
                go_wp2_with fail
                ((try refine hK _ _ ?_); refine wpHoldT_mk ?_ ?_; (· (exact HS1)); (try clear hK K); (try simp only [Act.put, List.setIfInBounds_toArray, List.set_cons_zero, List.set_cons_succ]))
                refine wpPlan_two ?_ ?_
                · (refine wpPlan_nth rfl rfl (fun K hK => ?_); go_simp)
                  refine (die_any y side _).mono ?_
                  rintro e wb ⟨rfl, hx2⟩
                  have HS2 := HS1.trans hx2
                  go_wp2_with fail
                  ((try refine hK _ _ ?_); refine wpHoldT_mk ?_ ?_; (· (exact HS2)); (try clear hK K); (try simp only [Act.put, List.setIfInBounds_toArray, List.set_cons_zero, List.set_cons_succ]))
                  refine wpPlan_two ?_ ?_
                  · (refine wpPlan_nth rfl rfl (fun K hK => ?_); go_simp)
                    ((try refine hK _ _ ?_); refine wpHoldT_mk ?_ ?_; (· (exact HS2)); (try clear hK K); (try simp only [Act.put, List.setIfInBounds_toArray, List.set_cons_zero, List.set_cons_succ]))
                    have e3 : (wb.alloc (.cells #[.int .i64 0, .int .i64 0, .int .i64 0] 89)).heap[wb.heap.size]? = some (.cells #[.int .i64 0, .int .i64 0, .int .i64 0] 89 (0, 0)) := blk_new _ _
                    have HS3 := HS2.alloc (.cells #[.int .i64 0, .int .i64 0, .int .i64 0] 89)
                    have hsz := HS2.size
                    (refine wpPlan_nth rfl rfl (fun K hK => ?_); go_simp)
                    ((try refine hK _ _ ?_); refine wpHoldT_mk ?_ ?_; (· (exact HS3)); (try clear hK K); (try simp only [Act.put, List.setIfInBounds_toArray, List.set_cons_zero, List.set_cons_succ]))
                    obtain ⟨z0, z1, z2⟩ := cells3 e3
                    obtain ⟨y0, y1, y2⟩ := free3 e3
                    (refine wpPlan_nth rfl rfl (fun K hK => ?_); go_simp)
                    ((try refine hK _ _ ?_); refine wpHoldT_mk ?_ ?_; (· (exact HS2.alloc _)); (try clear hK K); (try simp only [Act.put, List.setIfInBounds_toArray, List.set_cons_zero, List.set_cons_succ]))
                    (refine wpPlan_done (NoPanic.normal ?_))
                    go_wp2
                    go_meet
                    case rel => exact ⟨_, rfl, blk_new _ _, HS2.alloc _⟩
                  · have e3 : (wb.alloc (.cells #[.int .i64 0, .int .i64 0, .int .i64 0] 89)).heap[wb.heap.size]? = some (.cells #[.int .i64 0, .int .i64 0, .int .i64 0] 89 (0, 0)) := blk_new _ _
                    have HS3 := HS2.alloc (.cells #[.int .i64 0, .int .i64 0, .int .i64 0] 89)
                    have hsz := HS2.size
                    (refine wpPlan_nth rfl rfl (fun K hK => ?_); go_simp)
                    ((try refine hK _ _ ?_); refine wpHoldT_mk ?_ ?_; (· (exact HS3)); (try clear hK K); (try simp only [Act.put, List.setIfInBounds_toArray, List.set_cons_zero, List.set_cons_succ]))
                    (refine wpPlan_nth rfl rfl (fun K hK => ?_); go_simp)
                    ((try refine hK _ _ ?_); refine wpHoldT_mk ?_ ?_; (· (exact HS3)); (try clear hK K); (try simp only [Act.put, List.setIfInBounds_toArray, List.set_cons_zero, List.set_cons_succ]))
                    obtain ⟨z0, z1, z2⟩ := cells3 e3
                    obtain ⟨y0, y1, y2⟩ := free3 e3
                    (refine wpPlan_nth rfl rfl (fun K hK => ?_); go_simp)
                    ((try refine hK _ _ ?_); refine wpHoldT_mk ?_ ?_; (· (exact HS2.alloc _)); (try clear hK K); (try simp only [Act.put, List.setIfInBounds_toArray, List.set_cons_zero, List.set_cons_succ]))
                    (refine wpPlan_done (NoPanic.normal ?_))
                    go_wp2
                    go_meet
                    case rel => exact ⟨_, rfl, blk_new _ _, HS2.alloc _⟩
                · have e2 : (wa.alloc (.cells #[.int .i64 0, .int .i64 0, .int .i64 0] 89)).heap[wa.heap.size]? = some (.cells #[.int .i64 0, .int .i64 0, .int .i64 0] 89 (0, 0)) := blk_new _ _
                  have HS2 := HS1.alloc (.cells #[.int .i64 0, .int .i64 0, .int .i64 0] 89)
                  have hsz := HS1.size
                  (refine wpPlan_nth rfl rfl (fun K hK => ?_); go_simp)
                  ((try refine hK _ _ ?_); refine wpHoldT_mk ?_ ?_; (· (exact HS2)); (try clear hK K); (try simp only [Act.put, List.setIfInBounds_toArray, List.set_cons_zero, List.set_cons_succ]))
                  (refine wpPlan_nth rfl rfl (fun K hK => ?_); go_simp)
                  refine (die_any y side _).mono ?_
                  rintro e wb ⟨rfl, hx3⟩
                  have HS3 := HS2.trans hx3
                  have e3 := blk_ext hx3 e2
                  go_wp2_with fail
                  ((try refine hK _ _ ?_); refine wpHoldT_mk ?_ ?_; (· (exact HS3)); (try clear hK K); (try simp only [Act.put, List.setIfInBounds_toArray, List.set_cons_zero, List.set_cons_succ]))
                  (refine wpPlan_nth rfl rfl (fun K hK => ?_); go_simp)
                  ((try refine hK _ _ ?_); refine wpHoldT_mk ?_ ?_; (· (exact HS3)); (try clear hK K); (try simp only [Act.put, List.setIfInBounds_toArray, List.set_cons_zero, List.set_cons_succ]))
                  obtain ⟨z0, z1, z2⟩ := cells3 e3
                  obtain ⟨y0, y1, y2⟩ := free3 e3
                  have hfin := set3 e3 (.int .i64 x.id) (.int .i64 (numS x side)) (.int .i64 (numS y side))
                  (refine wpPlan_nth rfl rfl (fun K hK => ?_); go_simp)
                  have HSF := ((HS3.setCell (p := ⟨_, 0, none⟩) hsz (.int .i64 x.id)).setCell (p := ⟨_, 1, none⟩) hsz (.int .i64 (numS x side))).setCell (p := ⟨_, 2, none⟩) hsz (.int .i64 (numS y side))
                  ((try refine hK _ _ ?_); refine wpHoldT_mk ?_ ?_; (· (exact HSF)); (try clear hK K); (try simp only [Act.put, List.setIfInBounds_toArray, List.set_cons_zero, List.set_cons_succ]))
                  (refine wpPlan_done (NoPanic.normal ?_))
                  go_wp2
                  go_meet
                  case rel => exact ⟨_, rfl, hfin, HSF⟩
              · have e1 : ((wr.drewN nq).drew.alloc (.cells #[.int .i64 0, .int .i64 0, .int .i64 0] 89)).heap[wr.heap.size]? = some (.cells #[.int .i64 0, .int .i64 0, .int .i64 0] 89 (0, 0)) := blk_newat (by simp) _
                have HS1 := HS0.alloc (.cells #[.int .i64 0, .int .i64 0, .int .i64 0] 89)
                have hsz := HS0.size
                (refine wpPlan_nth rfl rfl (fun K hK => ?_); go_simp)
                ((try refine hK _ _ ?_); refine wpHoldT_mk ?_ ?_; (· (exact HS1)); (try clear hK K); (try simp only [Act.put, List.setIfInBounds_toArray, List.set_cons_zero, List.set_cons_succ]))
                (refine wpPlan_nth rfl rfl (fun K hK => ?_); go_simp)
                refine (die_any x side _).mono ?_
                rintro e wa ⟨rfl, hx2⟩
                have HS2 := HS1.trans hx2
                have e2 := blk_ext hx2 e1
                go_wp2_with fail
                ((try refine hK _ _ ?_); refine wpHoldT_mk ?_ ?_; (· (exact HS2)); (try clear hK K); (try simp only [Act.put, List.setIfInBounds_toArray, List.set_cons_zero, List.set_cons_succ]))
                (refine wpPlan_nth rfl rfl (fun K hK => ?_); go_simp)
                refine (die_any y side _).mono ?_
                rintro e wb ⟨rfl, hx3⟩
                have HS3 := HS2.trans hx3
                have e3 := blk_ext hx3 e2
                go_wp2_with fail
                ((try refine hK _ _ ?_); refine wpHoldT_mk ?_ ?_; (· (exact HS3)); (try clear hK K); (try simp only [Act.put, List.setIfInBounds_toArray, List.set_cons_zero, List.set_cons_succ]))
                (refine wpPlan_nth rfl rfl (fun K hK => ?_); go_simp)
                ((try refine hK _ _ ?_); refine wpHoldT_mk ?_ ?_; (· (exact HS3)); (try clear hK K); (try simp only [Act.put, List.setIfInBounds_toArray, List.set_cons_zero, List.set_cons_succ]))
                obtain ⟨z0, z1, z2⟩ := cells3 e3
                obtain ⟨y0, y1, y2⟩ := free3 e3
                have hfin := set3 e3 (.int .i64 x.id) (.int .i64 (numS x side)) (.int .i64 (numS y side))
                (refine wpPlan_nth rfl rfl (fun K hK => ?_); go_simp)
                have HSF := ((HS3.setCell (p := ⟨_, 0, none⟩) hsz (.int .i64 x.id)).setCell (p := ⟨_, 1, none⟩) hsz (.int .i64 (numS x side))).setCell (p := ⟨_, 2, none⟩) hsz (.int .i64 (numS y side))
                ((try refine hK _ _ ?_); refine wpHoldT_mk ?_ ?_; (· (exact HSF)); (try clear hK K); (try simp only [Act.put, List.setIfInBounds_toArray, List.set_cons_zero, List.set_cons_succ]))
                (refine wpPlan_done (NoPanic.normal ?_))
                go_wp2
                go_meet
                case rel => exact ⟨_, rfl, hfin, HSF⟩
            case rest =>
              obtain ⟨g, rfl, hblk, hxc⟩ := hcut
              obtain ⟨po, co, rfl, HSL⟩ := HO.slice encC_len
              have hmo := HSL.max
              have hlo := HSL.le
              unfold maxLen at hmo
              have hlen1 : (coupS x y side o1).length ≤ k * 100 + (t + 1) := by have := coupS_length' x y side o1; omega
              have hsame : coupS x y side o1 = insC (x.id, numS x side, numS y side) o1 := by unfold coupS; rw [if_pos HE.out]
              have HSAME := hid hsame
              clear hsame c0 c1 c2 c3 c4 c5 c6 d0 d1 d2 d3 d4 d5 d6 g'
              go_wp2
              go_loopw [11] (fun i wz => ∃ r : Nat, r ≤ o1.length ∧ i = .int .i64 r ∧ (∀ c ∈ o1.take r, decide (c.1 < x.id) = true) ∧ Ext wc wz) (fun i _ => o1.length - (intOf i).toNat)
              case atStart => exact ⟨0, by omega, rfl, by simp, Ext.refl _⟩
              case round =>
                obtain ⟨r, hr, rfl, hall, hxz⟩ := hrel
                have HALL := hid hall
                clear hall
                have hblk2 := blk_ext hxz hblk
                by_cases hin : ∃ h : r < o1.length, o1[r].1 < x.id
                · obtain ⟨hrl, hlt1⟩ := hin
                  obtain ⟨bo, fo, rfl, hbo, c0, c1, c2⟩ := (HSL.ext (hxc.trans hxz)).cp_at hrl
                  obtain ⟨d0, d1, d2⟩ := cells3 hblk2
                  go_wp2_with fail
                  go_quiet (fail)
                  go_wp2
                  go_roundw
                  case rel =>
                    refine ⟨r + 1, by omega, by go_num, ?_, hxz.drewN _⟩
                    intro c hc
                    rw [List.take_succ_eq_append_getElem hrl] at hc
                    rcases List.mem_append.1 hc with hc | hc
                    · exact HALL.out c hc
                    · simp at hc; rw [hc]; simpa using hlt1
                  case measure => simp [intOf]; omega
                · have hsp := split_at (p := fun c : Cp => decide (c.1 < x.id)) hr HALL.out (fun h => by simpa using fun h' => hin ⟨h, h'⟩)
                  have HSP := hid hsp
                  clear hsp
                  have hgo : (r = o1.length) ∨ (∃ h : r < o1.length, decide (o1[r].1 < x.id) = false) := by
                    by_cases h : r < o1.length
                    · exact Or.inr ⟨h, by simpa using fun h' => hin ⟨h, h'⟩⟩
                    · exact Or.inl (by omega)
                  clear hin
                  have HSLW := HSL.ext (hxc.trans hxz)
                  have htl : (o1.take r).length = r := by rw [List.length_take]; omega
                  have hdl : (o1.drop r).length = o1.length - r := List.length_drop
                  have HTL := hid htl
                  have HDL := hid hdl
                  clear htl hdl
                  have hrco : r ≤ co := by omega
                  rcases hgo with hgo | ⟨hrl, hge⟩
                  · subst hgo
                    have hrn : decide ((o1.length : Int) < (o1.length : Int)) = false := by simp
                    obtain ⟨d0, d1, d2⟩ := cells3 hblk2
                    go_wp2_with fail
                    go_quiet (fail)
                    go_wp2
                    clear d0 d1 d2
                    (refine wp_region_noPanic (wp_region_tree [1, 2, 3, 5, 8, 9, 10] (.two 0 (.two 4 (.one 6 (.one 7 (.one 11 (.one 12 .done)))) 6 (.one 4 (.one 7 (.one 11 (.one 12 .done))))) 6 (.one 0 (.one 4 (.one 7 (.one 11 (.one 12 .done)))))) (fun w' => w'.heap[g]? = some (.cells #[.int .i64 x.id, .int .i64 (numS x side), .int .i64 (numS y side)] 89 (0, 0))) (by kernel_rfl) (by kernel_rfl) (fun _ _ _ _ _ h => h) hblk2 ?_))
                    (refine wpTakes_nth (v := ?_) rfl rfl ?_ ?_; rotate_left 1; (· ((intro w hw; (try dsimp only at hw); (try go_split_ands); go_simp; try with_reducible rfl); all_goals go_simp; all_goals with_reducible rfl)); (try simp only [Act.put, List.setIfInBounds_toArray, List.set_cons_zero, List.set_cons_succ]))
                    (refine wpTakes_nth (v := ?_) rfl rfl ?_ ?_; rotate_left 1; (· ((intro w hw; (try dsimp only at hw); (try go_split_ands); go_simp; try with_reducible rfl); all_goals go_simp; all_goals with_reducible rfl)); (try simp only [Act.put, List.setIfInBounds_toArray, List.set_cons_zero, List.set_cons_succ]))
                    (refine wpTakes_nth (v := ?_) rfl rfl ?_ ?_; rotate_left 1; (· ((intro w hw; (try dsimp only at hw); (try go_split_ands); go_simp; try with_reducible rfl); all_goals go_simp; all_goals with_reducible rfl)); (try simp only [Act.put, List.setIfInBounds_toArray, List.set_cons_zero, List.set_cons_succ]))
                    (refine wpTakes_nth (v := (.agg #[.int .i64 x.id, .int .i64 (numS x side), .int .i64 (numS y side)])) rfl rfl ?_ ?_; (· ((intro wl hwl; obtain ⟨l0, l1, l2⟩ := cells3 hwl; clear hwl); all_goals go_simp; all_goals with_reducible rfl)); (try simp only [Act.put, List.setIfInBounds_toArray, List.set_cons_zero, List.set_cons_succ]))
                    ((refine wpTakes_nth (v := ?_) rfl rfl ?_ ?_; rotate_left 1; (· ((intro w hw; (try dsimp only at hw); (try go_split_ands); go_simp; try with_reducible rfl); all_goals go_simp; all_goals with_reducible rfl)); (try simp only [Act.put, List.setIfInBounds_toArray, List.set_cons_zero, List.set_cons_succ])); (refine wpTakes_nth (v := ?_) rfl rfl ?_ ?_; rotate_left 1; (· ((intro w hw; (try dsimp only at hw); (try go_split_ands); go_simp; try with_reducible rfl); all_goals go_simp; all_goals with_reducible rfl)); (try simp only [Act.put, List.setIfInBounds_toArray, List.set_cons_zero, List.set_cons_succ])); (refine wpTakes_nth (v := ?_) rfl rfl ?_ ?_; rotate_left 1; (· ((intro w hw; (try dsimp only at hw); (try go_split_ands); go_simp; try with_reducible rfl); all_goals go_simp; all_goals with_reducible rfl)); (try simp only [Act.put, List.setIfInBounds_toArray, List.set_cons_zero, List.set_cons_succ])))
                    refine wpTakes_nil ?_
                    have htl := HTL.out
                    have hdl := HDL.out
                    have HE0 : Ext wr (wr.drewN (nq + 1)) := (Ext.refl _).drewN _
                    refine wpPlan_two ?_ ?_
                    · (refine wpPlan_nth rfl rfl (fun K hK => ?_); go_simp)
                      have hOa : OwnsL ((wr.drewN (nq + 1)).alloc (.cells #[] 89)) wr.heap.size 89 3 encC (.slice (some ⟨wr.heap.size, 0, none⟩) 0 0) [] := OwnsL.fresh_at _ _ _ _ (blk_newat (by simp) _) (by omega)
                      have HE1 := HE0.alloc (.cells #[] 89)
                      ((try refine hK _ _ ?_); refine wpHoldT_mk ?_ ?_; (· (exact blk_ext HE1 hblk2)); (try clear hK K); (try simp only [Act.put, List.setIfInBounds_toArray, List.set_cons_zero, List.set_cons_succ]))
                      refine wpPlan_two ?_ ?_
                      · (refine wpPlan_nth rfl rfl (fun K hK => ?_))
                        refine opWp_append_many elemC (by decide) _ _ rfl wr.heap.size _ [] (o1.take o1.length) rfl hOa _ _ (by rw [htl]; rfl) ((HSLW.ext HE1).take o1.length) (by rw [htl]; simp; omega) HE1.size ?_
                        intro v1 w2 hO2 hg2 hat2
                        have HE2 := HE1.grownL hOa (Nat.le_refl _) hg2
                        ((try refine hK _ _ ?_); refine wpHoldT_mk ?_ ?_; (· (exact blk_ext HE2 hblk2)); (try clear hK K); (try simp only [Act.put, List.setIfInBounds_toArray, List.set_cons_zero, List.set_cons_succ]))
                        (refine wpPlan_nth rfl rfl (fun K hK => ?_); go_simp)
                        have hbox : (w2.alloc (.cells #[.int .i64 x.id, .int .i64 (numS x side), .int .i64 (numS y side)] 89)).heap[w2.heap.size]? = some (.cells #[.int .i64 x.id, .int .i64 (numS x side), .int .i64 (numS y side)] 89 (0, 0)) := blk_newat (by simp) _
                        have HE3 := HE2.alloc (.cells #[.int .i64 x.id, .int .i64 (numS x side), .int .i64 (numS y side)] 89)
                        ((try refine hK _ _ ?_); refine wpHoldT_mk ?_ ?_; (· (exact blk_ext HE3 hblk2)); (try clear hK K); (try simp only [Act.put, List.setIfInBounds_toArray, List.set_cons_zero, List.set_cons_succ]))
                        have hOb := hO2.alloc (.cells #[.int .i64 x.id, .int .i64 (numS x side), .int .i64 (numS y side)] 89)
                        (refine wpPlan_nth rfl rfl (fun K hK => ?_))
                        refine opWp_append_one elemC (by decide) _ _ rfl wr.heap.size _ _ rfl hOb (w2.heap.size) 1 (x.id, numS x side, numS y side) rfl (cells3_at hbox) (by simp; omega) HE3.size ?_
                        intro v3 w4 hO4 hg4
                        have HE4 := HE3.grownL hOb (Nat.le_refl _) hg4
                        ((try refine hK _ _ ?_); refine wpHoldT_mk ?_ ?_; (· (exact blk_ext HE4 hblk2)); (try clear hK K); (try simp only [Act.put, List.setIfInBounds_toArray, List.set_cons_zero, List.set_cons_succ]))
                        (refine wpPlan_nth rfl rfl (fun K hK => ?_))
                        refine opWp_append_many elemC (by decide) _ _ rfl wr.heap.size _ _ (o1.drop o1.length) rfl hO4 _ _ (by rw [hdl, Nat.sub_self]; rfl) ((HSLW.ext HE4).drop_all) (by simp; omega) HE4.size ?_
                        intro v5 w6 hO6 hg6 hat6
                        have HEZ := HE4.grownL hO4 (Nat.le_refl _) hg6
                        ((try refine hK _ _ ?_); refine wpHoldT_mk ?_ ?_; (· (exact blk_ext HEZ hblk2)); (try clear hK K); (try simp only [Act.put, List.setIfInBounds_toArray, List.set_cons_zero, List.set_cons_succ]))
                        (refine wpPlan_nth rfl rfl (fun K hK => ?_); go_simp)
                        ((try refine hK _ _ ?_); refine wpHoldT_mk ?_ ?_; (· (exact blk_ext HEZ hblk2)); (try clear hK K); (try simp only [Act.put, List.setIfInBounds_toArray, List.set_cons_zero, List.set_cons_succ]))
                        (refine wpPlan_done (NoPanic.normal ?_))
                        go_wp2
                        go_roundw
                        case rel =>
                          refine ⟨t + 1, by omega, by go_num, ?_, by rw [HSTEP1.out]; exact hlen1, (HX.trans (hxc.trans hxz)).trans HEZ⟩
                          rw [HSTEP1.out, HSAME.out]
                          unfold insC
                          rw [HSP.out.1, HSP.out.2]
                          simpa using hO6.of_base ((HX.trans (hxc.trans hxz)).size)
                        case measure => simp [intOf]; omega
                      · (refine wpPlan_nth rfl rfl (fun K hK => ?_); go_simp)
                        have hbox : (((wr.drewN (nq + 1)).alloc (.cells #[] 89)).alloc (.cells #[.int .i64 x.id, .int .i64 (numS x side), .int .i64 (numS y side)] 89)).heap[wr.heap.size + 1]? = some (.cells #[.int .i64 x.id, .int .i64 (numS x side), .int .i64 (numS y side)] 89 (0, 0)) := blk_newat (by simp) _
                        have HE2 := HE1.alloc (.cells #[.int .i64 x.id, .int .i64 (numS x side), .int .i64 (numS y side)] 89)
                        ((try refine hK _ _ ?_); refine wpHoldT_mk ?_ ?_; (· (exact blk_ext HE2 hblk2)); (try clear hK K); (try simp only [Act.put, List.setIfInBounds_toArray, List.set_cons_zero, List.set_cons_succ]))
                        have hOb := hOa.alloc (.cells #[.int .i64 x.id, .int .i64 (numS x side), .int .i64 (numS y side)] 89)
                        (refine wpPlan_nth rfl rfl (fun K hK => ?_))
                        refine opWp_append_many elemC (by decide) _ _ rfl wr.heap.size _ [] (o1.take o1.length) rfl hOb _ _ (by rw [htl]; rfl) ((HSLW.ext HE2).take o1.length) (by rw [htl]; simp; omega) HE2.size ?_
                        intro v1 w2 hO2 hg2 hat2
                        have HE3 := HE2.grownL hOb (Nat.le_refl _) hg2
                        ((try refine hK _ _ ?_); refine wpHoldT_mk ?_ ?_; (· (exact blk_ext HE3 hblk2)); (try clear hK K); (try simp only [Act.put, List.setIfInBounds_toArray, List.set_cons_zero, List.set_cons_succ]))
                        have hbx := blk_grownL hg2 hbox (fun r hr e => by have := Option.some.inj hr; simp at this; omega)
                        (refine wpPlan_nth rfl rfl (fun K hK => ?_))
                        refine opWp_append_one elemC (by decide) _ _ rfl wr.heap.size _ _ rfl hO2 (wr.heap.size + 1) 1 (x.id, numS x side, numS y side) rfl (cells3_at hbx) (by simp; omega) HE3.size ?_
                        intro v3 w4 hO4 hg4
                        have HE4 := HE3.grownL hO2 (Nat.le_refl _) hg4
                        ((try refine hK _ _ ?_); refine wpHoldT_mk ?_ ?_; (· (exact blk_ext HE4 hblk2)); (try clear hK K); (try simp only [Act.put, List.setIfInBounds_toArray, List.set_cons_zero, List.set_cons_succ]))
                        (refine wpPlan_nth rfl rfl (fun K hK => ?_))
                        refine opWp_append_many elemC (by decide) _ _ rfl wr.heap.size _ _ (o1.drop o1.length) rfl hO4 _ _ (by rw [hdl, Nat.sub_self]; rfl) ((HSLW.ext HE4).drop_all) (by simp; omega) HE4.size ?_
                        intro v5 w6 hO6 hg6 hat6
                        have HEZ := HE4.grownL hO4 (Nat.le_refl _) hg6
                        ((try refine hK _ _ ?_); refine wpHoldT_mk ?_ ?_; (· (exact blk_ext HEZ hblk2)); (try clear hK K); (try simp only [Act.put, List.setIfInBounds_toArray, List.set_cons_zero, List.set_cons_succ]))
                        (refine wpPlan_nth rfl rfl (fun K hK => ?_); go_simp)
                        ((try refine hK _ _ ?_); refine wpHoldT_mk ?_ ?_; (· (exact blk_ext HEZ hblk2)); (try clear hK K); (try simp only [Act.put, List.setIfInBounds_toArray, List.set_cons_zero, List.set_cons_succ]))
                        (refine wpPlan_done (NoPanic.normal ?_))
                        go_wp2
                        go_roundw
                        case rel =>
                          refine ⟨t + 1, by omega, by go_num, ?_, by rw [HSTEP1.out]; exact hlen1, (HX.trans (hxc.trans hxz)).trans HEZ⟩
                          rw [HSTEP1.out, HSAME.out]
                          unfold insC
                          rw [HSP.out.1, HSP.out.2]
                          simpa using hO6.of_base ((HX.trans (hxc.trans hxz)).size)
                        case measure => simp [intOf]; omega
                    · (refine wpPlan_nth rfl rfl (fun K hK => ?_); go_simp)
                      have hbox : ((wr.drewN (nq + 1)).alloc (.cells #[.int .i64 x.id, .int .i64 (numS x side), .int .i64 (numS y side)] 89)).heap[wr.heap.size]? = some (.cells #[.int .i64 x.id, .int .i64 (numS x side), .int .i64 (numS y side)] 89 (0, 0)) := blk_newat (by simp) _
                      have HE1 := HE0.alloc (.cells #[.int .i64 x.id, .int .i64 (numS x side), .int .i64 (numS y side)] 89)
                      ((try refine hK _ _ ?_); refine wpHoldT_mk ?_ ?_; (· (exact blk_ext HE1 hblk2)); (try clear hK K); (try simp only [Act.put, List.setIfInBounds_toArray, List.set_cons_zero, List.set_cons_succ]))
                      (refine wpPlan_nth rfl rfl (fun K hK => ?_); go_simp)
                      have hOa : OwnsL (((wr.drewN (nq + 1)).alloc (.cells #[.int .i64 x.id, .int .i64 (numS x side), .int .i64 (numS y side)] 89)).alloc (.cells #[] 89)) wr.heap.size 89 3 encC (.slice (some ⟨wr.heap.size + 1, 0, none⟩) 0 0) [] := OwnsL.fresh_at _ _ _ _ (blk_newat (by simp) _) (by omega)
                      have HE2 := HE1.alloc (.cells #[] 89)
                      ((try refine hK _ _ ?_); refine wpHoldT_mk ?_ ?_; (· (exact blk_ext HE2 hblk2)); (try clear hK K); (try simp only [Act.put, List.setIfInBounds_toArray, List.set_cons_zero, List.set_cons_succ]))
                      (refine wpPlan_nth rfl rfl (fun K hK => ?_))
                      refine opWp_append_many elemC (by decide) _ _ rfl wr.heap.size _ [] (o1.take o1.length) rfl hOa _ _ (by rw [htl]; rfl) ((HSLW.ext HE2).take o1.length) (by rw [htl]; simp; omega) HE2.size ?_
                      intro v1 w2 hO2 hg2 hat2
                      have HE3 := HE2.grownL hOa (Nat.le_refl _) hg2
                      ((try refine hK _ _ ?_); refine wpHoldT_mk ?_ ?_; (· (exact blk_ext HE3 hblk2)); (try clear hK K); (try simp only [Act.put, List.setIfInBounds_toArray, List.set_cons_zero, List.set_cons_succ]))
                      have hbx := blk_grownL hg2 (blk_alloc hbox) (fun r hr e => by have := Option.some.inj hr; simp at this; omega)
                      (refine wpPlan_nth rfl rfl (fun K hK => ?_))
                      refine opWp_append_one elemC (by decide) _ _ rfl wr.heap.size _ _ rfl hO2 (wr.heap.size) 1 (x.id, numS x side, numS y side) rfl (cells3_at hbx) (by simp; omega) HE3.size ?_
                      intro v3 w4 hO4 hg4
                      have HE4 := HE3.grownL hO2 (Nat.le_refl _) hg4
                      ((try refine hK _ _ ?_); refine wpHoldT_mk ?_ ?_; (· (exact blk_ext HE4 hblk2)); (try clear hK K); (try simp only [Act.put, List.setIfInBounds_toArray, List.set_cons_zero, List.set_cons_succ]))
                      (refine wpPlan_nth rfl rfl (fun K hK => ?_))
                      refine opWp_append_many elemC (by decide) _ _ rfl wr.heap.size _ _ (o1.drop o1.length) rfl hO4 _ _ (by rw [hdl, Nat.sub_self]; rfl) ((HSLW.ext HE4).drop_all) (by simp; omega) HE4.size ?_
                      intro v5 w6 hO6 hg6 hat6
                      have HEZ := HE4.grownL hO4 (Nat.le_refl _) hg6
                      ((try refine hK _ _ ?_); refine wpHoldT_mk ?_ ?_; (· (exact blk_ext HEZ hblk2)); (try clear hK K); (try simp only [Act.put, List.setIfInBounds_toArray, List.set_cons_zero, List.set_cons_succ]))
                      (refine wpPlan_nth rfl rfl (fun K hK => ?_); go_simp)
                      ((try refine hK _ _ ?_); refine wpHoldT_mk ?_ ?_; (· (exact blk_ext HEZ hblk2)); (try clear hK K); (try simp only [Act.put, List.setIfInBounds_toArray, List.set_cons_zero, List.set_cons_succ]))
                      (refine wpPlan_done (NoPanic.normal ?_))
                      go_wp2
                      go_roundw
                      case rel =>
                        refine ⟨t + 1, by omega, by go_num, ?_, by rw [HSTEP1.out]; exact hlen1, (HX.trans (hxc.trans hxz)).trans HEZ⟩
                        rw [HSTEP1.out, HSAME.out]
                        unfold insC
                        rw [HSP.out.1, HSP.out.2]
                        simpa using hO6.of_base ((HX.trans (hxc.trans hxz)).size)
                      case measure => simp [intOf]; omega
                  · have hcr : ¬ co = r := by omega
                    obtain ⟨bo, fo, rfl, hbo, c0, c1, c2⟩ := HSLW.cp_at hrl
                    obtain ⟨d0, d1, d2⟩ := cells3 hblk2
                    go_wp2_with fail
                    go_quiet (fail)
                    go_wp2
                    clear c0 c1 c2 d0 d1 d2
                    (refine wp_region_noPanic (wp_region_tree [1, 2, 3, 5, 8, 9, 10] (.two 0 (.two 4 (.one 6 (.one 7 (.one 11 (.one 12 .done)))) 6 (.one 4 (.one 7 (.one 11 (.one 12 .done))))) 6 (.one 0 (.one 4 (.one 7 (.one 11 (.one 12 .done)))))) (fun w' => w'.heap[g]? = some (.cells #[.int .i64 x.id, .int .i64 (numS x side), .int .i64 (numS y side)] 89 (0, 0))) (by kernel_rfl) (by kernel_rfl) (fun _ _ _ _ _ h => h) hblk2 ?_))
                    (refine wpTakes_nth (v := ?_) rfl rfl ?_ ?_; rotate_left 1; (· ((intro w hw; (try dsimp only at hw); (try go_split_ands); go_simp; try with_reducible rfl); all_goals go_simp; all_goals with_reducible rfl)); (try simp only [Act.put, List.setIfInBounds_toArray, List.set_cons_zero, List.set_cons_succ]))
                    (refine wpTakes_nth (v := ?_) rfl rfl ?_ ?_; rotate_left 1; (· ((intro w hw; (try dsimp only at hw); (try go_split_ands); go_simp; try with_reducible rfl); all_goals go_simp; all_goals with_reducible rfl)); (try simp only [Act.put, List.setIfInBounds_toArray, List.set_cons_zero, List.set_cons_succ]))
                    (refine wpTakes_nth (v := ?_) rfl rfl ?_ ?_; rotate_left 1; (· ((intro w hw; (try dsimp only at hw); (try go_split_ands); go_simp; try with_reducible rfl); all_goals go_simp; all_goals with_reducible rfl)); (try simp only [Act.put, List.setIfInBounds_toArray, List.set_cons_zero, List.set_cons_succ]))
                    (refine wpTakes_nth (v := (.agg #[.int .i64 x.id, .int .i64 (numS x side), .int .i64 (numS y side)])) rfl rfl ?_ ?_; (· ((intro wl hwl; obtain ⟨l0, l1, l2⟩ := cells3 hwl; clear hwl); all_goals go_simp; all_goals with_reducible rfl)); (try simp only [Act.put, List.setIfInBounds_toArray, List.set_cons_zero, List.set_cons_succ]))
                    ((refine wpTakes_nth (v := ?_) rfl rfl ?_ ?_; rotate_left 1; (· ((intro w hw; (try dsimp only at hw); (try go_split_ands); go_simp; try with_reducible rfl); all_goals go_simp; all_goals with_reducible rfl)); (try simp only [Act.put, List.setIfInBounds_toArray, List.set_cons_zero, List.set_cons_succ])); (refine wpTakes_nth (v := ?_) rfl rfl ?_ ?_; rotate_left 1; (· ((intro w hw; (try dsimp only at hw); (try go_split_ands); go_simp; try with_reducible rfl); all_goals go_simp; all_goals with_reducible rfl)); (try simp only [Act.put, List.setIfInBounds_toArray, List.set_cons_zero, List.set_cons_succ])); (refine wpTakes_nth (v := ?_) rfl rfl ?_ ?_; rotate_left 1; (· ((intro w hw; (try dsimp only at hw); (try go_split_ands); go_simp; try with_reducible rfl); all_goals go_simp; all_goals with_reducible rfl)); (try simp only [Act.put, List.setIfInBounds_toArray, List.set_cons_zero, List.set_cons_succ])))
                    refine wpTakes_nil ?_
                    have htl := HTL.out
                    have hdl := HDL.out
                    have HE0 : Ext wr (wr.drewN (nq + 1)) := (Ext.refl _).drewN _
                    refine wpPlan_two ?_ ?_
                    · (refine wpPlan_nth rfl rfl (fun K hK => ?_); go_simp)
                      have hOa : OwnsL ((wr.drewN (nq + 1)).alloc (.cells #[] 89)) wr.heap.size 89 3 encC (.slice (some ⟨wr.heap.size, 0, none⟩) 0 0) [] := OwnsL.fresh_at _ _ _ _ (blk_newat (by simp) _) (by omega)
                      have HE1 := HE0.alloc (.cells #[] 89)
                      ((try refine hK _ _ ?_); refine wpHoldT_mk ?_ ?_; (· (exact blk_ext HE1 hblk2)); (try clear hK K); (try simp only [Act.put, List.setIfInBounds_toArray, List.set_cons_zero, List.set_cons_succ]))
                      refine wpPlan_two ?_ ?_
                      · (refine wpPlan_nth rfl rfl (fun K hK => ?_))
                        refine opWp_append_many elemC (by decide) _ _ rfl wr.heap.size _ [] (o1.take r) rfl hOa _ _ (by rw [htl]; rfl) ((HSLW.ext HE1).take r) (by rw [htl]; simp; omega) HE1.size ?_
                        intro v1 w2 hO2 hg2 hat2
                        have HE2 := HE1.grownL hOa (Nat.le_refl _) hg2
                        ((try refine hK _ _ ?_); refine wpHoldT_mk ?_ ?_; (· (exact blk_ext HE2 hblk2)); (try clear hK K); (try simp only [Act.put, List.setIfInBounds_toArray, List.set_cons_zero, List.set_cons_succ]))
                        (refine wpPlan_nth rfl rfl (fun K hK => ?_); go_simp)
                        have hbox : (w2.alloc (.cells #[.int .i64 x.id, .int .i64 (numS x side), .int .i64 (numS y side)] 89)).heap[w2.heap.size]? = some (.cells #[.int .i64 x.id, .int .i64 (numS x side), .int .i64 (numS y side)] 89 (0, 0)) := blk_newat (by simp) _
                        have HE3 := HE2.alloc (.cells #[.int .i64 x.id, .int .i64 (numS x side), .int .i64 (numS y side)] 89)
                        ((try refine hK _ _ ?_); refine wpHoldT_mk ?_ ?_; (· (exact blk_ext HE3 hblk2)); (try clear hK K); (try simp only [Act.put, List.setIfInBounds_toArray, List.set_cons_zero, List.set_cons_succ]))
                        have hOb := hO2.alloc (.cells #[.int .i64 x.id, .int .i64 (numS x side), .int .i64 (numS y side)] 89)
                        (refine wpPlan_nth rfl rfl (fun K hK => ?_))
                        refine opWp_append_one elemC (by decide) _ _ rfl wr.heap.size _ _ rfl hOb (w2.heap.size) 1 (x.id, numS x side, numS y side) rfl (cells3_at hbox) (by simp; omega) HE3.size ?_
                        intro v3 w4 hO4 hg4
                        have HE4 := HE3.grownL hOb (Nat.le_refl _) hg4
                        ((try refine hK _ _ ?_); refine wpHoldT_mk ?_ ?_; (· (exact blk_ext HE4 hblk2)); (try clear hK K); (try simp only [Act.put, List.setIfInBounds_toArray, List.set_cons_zero, List.set_cons_succ]))
                        (refine wpPlan_nth rfl rfl (fun K hK => ?_))
                        refine opWp_append_many elemC (by decide) _ _ rfl wr.heap.size _ _ (o1.drop r) rfl hO4 _ _ (by rw [hdl]; rfl) ((HSLW.ext HE4).drop_some hrl) (by simp; omega) HE4.size ?_
                        intro v5 w6 hO6 hg6 hat6
                        have HEZ := HE4.grownL hO4 (Nat.le_refl _) hg6
                        ((try refine hK _ _ ?_); refine wpHoldT_mk ?_ ?_; (· (exact blk_ext HEZ hblk2)); (try clear hK K); (try simp only [Act.put, List.setIfInBounds_toArray, List.set_cons_zero, List.set_cons_succ]))
                        (refine wpPlan_nth rfl rfl (fun K hK => ?_); go_simp)
                        ((try refine hK _ _ ?_); refine wpHoldT_mk ?_ ?_; (· (exact blk_ext HEZ hblk2)); (try clear hK K); (try simp only [Act.put, List.setIfInBounds_toArray, List.set_cons_zero, List.set_cons_succ]))
                        (refine wpPlan_done (NoPanic.normal ?_))
                        go_wp2
                        go_roundw
                        case rel =>
                          refine ⟨t + 1, by omega, by go_num, ?_, by rw [HSTEP1.out]; exact hlen1, (HX.trans (hxc.trans hxz)).trans HEZ⟩
                          rw [HSTEP1.out, HSAME.out]
                          unfold insC
                          rw [HSP.out.1, HSP.out.2]
                          simpa using hO6.of_base ((HX.trans (hxc.trans hxz)).size)
                        case measure => simp [intOf]; omega
                      · (refine wpPlan_nth rfl rfl (fun K hK => ?_); go_simp)
                        have hbox : (((wr.drewN (nq + 1)).alloc (.cells #[] 89)).alloc (.cells #[.int .i64 x.id, .int .i64 (numS x side), .int .i64 (numS y side)] 89)).heap[wr.heap.size + 1]? = some (.cells #[.int .i64 x.id, .int .i64 (numS x side), .int .i64 (numS y side)] 89 (0, 0)) := blk_newat (by simp) _
                        have HE2 := HE1.alloc (.cells #[.int .i64 x.id, .int .i64 (numS x side), .int .i64 (numS y side)] 89)
                        ((try refine hK _ _ ?_); refine wpHoldT_mk ?_ ?_; (· (exact blk_ext HE2 hblk2)); (try clear hK K); (try simp only [Act.put, List.setIfInBounds_toArray, List.set_cons_zero, List.set_cons_succ]))
                        have hOb := hOa.alloc (.cells #[.int .i64 x.id, .int .i64 (numS x side), .int .i64 (numS y side)] 89)
                        (refine wpPlan_nth rfl rfl (fun K hK => ?_))
                        refine opWp_append_many elemC (by decide) _ _ rfl wr.heap.size _ [] (o1.take r) rfl hOb _ _ (by rw [htl]; rfl) ((HSLW.ext HE2).take r) (by rw [htl]; simp; omega) HE2.size ?_
                        intro v1 w2 hO2 hg2 hat2
                        have HE3 := HE2.grownL hOb (Nat.le_refl _) hg2
                        ((try refine hK _ _ ?_); refine wpHoldT_mk ?_ ?_; (· (exact blk_ext HE3 hblk2)); (try clear hK K); (try simp only [Act.put, List.setIfInBounds_toArray, List.set_cons_zero, List.set_cons_succ]))
                        have hbx := blk_grownL hg2 hbox (fun r hr e => by have := Option.some.inj hr; simp at this; omega)
                        (refine wpPlan_nth rfl rfl (fun K hK => ?_))
                        refine opWp_append_one elemC (by decide) _ _ rfl wr.heap.size _ _ rfl hO2 (wr.heap.size + 1) 1 (x.id, numS x side, numS y side) rfl (cells3_at hbx) (by simp; omega) HE3.size ?_
                        intro v3 w4 hO4 hg4
                        have HE4 := HE3.grownL hO2 (Nat.le_refl _) hg4
                        ((try refine hK _ _ ?_); refine wpHoldT_mk ?_ ?_; (· (exact blk_ext HE4 hblk2)); (try clear hK K); (try simp only [Act.put, List.setIfInBounds_toArray, List.set_cons_zero, List.set_cons_succ]))
                        (refine wpPlan_nth rfl rfl (fun K hK => ?_))
                        refine opWp_append_many elemC (by decide) _ _ rfl wr.heap.size _ _ (o1.drop r) rfl hO4 _ _ (by rw [hdl]; rfl) ((HSLW.ext HE4).drop_some hrl) (by simp; omega) HE4.size ?_
                        intro v5 w6 hO6 hg6 hat6
                        have HEZ := HE4.grownL hO4 (Nat.le_refl _) hg6
                        ((try refine hK _ _ ?_); refine wpHoldT_mk ?_ ?_; (· (exact blk_ext HEZ hblk2)); (try clear hK K); (try simp only [Act.put, List.setIfInBounds_toArray, List.set_cons_zero, List.set_cons_succ]))
                        (refine wpPlan_nth rfl rfl (fun K hK => ?_); go_simp)
                        ((try refine hK _ _ ?_); refine wpHoldT_mk ?_ ?_; (· (exact blk_ext HEZ hblk2)); (try clear hK K); (try simp only [Act.put, List.setIfInBounds_toArray, List.set_cons_zero, List.set_cons_succ]))
                        (refine wpPlan_done (NoPanic.normal ?_))
                        go_wp2
                        go_roundw
                        case rel =>
                          refine ⟨t + 1, by omega, by go_num, ?_, by rw [HSTEP1.out]; exact hlen1, (HX.trans (hxc.trans hxz)).trans HEZ⟩
                          rw [HSTEP1.out, HSAME.out]
                          unfold insC
                          rw [HSP.out.1, HSP.out.2]
                          simpa using hO6.of_base ((HX.trans (hxc.trans hxz)).size)
                        case measure => simp [intOf]; omega
                    · (refine wpPlan_nth rfl rfl (fun K hK => ?_); go_simp)
                      have hbox : ((wr.drewN (nq + 1)).alloc (.cells #[.int .i64 x.id, .int .i64 (numS x side), .int .i64 (numS y side)] 89)).heap[wr.heap.size]? = some (.cells #[.int .i64 x.id, .int .i64 (numS x side), .int .i64 (numS y side)] 89 (0, 0)) := blk_newat (by simp) _
                      have HE1 := HE0.alloc (.cells #[.int .i64 x.id, .int .i64 (numS x side), .int .i64 (numS y side)] 89)
                      ((try refine hK _ _ ?_); refine wpHoldT_mk ?_ ?_; (· (exact blk_ext HE1 hblk2)); (try clear hK K); (try simp only [Act.put, List.setIfInBounds_toArray, List.set_cons_zero, List.set_cons_succ]))
                      (refine wpPlan_nth rfl rfl (fun K hK => ?_); go_simp)
                      have hOa : OwnsL (((wr.drewN (nq + 1)).alloc (.cells #[.int .i64 x.id, .int .i64 (numS x side), .int .i64 (numS y side)] 89)).alloc (.cells #[] 89)) wr.heap.size 89 3 encC (.slice (some ⟨wr.heap.size + 1, 0, none⟩) 0 0) [] := OwnsL.fresh_at _ _ _ _ (blk_newat (by simp) _) (by omega)
                      have HE2 := HE1.alloc (.cells #[] 89)
                      ((try refine hK _ _ ?_); refine wpHoldT_mk ?_ ?_; (· (exact blk_ext HE2 hblk2)); (try clear hK K); (try simp only [Act.put, List.setIfInBounds_toArray, List.set_cons_zero, List.set_cons_succ]))
                      (refine wpPlan_nth rfl rfl (fun K hK => ?_))
                      refine opWp_append_many elemC (by decide) _ _ rfl wr.heap.size _ [] (o1.take r) rfl hOa _ _ (by rw [htl]; rfl) ((HSLW.ext HE2).take r) (by rw [htl]; simp; omega) HE2.size ?_
                      intro v1 w2 hO2 hg2 hat2
                      have HE3 := HE2.grownL hOa (Nat.le_refl _) hg2
                      ((try refine hK _ _ ?_); refine wpHoldT_mk ?_ ?_; (· (exact blk_ext HE3 hblk2)); (try clear hK K); (try simp only [Act.put, List.setIfInBounds_toArray, List.set_cons_zero, List.set_cons_succ]))
                      have hbx := blk_grownL hg2 (blk_alloc hbox) (fun r hr e => by have := Option.some.inj hr; simp at this; omega)
                      (refine wpPlan_nth rfl rfl (fun K hK => ?_))
                      refine opWp_append_one elemC (by decide) _ _ rfl wr.heap.size _ _ rfl hO2 (wr.heap.size) 1 (x.id, numS x side, numS y side) rfl (cells3_at hbx) (by simp; omega) HE3.size ?_
                      intro v3 w4 hO4 hg4
                      have HE4 := HE3.grownL hO2 (Nat.le_refl _) hg4
                      ((try refine hK _ _ ?_); refine wpHoldT_mk ?_ ?_; (· (exact blk_ext HE4 hblk2)); (try clear hK K); (try simp only [Act.put, List.setIfInBounds_toArray, List.set_cons_zero, List.set_cons_succ]))
                      (refine wpPlan_nth rfl rfl (fun K hK => ?_))
                      refine opWp_append_many elemC (by decide) _ _ rfl wr.heap.size _ _ (o1.drop r) rfl hO4 _ _ (by rw [hdl]; rfl) ((HSLW.ext HE4).drop_some hrl) (by simp; omega) HE4.size ?_
                      intro v5 w6 hO6 hg6 hat6
                      have HEZ := HE4.grownL hO4 (Nat.le_refl _) hg6
                      ((try refine hK _ _ ?_); refine wpHoldT_mk ?_ ?_; (· (exact blk_ext HEZ hblk2)); (try clear hK K); (try simp only [Act.put, List.setIfInBounds_toArray, List.set_cons_zero, List.set_cons_succ]))
                      (refine wpPlan_nth rfl rfl (fun K hK => ?_); go_simp)
                      ((try refine hK _ _ ?_); refine wpHoldT_mk ?_ ?_; (· (exact blk_ext HEZ hblk2)); (try clear hK K); (try simp only [Act.put, List.setIfInBounds_toArray, List.set_cons_zero, List.set_cons_succ]))
                      (refine wpPlan_done (NoPanic.normal ?_))
                      go_wp2
                      go_roundw
                      case rel =>
                        refine ⟨t + 1, by omega, by go_num, ?_, by rw [HSTEP1.out]; exact hlen1, (HX.trans (hxc.trans hxz)).trans HEZ⟩
                        rw [HSTEP1.out, HSAME.out]
                        unfold insC
                        rw [HSP.out.1, HSP.out.2]
                        simpa using hO6.of_base ((HX.trans (hxc.trans hxz)).size)
                      case measure => simp [intOf]; omega
          · have g : (x.id == y.id) = false := by simpa using he
            have g' : (x.id != y.id) = true := by simpa using he
            have HE := hid he
            clear he
            have hlen1 : (coupS x y side o1).length ≤ k * 100 + (t + 1) := by unfold coupS; rw [if_neg HE.out]; omega
            have hsame : coupS x y side o1 = o1 := by unfold coupS; rw [if_neg HE.out]
            have HSAME := hid hsame
            clear hsame
            obtain ⟨c0, c1, c2, c3, c4, c5, c6⟩ := hcs1
            obtain ⟨d0, d1, d2, d3, d4, d5, d6⟩ := hcs2
            go_wp2_with fail
            go_quiet (fail)
            go_wp2
            go_roundw
            case rel => exact ⟨t + 1, by omega, by go_num, by rw [HSTEP1.out, HSAME.out]; exact HO.drewN _, by rw [HSTEP1.out]; exact hlen1, HX.drewN _⟩
            case measure => simp [intOf]; omega
        · have hke : t = b.length := by omega
          subst hke
          rw [List.take_length] at HO HL
          go_wp2
          go_roundw
          case rel => exact ⟨k + 1, by omega, by go_num, by rw [HSTEP.out]; exact HO, by rw [HSTEP.out]; omega, HX⟩
          case measure => simp [intOf]; omega
    · have hke : k = a.length := by omega
      subst hke
      rw [List.take_length] at HO
      go_wp2
      go_ret
      exact ⟨_, rfl, HO, HX⟩

end Go.Proofs.Ytnedoaapnfpkfaa
