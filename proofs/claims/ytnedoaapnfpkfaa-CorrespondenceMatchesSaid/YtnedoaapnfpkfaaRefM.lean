/-
  Contracts of the reference's Common, Splits and Lumps. Conditions: none beyond how the arguments read.
-/
import Derived.Test.YtnedoaapnfpkfaaMatches
import Derived.Test.YtnedoaapnfpkfaaCoinbase
import Derived.BigQuiet
import Derived.Deep.QuietTactic
namespace Go.Proofs.Ytnedoaapnfpkfaa
open Go.RowKit

def RCommonPost (w : World) (a b : List Sp) (e : Ending) (w' : World) : Prop :=
  ∃ v l, e = .returned (.tuple #[v, .int .i64 (checkE2 a b)]) ∧ l = (if checkE2 a b = 0 then (couplesL a b 0).map (·.1) else []) ∧ OwnsL w' w.heap.size 3 1 encI v l ∧ Ext w w'

set_option maxRecDepth 10000 in
set_option maxHeartbeats 2000000 in
theorem rcommon_any (p q : Option Addr) (cp cq : Nat) (a b : List Sp) (w : World) (h : SliceAt w encSp 7 p cp a) (h' : SliceAt w encSp 7 q cq b) :
    Calls Try.prog 17 #[.slice p a.length cp, .slice q b.length cq] w (RCommonPost w a b) := by
  by_cases hok : checkE2 a b = 0
  · obtain ⟨hk1, hk2⟩ := orE_ok.1 hok
    have ha := (checkE_ok.1 hk1).1
    have hb := (checkE_ok.1 hk2).1
    clear hk1 hk2
    have HOK := hid hok
    clear hok
    go_enter Try.func17, Try.ntmps17
    go_wp2_with fail
    refine (rcheck_any p q cp cq a b _ h h').mono ?_
    rintro e w1 ⟨rfl, hx1⟩
    rw [HOK.out]
    have HX1 := hid hx1
    clear hx1
    go_wp2_with fail
    refine (couples_any p q cp cq a b 0 _ (h.ext HX1.out) (h'.ext HX1.out) (by omega) (by omega)).mono ?_
    rintro e w2 ⟨v, rfl, HOC, hx2⟩
    have hcl : (couplesL a b 0).length ≤ 4096 := Nat.le_trans (couplesL_le a b 0) (Nat.mul_le_mul ha hb)
    obtain ⟨pc, cc, rfl, HC⟩ := HOC.slice encC_len
    have hmc := HC.max
    have hlc := HC.le
    unfold maxLen at hmc
    have HX2 := HX1.out.trans hx2
    generalize hcps : couplesL a b 0 = cps at *
    have HCPS := hid hcps
    clear hcps hx2
    go_wp2
    go_loopw [8, 9] (fun v i wr => ∃ k : Nat, k ≤ cps.length ∧ i = .int .i64 k ∧ OwnsL wr w2.heap.size 3 1 encI v ((cps.take k).map (·.1)) ∧ Ext w wr ∧ Ext w2 wr) (fun _ i _ => cps.length - (intOf i).toNat)
    case atStart => exact ⟨0, by omega, rfl, OwnsL.nil _ _ _ _ _, HX2, Ext.refl _⟩
    case round =>
      obtain ⟨k, hk, rfl, HO, HX, HXX⟩ := hrel
      by_cases hlt : k < cps.length
      · obtain ⟨bc, fc, rfl, hbc, c0, c1, c2⟩ := (HC.ext HXX).cp_at hlt
        have hl1 : ((cps.take k).map (·.1)).length < 1099511627776 := by rw [List.length_map, List.length_take]; omega
        have hstep : (cps.take (k + 1)).map (·.1) = (cps.take k).map (·.1) ++ [cps[k].1] := by rw [List.take_succ_eq_append_getElem hlt, List.map_append]; rfl
        generalize cps[k] = x at *
        have HSTEP := hid hstep
        clear hstep
        go_wp2_with (at_builtin; refine wpList_append_one elemI (by decide) rfl _ _ rfl w2.heap.size _ _ rfl (HO.alloc (.cells #[.int .i64 x.1] 3)) wr.heap.size 1 x.1 rfl (cells1_at (blk_new _ _)) hl1 (by have := HXX.size; simp; omega) ?_)
        intro v' w3 HO3 HG3
        have HX3 := (HX.alloc (.cells #[.int .i64 x.1] 3)).grownL (HO.alloc _) HX2.size HG3
        have HXX3 := (HXX.alloc (.cells #[.int .i64 x.1] 3)).grownL (HO.alloc _) (Nat.le_refl _) HG3
        clear HG3
        go_wp2
        go_roundw
        case rel => exact ⟨k + 1, by omega, by go_num, by rw [HSTEP.out, List.map_take]; exact HO3, HX3, HXX3⟩
        case measure => simp [intOf]; omega
      · have hke : k = cps.length := by omega
        subst hke
        rw [List.take_length] at HO
        go_wp2
        go_ret2
        refine ⟨_, cps.map (·.1), ?_, ?_, HO.of_base HX2.size, HX⟩
        · rw [HOK.out]; rfl
        · rw [if_pos HOK.out, HCPS.out]
  · have g : (checkE2 a b == 0) = false := by simpa using hok
    have g' : (checkE2 a b != 0) = true := by rw [bne, g]; rfl
    have HOK := hid hok
    clear hok
    go_enter Try.func17, Try.ntmps17
    go_wp2_with fail
    refine (rcheck_any p q cp cq a b _ h h').mono ?_
    rintro e w1 ⟨rfl, hx1⟩
    go_wp2
    go_ret2
    exact ⟨_, [], rfl, (if_neg HOK.out).symm, OwnsL.nil _ _ _ _ _, hx1⟩

/-- The numbers that stand with several others, in a list in order; k places have been looked at. -/
def splitsTo (ms : List (Int × Int)) : Nat → List Int
  | 0 => []
  | k + 1 => if k = 0 then [] else if (ms.getD k (0, 0)).1 = (ms.getD (k - 1) (0, 0)).1 ∧ (ms.getD k (0, 0)).1 ∉ splitsTo ms k then splitsTo ms k ++ [(ms.getD k (0, 0)).1] else splitsTo ms k
theorem splitsTo_le (ms : List (Int × Int)) : ∀ k, (splitsTo ms k).length ≤ k
  | 0 => by simp [splitsTo]
  | k + 1 => by
    have := splitsTo_le ms k
    unfold splitsTo
    split
    · simp
    · split
      · simp; omega
      · omega
theorem splitsTo_step {ms : List (Int × Int)} {k : Nat} (hk : 0 < k) (h : k < ms.length) : splitsTo ms (k + 1) = if ms[k].1 = ms[k - 1].1 ∧ ms[k].1 ∉ splitsTo ms k then splitsTo ms k ++ [ms[k].1] else splitsTo ms k := by
  have h1 : ms.getD k (0, 0) = ms[k] := by simp [List.getD, h]
  have h2 : ms.getD (k - 1) (0, 0) = ms[k - 1] := by simp [List.getD, show k - 1 < ms.length by omega]
  rw [splitsTo, if_neg (by omega), h1, h2]
def msR (a b : List Sp) (side : Int) : List (Int × Int) := matchesL ((couplesL a b side).map (·.2))
theorem msR_length {a b : List Sp} {side : Int} (h : errS a b side = 0) : (msR a b side).length ≤ 4096 := by
  obtain ⟨h1, h2, _⟩ := errS_ok h
  have h3 := matchesL_length ((couplesL a b side).map (·.2))
  rw [List.length_map] at h3
  exact Nat.le_trans h3 (Nat.le_trans (couplesL_le a b side) (Nat.mul_le_mul (checkE_ok.1 h1).1 (checkE_ok.1 h2).1))

def RSplitsPost (w : World) (a b : List Sp) (side : Int) (er : Int) (e : Ending) (w' : World) : Prop :=
  ∃ v l, e = .returned (.tuple #[v, .int .i64 er]) ∧ l = (if er = 0 then splitsTo (msR a b side) (msR a b side).length else []) ∧ OwnsL w' w.heap.size 3 1 encI v l ∧ Ext w w'

set_option maxRecDepth 10000 in
set_option maxHeartbeats 2000000 in
theorem rsplits_any (p q : Option Addr) (cp cq : Nat) (a b : List Sp) (side : Int) (w : World) (h : SliceAt w encSp 7 p cp a) (h' : SliceAt w encSp 7 q cq b) :
    Calls Try.prog 19 #[.slice p a.length cp, .slice q b.length cq, .int .i64 side] w (RSplitsPost w a b side (errS a b side)) := by
  by_cases hok : errS a b side = 0
  · have hml := msR_length hok
    have HOK := hid hok
    clear hok
    go_enter Try.func19, Try.ntmps19
    go_wp2_with fail
    refine (rmatches_any p q cp cq a b side _ h h').mono ?_
    rintro e w1 ⟨v, l, rfl, hl, HO1, hx1⟩
    rw [if_pos HOK.out] at hl
    have hl2 : l = msR a b side := hl
    clear hl
    subst hl2
    rw [HOK.out]
    obtain ⟨pm, cm, rfl, HM⟩ := HO1.slice encP_len
    have hmm := HM.max
    have hlm := HM.le
    unfold maxLen at hmm
    generalize hms : msR a b side = ms at *
    have HMS := hid hms
    clear hms
    go_wp2
    go_loopw [10, 11] (fun v i wr => ∃ k : Nat, 1 ≤ k ∧ i = .int .i64 k ∧ OwnsL wr w1.heap.size 3 1 encI v (splitsTo ms k) ∧ (k ≤ ms.length ∨ k = 1) ∧ Ext w wr ∧ Ext w1 wr) (fun _ i _ => ms.length - (intOf i).toNat)
    case atStart => exact ⟨1, by omega, rfl, by simpa [splitsTo] using OwnsL.nil _ _ _ _ _, Or.inr rfl, hx1, Ext.refl _⟩
    case round =>
      obtain ⟨k, hk1, rfl, HO, hk, HX, HXX⟩ := hrel
      by_cases hlt : k < ms.length
      · have hlt1 : k - 1 < ms.length := by omega
        obtain ⟨bm, fm, rfl, hbm, c0, c1⟩ := (HM.ext HXX).pair_at hlt
        obtain ⟨bm', fm', hpe, hbm', d0, d1⟩ := (HM.ext HXX).pair_at hlt1
        cases hpe
        have hstep := splitsTo_step hk1 hlt
        have hsl := splitsTo_le ms k
        generalize splitsTo ms k = sp at *
        generalize ms[k] = x at *
        generalize ms[k - 1] = y at *
        have HSTEP := hid hstep
        have HCX := hid (And.intro c0 c1)
        clear hstep hk
        have hsub : ((k : Int) - 1) = ((k - 1 : Nat) : Int) := by omega
        have hwk : IntKind.i64.wrap ((k : Int) - 1) = ((k - 1 : Nat) : Int) := by rw [← hsub]; exact IntWalk.i64_in _ (by omega)
        obtain ⟨ps, cs, rfl, HSP⟩ := HO.slice encI_len
        by_cases he : x.1 = y.1
        · have g : (x.1 == y.1) = true := by simpa using he
          by_cases hh : x.1 ∈ sp
          · have hd : decide (x.1 ∈ sp) = true := by simpa using hh
            have hst : splitsTo ms (k + 1) = sp := by rw [HSTEP.out, if_neg (fun h => h.2 hh)]
            have HST := hid hst
            clear hst he hh
            go_wp2_with fail
            go_quiet ((go_at_call 24; exact Calls.quiet_of_same ((bhas_any ps cs sp x.1 _ (HSP.ext ((Ext.refl _).drewN _))).mono fun _ _ h => ⟨h.1, h.2.symm⟩)))
            go_wp2
            go_roundw
            case rel => exact ⟨k + 1, by omega, by go_num, by rw [HST.out]; exact HO.drewN _, Or.inl (by omega), HX.drewN _, HXX.drewN _⟩
            case measure => simp [intOf]; omega
          · have hd : decide (x.1 ∈ sp) = false := by simpa using hh
            have hst : splitsTo ms (k + 1) = sp ++ [x.1] := by rw [HSTEP.out, if_pos ⟨he, hh⟩]
            have HST := hid hst
            clear hst he hh
            go_wp2_with fail
            go_quiet ((go_at_call 24; exact Calls.quiet_of_same ((bhas_any ps cs sp x.1 _ (HSP.ext ((Ext.refl _).drewN _))).mono fun _ _ h => ⟨h.1, h.2.symm⟩)))
            have hlA : sp.length < 1099511627776 := by omega
            have HOq := HO.drewN nq
            have HXq := HX.drewN nq
            have HXXq := HXX.drewN nq
            clear c0 c1 d0 d1
            obtain ⟨d0, d1⟩ : (wr.drewN nq).cell? ⟨bm, fm + k * 2, none⟩ = some (.int .i64 x.1) ∧ (wr.drewN nq).cell? ⟨bm, fm + k * 2 + 1, none⟩ = some (.int .i64 x.2) := HCX.out
            obtain ⟨wq, hwq⟩ : ∃ wq, wq = wr.drewN nq := ⟨_, rfl⟩
            rw [← hwq] at HOq HXq HXXq d0 d1 ⊢
            clear hwq HO HX HXX HSP
            go_wp2_with (at_builtin; refine wpList_append_one elemI (by decide) rfl _ _ rfl w1.heap.size _ _ rfl (HOq.alloc (.cells #[.int .i64 x.1] 3)) wq.heap.size 1 x.1 rfl (cells1_at (blk_new _ _)) hlA (by have := HXXq.size; simp; omega) ?_)
            intro v' w3 HO3 HG3
            have HX3 := (HXq.alloc (.cells #[.int .i64 x.1] 3)).grownL (HOq.alloc _) hx1.size HG3
            have HXX3 := (HXXq.alloc (.cells #[.int .i64 x.1] 3)).grownL (HOq.alloc _) (Nat.le_refl _) HG3
            clear HG3
            go_wp2
            go_roundw
            case rel => exact ⟨k + 1, by omega, by go_num, by rw [HST.out]; exact HO3, Or.inl (by omega), HX3, HXX3⟩
            case measure => simp [intOf]; omega
        · have g : (x.1 == y.1) = false := by simpa using he
          have hst : splitsTo ms (k + 1) = sp := by rw [HSTEP.out, if_neg (fun h => he h.1)]
          have HST := hid hst
          clear hst he
          go_wp2_with fail
          go_quiet (fail)
          go_wp2
          go_roundw
          case rel => exact ⟨k + 1, by omega, by go_num, by rw [HST.out]; exact HO.drewN _, Or.inl (by omega), HX.drewN _, HXX.drewN _⟩
          case measure => simp [intOf]; omega
      · have hke : splitsTo ms ms.length = splitsTo ms k := by
          rcases hk with hk | hk
          · rw [show k = ms.length by omega]
          · subst hk
            have : ms.length = 0 ∨ ms.length = 1 := by omega
            rcases this with h0 | h0 <;> rw [h0] <;> simp [splitsTo]
        have HKE := hid hke
        clear hke hk
        go_wp2
        go_ret2
        refine ⟨_, splitsTo ms k, ?_, ?_, HO.of_base hx1.size, HX⟩
        · rw [HOK.out]; rfl
        · rw [HOK.out, if_pos rfl, HMS.out, HKE.out]
  · have g : (errS a b side == 0) = false := by simpa using hok
    have g' : (errS a b side != 0) = true := by rw [bne, g]; rfl
    have HOK := hid hok
    clear hok
    go_enter Try.func19, Try.ntmps19
    go_wp2_with fail
    refine (rmatches_any p q cp cq a b side _ h h').mono ?_
    rintro e w1 ⟨v, l, rfl, hl, HO1, hx1⟩
    clear hl
    go_wp2
    go_ret2
    exact ⟨_, [], rfl, (if_neg HOK.out).symm, OwnsL.nil _ _ _ _ _, hx1⟩

theorem errS_swap' {a b : List Sp} {side : Int} (h : errS a b side = 0) : errS b a side = 0 := by
  obtain ⟨h1, h2, h3⟩ := errS_ok h
  have h4 : checkE2 b a = 0 := orE_ok.2 ⟨h2, h1⟩
  unfold errS
  rw [if_pos h4, if_pos h3]

theorem rlumps_any (p q : Option Addr) (cp cq : Nat) (a b : List Sp) (side : Int) (w : World) (h : SliceAt w encSp 7 p cp a) (h' : SliceAt w encSp 7 q cq b) :
    Calls Try.prog 20 #[.slice p a.length cp, .slice q b.length cq, .int .i64 side] w (RSplitsPost w b a side (errS a b side)) := by
  by_cases hok : errS a b side = 0
  · have hsw := errS_swap' hok
    have HSW := hid hsw
    have HOK := hid hok
    clear hsw hok
    go_enter Try.func20, Try.ntmps20
    go_wp2_with fail
    refine (sided_any p q cp cq a b side _ h h').mono ?_
    rintro e w1 ⟨rfl, hx1⟩
    rw [HOK.out]
    have HX1 := hid hx1
    clear hx1
    go_wp2_with fail
    refine (rsplits_any q p cq cp b a side _ (h'.ext HX1.out) (h.ext HX1.out)).mono ?_
    rintro e w2 ⟨v, l, rfl, hl, HO, hx2⟩
    rw [HSW.out] at hl ⊢
    have HL := hid hl
    clear hl
    go_wp2
    go_ret2
    refine ⟨v, l, ?_, ?_, HO.of_base HX1.out.size, HX1.out.trans hx2⟩
    · rw [HOK.out]; rfl
    · rw [HOK.out]; simpa using HL.out
  · have g : (errS a b side == 0) = false := by simpa using hok
    have g' : (errS a b side != 0) = true := by rw [bne, g]; rfl
    have HOK := hid hok
    clear hok
    go_enter Try.func20, Try.ntmps20
    go_wp2_with fail
    refine (sided_any p q cp cq a b side _ h h').mono ?_
    rintro e w1 ⟨rfl, hx1⟩
    go_wp2
    go_ret2
    exact ⟨_, [], rfl, (if_neg HOK.out).symm, OwnsL.nil _ _ _ _ _, hx1⟩

end Go.Proofs.Ytnedoaapnfpkfaa
