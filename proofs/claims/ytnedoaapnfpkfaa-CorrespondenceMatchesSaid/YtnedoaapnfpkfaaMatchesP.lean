/-
  The contract of correspondence.Matches. Conditions: none beyond how the arguments read.
-/
import Derived.Test.YtnedoaapnfpkfaaBest
import Derived.Test.YtnedoaapnfpkfaaMatches
namespace Go.Proofs.Ytnedoaapnfpkfaa
open Go.RowKit Go.Sort Go.Shelf Go.Maps

/-- The corresponding numbers. -/
def msL (a b : List Sp) (side : Int) : List (Int × Int) := sortP ((countP (commonPairs a b side)).map (·.1))
def MatchesPost (w : World) (a b : List Sp) (side : Int) (e : Ending) (w' : World) : Prop :=
  ∃ v l, e = .returned (.tuple #[v, .int .i64 (errS a b side)]) ∧ l = (if errS a b side = 0 then msL a b side else []) ∧ OwnsL w' w.heap.size 37 2 encP v l ∧ Ext w w'

theorem common_length {a b : List Sp} {side : Int} (h : errS a b side = 0) : (commonPairs a b side).length ≤ 64 := by
  have h1 := (checkE_ok.1 (errS_ok h).1).1
  unfold commonPairs commonIds
  rw [List.length_map, sortI_length]
  exact Nat.le_trans (commonRaw_length _ _) h1
theorem msL_length {a b : List Sp} {side : Int} (h : errS a b side = 0) : (msL a b side).length ≤ 64 := by
  unfold msL
  rw [sortP_length, List.length_map]
  exact Nat.le_trans (length_countP _) (common_length h)

set_option maxRecDepth 10000 in
set_option maxHeartbeats 2000000 in
theorem matches_any (p q : Option Addr) (cp cq : Nat) (a b : List Sp) (side : Int) (w : World) (h : SliceAt w encSp 7 p cp a) (h' : SliceAt w encSp 7 q cq b) :
    Calls Try.prog 13 #[.slice p a.length cp, .slice q b.length cq, .int .i64 side] w (MatchesPost w a b side) := by
  by_cases hok : errS a b side = 0
  · have hlc := common_length hok
    have hlm := msL_length hok
    have hfit : ∀ x ∈ commonPairs a b side, fits x := common_fits hok
    have HOK := hid hok
    have HFIT := hid hfit
    clear hok hfit
    go_enter Try.func13, Try.ntmps13
    go_wp2_with fail
    refine (pairs_any p q cp cq a b side _ h h').mono ?_
    rintro e w1 ⟨v, l, rfl, hl, HO1, HX1⟩
    rw [if_pos HOK.out] at hl
    subst hl
    rw [HOK.out]
    obtain ⟨pl, cl, rfl, HL⟩ := HO1.slice encP_len
    go_wp2_with fail
    refine (distinct_any pl cl (commonPairs a b side) _ HL HFIT.out (by omega)).mono ?_
    rintro e w2 ⟨v, mb, rfl, hmb, HM, HO4, HX4⟩
    have hms : msL a b side = sortP ((countP (commonPairs a b side)).map (·.1)) := rfl
    rw [← hms] at HO4
    obtain ⟨pp, pc, rfl, HPP⟩ := HO4.slice encP_len
    have hmp := HPP.max
    have hlp := HPP.le
    unfold maxLen at hmp
    have HX2 := HX1.trans HX4
    generalize hmse : msL a b side = ms at *
    have HMS := hid hmse
    clear hms hmse HM hmb HX1 HX4
    go_wp2
    go_loopw [10, 14, 32] (fun v _ i wr => ∃ k : Nat, k ≤ ms.length ∧ i = .int .i64 k ∧ OwnsL wr w2.heap.size 37 2 encP v (ms.take k) ∧ Ext w wr ∧ Ext w2 wr) (fun _ _ i _ => ms.length - (intOf i).toNat)
    case atStart => exact ⟨0, by omega, rfl, OwnsL.nil _ _ _ _ _, HX2, Ext.refl _⟩
    case round =>
      obtain ⟨k, hk, rfl, HO, HX, HXX⟩ := hrel
      by_cases hlt : k < ms.length
      · obtain ⟨bi, oi, rfl, hbi, c0, c1⟩ := (HPP.ext HXX).pair_at hlt
        have hl1 : (ms.take k).length < 1099511627776 := by rw [List.length_take]; omega
        have hstep : ms.take (k + 1) = ms.take k ++ [ms[k]] := List.take_succ_eq_append_getElem hlt
        generalize ms[k] = x at *
        have HSTEP := hid hstep
        clear hstep
        go_wp2_with (at_builtin; refine wpList_append_one elemE (by decide) rfl _ _ rfl w2.heap.size _ _ rfl ((HO.alloc (.cells #[.int .i64 x.1, .int .i64 x.2] 60)).alloc (.cells #[.int .i64 x.1, .int .i64 x.2] 37)) (wr.heap.size + 1) 1 x rfl (cells2_at (blk_newat (by simp) _)) hl1 (by have := HXX.size; simp; omega) ?_)
        intro v' w3 HO3 HG3
        have HX3 := ((HX.alloc (.cells #[.int .i64 x.1, .int .i64 x.2] 60)).alloc (.cells #[.int .i64 x.1, .int .i64 x.2] 37)).grownL ((HO.alloc _).alloc _) HX2.size HG3
        have HXX3 := ((HXX.alloc (.cells #[.int .i64 x.1, .int .i64 x.2] 60)).alloc (.cells #[.int .i64 x.1, .int .i64 x.2] 37)).grownL ((HO.alloc _).alloc _) (Nat.le_refl _) HG3
        clear HG3
        go_wp2
        go_roundw
        case rel => exact ⟨k + 1, by omega, by go_num, by rw [HSTEP.out]; exact HO3, HX3, HXX3⟩
        case measure => simp [intOf]; omega
      · have hke : k = ms.length := by omega
        subst hke
        rw [List.take_length] at HO
        go_wp2
        go_ret2
        refine ⟨_, ms, ?_, ?_, HO.of_base HX2.size, HX⟩
        · rw [HOK.out]; rfl
        · rw [if_pos HOK.out, HMS.out]
  · have g : (errS a b side == 0) = false := by simpa using hok
    have g' : (errS a b side != 0) = true := by rw [bne, g]; rfl
    have HOK := hid hok
    clear hok
    go_enter Try.func13, Try.ntmps13
    go_wp2_with fail
    refine (pairs_any p q cp cq a b side _ h h').mono ?_
    rintro e w1 ⟨v, l, rfl, hl, HO1, HX1⟩
    clear hl
    go_wp2
    go_ret2
    exact ⟨_, [], rfl, (if_neg HOK.out).symm, OwnsL.nil _ _ _ _ _, HX1⟩

end Go.Proofs.Ytnedoaapnfpkfaa
