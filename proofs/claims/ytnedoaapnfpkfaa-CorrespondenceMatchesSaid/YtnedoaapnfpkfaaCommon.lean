/-
  Contracts of the check of two studies, the number of a die, and the common Ids. Conditions: none beyond how the arguments read.
-/
import Derived.Test.YtnedoaapnfpkfaaCheck
import Derived.Test.YtnedoaapnfpkfaaDefs
import Derived.Test.YtnedoaapnfpkfaaSort
import Derived.Test.YtnedoaapnfpkfaaEq
import Derived.Test.YtnedoaapnfpkfaaOps
namespace Go.Proofs.Ytnedoaapnfpkfaa
open Go.RowKit



theorem check2_any (p q : Option Addr) (cp cq : Nat) (a b : List Sp) (w : World) (h : SliceAt w encSp 7 p cp a) (h' : SliceAt w encSp 7 q cq b) :
    Calls Try.prog 35 #[.slice p a.length cp, .slice q b.length cq] w fun e w' => e = .returned (.int .i64 (checkE2 a b)) ∧ Ext w w' := by
  go_enter Try.func35, Try.ntmps35
  go_wp2_with fail
  refine (check_any p cp a _ h).mono ?_
  rintro e w1 ⟨rfl, hx1⟩
  go_wp2_with fail
  refine (check_any q cq b _ (h'.ext hx1)).mono ?_
  rintro e w2 ⟨rfl, hx2⟩
  have HX1 := hid hx1
  have HX2 := hid hx2
  clear hx1 hx2
  go_wp2_with fail
  refine (or_errno _ (checkE a) (checkE b) _ (by simp) (by simp)).mono ?_
  rintro e w3 ⟨rfl, rfl⟩
  go_wp2
  go_ret
  exact ⟨rfl, (HX1.out.trans HX2.out).alloc _⟩


theorem number_any (s : Sp) (side : Int) (w : World) :
    Calls Try.prog 46 #[s.val, .int .i64 side] w fun e w' => e = .returned (.int .i64 (numS s side)) ∧ Ext w w' := by
  by_cases hs : side = 0
  · have h1 : (side == 0) = true := by simpa using hs
    have hr : numS s side = s.obv := by unfold numS; rw [if_pos hs]
    have HR := hid hr
    clear hr hs
    go_enter Try.func46, Try.ntmps46
    go_wp2
    go_ret
    exact ⟨ret_int HR.out.symm, (Ext.refl _).alloc _⟩
  · have h1 : (side == 0) = false := by simpa using hs
    have hr : numS s side = s.rev := by unfold numS; rw [if_neg hs]
    have HR := hid hr
    clear hr hs
    go_enter Try.func46, Try.ntmps46
    go_wp2
    go_ret
    exact ⟨ret_int HR.out.symm, (Ext.refl _).alloc _⟩

/-- The common Ids, as they come. -/
def commonRaw (a b : List Sp) : List Int := (a.filter fun s => (findS b s.id).isSome).map Sp.id
/-- The common Ids. -/
def commonIds (a b : List Sp) : List Int := sortI (commonRaw a b)
theorem commonRaw_length (a b : List Sp) : (commonRaw a b).length ≤ a.length := by
  unfold commonRaw; rw [List.length_map]; exact List.length_filter_le _ _
theorem commonRaw_take {a b : List Sp} {k : Nat} (hk : k < a.length) : commonRaw (a.take (k + 1)) b = commonRaw (a.take k) b ++ if (findS b a[k].id).isSome then [a[k].id] else [] := by
  rw [List.take_succ_eq_append_getElem hk]
  unfold commonRaw
  rw [List.filter_append, List.map_append]
  congr 1
  by_cases h : (findS b a[k].id).isSome = true
  · simp [h]
  · simp [h]

/-- What Common returns: the common Ids in a row of the call's own, or none and the error. -/
def CommonPost (w : World) (a b : List Sp) (e : Ending) (w' : World) : Prop :=
  ∃ v l, e = .returned (.tuple #[v, .int .i64 (checkE2 a b)]) ∧ l = (if checkE2 a b = 0 then commonIds a b else []) ∧ OwnsL w' w.heap.size 3 1 encI v l ∧ Ext w w'

set_option maxRecDepth 10000 in
theorem common_any (p q : Option Addr) (cp cq : Nat) (a b : List Sp) (w : World) (h : SliceAt w encSp 7 p cp a) (h' : SliceAt w encSp 7 q cq b) :
    Calls Try.prog 14 #[.slice p a.length cp, .slice q b.length cq] w (CommonPost w a b) := by
  have hmax := h.max
  have hle := h.le
  unfold maxLen at hmax
  go_enter Try.func14, Try.ntmps14
  go_wp2_with fail
  refine (check2_any p q cp cq a b _ h h').mono ?_
  rintro e w1 ⟨rfl, hx1⟩
  by_cases hok : checkE2 a b = 0
  · have ht : (checkE2 a b == 0) = true := by simpa using hok
    have ht' : (checkE2 a b != 0) = false := by rw [bne, ht]; rfl
    have HOK := hid hok
    have HX1 := hid hx1
    have hlen : a.length ≤ 64 := (checkE_ok.1 (orE_ok.1 hok).1).1
    clear hok hx1
    go_wp2
    go_loopw [7, 9, 10, 20] (fun v _ _ i wr => ∃ k : Nat, k ≤ a.length ∧ i = .int .i64 k ∧ OwnsL wr w.heap.size 3 1 encI v (commonRaw (a.take k) b) ∧ Ext w wr) (fun _ _ _ i _ => a.length - (intOf i).toNat)
    case atStart => exact ⟨0, by omega, rfl, OwnsL.nil _ _ _ _ _, HX1.out⟩
    case round =>
      obtain ⟨k, hk, rfl, HO, HX⟩ := hrel
      by_cases hlt : k < a.length
      · obtain ⟨bb, off, rfl, hbk, c0, c1, c2, c3, c4, c5, c6⟩ := (h.ext HX).sp_at hlt
        go_wp2_with fail
        refine (find_any q cq b a[k].id _ ((h'.ext HX).ext ((Ext.refl _).alloc _))).mono ?_
        rintro e w2 ⟨s2, rfl, hs2, HX2⟩
        have HS2 := hid hs2
        obtain ⟨d0, d1, d2, d3, d4, d5, d6⟩ := cells7 (blk_ext HX2 (blk_new _ _))
        have hz2 : wr.heap.size < w2.heap.size := lt_of_block (blk_ext HX2 (blk_new _ _))
        have HO2 := (HO.alloc _).ext HX2
        clear hs2
        cases hf : (findS b a[k].id).isSome
        · have HF := hid hf
          clear hf
          go_wp2
          go_roundw
          case rel =>
            refine ⟨k + 1, by omega, by go_num, ?_, ((HX.alloc _).trans HX2).alloc _⟩
            rw [commonRaw_take hlt, HF.out]
            simpa using HO2.alloc _
          case measure => simp [intOf]; omega
        · have HF := hid hf
          clear hf
          have hr1 : (commonRaw (a.take k) b).length ≤ 64 := Nat.le_trans (commonRaw_length _ _) (by simp; omega)
          go_wp2_with (at_builtin; refine wpList_append_one elemI (by decide) rfl _ _ rfl w.heap.size _ _ rfl ((HO2.alloc _).alloc _) (w2.heap.size + 1) 1 a[k].id rfl ?c1 ?c2 ?c3 ?_)
          case c1 => exact cells_new (by simp) (encI a[k].id) _
          case c2 => omega
          case c3 => have := HX.size; have := HX2.size; simp at this ⊢; omega
          intro v' w3 HO3 HG3
          have HX3 := ((((HX.alloc _).trans HX2).alloc _).alloc _).grownL ((HO2.alloc _).alloc _) (Nat.le_refl _) HG3
          clear HG3
          go_wp2
          go_roundw
          case rel =>
            refine ⟨k + 1, by omega, by go_num, ?_, HX3⟩
            rw [commonRaw_take hlt, HF.out]
            exact HO3
          case measure => simp [intOf]; omega
      · have hke : k = a.length := by omega
        subst hke
        rw [List.take_length] at HO
        have hr1 : (commonRaw a b).length ≤ a.length := commonRaw_length _ _
        go_wp2_with fail
        refine (sort_own HO (by omega)).mono ?_
        rintro e w2 ⟨rfl, HO2, HG2⟩
        have HX2 := HX.grownL HO (Nat.le_refl _) HG2
        clear HG2
        go_wp2
        go_ret2
        refine ⟨_, commonIds a b, ?_, (if_pos HOK.out).symm, HO2, HX2⟩
        rw [HOK.out]
        rfl
  · have ht : (checkE2 a b == 0) = false := by simpa using hok
    have ht' : (checkE2 a b != 0) = true := by rw [bne, ht]; rfl
    have HOK := hid hok
    clear hok
    go_wp2
    go_ret2
    exact ⟨_, [], rfl, (if_neg HOK.out).symm, OwnsL.nil _ _ _ _ _, hx1⟩

end Go.Proofs.Ytnedoaapnfpkfaa
