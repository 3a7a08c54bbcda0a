/-
  The walk of the statement CorrespondenceMatches: it answers true. Conditions: none beyond how the arguments read.
-/
import Derived.Test.YtnedoaapnfpkfaaAwake
import Derived.Test.YtnedoaapnfpkfaaLawM
namespace Go.Proofs.Ytnedoaapnfpkfaa
open Go.RowKit

set_option maxRecDepth 10000 in
set_option maxHeartbeats 2000000 in
theorem law_matches (p q : Option Addr) (cp cq : Nat) (a b : List Sp) (side : Int) (w : World) (h : SliceAt w encSp 7 p cp a) (h' : SliceAt w encSp 7 q cq b) :
    Calls Try.prog 5 #[.slice p a.length cp, .slice q b.length cq, .int .i64 side] w fun e w' => e = .returned (.bool true) ∧ Ext w w' := by
  go_enter Try.func5, Try.ntmps5
  go_wp2_with fail
  refine (awake_any _).mono ?_
  rintro e w1 ⟨rfl, hx1⟩
  go_wp2_with fail
  refine (few_any p cp a _ (h.ext hx1)).mono ?_
  rintro e w2 ⟨rfl, rfl⟩
  cases hf : fewB a.length
  · clear hf
    go_wp2_with fail
    refine (awake_any _).mono ?_
    rintro e w2 ⟨rfl, hx2⟩
    go_wp2
    go_ret
    exact ⟨rfl, hx1.trans hx2⟩
  clear hf
  go_wp2_with fail
  refine (few_any q cq b _ (h'.ext hx1)).mono ?_
  rintro e w2 ⟨rfl, rfl⟩
  cases hf : fewB b.length
  · clear hf
    go_wp2_with fail
    refine (awake_any _).mono ?_
    rintro e w2 ⟨rfl, hx2⟩
    go_wp2
    go_ret
    exact ⟨rfl, hx1.trans hx2⟩
  clear hf
  have s1 := hid (same_common a b)
  have s2 := hid (same_matches a b side)
  have s3 := hid (same_splits a b side)
  have s4 := hid (same_lumps a b side)
  go_wp2_with fail
  refine (common_any p q cp cq a b _ (h.ext hx1) (h'.ext hx1)).mono ?_
  rintro e w2 ⟨v1, l1, rfl, e1, O1, x1⟩
  have E1 := hid e1
  have X1 := hx1.trans x1
  clear e1 x1 hx1
  go_wp2_with fail
  refine (matches_any p q cp cq a b side _ (h.ext X1) (h'.ext X1)).mono ?_
  rintro e w3 ⟨v2, l2, rfl, e2, O2, x2⟩
  have E2 := hid e2
  have X2 := X1.trans x2
  have O1 := O1.ext x2
  clear e2 x2 X1
  go_wp2_with fail
  refine (splits_any p q cp cq a b side _ (h.ext X2) (h'.ext X2)).mono ?_
  rintro e w4 ⟨v3, l3, rfl, e3, O3, x3⟩
  have E3 := hid e3
  have X3 := X2.trans x3
  have O1 := O1.ext x3
  have O2 := O2.ext x3
  clear e3 x3 X2
  go_wp2_with fail
  refine (lumps_any p q cp cq a b side _ (h.ext X3) (h'.ext X3)).mono ?_
  rintro e w5 ⟨v4, l4, rfl, e4, O4, x4⟩
  have E4 := hid e4
  have X4 := X3.trans x4
  have O1 := O1.ext x4
  have O2 := O2.ext x4
  have O3 := O3.ext x4
  clear e4 x4 X3
  go_wp2_with fail
  refine (rcommon_any p q cp cq a b _ (h.ext X4) (h'.ext X4)).mono ?_
  rintro e w6 ⟨v5, l5, rfl, e5, O5, x5⟩
  have hl5 : l5 = l1 := by rw [e5, E1.out, s1.out]
  subst hl5
  have X5 := X4.trans x5
  have O1 := O1.ext x5
  have O2 := O2.ext x5
  have O3 := O3.ext x5
  have O4 := O4.ext x5
  clear e5 x5 X4 E1 s1
  go_wp2_with fail
  refine (rmatches_any p q cp cq a b side _ (h.ext X5) (h'.ext X5)).mono ?_
  rintro e w7 ⟨v6, l6, rfl, e6, O6, x6⟩
  have hl6 : l6 = l2 := by rw [e6, E2.out, s2.out]
  subst hl6
  have X6 := X5.trans x6
  have O1 := O1.ext x6
  have O2 := O2.ext x6
  have O3 := O3.ext x6
  have O4 := O4.ext x6
  have O5 := O5.ext x6
  clear e6 x6 X5 E2 s2
  go_wp2_with fail
  refine (rsplits_any p q cp cq a b side _ (h.ext X6) (h'.ext X6)).mono ?_
  rintro e w8 ⟨v7, l7, rfl, e7, O7, x7⟩
  have hl7 : l7 = l3 := by rw [e7, E3.out, s3.out]
  subst hl7
  have X7 := X6.trans x7
  have O1 := O1.ext x7
  have O2 := O2.ext x7
  have O3 := O3.ext x7
  have O4 := O4.ext x7
  have O5 := O5.ext x7
  have O6 := O6.ext x7
  clear e7 x7 X6 E3 s3
  go_wp2_with fail
  refine (rlumps_any p q cp cq a b side _ (h.ext X7) (h'.ext X7)).mono ?_
  rintro e w9 ⟨v8, l8, rfl, e8, O8, x8⟩
  have hl8 : l8 = l4 := by rw [e8, E4.out, s4.out]
  subst hl8
  have X8 := X7.trans x8
  obtain ⟨p1, c1, rfl, S1⟩ := (O1.ext x8).slice encI_len
  obtain ⟨p2, c2, rfl, S2⟩ := (O2.ext x8).slice encP_len
  obtain ⟨p3, c3, rfl, S3⟩ := (O3.ext x8).slice encI_len
  obtain ⟨p4, c4, rfl, S4⟩ := O4.slice encI_len
  obtain ⟨p5, c5, rfl, S5⟩ := (O5.ext x8).slice encI_len
  obtain ⟨p6, c6, rfl, S6⟩ := (O6.ext x8).slice encP_len
  obtain ⟨p7, c7, rfl, S7⟩ := (O7.ext x8).slice encI_len
  obtain ⟨p8, c8, rfl, S8⟩ := O8.slice encI_len
  have S4 := S4.ext x8
  clear e8 O1 O2 O3 O4 O5 O6 O7 O8 x8 X7 E4 s4
  generalize checkE2 a b = er1 at *
  generalize errS a b side = er2 at *
  go_wp2_with fail
  refine (bints_any p1 p5 c1 c5 l5 l5 _ S1 S5).mono ?_
  rintro e w10 ⟨rfl, y1⟩
  rw [show decide (l5 = l5) = true from by simp]
  go_wp2_with fail
  refine (bentries_any p2 p6 c2 c6 l6 l6 _ (S2.ext y1) (S6.ext y1)).mono ?_
  rintro e w11 ⟨rfl, y2⟩
  rw [show decide (l6 = l6) = true from by simp]
  have Y2 := y1.trans y2
  go_wp2_with fail
  refine (bints_any p3 p7 c3 c7 l7 l7 _ (S3.ext Y2) (S7.ext Y2)).mono ?_
  rintro e w12 ⟨rfl, y3⟩
  rw [show decide (l7 = l7) = true from by simp]
  have Y3 := Y2.trans y3
  go_wp2_with fail
  refine (bints_any p4 p8 c4 c8 l8 l8 _ (S4.ext Y3) (S8.ext Y3)).mono ?_
  rintro e w13 ⟨rfl, y4⟩
  rw [show decide (l8 = l8) = true from by simp]
  go_wp2
  go_ret
  exact ⟨rfl, X8.trans (Y3.trans y4)⟩

end Go.Proofs.Ytnedoaapnfpkfaa
