/-
  The fixed calls of the statements of layer 18: coin, few, awake. Conditions: none.
-/
import Derived.Test.YtnedoaapnfpkfaaLawBest
import Derived.Test.YtnedoaapnfpkfaaCommon
import Derived.Test.YtnedoaapnfpkfaaMore
import Derived.Test.YtnedoaapnfpkfaaCmp
namespace Go.Proofs.Ytnedoaapnfpkfaa
open Go.RowKit Go.Sort

def coinS (id obv : Int) : Sp := ⟨id, obv, 1, 1, 1, 0, 1⟩
theorem coin_any (id obv : Int) (w : World) : Calls Try.prog 27 #[.int .i64 id, .int .i64 obv] w fun e w' => e = .returned (coinS id obv).val ∧ Ext w w' := by
  go_enter Try.func27, Try.ntmps27
  go_wp2
  refine bodyPost_at fun W hW => ?_
  have hxW : Ext w W := by rw [hW]; exact (Ext.refl _).alloc _
  have hbW := cells7 (w := W) (by rw [hW]; exact blk_new _ _)
  clear hW
  obtain ⟨s0, s1, s2, s3, s4, s5, s6⟩ := hbW
  refine bodyPost_ret (v := (coinS id obv).val) (by simp [results, Try.results27, go_sem, s0, s1, s2, s3, s4, s5, s6, coinS]) rfl ?_
  exact ⟨rfl, hxW⟩

def fewB (n : Nat) : Bool := decide (n ≤ 14) || (decide (n > 64) && decide (n < 100))
theorem fewB_lt {n : Nat} (h : fewB n = true) : n < 100 := by
  unfold fewB at h; simp at h; omega
theorem few_any (p : Option Addr) (cap : Nat) (l : List Sp) (w : World) (h : SliceAt w encSp 7 p cap l) : Calls Try.prog 8 #[.slice p l.length cap] w fun e w' => e = .returned (.bool (fewB l.length)) ∧ w = w' := by
  have hmax := h.max
  have hle := h.le
  unfold maxLen at hmax
  generalize hn : l.length = n at *
  have hcut : (decide ((n : Int) ≤ 14) = true ∧ fewB n = true) ∨ (decide ((n : Int) ≤ 14) = false ∧ decide ((n : Int) > 64) = false ∧ fewB n = false) ∨ (decide ((n : Int) ≤ 14) = false ∧ decide ((n : Int) > 64) = true ∧ decide ((n : Int) < 100) = true ∧ fewB n = true) ∨ (decide ((n : Int) ≤ 14) = false ∧ decide ((n : Int) > 64) = true ∧ decide ((n : Int) < 100) = false ∧ fewB n = false) := by
    unfold fewB
    by_cases g1 : n ≤ 14
    · left; simp [g1]; omega
    · by_cases g2 : n > 64
      · by_cases g3 : n < 100
        · right; right; left; simp [g1, g2, g3]; omega
        · right; right; right; simp [g1, g2, g3]; omega
      · right; left; simp [g1, g2]; omega
  clear hn
  rcases hcut with ⟨g1, hr⟩ | ⟨g1, g2, hr⟩ | ⟨g1, g2, g3, hr⟩ | ⟨g1, g2, g3, hr⟩
  all_goals
    have HR := hid hr
    clear hr
    go_enter Try.func8, Try.ntmps8
    go_wp2
    go_ret
    exact ⟨ret_bool HR.out.symm, rfl⟩

theorem SliceAt.of_blk {α : Type} {w : World} {enc : α → List Value} {k g : Nat} {e : TypeId} (hk : ∀ x, (enc x).length = k) {l : List α} (h : w.heap[g]? = some (.cells (l.flatMap enc).toArray e (0, 0))) (hm : l.length ≤ maxLen) : SliceAt w enc k (some ⟨g, 0, none⟩) l.length l where
  le := Nat.le_refl _
  max := hm
  place := fun _ => ⟨g, 0, rfl, lt_of_block h, fun j hj i u hu => by
    have := flat_getElem enc k hk l j hj i u hu
    simp [World.cell?, h, this]⟩

theorem sortI_eq {l m : List Int} (hp : l.Perm m) (hs : m.Pairwise (· ≤ ·)) : sortI l = m :=
  List.Perm.eq_of_pairwise (le := fun x y : Int => x ≤ y) (fun a b _ _ h1 h2 => by omega) (sortI_sorted l) hs ((sortI_perm l).trans hp)
theorem sortP_eq {l m : List (Int × Int)} (hp : l.Perm m) (hs : m.Pairwise (fun x y => (!ltP y x) = true)) : sortP l = m :=
  List.Perm.eq_of_pairwise (le := fun x y => (!ltP y x) = true) (fun a b _ _ h1 h2 => by simp [ltP] at h1 h2; exact Prod.ext (by omega) (by omega)) (sortP_sorted l) hs ((sortP_perm l).trans hp)
theorem kinds_le (l : List Int) : kinds l ≤ l.length := by
  unfold kinds
  exact Nat.le_trans (Lib.compact_length_le _) (by rw [sortI_length]; exact Nat.le_refl _)

def awakeA : List Sp := [coinS 1 1, coinS 2 1, coinS 3 2, coinS 4 3]
def awakeB : List Sp := [coinS 1 10, coinS 2 11, coinS 3 11, coinS 9 10]
theorem awake_check : checkE2 awakeA awakeB = 0 := by decide
theorem awake_ids : commonIds awakeA awakeB = [1, 2, 3] := by
  unfold commonIds
  rw [show commonRaw awakeA awakeB = [1, 2, 3] by decide]
  exact sortI_eq (List.Perm.refl _) (by decide)
theorem awake_pairs : commonPairs awakeA awakeB 0 = [(1, 10), (1, 11), (2, 11)] := by
  unfold commonPairs
  rw [awake_ids]
  decide
theorem awake_err : errB awakeA awakeB 0 = 0 := by
  have h0 : errS awakeA awakeB 0 = 0 := by unfold errS; rw [if_pos awake_check]; rfl
  unfold errB
  rw [if_pos h0, awake_pairs, if_neg]
  have h1 := kinds_le ([((1 : Int), (10 : Int)), (1, 11), (2, 11)].map (·.1))
  have h2 := kinds_le ([((1 : Int), (10 : Int)), (1, 11), (2, 11)].map (·.2))
  simp only [List.length_map, List.length_cons, List.length_nil] at h1 h2
  omega
theorem awake_best : bestSt (commonPairs awakeA awakeB 0) = ([(1, 10), (2, 11)], 2) := by
  rw [awake_pairs]
  unfold bestSt
  rw [show sortP ((countP [((1 : Int), (10 : Int)), (1, 11), (2, 11)]).map (·.1)) = [(1, 10), (1, 11), (2, 11)] from sortP_eq (by decide) (by decide)]
  decide

set_option maxRecDepth 10000 in
set_option maxHeartbeats 2000000 in
theorem awake_any (w : World) : Calls Try.prog 7 #[] w fun e w' => e = .returned (.bool true) ∧ Ext w w' := by
  go_enter Try.func7, Try.ntmps7
  go_wp2_with fail
  refine (coin_any _ _ _).mono ?_
  rintro e w1 ⟨rfl, hx1⟩
  go_wp2_with fail
  refine (coin_any _ _ _).mono ?_
  rintro e w2 ⟨rfl, hx2⟩
  go_wp2_with fail
  refine (coin_any _ _ _).mono ?_
  rintro e w3 ⟨rfl, hx3⟩
  go_wp2_with fail
  refine (coin_any _ _ _).mono ?_
  rintro e w4 ⟨rfl, hx4⟩
  have hX4 := ((hx1.trans hx2).trans hx3).trans hx4
  clear hx1 hx2 hx3 hx4
  go_wp2_with fail
  have hA : SliceAt (w4.alloc (.cells (awakeA.flatMap encSp).toArray 39)) encSp 7 (some ⟨w4.heap.size, 0, none⟩) 4 awakeA := SliceAt.of_blk encSp_len (l := awakeA) (blk_new _ _) (by decide)
  have hXA := hX4.alloc (.cells (awakeA.flatMap encSp).toArray 39)
  obtain ⟨wA, hwA⟩ : ∃ wA, wA = w4.alloc (.cells (awakeA.flatMap encSp).toArray 39) := ⟨_, rfl⟩
  rw [← hwA] at hA hXA
  refine (coin_any _ _ _).mono ?_
  change ∀ e w', e = Ending.returned (coinS 1 10).val ∧ Ext (w4.alloc (.cells (awakeA.flatMap encSp).toArray 39)) w' → _
  rw [← hwA]
  clear hwA hX4
  generalize w4.heap.size = ba at *
  rintro e w5 ⟨rfl, hx5⟩
  go_wp2_with fail
  refine (coin_any _ _ _).mono ?_
  rintro e w6 ⟨rfl, hw6⟩
  go_wp2_with fail
  refine (coin_any _ _ _).mono ?_
  rintro e w7 ⟨rfl, hw7⟩
  go_wp2_with fail
  refine (coin_any _ _ _).mono ?_
  rintro e w8 ⟨rfl, hw8⟩
  have hX8 := ((hx5.trans hw6).trans hw7).trans hw8
  clear hx5 hw6 hw7 hw8
  go_wp2_with fail
  have hB : SliceAt (w8.alloc (.cells (awakeB.flatMap encSp).toArray 39)) encSp 7 (some ⟨w8.heap.size, 0, none⟩) 4 awakeB := SliceAt.of_blk encSp_len (l := awakeB) (blk_new _ _) (by decide)
  have hXB := hX8.alloc (.cells (awakeB.flatMap encSp).toArray 39)
  have hc1 : Calls Try.prog 14 #[.slice (some ⟨ba, 0, none⟩) 4 4, .slice (some ⟨w8.heap.size, 0, none⟩) 4 4] (w8.alloc (.cells (awakeB.flatMap encSp).toArray 39)) (CommonPost (w8.alloc (.cells (awakeB.flatMap encSp).toArray 39)) awakeA awakeB) := common_any _ _ 4 4 awakeA awakeB _ (hA.ext hXB) hB
  refine Calls.mono hc1 ?_
  clear hc1
  generalize (w8.alloc (.cells (awakeB.flatMap encSp).toArray 39)) = wB at *
  generalize w8.heap.size = bb at *
  rintro e w9 ⟨v, l, rfl, hl, HO, hx9⟩
  rw [awake_check, if_pos rfl, awake_ids] at hl
  subst hl
  rw [awake_check]
  obtain ⟨pc, cc, rfl, HC⟩ := HO.slice encI_len
  have hc2 : ∀ W, Ext wB W → Calls Try.prog 9 #[.slice (some ⟨ba, 0, none⟩) 4 4, .slice (some ⟨bb, 0, none⟩) 4 4, .int .i64 0] W (BestPost W awakeA awakeB 0) := fun W hW => best_any _ _ 4 4 awakeA awakeB 0 W ((hA.ext hXB).ext hW) (hB.ext hW)
  have HC2 := hid hc2
  clear hc2
  go_wp2_with fail
  refine (HC2.out _ hx9).mono ?_
  rintro e w10 ⟨pp, cp, l, n, rfl, hl, HP, hx10⟩
  rw [awake_err, if_pos rfl, awake_best] at hl
  cases hl
  rw [awake_err]
  have HI := HC.ext hx10
  have hX10 := ((hXA.trans hXB).trans hx9).trans hx10
  clear HC2 hx9 hx10 HC HO hA hB hXA hXB hX8
  have hi1 : ∀ W, Ext w10 W → ∀ g, W.heap[g]? = some (.cells #[.int .i64 1, .int .i64 2, .int .i64 3] 3 (0, 0)) → Calls Try.prog 21 #[.slice pc 3 cc, .slice (some ⟨g, 0, none⟩) 3 3] W fun e w' => e = .returned (.bool true) ∧ Ext W w' := fun W hW g hg => bints_any pc (some ⟨g, 0, none⟩) cc 3 [1, 2, 3] [1, 2, 3] W (HI.ext hW) (SliceAt.of_blk encI_len (l := [1, 2, 3]) hg (by decide))
  have hp1 : ∀ W, Ext w10 W → ∀ g, W.heap[g]? = some (.cells #[.int .i64 1, .int .i64 10, .int .i64 2, .int .i64 11] 60 (0, 0)) → Calls Try.prog 11 #[.slice pp 2 cp, .slice (some ⟨g, 0, none⟩) 2 2] W fun e w' => e = .returned (.bool true) ∧ Ext W w' := fun W hW g hg => bpairs_any pp (some ⟨g, 0, none⟩) cp 2 [(1, 10), (2, 11)] [(1, 10), (2, 11)] W (HP.ext hW) (SliceAt.of_blk encP_len (l := [(1, 10), (2, 11)]) hg (by decide))
  have HI1 := hid hi1
  have HP1 := hid hp1
  clear hi1 hp1 HI HP
  go_wp2_with fail
  refine (HI1.out _ ((Ext.refl _).alloc _) _ (blk_new _ _)).mono ?_
  rintro e w11 ⟨rfl, hx11⟩
  have hX11 := (hX10.alloc _).trans hx11
  go_wp2_with fail
  refine (HP1.out _ ((((Ext.refl _).alloc _).trans hx11).alloc _) _ (blk_new _ _)).mono ?_
  rintro e w12 ⟨rfl, hx12⟩
  have hX12 := (hX11.alloc _).trans hx12
  go_wp2
  go_ret
  exact ⟨rfl, hX12⟩

end Go.Proofs.Ytnedoaapnfpkfaa
