/-
  The walk of the statement CorrespondenceGreatest: it answers true. Conditions: none beyond how the arguments read.
-/
import Derived.Test.YtnedoaapnfpkfaaAwake
import Derived.Test.YtnedoaapnfpkfaaLawGreat
import Derived.Test.YtnedoaapnfpkfaaSearchStep
import Derived.Test.YtnedoaapnfpkfaaBytes
import Derived.Deep.CutBlock
import Derived.Deep.DeepCutAuto
namespace Go.Proofs.Ytnedoaapnfpkfaa
open Go.RowKit Go.Sort

theorem errB_of {a b : List Sp} {side : Int} (h : errS a b side ≠ 0) : errB a b side = errS a b side := by unfold errB; rw [if_neg h]

theorem NoClash.snoc {l : List (Int × Int)} {x : Int × Int} (h : NoClash l) (hx : l.any (clash x) = false) : NoClash (l ++ [x]) := by
  refine List.pairwise_append.2 ⟨h, by simp, fun y hy z hz => ?_⟩
  simp at hz
  subst hz
  have := List.any_eq_false.1 hx y hy
  simpa using this

theorem cnt2_take {s : Sp} {b : List Sp} {mine : List (Int × Int)} {k : Nat} (h : k < b.length) : cnt2 s (b.take (k + 1)) mine = cnt2 s (b.take k) mine + cnt3 s b[k] mine := by
  unfold cnt2; rw [List.take_succ_eq_append_getElem h, List.map_append, List.sum_append]; simp
theorem cnt1_take {a b : List Sp} {mine : List (Int × Int)} {k : Nat} (h : k < a.length) : cnt1 (a.take (k + 1)) b mine = cnt1 (a.take k) b mine + cnt2 a[k] b mine := by
  unfold cnt1; rw [List.take_succ_eq_append_getElem h, List.map_append, List.sum_append]; simp
theorem cnt3_le (s t : Sp) (mine : List (Int × Int)) : cnt3 s t mine ≤ mine.length := List.countP_le_length

set_option maxRecDepth 10000 in
set_option maxHeartbeats 4000000 in
theorem law_greatest (p q r : Option Addr) (cp cq cr : Nat) (a b : List Sp) (ch : List Int) (hu : ∀ z ∈ ch, 0 ≤ z ∧ z ≤ 255) (w : World) (h : SliceAt w encSp 7 p cp a) (h' : SliceAt w encSp 7 q cq b) (h'' : SliceAt w encU 1 r cr ch) :
    Calls Try.prog 4 #[.slice p a.length cp, .slice q b.length cq, .slice r ch.length cr] w fun e w' => e = .returned (.bool true) ∧ Ext w w' := by
  have hmax := h.max
  have hle := h.le
  have hmax' := h'.max
  have hle' := h'.le
  have hmax'' := h''.max
  have hle'' := h''.le
  unfold maxLen at hmax hmax' hmax''
  have HU := hid hu
  clear hu
  go_enter Try.func4, Try.ntmps4
  go_wp2_with fail
  refine (awake_any _).mono ?_
  rintro e w1 ⟨rfl, hx1⟩
  go_wp2_with fail
  refine (few_any p cp a _ (h.ext hx1)).mono ?_
  rintro e w2 ⟨rfl, rfl⟩
  cases hf : fewB a.length
  · clear hf
    go_wp2_with fail
    refine (awake_any _).mono ?_
    rintro e w2 ⟨rfl, hx2⟩
    go_wp2
    go_ret
    exact ⟨rfl, hx1.trans hx2⟩
  have ha := fewB_lt hf
  clear hf
  go_wp2_with fail
  refine (few_any q cq b _ (h'.ext hx1)).mono ?_
  rintro e w2 ⟨rfl, rfl⟩
  cases hf : fewB b.length
  · clear hf
    go_wp2_with fail
    refine (awake_any _).mono ?_
    rintro e w2 ⟨rfl, hx2⟩
    go_wp2
    go_ret
    exact ⟨rfl, hx1.trans hx2⟩
  have hb := fewB_lt hf
  clear hf
  by_cases h20 : ch.length > 20
  · have hd : decide ((ch.length : Int) > 20) = true := by simp; omega
    go_wp2_with fail
    refine (awake_any _).mono ?_
    rintro e w2 ⟨rfl, hx2⟩
    go_wp2
    go_ret
    exact ⟨rfl, hx1.trans hx2⟩
  have hd : decide ((ch.length : Int) > 20) = false := by simp; omega
  go_wp2_with fail
  refine (matches_any p q cp cq a b 0 _ (h.ext hx1) (h'.ext hx1)).mono ?_
  rintro e w2 ⟨v, ml, rfl, hml, HOM, hx2⟩
  have HX2 := hx1.trans hx2
  obtain ⟨pm, cm, rfl, HM⟩ := HOM.slice encP_len
  have HML := hid hml
  clear hml
  go_wp2_with fail
  refine (best_any p q cp cq a b 0 _ (h.ext HX2) (h'.ext HX2)).mono ?_
  rintro e w3 ⟨p3, c3, bl, n, rfl, hbl, hs3, hx3⟩
  have HX3 := HX2.trans hx3
  clear hx1 hx2 hs3
  by_cases hok : errS a b 0 = 0
  · by_cases hok2 : errB a b 0 = 0
    · have hml := HML.out
      rw [if_pos hok] at hml
      rw [if_pos hok2] at hbl
      have hn : n = (bestSt (commonPairs a b 0)).2 := by rw [← hbl]
      have hlaw : ∀ mine : List (Int × Int), (∀ x ∈ mine, x ∈ ml) → NoClash mine → (cnt1 a b mine : Int) ≤ n := by
        intro mine h1 h2
        obtain ⟨g1, g2, _⟩ := errS_ok hok
        rw [cnt1_weight (checkE_ok.1 g1).2.2 (checkE_ok.1 g2).2.2, hn]
        exact greatest _ _ (by rw [hml] at h1; exact h1) h2
      have hlm : ml.length ≤ 64 := by rw [hml]; exact msL_length hok
      rw [hok, hok2]
      have HLAW := hid hlaw
      clear hlaw hn hbl hml HML hok hok2
      have HM3 := HM.ext hx3
      have hmm := HM.max
      have hlmm := HM.le
      unfold maxLen at hmm
      clear hx3 HX2 HM HOM
      go_upto_block 0 with fail
      go_cut [12] from 64 (fun v wx => ∃ mine : List (Int × Int), OwnsL wx w3.heap.size 37 2 encP v mine ∧ mine.length ≤ ch.length ∧ (∀ x ∈ mine, x ∈ ml) ∧ NoClash mine ∧ Ext w wx)
      case first =>
        go_wp2
        go_loopw [12, 13, 14, 15, 16] (fun v i _ _ _ wr => ∃ (k : Nat) (mine : List (Int × Int)), k ≤ ch.length ∧ i = .int .i64 k ∧ OwnsL wr w3.heap.size 37 2 encP v mine ∧ mine.length ≤ k ∧ (∀ x ∈ mine, x ∈ ml) ∧ NoClash mine ∧ Ext w wr ∧ Ext w3 wr) (fun _ i _ _ _ _ => ch.length - (intOf i).toNat)
        case atStart => exact ⟨0, [], by omega, rfl, OwnsL.nil _ _ _ _ _, by simp, by simp, List.Pairwise.nil, HX3, Ext.refl _⟩
        case round =>
          obtain ⟨k, mine, hk, rfl, HO, hml1, hin, hnc, HX, HXX⟩ := hrel
          have HIN := hid hin
          have HNC := hid hnc
          clear hin hnc
          by_cases hlt : k < ch.length
          · by_cases hm0 : 0 < ml.length
            · have hd0 : decide ((ml.length : Int) > 0) = true := by simp; omega
              obtain ⟨bc, fc, rfl, hbc, c0⟩ := (h''.ext HX).u_at hlt
              have hz := HU.out ch[k] (List.getElem_mem hlt)
              generalize ch[k] = z at *
              obtain ⟨zn, rfl⟩ := Int.eq_ofNat_of_zero_le hz.1
              have hrl : zn % ml.length < ml.length := Nat.mod_lt _ hm0
              have hrem : ((zn : Int)).tmod (ml.length : Int) = ((zn % ml.length : Nat) : Int) := by rw [Int.tmod_eq_emod_of_nonneg (by omega)]; rfl
              have hrem2 : (zn : Int) % (ml.length : Int) = ((zn % ml.length : Nat) : Int) := rfl
              have hwz : IntKind.i64.wrap (zn : Int) = (zn : Int) := IntWalk.i64_in _ (by omega)
              generalize zn % ml.length = rr at *
              obtain ⟨bm, fm, rfl, hbm, d0, d1⟩ := (HM3.ext HXX).pair_at hrl
              have hxin : ml[rr] ∈ ml := List.getElem_mem hrl
              generalize ml[rr] = x at *
              have HXIN := hid hxin
              clear hxin
              obtain ⟨pe, ce, rfl, HE⟩ := HO.slice encP_len
              have hmE := HE.max
              have hlE := HE.le
              unfold maxLen at hmE
              go_wp2
              obtain ⟨wo, rfl⟩ : ∃ wo : World, wo = wr := ⟨_, rfl⟩
              clear c0 d0 d1 hrem hrem2 hwz
              go_loopw [15, 16] (fun f i wr => ∃ (t : Nat) (fb : Bool), t ≤ mine.length ∧ i = .int .i64 t ∧ f = .bool fb ∧ (!(mine.take t).any (clash x)) = fb ∧ wr.heap[wo.heap.size]? = some (.cells #[.int .i64 x.1, .int .i64 x.2] 37 (0, 0)) ∧ Ext wo wr) (fun _ i _ => mine.length - (intOf i).toNat)
              case atStart => exact ⟨0, true, by omega, rfl, rfl, by simp, blk_new _ _, (Ext.refl _).alloc _⟩
              case round =>
                obtain ⟨t, fb, ht, rfl, rfl, hfb, hbx, HXI⟩ := hrel
                obtain ⟨e0, e1⟩ := cells2 hbx
                by_cases htl : t < mine.length
                · obtain ⟨b2, f2, rfl, hb2, d0, d1⟩ := (HE.ext HXI).pair_at htl
                  have hat := any_take (p := clash x) htl
                  generalize mine[t] = y at *
                  have hcut : ((y.1 == x.1) = true ∧ (y.1 != x.1) = false ∧ clash x y = true) ∨ ((y.1 == x.1) = false ∧ (y.1 != x.1) = true ∧ (y.2 == x.2) = true ∧ (y.2 != x.2) = false ∧ clash x y = true) ∨ ((y.1 == x.1) = false ∧ (y.1 != x.1) = true ∧ (y.2 == x.2) = false ∧ (y.2 != x.2) = true ∧ clash x y = false) := by
                    unfold clash
                    by_cases g1 : y.1 = x.1
                    · left; simp [g1]
                    · by_cases g2 : y.2 = x.2
                      · right; left; simp [g1, g2]
                      · right; right; simp [g1, g2]
                  cases fb
                  · have hf : (mine.take t).any (clash x) = true := by simpa using hfb
                    rw [hf, Bool.true_or] at hat
                    have HAT := hid hat
                    clear hat hf hcut hfb
                    go_wp2_with fail
                    go_quiet (fail)
                    go_wp2
                    go_roundw
                    case rel => exact ⟨t + 1, false, by omega, by go_num, rfl, by rw [HAT.out]; rfl, hbx, HXI.drewN _⟩
                    case measure => simp [intOf]; omega
                  · have hf : (mine.take t).any (clash x) = false := by simpa using hfb
                    rw [hf, Bool.false_or] at hat
                    have HAT := hid hat
                    clear hat hf hfb
                    rcases hcut with ⟨g1, g2, hc⟩ | ⟨g1, g2, g3, g4, hc⟩ | ⟨g1, g2, g3, g4, hc⟩
                    · have HCL := hid hc
                      clear hc
                      go_wp2_with fail
                      go_quiet (fail)
                      go_wp2
                      go_roundw
                      case rel => exact ⟨t + 1, false, by omega, by go_num, rfl, by rw [HAT.out, HCL.out]; rfl, hbx, HXI.drewN _⟩
                      case measure => simp [intOf]; omega
                    · have HCL := hid hc
                      clear hc
                      go_wp2_with fail
                      go_quiet (fail)
                      go_wp2
                      go_roundw
                      case rel => exact ⟨t + 1, false, by omega, by go_num, rfl, by rw [HAT.out, HCL.out]; rfl, hbx, HXI.drewN _⟩
                      case measure => simp [intOf]; omega
                    · have HCL := hid hc
                      clear hc
                      go_wp2_with fail
                      go_quiet (fail)
                      go_wp2
                      go_roundw
                      case rel => exact ⟨t + 1, true, by omega, by go_num, rfl, by rw [HAT.out, HCL.out]; rfl, hbx, HXI.drewN _⟩
                      case measure => simp [intOf]; omega
                · have hke : t = mine.length := by omega
                  subst hke
                  rw [List.take_length] at hfb
                  have HFB := hid hfb
                  clear hfb
                  have HX2 := HX.trans HXI
                  have HXX2 := HXX.trans HXI
                  cases fb
                  · go_wp2
                    go_roundw
                    case rel => exact ⟨k + 1, mine, by omega, by go_num, HO.ext HXI, by omega, HIN.out, HNC.out, HX2, HXX2⟩
                    case measure => simp [intOf]; omega
                  · have hl1 : mine.length < 1099511627776 := by omega
                    have HO2 := HO.ext HXI
                    go_wp2_with (at_builtin; refine wpList_append_one elemE (by decide) rfl _ _ rfl w3.heap.size _ _ rfl (HO2.alloc (.cells #[.int .i64 x.1, .int .i64 x.2] 37)) wr.heap.size 1 x rfl (cells2_at (blk_new _ _)) hl1 (by have := HXX2.size; simp; omega) ?_)
                    intro v' w5 HO3 HG3
                    have HX3' := (HX2.alloc (.cells #[.int .i64 x.1, .int .i64 x.2] 37)).grownL (HO2.alloc (.cells #[.int .i64 x.1, .int .i64 x.2] 37)) HX3.size HG3
                    have HXX3 := (HXX2.alloc (.cells #[.int .i64 x.1, .int .i64 x.2] 37)).grownL (HO2.alloc (.cells #[.int .i64 x.1, .int .i64 x.2] 37)) (Nat.le_refl _) HG3
                    clear HG3
                    have hin2 : ∀ z ∈ mine ++ [x], z ∈ ml := fun z hz => by
                      rcases List.mem_append.1 hz with hz | hz
                      · exact HIN.out z hz
                      · simp at hz; rw [hz]; exact HXIN.out
                    have HIN2 := hid hin2
                    clear hin2
                    go_wp2
                    go_roundw
                    case rel => exact ⟨k + 1, mine ++ [x], by omega, by go_num, HO3, by simp; omega, HIN2.out, HNC.out.snoc (by simpa using HFB.out), HX3', HXX3⟩
                    case measure => simp [intOf]; omega
            · have hd0 : decide ((ml.length : Int) > 0) = false := decide_eq_false (by omega)
              go_wp2
              go_meet
              case rel => exact ⟨mine, HO, by omega, HIN.out, HNC.out, HX⟩
          · go_wp2
            go_meet
            case rel => exact ⟨mine, HO, by omega, HIN.out, HNC.out, HX⟩
      case rest =>
        obtain ⟨mine, HO, hml1, hin, hnc, HX⟩ := hcut
        have hfin := HLAW.out mine hin hnc
        obtain ⟨pe, ce, rfl, HE⟩ := HO.slice encP_len
        have hme := HE.max
        have hle3 := HE.le
        unfold maxLen at hme
        have HFIN := hid hfin
        clear hfin hin hnc HLAW
        go_wp2
        go_loopw [17, 18, 19, 20] (fun qv i _ _ wr => ∃ k : Nat, k ≤ a.length ∧ i = .int .i64 k ∧ qv = .int .i64 ((cnt1 (a.take k) b mine : Nat) : Int) ∧ cnt1 (a.take k) b mine ≤ k * 2000 ∧ Ext w wr ∧ Ext wc wr) (fun _ i _ _ _ => a.length - (intOf i).toNat)
        case atStart => exact ⟨0, by omega, rfl, by simp [cnt1], by simp [cnt1], HX, Ext.refl _⟩
        case round =>
          clear HX
          obtain ⟨k, hk, rfl, rfl, hb1, HX, HXC⟩ := hrel
          by_cases hlt : k < a.length
          · have hst := cnt1_take (b := b) (mine := mine) hlt
            generalize cnt1 (a.take k) b mine = q1 at *
            obtain ⟨ba, fa, rfl, hba, c0, c1, _⟩ := (h.ext HX).sp_at hlt
            generalize a[k] = s at *
            have HST := hid hst
            clear hst
            go_wp2
            obtain ⟨wo, rfl⟩ : ∃ wo : World, wo = wr := ⟨_, rfl⟩
            go_loopw [17, 19, 20] (fun qv i _ wr => ∃ t : Nat, t ≤ b.length ∧ i = .int .i64 t ∧ qv = .int .i64 ((q1 : Int) + ((cnt2 s (b.take t) mine : Nat) : Int)) ∧ cnt2 s (b.take t) mine ≤ t * 20 ∧ Ext w wr ∧ Ext wc wr ∧ Ext wo wr) (fun _ i _ _ => b.length - (intOf i).toNat)
            case atStart => exact ⟨0, by omega, rfl, by simp [cnt2], by simp [cnt2], HX, HXC, Ext.refl _⟩
            case round =>
              clear HX HXC
              obtain ⟨t, ht, rfl, rfl, hb2, HX, HXC, HXO⟩ := hrel
              by_cases htl : t < b.length
              · have hst := cnt2_take (s := s) (mine := mine) htl
                generalize cnt2 s (b.take t) mine = q2 at *
                obtain ⟨bb, fb, rfl, hbb, d0, d1, _⟩ := (h'.ext HX).sp_at htl
                have c0' := (HXO.cell (p := ⟨ba, fa + k * 7, none⟩) hba).trans c0
                have c1' := (HXO.cell (p := ⟨ba, fa + k * 7 + 1, none⟩) hba).trans c1
                generalize b[t] = u at *
                have HST2 := hid hst
                have HC0 := hid c0'
                have HC1 := hid c1'
                have HD0 := hid d0
                have HD1 := hid d1
                clear hst c0' c1'
                go_wp2
                obtain ⟨wi, rfl⟩ : ∃ wi : World, wi = wr := ⟨_, rfl⟩
                go_loopw [17, 20] (fun qv i wr => ∃ m : Nat, m ≤ mine.length ∧ i = .int .i64 m ∧ qv = .int .i64 ((q1 : Int) + (q2 : Int) + (((mine.take m).countP (fun x => decide (s.id = u.id) && decide (s.obv = x.1) && decide (u.obv = x.2)) : Nat) : Int)) ∧ Ext w wr ∧ Ext wc wr ∧ Ext wi wr) (fun _ i _ => mine.length - (intOf i).toNat)
                case atStart => exact ⟨0, by omega, rfl, by simp, HX, HXC, Ext.refl _⟩
                case round =>
                  clear HX HXC
                  obtain ⟨m, hm, rfl, rfl, HX, HXC, HXI⟩ := hrel
                  have hbwi := Nat.lt_of_lt_of_le hba HXO.size
                  have c0'' := (HXI.cell (p := ⟨ba, fa + k * 7, none⟩) hbwi).trans HC0.out
                  have c1'' := (HXI.cell (p := ⟨ba, fa + k * 7 + 1, none⟩) hbwi).trans HC1.out
                  have d0'' := (HXI.cell (p := ⟨bb, fb + t * 7, none⟩) hbb).trans HD0.out
                  have d1'' := (HXI.cell (p := ⟨bb, fb + t * 7 + 1, none⟩) hbb).trans HD1.out
                  clear c0 c1 d0 d1
                  by_cases hml : m < mine.length
                  · obtain ⟨bx, fx, rfl, hbx, e0, e1⟩ := (HE.ext HXC).pair_at hml
                    have hct := cntP_take (p := fun x : Int × Int => decide (s.id = u.id) && decide (s.obv = x.1) && decide (u.obv = x.2)) hml
                    have hcb : (mine.take m).countP (fun x => decide (s.id = u.id) && decide (s.obv = x.1) && decide (u.obv = x.2)) ≤ m := Nat.le_trans List.countP_le_length (by rw [List.length_take]; omega)
                    generalize (mine.take m).countP (fun x => decide (s.id = u.id) && decide (s.obv = x.1) && decide (u.obv = x.2)) = c at *
                    generalize mine[m] = x at *
                    have HCT := hid hct
                    clear hct
                    have hcut : ((s.id == u.id) = true ∧ (s.obv == x.1) = true ∧ (u.obv == x.2) = true ∧ (decide (s.id = u.id) && decide (s.obv = x.1) && decide (u.obv = x.2)) = true) ∨ ((s.id == u.id) = false ∧ (decide (s.id = u.id) && decide (s.obv = x.1) && decide (u.obv = x.2)) = false) ∨ ((s.id == u.id) = true ∧ (s.obv == x.1) = false ∧ (decide (s.id = u.id) && decide (s.obv = x.1) && decide (u.obv = x.2)) = false) ∨ ((s.id == u.id) = true ∧ (s.obv == x.1) = true ∧ (u.obv == x.2) = false ∧ (decide (s.id = u.id) && decide (s.obv = x.1) && decide (u.obv = x.2)) = false) := by
                      by_cases g1 : s.id = u.id
                      · by_cases g2 : s.obv = x.1
                        · by_cases g3 : u.obv = x.2
                          · left; simp [g1, g2, g3]
                          · right; right; right; simp [g1, g2, g3]
                        · right; right; left; simp [g1, g2]
                      · right; left; simp [g1]
                    rcases hcut with ⟨g1, g2, g3, hd⟩ | ⟨g1, hd⟩ | ⟨g1, g2, hd⟩ | ⟨g1, g2, g3, hd⟩
                    · have HD := hid hd
                      clear hd
                      go_wp2_with fail
                      go_quiet (fail)
                      go_wp2
                      go_roundw
                      case rel => exact ⟨m + 1, by omega, by go_num, by rw [HCT.out, HD.out]; simp; omega, HX.drewN _, HXC.drewN _, HXI.drewN _⟩
                      case measure => simp [intOf]; omega
                    all_goals
                      have HD := hid hd
                      clear hd
                      go_wp2_with fail
                      go_quiet (fail)
                      go_wp2
                      go_roundw
                      case rel => exact ⟨m + 1, by omega, by go_num, by rw [HCT.out, HD.out]; simp, HX.drewN _, HXC.drewN _, HXI.drewN _⟩
                      case measure => simp [intOf]; omega
                  · have hke : m = mine.length := by omega
                    subst hke
                    have hc3 : (mine.take mine.length).countP (fun x => decide (s.id = u.id) && decide (s.obv = x.1) && decide (u.obv = x.2)) = cnt3 s u mine := by rw [List.take_length]; rfl
                    have hc3l := cnt3_le s u mine
                    generalize (mine.take mine.length).countP (fun x => decide (s.id = u.id) && decide (s.obv = x.1) && decide (u.obv = x.2)) = c at *
                    have HC3 := hid hc3
                    clear hc3
                    go_wp2
                    go_roundw
                    case rel => exact ⟨t + 1, by omega, by go_num, by rw [HST2.out, ← HC3.out]; congr 1; omega, by rw [HST2.out, ← HC3.out]; rw [← HC3.out] at hc3l; omega, HX, HXC, HXO.trans HXI⟩
                    case measure => simp [intOf]; omega
              · have hke : t = b.length := by omega
                subst hke
                rw [List.take_length] at hb2 ⊢
                generalize hq2 : cnt2 s b mine = q2 at *
                have HQ2 := hid hq2
                clear hq2
                go_wp2
                go_roundw
                case rel => exact ⟨k + 1, by omega, by go_num, by rw [HST.out]; congr 1, by rw [HST.out]; omega, HX, HXC⟩
                case measure => simp [intOf]; omega
          · have hke : k = a.length := by omega
            subst hke
            rw [List.take_length]
            have hfin := HFIN.out
            generalize cnt1 a b mine = q1 at *
            have hd1 : decide ((q1 : Int) ≤ n) = true := by simpa using hfin
            clear hfin
            go_wp2
            go_ret
            exact ⟨rfl, HX⟩
    · have g : (errB a b 0 == 0) = false := by simpa using hok2
      have g' : (errB a b 0 != 0) = true := by rw [bne, g]; rfl
      rw [if_neg hok2] at hbl
      cases hbl
      rw [hok]
      clear hok HML hok2
      go_wp2
      go_ret
      exact ⟨rfl, HX3⟩
  · have hbe := errB_of hok
    rw [hbe] at hbl ⊢
    rw [if_neg hok] at hbl
    cases hbl
    have g : (errS a b 0 == 0) = false := by simpa using hok
    have g' : (errS a b 0 != 0) = true := by rw [bne, g]; rfl
    clear hok HML hbe
    go_wp2
    go_ret
    exact ⟨rfl, HX3⟩

end Go.Proofs.Ytnedoaapnfpkfaa
