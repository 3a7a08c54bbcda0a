/-
  The contract of the reference's Best. Conditions: none beyond how the arguments read.
-/
import Derived.Test.YtnedoaapnfpkfaaSearchStep
import Derived.Test.YtnedoaapnfpkfaaCoinbase
import Derived.Test.YtnedoaapnfpkfaaLawBest
namespace Go.Proofs.Ytnedoaapnfpkfaa
open Go.RowKit Go.Sort

theorem wpList_append_at {α : Type} {P : Program} {t e : TypeId} {enc : α → List Value} {k bytes : Nat} (E : ElemT P t e enc k bytes) (hb : bytes ≤ 100) {w : World} {ops : Array Oper} {rest : List Oper} {o : Oper} {a : Act} {Q : Exit → Act → World → Prop} (hgd : o.guard = none) (s x : Operand)
    (ho : o.op = .call { callee := .builtin .append, args := #[s, x], argTypes := #[t, t] }) (base : Nat) (v : Value) (l : List α) (hs : a.eval s = v) (hown : OwnsL w base e k enc v l)
    (g c : Nat) (y : α) (hx : a.eval x = .slice (some ⟨g, 0, none⟩) 1 c) (hc : ∀ j u, (enc y)[j]? = some u → w.cell? ((⟨g, 0, none⟩ : Addr).add j) = some u) (hlen : l.length < 1099511627776) (hbase : base ≤ w.heap.size)
    (h : ∀ v' w', OwnsL w' base e k enc v' (l ++ [y]) → w.grownBy w' v.ownBlock → (v'.ownBlock = v.ownBlock ∨ v'.ownBlock = some w.heap.size) → wpList P ops Q rest (a.put o.dst v') w') : wpList P ops Q (o :: rest) a w :=
  wpList_plain hgd fun _ hK => opWp_append_at E hb s x ho base v l hs hown g c y hx hc hlen hbase fun v' w' h1 h2 h3 => hK _ _ (h v' w' h1 h2 h3)

/-- The different numbers, as they come. -/
def nub (l : List Int) : List Int := l.foldl (fun out n => if n ∈ out then out else out ++ [n]) []
theorem nub_take {l : List Int} {k : Nat} (h : k < l.length) : nub (l.take (k + 1)) = if l[k] ∈ nub (l.take k) then nub (l.take k) else nub (l.take k) ++ [l[k]] := by
  unfold nub; rw [List.take_succ_eq_append_getElem h, List.foldl_append]; rfl
theorem nub_spec (l : List Int) : (nub l).Nodup ∧ (∀ x, x ∈ nub l ↔ x ∈ l) ∧ (nub l).length ≤ l.length := by
  suffices h : ∀ (l out : List Int), out.Nodup → (l.foldl (fun out n => if n ∈ out then out else out ++ [n]) out).Nodup ∧ (∀ x, x ∈ l.foldl (fun out n => if n ∈ out then out else out ++ [n]) out ↔ x ∈ out ∨ x ∈ l) ∧ (l.foldl (fun out n => if n ∈ out then out else out ++ [n]) out).length ≤ out.length + l.length by
    simpa [nub] using h l [] List.nodup_nil
  intro l
  induction l with
  | nil => intro out h; simp [h]
  | cons n l ih =>
    intro out h
    rw [List.foldl_cons]
    by_cases hn : n ∈ out
    · rw [if_pos hn]
      obtain ⟨h1, h2, h3⟩ := ih out h
      refine ⟨h1, fun x => ?_, by rw [List.length_cons]; omega⟩
      rw [h2, List.mem_cons]
      constructor
      · rintro (h | h)
        · exact Or.inl h
        · exact Or.inr (Or.inr h)
      · rintro (h | rfl | h)
        · exact Or.inl h
        · exact Or.inl hn
        · exact Or.inr h
    · rw [if_neg hn]
      have hnd : (out ++ [n]).Nodup := by
        rw [List.nodup_append]
        refine ⟨h, by simp, fun a ha b hb e => ?_⟩
        simp at hb
        subst hb; subst e
        exact hn ha
      obtain ⟨h1, h2, h3⟩ := ih (out ++ [n]) hnd
      refine ⟨h1, fun x => ?_, by rw [List.length_append] at h3; rw [List.length_cons]; simp at h3; omega⟩
      rw [h2, List.mem_append, List.mem_singleton, List.mem_cons, or_assoc]

theorem errB_ok {a b : List Sp} {side : Int} (h : errS a b side = 0) : (a.map Sp.id).Nodup ∧ (b.map Sp.id).Nodup := by
  obtain ⟨h1, h2, _⟩ := errS_ok h
  exact ⟨(checkE_ok.1 h1).2.2, (checkE_ok.1 h2).2.2⟩

theorem kinds_nub {a b : List Sp} {side : Int} (h : errS a b side = 0) (f : Int × Int → Int) : (nub ((matchesL ((couplesL a b side).map (·.2))).map f)).length = kinds ((commonPairs a b side).map f) := by
  obtain ⟨h1, h2⟩ := errB_ok h
  obtain ⟨h3, h4, _⟩ := nub_spec ((matchesL ((couplesL a b side).map (·.2))).map f)
  refine (kinds_eq h3 fun x => ?_).symm
  rw [h4, List.mem_map, List.mem_map, couples_pairs h1 h2]
  constructor
  · rintro ⟨y, hy, rfl⟩; exact ⟨y, mem_matchesL.1 hy, rfl⟩
  · rintro ⟨y, hy, rfl⟩; exact ⟨y, mem_matchesL.2 hy, rfl⟩

theorem found_eq {a b : List Sp} {side : Int} (h : errS a b side = 0) : searchL ((couplesL a b side).map (·.2)) (matchesL ((couplesL a b side).map (·.2))) [] ([], 0, false) = ((bestSt (commonPairs a b side)).1, (bestSt (commonPairs a b side)).2, true) := by
  obtain ⟨h1, h2⟩ := errB_ok h
  rw [couples_pairs h1 h2, matches_eq]
  exact search_eq (wtOf (countP (commonPairs a b side))) (commonPairs a b side) _ (fun p => by unfold wtOf; rw [alook_countP])

set_option maxRecDepth 10000 in
set_option maxHeartbeats 4000000 in
theorem rbest_any (p q : Option Addr) (cp cq : Nat) (a b : List Sp) (side : Int) (w : World) (h : SliceAt w encSp 7 p cp a) (h' : SliceAt w encSp 7 q cq b) :
    Calls Try.prog 10 #[.slice p a.length cp, .slice q b.length cq, .int .i64 side] w (BestPost w a b side) := by
  by_cases hok : errS a b side = 0
  · have hfound := found_eq hok
    have hkx := kinds_nub hok (·.1)
    have hky := kinds_nub hok (·.2)
    have hcl : (couplesL a b side).length ≤ 4096 := by
      obtain ⟨hk1, hk2, _⟩ := errS_ok hok
      exact Nat.le_trans (couplesL_le a b side) (Nat.mul_le_mul (checkE_ok.1 hk1).1 (checkE_ok.1 hk2).1)
    have hab : a.length ≤ 100 ∧ b.length ≤ 100 := by
      obtain ⟨hk1, hk2, _⟩ := errS_ok hok
      have := (checkE_ok.1 hk1).1
      have := (checkE_ok.1 hk2).1
      omega
    have herr : errB a b side = if kinds ((commonPairs a b side).map (·.1)) > 7 ∨ kinds ((commonPairs a b side).map (·.2)) > 7 then 6 else 0 := by unfold errB; rw [if_pos hok]
    have hml := matchesL_length ((couplesL a b side).map (·.2))
    rw [List.length_map] at hml
    have HOK := hid hok
    clear hok
    go_enter Try.func10, Try.ntmps10
    go_wp2_with fail
    refine (rmatches_any p q cp cq a b side _ h h').mono ?_
    rintro e w1 ⟨v, l, rfl, hl, HO1, hx1⟩
    rw [if_pos HOK.out] at hl
    subst hl
    rw [HOK.out]
    generalize hms : matchesL ((couplesL a b side).map (·.2)) = ms at *
    have HMS := hid hms
    have HFOUND := hid hfound
    have HKX := hid hkx
    have HKY := hid hky
    have HERR := hid herr
    clear hms hfound hkx hky herr
    obtain ⟨pm, cm, rfl, HM⟩ := HO1.slice encP_len
    have hmm := HM.max
    have hlm := HM.le
    unfold maxLen at hmm
    go_wp2
    go_loopw [11, 12, 13] (fun x y i wr => ∃ k : Nat, k ≤ ms.length ∧ i = .int .i64 k ∧ OwnsL wr w1.heap.size 3 1 encI x (nub ((ms.map (·.1)).take k)) ∧ OwnsL wr w1.heap.size 3 1 encI y (nub ((ms.map (·.2)).take k)) ∧ (∀ r, x.ownBlock = some r → y.ownBlock ≠ some r) ∧ Ext w wr ∧ Ext w1 wr) (fun _ _ i _ => ms.length - (intOf i).toNat)
    case atStart => exact ⟨0, by omega, rfl, OwnsL.nil _ _ _ _ _, OwnsL.nil _ _ _ _ _, fun r hr => (by cases hr), hx1, Ext.refl _⟩
    case round =>
      obtain ⟨k, hk, rfl, HA, HB, hsep, HX, HXX⟩ := hrel
      by_cases hlt : k < ms.length
      · have hsx := nub_take (l := ms.map (·.1)) (k := k) (by simpa using hlt)
        have hsy := nub_take (l := ms.map (·.2)) (k := k) (by simpa using hlt)
        rw [List.getElem_map] at hsx hsy
        have hlx := (nub_spec ((ms.map (·.1)).take k)).2.2
        have hly := (nub_spec ((ms.map (·.2)).take k)).2.2
        rw [List.length_take, List.length_map] at hlx hly
        obtain ⟨bm, fm, rfl, hbm, c0, c1⟩ := (HM.ext HXX).pair_at hlt
        generalize nub ((ms.map (·.1)).take k) = nx at *
        generalize nub ((ms.map (·.2)).take k) = ny at *
        generalize hxk : ms[k] = x at *
        have HXK := hid hxk
        clear hxk
        have HSX := hid hsx
        have HSY := hid hsy
        have HSEP := hid hsep
        clear hsx hsy hsep
        obtain ⟨pa, ca, rfl, HSA⟩ := HA.slice encI_len
        go_wp2_with fail
        refine (bhas_any pa ca nx x.1 _ HSA).mono ?_
        rintro e w2 ⟨rfl, rfl⟩
        generalize hbx : decide (x.1 ∈ nx) = bx at *
        have HBX := hid hbx
        clear hbx
        go_upto_if 38 with fail
        go_cut [11] from 39 to 62 (fun v wx => OwnsL wx w1.heap.size 3 1 encI v (if x.1 ∈ nx then nx else nx ++ [x.1]) ∧ OwnsL wx w1.heap.size 3 1 encI u12 ny ∧ (∀ r, v.ownBlock = some r → u12.ownBlock ≠ some r) ∧ Ext w wx ∧ Ext w1 wx)
        case first =>
          cases bx
          · have hno : (if x.1 ∈ nx then nx else nx ++ [x.1]) = nx ++ [x.1] := if_neg (of_decide_eq_false HBX.out)
            have HNO := hid hno
            clear hno
            have hlA : nx.length < 1099511627776 := by omega
            have hblk := blk_new wr (.cells #[.int .i64 x.1] 3)
            go_wp2_with (at_builtin; refine wpList_append_at elemI (by decide) rfl _ _ rfl w1.heap.size _ _ rfl (HA.alloc (.cells #[.int .i64 x.1] 3)) wr.heap.size 1 x.1 rfl (cells1_at (blk_new _ _)) hlA (by have := HXX.size; simp; omega) ?_)
            intro v1 w2 hO2 hg2 hat2
            have hB2 := (HB.alloc (.cells #[.int .i64 x.1] 3)).keptR hg2 (fun r hr e => HSEP.out r e hr)
            have hsep2 : ∀ r, v1.ownBlock = some r → u12.ownBlock ≠ some r := by
              intro r hr e
              rcases hat2 with h1 | h1
              · exact HSEP.out r (h1 ▸ hr) e
              · have h2 := (World.ownsRow.lt HB r e).2
                rw [h1] at hr
                have h3 := Option.some.inj hr
                try simp at h3
                omega
            have hX2 := (HX.alloc (.cells #[.int .i64 x.1] 3)).grownL (HA.alloc (.cells #[.int .i64 x.1] 3)) hx1.size hg2
            have hXX2 := (HXX.alloc (.cells #[.int .i64 x.1] 3)).grownL (HA.alloc (.cells #[.int .i64 x.1] 3)) (Nat.le_refl _) hg2
            have HS2 := hid hsep2
            clear hg2 hat2 hsep2 hblk
            go_wp2
            go_meet
            case rel => exact ⟨by rw [HNO.out]; exact hO2, hB2, HS2.out, hX2, hXX2⟩
          · have hyes : (if x.1 ∈ nx then nx else nx ++ [x.1]) = nx := if_pos (of_decide_eq_true HBX.out)
            have HYES := hid hyes
            clear hyes
            go_wp2
            go_meet
            case rel => exact ⟨by rw [HYES.out]; exact HA, HB, HSEP.out, HX, HXX⟩
        case rest =>
          obtain ⟨HA1, HB1, hsep1, HX1, HXX1⟩ := hcut
          generalize (if x.1 ∈ nx then nx else nx ++ [x.1]) = nx2 at *
          have hsep1' : ∀ r, u12.ownBlock = some r → u11.ownBlock ≠ some r := fun r h e => hsep1 r e h
          have HSEP1 := hid hsep1'
          clear hsep1 hsep1' HA HB HX HXX HSA HBX HSEP c0 c1
          obtain ⟨pb, cb, hpb, HSB⟩ := HB1.slice encI_len
          have hc := (HM.ext HXX1).pair_at hlt
          obtain ⟨bm', fm', hpe, hbm', c0, c1⟩ := hc
          cases hpe
          rw [HXK.out] at c0 c1
          subst hpb
          go_wp2_with fail
          refine (bhas_any pb cb ny x.2 _ HSB).mono ?_
          rintro e w2 ⟨rfl, rfl⟩
          generalize hby : decide (x.2 ∈ ny) = by1 at *
          have HBY := hid hby
          clear hby
          cases by1
          · have hno : (if x.2 ∈ ny then ny else ny ++ [x.2]) = ny ++ [x.2] := if_neg (of_decide_eq_false HBY.out)
            have HNO := hid hno
            clear hno
            have hlA : ny.length < 1099511627776 := by omega
            go_wp2_with (at_builtin; refine wpList_append_at elemI (by decide) rfl _ _ rfl w1.heap.size _ _ rfl (HB1.alloc (.cells #[.int .i64 x.2] 3)) wc.heap.size 1 x.2 rfl (cells1_at (blk_new _ _)) hlA (by have := HXX1.size; simp; omega) ?_)
            intro v1 w2 hO2 hg2 hat2
            have hA2 := (HA1.alloc (.cells #[.int .i64 x.2] 3)).keptR hg2 (fun r hr e => HSEP1.out r e hr)
            have hsep2 : ∀ r, u11.ownBlock = some r → v1.ownBlock ≠ some r := by
              intro r e hr
              rcases hat2 with h1 | h1
              · exact HSEP1.out r (h1 ▸ hr) e
              · have h2 := (World.ownsRow.lt HA1 r e).2
                rw [h1] at hr
                have h3 := Option.some.inj hr
                try simp at h3
                omega
            have hX2 := (HX1.alloc (.cells #[.int .i64 x.2] 3)).grownL (HB1.alloc (.cells #[.int .i64 x.2] 3)) hx1.size hg2
            have hXX2 := (HXX1.alloc (.cells #[.int .i64 x.2] 3)).grownL (HB1.alloc (.cells #[.int .i64 x.2] 3)) (Nat.le_refl _) hg2
            have HS2 := hid hsep2
            clear hg2 hat2 hsep2
            go_wp2
            go_roundw
            case rel => exact ⟨k + 1, by omega, by go_num, by rw [HSX.out]; exact hA2, by rw [HSY.out, HNO.out]; exact hO2, HS2.out, hX2, hXX2⟩
            case measure => simp [intOf]; omega
          · have hyes : (if x.2 ∈ ny then ny else ny ++ [x.2]) = ny := if_pos (of_decide_eq_true HBY.out)
            have hsep3 : ∀ r, u11.ownBlock = some r → (Value.slice pb ny.length cb).ownBlock ≠ some r := fun r h e => HSEP1.out r e h
            have HSEP3 := hid hsep3
            have HYES := hid hyes
            clear hyes hsep3
            go_wp2
            go_roundw
            case rel => exact ⟨k + 1, by omega, by go_num, by rw [HSX.out]; exact HA1, by rw [HSY.out, HYES.out]; exact HB1, HSEP3.out, HX1, HXX1⟩
            case measure => simp [intOf]; omega
      · have hke : k = ms.length := by omega
        subst hke
        rw [show (ms.map (·.1)).take ms.length = ms.map (·.1) from List.take_of_length_le (by simp)] at HA
        rw [show (ms.map (·.2)).take ms.length = ms.map (·.2) from List.take_of_length_le (by simp)] at HB
        have hlx := (nub_spec (ms.map (·.1))).2.2
        have hly := (nub_spec (ms.map (·.2))).2.2
        rw [List.length_map] at hlx hly
        obtain ⟨pa, ca, rfl, _⟩ := HA.slice encI_len
        obtain ⟨pb, cb, rfl, _⟩ := HB.slice encI_len
        have hkk1 := HKX.out
        have hkk2 := HKY.out
        generalize (nub (ms.map (·.1))).length = n1 at *
        generalize (nub (ms.map (·.2))).length = n2 at *
        clear HA HB hsep
        have hcases : (errB a b side = 6 ∧ ((n1 : Int) > 7 ∨ (¬ (n1 : Int) > 7 ∧ (n2 : Int) > 7))) ∨ (errB a b side = 0 ∧ ¬ (n1 : Int) > 7 ∧ ¬ (n2 : Int) > 7) := by
          rw [HERR.out, ← hkk1, ← hkk2]
          by_cases h1 : n1 > 7
          · left; rw [if_pos (Or.inl h1)]; exact ⟨rfl, Or.inl (by omega)⟩
          · by_cases h2 : n2 > 7
            · left; rw [if_pos (Or.inr h2)]; exact ⟨rfl, Or.inr ⟨by omega, by omega⟩⟩
            · right; rw [if_neg (by omega)]; exact ⟨rfl, by omega, by omega⟩
        clear hkk1 hkk2
        rcases hcases with ⟨he6, hh⟩ | ⟨he0, h1, h2⟩
        · have HE6 := hid he6
          clear he6
          rcases hh with h1 | ⟨h1, h2⟩
          · have hd1 : decide ((n1 : Int) > 7) = true := by simpa using h1
            go_wp2
            go_ret3
            refine ⟨none, 0, [], 0, ?_, ?_, SliceAt.nil _ _ _ _ _ (Nat.zero_le _), HX⟩
            · rw [HE6.out]; rfl
            · rw [HE6.out, if_neg (by decide)]
          · have hd1 : decide ((n1 : Int) > 7) = false := by simpa using h1
            have hd2 : decide ((n2 : Int) > 7) = true := by simpa using h2
            go_wp2
            go_ret3
            refine ⟨none, 0, [], 0, ?_, ?_, SliceAt.nil _ _ _ _ _ (Nat.zero_le _), HX⟩
            · rw [HE6.out]; rfl
            · rw [HE6.out, if_neg (by decide)]
        · have HE0 := hid he0
          have hd1 : decide ((n1 : Int) > 7) = false := by simpa using h1
          have hd2 : decide ((n2 : Int) > 7) = false := by simpa using h2
          clear he0
          go_wp2_with fail
          refine (couples_any p q cp cq a b side _ (h.ext HX) (h'.ext HX) hab.1 hab.2).mono ?_
          rintro e w2 ⟨v, rfl, HOC, hx2⟩
          obtain ⟨pc, cc, rfl, HC⟩ := HOC.slice encC_len
          have hX2 := HX.trans hx2
          have hM2 := (HM.ext HXX).ext hx2
          generalize couplesL a b side = cps at *
          have hsearch := search_any pc pm cc cm cps ms hcl (by omega) ms.length 0 (by omega) (by omega) none none 0 0 [] ([], 0, false) w2 HC hM2 (SliceAt.nil _ _ _ _ _ (Nat.zero_le _)) (SliceAt.nil _ _ _ _ _ (Nat.zero_le _)) (by simp)
          rw [List.drop_zero] at hsearch
          have HSEARCH := hid hsearch
          clear hsearch
          go_wp2_with fail
          refine HSEARCH.out.mono ?_
          rintro e w3 ⟨pr, cr, rfl, hSr, hx3, _⟩
          rw [HFOUND.out] at hSr ⊢
          generalize hst : bestSt (commonPairs a b side) = st at *
          obtain ⟨sl, sn⟩ := st
          have HST := hid hst
          have hX3 := hX2.trans hx3
          clear hst
          clear hX2 hM2 HX HXX HC
          obtain ⟨z0, z1, z2⟩ := cells3 (blk_new w3 (.cells #[.slice pr sl.length cr, .int .i64 sn, .bool true] 74))
          go_wp2_with fail
          go_quiet (fail)
          go_wp2
          go_ret3
          refine ⟨pr, cr, sl, sn, ?_, ?_, (hSr.ext ((Ext.refl _).alloc _)).ext ((Ext.refl _).drewN _), (hX3.alloc _).drewN _⟩
          · rw [HE0.out]; rfl
          · rw [HE0.out, if_pos rfl, HST.out]
  · have g : (errS a b side == 0) = false := by simpa using hok
    have g' : (errS a b side != 0) = true := by rw [bne, g]; rfl
    have hb : errB a b side = errS a b side := by unfold errB; rw [if_neg hok]
    have HB := hid hb
    have HOK := hid hok
    clear hb hok
    go_enter Try.func10, Try.ntmps10
    go_wp2_with fail
    refine (rmatches_any p q cp cq a b side _ h h').mono ?_
    rintro e w1 ⟨v, l, rfl, hl, HO1, HX1⟩
    clear hl
    go_wp2
    go_ret3
    refine ⟨none, 0, [], 0, ?_, ?_, SliceAt.nil _ _ _ _ _ (Nat.zero_le _), HX1⟩
    · rw [HB.out]; rfl
    · rw [HB.out, if_neg HOK.out]

end Go.Proofs.Ytnedoaapnfpkfaa
