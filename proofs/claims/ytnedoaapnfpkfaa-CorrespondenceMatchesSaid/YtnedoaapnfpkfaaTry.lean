/-
  correspondence.(*search).try: what the search finds. Conditions: few pairs, small weights, numbers that an int holds.
-/
import Derived.Test.YtnedoaapnfpkfaaContains
import Derived.Test.YtnedoaapnfpkfaaDistinct
import Derived.ArgAppend
import Derived.Deep.DeepCutAuto
import Derived.Deep.Cut
namespace Go.Proofs.Ytnedoaapnfpkfaa
open Go.RowKit Go.Sort Go.Shelf Go.Maps

/-- append(s, x) of one element onto a slice without room. -/
theorem run_append_full {α : Type} {P : Program} {t e : TypeId} {enc : α → List Value} {k bytes : Nat} (E : ElemT P t e enc k bytes) (hb : bytes ≤ 100) {w : World} (ty : TypeId) {p : Option Addr} {l : List α} (h : SliceAt w enc k p l.length l) (hp : p = none ∨ 0 < l.length)
    (g c : Nat) (y : α) (hc : ∀ j u, (enc y)[j]? = some u → w.cell? ((⟨g, 0, none⟩ : Addr).add j) = some u) (hlen : l.length < 1099511627776) :
    ∃ v' w', (Builtin.append_ #[t, t] ty #[.slice p l.length l.length, .slice (some ⟨g, 0, none⟩) 1 c]).run P w = .ok v' w' ∧ OwnsL w' w.heap.size e k enc v' (l ++ [y]) ∧ w.grownBy w' none := by
  by_cases h0 : 0 < l.length
  · obtain ⟨b, off, rfl, hb', hcell⟩ := h.place h0
    obtain ⟨i, z, hi, hz, h1, h2, h3⟩ := E.info
    have hm : 9223372036854775807 = maxLen := rfl
    obtain ⟨v', w', hr, ho, hg⟩ := run_append_arg_grows (P := P) w t ty e i z k bytes E.ht hi hz h1 h2 h3 E.pos ⟨b, off, none⟩ l.length l.length (l.flatMap enc) (length_flat enc k E.len l) (by
      intro j u hj
      have hjl : j < l.length * k := by have := (List.getElem?_eq_some_iff.1 hj).1; rwa [length_flat enc k E.len] at this
      have hk0 := E.pos
      have hj2 : j / k < l.length := Nat.div_lt_of_lt_mul (by rw [Nat.mul_comm]; exact hjl)
      have hmk : j % k < (enc l[j / k]).length := by rw [E.len]; exact Nat.mod_lt _ hk0
      have hgl := flat_getElem enc k E.len l (j / k) hj2 (j % k) _ (List.getElem?_eq_getElem hmk)
      rw [Nat.div_add_mod' j k, hj] at hgl
      have := hcell (j / k) hj2 (j % k) u (by rw [List.getElem?_eq_getElem hmk]; exact hgl.symm)
      rw [Nat.add_assoc, Nat.div_add_mod' j k] at this
      rw [Addr.add_lit]; exact this) ⟨g, 0, none⟩ 1 c (enc y) (by rw [E.len]; omega) hc (by omega) (by rw [← hm]; omega) (by
      have : (l.length + 1) * bytes ≤ 1099511627776 * 100 := Nat.mul_le_mul (by omega) hb
      omega)
    exact ⟨v', w', hr, by unfold OwnsL; simpa using ho, hg⟩
  · have hl : l = [] := List.eq_nil_of_length_eq_zero (by omega)
    subst hl
    have hp' : p = none := hp.resolve_right (by simp)
    subst hp'
    obtain ⟨v', w', hr, ho, hg⟩ := run_append_one (P := P) E hb ty (OwnsL.nil w w.heap.size e k enc) g c y hc (by simp) (Nat.le_refl _)
    exact ⟨v', w', hr, by simpa using ho, hg⟩

theorem opWp_append_full {α : Type} {P : Program} {t e : TypeId} {enc : α → List Value} {k bytes : Nat} (E : ElemT P t e enc k bytes) (hb : bytes ≤ 100) {w : World} {o : Oper} {a : Act} {K : Act → World → Prop} {Q : Exit → Act → World → Prop} (s x : Operand)
    (ho : o.op = .call { callee := .builtin .append, args := #[s, x], argTypes := #[t, t] }) (p : Option Addr) (l : List α) (hs : a.eval s = .slice p l.length l.length) (h : SliceAt w enc k p l.length l) (hp : p = none ∨ 0 < l.length)
    (g c : Nat) (y : α) (hx : a.eval x = .slice (some ⟨g, 0, none⟩) 1 c) (hc : ∀ j u, (enc y)[j]? = some u → w.cell? ((⟨g, 0, none⟩ : Addr).add j) = some u) (hlen : l.length < 1099511627776)
    (hk : ∀ v' w', OwnsL w' w.heap.size e k enc v' (l ++ [y]) → w.grownBy w' none → K (a.put o.dst v') w') : o.wp P a w K Q := by
  obtain ⟨v', w', hr, ho', hg⟩ := run_append_full (P := P) E hb o.type h hp g c y hc hlen
  unfold Oper.wp execOp
  simp only [ho, resolve, invoke, builtin, Sem.run_bind, Sem.run_pure, Result.andThen_ok, List.map_toArray, List.map_cons, List.map_nil, hs, hx, hr]
  exact hk _ _ ho' hg

/-! ### What the search does -/

abbrev St := List (Int × Int) × Int
def better (taken : List (Int × Int)) (sum : Int) (st : St) : Bool := decide (sum > st.2) || (sum == st.2 && decide (cmpL taken st.1 < 0))
def upd (taken : List (Int × Int)) (sum : Int) (st : St) : St := if better taken sum st then (taken, sum) else st
def loopL (wt : Int × Int → Int) : List (Int × Int) → List (Int × Int) → Int → St → St
  | [], _, _, st => st
  | p :: rest, taken, sum, st => loopL wt rest taken sum (if taken.any (clash p) then st else loopL wt rest (taken ++ [p]) (sum + wt p) (upd (taken ++ [p]) (sum + wt p) st))
def tryL (wt : Int × Int → Int) (rest taken : List (Int × Int)) (sum : Int) (st : St) : St := loopL wt rest taken sum (upd taken sum st)
def wtOf (wts : List ((Int × Int) × Int)) (p : Int × Int) : Int := (alook wts p).getD 0

theorem loopL_step (wt : Int × Int → Int) {pairs : List (Int × Int)} {j : Nat} (h : j < pairs.length) (taken : List (Int × Int)) (sum : Int) (st : St) :
    loopL wt (pairs.drop j) taken sum st = loopL wt (pairs.drop (j + 1)) taken sum (if taken.any (clash pairs[j]) then st else tryL wt (pairs.drop (j + 1)) (taken ++ [pairs[j]]) (sum + wt pairs[j]) st) := by
  rw [List.drop_eq_getElem_cons h]; rfl

/-! ### The walk -/

/-- The slice's block is not b. -/
def OffB (p : Option Addr) (b : Nat) : Prop := ∀ c off, p = some ⟨c, off, none⟩ → c ≠ b
theorem SliceAt.kept {α : Type} {w w' : World} {enc : α → List Value} {k : Nat} {p : Option Addr} {cap : Nat} {l : List α} {b : Nat} (h : SliceAt w enc k p cap l) (hg : w.grownBy w' (some b)) (ho : OffB p b) : SliceAt w' enc k p cap l where
  le := h.le
  max := h.max
  place := fun h0 => by
    obtain ⟨c, off, hp, hc, hcell⟩ := h.place h0
    refine ⟨c, off, hp, Nat.lt_of_lt_of_le hc hg.size, fun j hj i u hu => ?_⟩
    have hb := hg.block c hc (fun e => ho c off hp (Option.some.inj e))
    rw [← hcell j hj i u hu]
    simp only [World.cell?, hb]

theorem SliceAt.cut {α : Type} {w : World} {enc : α → List Value} {k : Nat} {p : Option Addr} {cap : Nat} {l : List α} (h : SliceAt w enc k p cap l) : SliceAt w enc k p l.length l := ⟨Nat.le_refl _, Nat.le_trans h.le h.max, h.place⟩

/-- The search, in block sb. -/
def SAt (sb mb : Nat) (pp : Option Addr) (pcap : Nat) (pairs : List (Int × Int)) (w : World) (st : St) : Prop :=
  ∃ bp bcap, w.heap[sb]? = some (.cells #[.slice pp pairs.length pcap, .map (some mb), .slice bp st.1.length bcap, .int .i64 st.2] 69 (0, 0)) ∧ SliceAt w encP 2 bp bcap st.1 ∧ OffB bp sb
theorem SAt.ext {sb mb : Nat} {pp : Option Addr} {pcap : Nat} {pairs : List (Int × Int)} {w w' : World} {st : St} (h : SAt sb mb pp pcap pairs w st) (hx : Ext w w') : SAt sb mb pp pcap pairs w' st := by
  obtain ⟨bp, bcap, h1, h2, h3⟩ := h
  exact ⟨bp, bcap, blk_ext hx h1, h2.ext hx, h3⟩

theorem cells4 {w : World} {b : Nat} {t : TypeId} {v0 v1 v2 v3 : Value} (h : w.heap[b]? = some (.cells #[v0, v1, v2, v3] t (0, 0))) :
    w.cell? ⟨b, 0, none⟩ = some v0 ∧ w.cell? ⟨b, 1, none⟩ = some v1 ∧ w.cell? ⟨b, 2, none⟩ = some v2 ∧ w.cell? ⟨b, 3, none⟩ = some v3 := by
  simp [World.cell?, h]
theorem free4 {w : World} {b : Nat} {t : TypeId} {v0 v1 v2 v3 : Value} (h : w.heap[b]? = some (.cells #[v0, v1, v2, v3] t (0, 0))) :
    w.frozen? ⟨b, 0, none⟩ = false ∧ w.frozen? ⟨b, 1, none⟩ = false ∧ w.frozen? ⟨b, 2, none⟩ = false ∧ w.frozen? ⟨b, 3, none⟩ = false := by
  simp [World.frozen?, h]

theorem grown_ext {w w' : World} {b : Nat} (h : Ext w w') : w.grownBy w' (some b) := ⟨h.os, h.tape, h.output, h.size, fun k hk _ => h.block k hk⟩
theorem grown_sets (w : World) (b : Nat) (u v : Value) : w.grownBy ((w.setCell ⟨b, 2, none⟩ u).setCell ⟨b, 3, none⟩ v) (some b) :=
  ⟨rfl, rfl, rfl, by simp [World.setCell], fun k _ hk => (Below.heap_setCell _ _ _ k (fun e => hk (by rw [e]))).trans (Below.heap_setCell _ _ _ k (fun e => hk (by rw [e])))⟩
theorem OwnsL.off {α : Type} {w : World} {base e k n cap b : Nat} {enc : α → List Value} {p : Option Addr} {l : List α} (h : OwnsL w base e k enc (.slice p n cap) l) (hb : b < base) : OffB p b := by
  intro c off hp
  subst hp
  have := (World.ownsRow.lt h c rfl).1
  omega

def TryPost (sb mb : Nat) (pp : Option Addr) (pcap : Nat) (pairs : List (Int × Int)) (w : World) (st : St) (e : Ending) (w' : World) : Prop := e = .returned (.tuple #[]) ∧ SAt sb mb pp pcap pairs w' st ∧ w.grownBy w' (some sb)

set_option maxRecDepth 10000 in
set_option maxHeartbeats 2000000 in
theorem try_any (sb mb : Nat) (hmb : mb ≠ sb) (pp : Option Addr) (pcap : Nat) (pairs : List (Int × Int)) (wts : List ((Int × Int) × Int)) (hpo : OffB pp sb) (hfit : ∀ x ∈ pairs, fits x) (hplen : pairs.length ≤ 1000) (hw : ∀ x, 0 ≤ wtOf wts x ∧ wtOf wts x ≤ 1000000) :
    ∀ (n k : Nat), pairs.length - k ≤ n → k ≤ pairs.length → ∀ (tp : Option Addr) (tcap : Nat) (taken : List (Int × Int)) (sum : Int) (st : St) (w : World), SAt sb mb pp pcap pairs w st → SliceAt w encP 2 pp pcap pairs → MapAt w Try.prog 60 ekP evI mb wts →
      SliceAt w encP 2 tp tcap taken → OffB tp sb → (tp = none ∨ 0 < taken.length) → taken.length ≤ k → (0 ≤ sum ∧ sum ≤ (taken.length : Int) * 1000000) →
      Calls Try.prog 32 #[.pointer (some ⟨sb, 0, none⟩), .int .i64 k, .slice tp taken.length tcap, .int .i64 sum] w (TryPost sb mb pp pcap pairs w (tryL (wtOf wts) (pairs.drop k) taken sum st)) := by
  intro n
  induction n using Nat.strongRecOn with
  | ind n ih =>
    intro k hkn hk tp tcap taken sum st w HS HP HM HT hto htn htl hsum
    have IH := hid ih
    clear ih
    obtain ⟨bp, bcap, hb, hbs, hbo⟩ := HS
    obtain ⟨c0, c1, c2, c3⟩ := cells4 hb
    obtain ⟨f0, f1, f2, f3⟩ := free4 hb
    go_enter Try.func32, Try.ntmps32
    go_upto_region 0 with fail
    go_cut [8] (fun c wx => c = .bool (better taken sum st) ∧ Ext w wx)
    case first =>
      by_cases h1 : sum > st.2
      · have hr : better taken sum st = true := by unfold better; rw [decide_eq_true h1]; rfl
        have HR := hid hr
        clear hr
        go_wp2_with fail
        go_meet
        case rel => exact ⟨by rw [HR.out], Ext.refl _⟩
      · by_cases h2 : sum = st.2
        · have hr : better taken sum st = decide (cmpL taken st.1 < 0) := by
            unfold better; rw [decide_eq_false h1, show (sum == st.2) = true by simpa using h2]; rfl
          have g2 : (sum == st.2) = true := by simpa using h2
          have HR := hid hr
          have H2 := hid h2
          clear hr h2
          go_wp2_with fail
          refine (compare_any tp bp tcap bcap taken st.1 _ HT hbs).mono ?_
          rintro e w1 ⟨rfl, hx1⟩
          go_wp2_with fail
          go_meet
          case rel => exact ⟨by rw [HR.out], hx1⟩
        · have hr : better taken sum st = false := by
            unfold better; rw [decide_eq_false h1, show (sum == st.2) = false by simpa using h2]; rfl
          have g2 : (sum == st.2) = false := by simpa using h2
          have HR := hid hr
          clear hr h2
          go_wp2_with fail
          go_meet
          case rel => exact ⟨by rw [HR.out], Ext.refl _⟩
    case rest =>
      obtain ⟨rfl, hxc⟩ := hcut
      clear c0 c1 c2 c3 f0 f1 f2 f3
      have hbc := blk_ext hxc hb
      obtain ⟨c0, c1, c2, c3⟩ := cells4 hbc
      obtain ⟨f0, f1, f2, f3⟩ := free4 hbc
      go_upto_if 34 with fail
      go_cut [8] from 11 (fun _ wx => SAt sb mb pp pcap pairs wx (upd taken sum st) ∧ w.grownBy wx (some sb))
      case first =>
        cases hbt : better taken sum st
        · have HB := hid hbt
          clear hbt
          go_wp2_with fail
          go_meet
          case rel =>
            have he : upd taken sum st = st := by unfold upd; rw [HB.out]; rfl
            rw [he]
            exact ⟨⟨bp, bcap, hbc, hbs.ext hxc, hbo⟩, grown_ext hxc⟩
        · have HB := hid hbt
          clear hbt
          go_wp2_with fail
          refine (cloneP_any tp tcap taken _ (HT.ext hxc) htn (by omega)).mono ?_
          rintro e w1 ⟨v', rfl, ho1, hx1⟩
          obtain ⟨p1, cap1, rfl, hs1⟩ := ho1.slice encP_len
          clear c0 c1 c2 c3 f0 f1 f2 f3
          have hb1 := blk_ext hx1 hbc
          obtain ⟨c0, c1, c2, c3⟩ := cells4 hb1
          obtain ⟨f0, f1, f2, f3⟩ := free4 hb1
          go_wp2_with fail
          go_meet
          case rel =>
            have he : upd taken sum st = (taken, sum) := by unfold upd; rw [HB.out]; rfl
            rw [he]
            have hsb : sb < wc.heap.size := lt_of_block hbc
            have hg := grown_sets w1 sb (.slice p1 taken.length cap1) (.int .i64 sum)
            refine ⟨⟨p1, cap1, ?_, hs1.kept hg (ho1.off hsb), ho1.off hsb⟩, (grown_ext (hxc.trans hx1)).andThen hg (fun j e => Or.inr e)⟩
            have h2 := set_at (i := 2) hb1 (.slice p1 taken.length cap1)
            have h3 := set_at (i := 3) h2 (.int .i64 sum)
            simpa using h3
      case rest =>
        obtain ⟨HS1, hg1⟩ := hcut
        clear c0 c1 c2 c3 f0 f1 f2 f3 hb hbc hbs hxc
        have hple := HP.le
        have hpmax := HP.max
        unfold maxLen at hpmax
        go_wp2
        go_loopw [9, 10] (fun i _ wr => ∃ (j : Nat) (s : St), k ≤ j ∧ j ≤ pairs.length ∧ i = .int .i64 j ∧ SAt sb mb pp pcap pairs wr s ∧ w.grownBy wr (some sb) ∧ loopL (wtOf wts) (pairs.drop j) taken sum s = tryL (wtOf wts) (pairs.drop k) taken sum st) (fun i _ _ => pairs.length - (intOf i).toNat)
        case atStart => exact ⟨k, _, Nat.le_refl _, hk, rfl, HS1, hg1, rfl⟩
        case round =>
          obtain ⟨j, s, hkj, hj, rfl, ⟨bq, bqcap, hbq, hbqs, hbqo⟩, hg, hres⟩ := hrel
          have HRES := hid hres
          clear hres
          obtain ⟨c0, c1, c2, c3⟩ := cells4 hbq
          by_cases hlt : j < pairs.length
          · obtain ⟨b, off, rfl, hbk, d0, d1⟩ := (HP.kept hg hpo).pair_at hlt
            go_wp2_with fail
            have hstep := loopL_step (wtOf wts) hlt taken sum s
            have hxf := hfit pairs[j] (List.getElem_mem hlt)
            have hxw := hw pairs[j]
            generalize hxj : pairs[j] = x at *
            have HXJ := hid hxj
            have HSTEP := hid hstep
            clear hxj hstep
            refine (contains_any wr.heap.size x tp tcap taken _ (blk_new _ _) ((HT.kept hg hto).ext ((Ext.refl _).alloc _)) (by omega)).mono ?_
            rintro e w2 ⟨rfl, hx2⟩
            have hX2 : Ext wr w2 := ((Ext.refl _).alloc _).trans hx2
            have hg2 : w.grownBy w2 (some sb) := hg.andThen (grown_ext hX2) (fun j e => Or.inr e)
            by_cases hcl : taken.any (clash x) = true
            · rw [hcl, if_pos rfl] at HSTEP
              rw [hcl]
              go_wp2
              go_roundw
              case rel => exact ⟨j + 1, s, by omega, by omega, by simp, ⟨bq, bqcap, blk_ext hX2 hbq, hbqs.ext hX2, hbqo⟩, hg2, by rw [← HRES.out, HSTEP.out]⟩
              case measure => simp [intOf]; omega
            · have hcl' : taken.any (clash x) = false := by simpa using hcl
              rw [hcl', if_neg (by simp)] at HSTEP
              rw [hcl']
              clear hcl hcl'
              go_wp2_with fail
              have hsbl : sb < wr.heap.size := lt_of_block hbq
              have hbx : wr.heap.size ≠ sb := by omega
              have e0 : w2.heap[wr.heap.size]? = some (.cells #[.int .i64 x.1, .int .i64 x.2] 60 (0, 0)) := blk_ext hx2 (blk_new _ _)
              have e1 := blk_ext hX2 hbq
              have e2 : MapAt w2 Try.prog 60 ekP evI mb wts := HM.of_block (hg2.block mb HM.lt (fun e => hmb (Option.some.inj e)))
              obtain ⟨kl, hkey⟩ := key_pair hxf
              have hlook := fun (W : World) (h : MapAt W Try.prog 60 ekP evI mb wts) => h.look (t := 67) ekP_inj keyedP Try.underlying67 (zero_int _) hkey false
              have hwx : (alook wts x).getD 0 = wtOf wts x := rfl
              rw [hwx] at hlook
              clear hwx
              simp only [ekP, evI, Bool.false_eq_true, if_false] at hlook
              generalize hwq : wtOf wts x = q at *
              have HWQ := hid hwq
              have HLOOK := hid hlook
              clear hwq hlook hkey
              have hmul : (taken.length : Int) * 1000000 ≤ 1000000000 := by omega
              have hw1 : IntKind.i64.wrap (sum + q) = sum + q := IntWalk.i64_in _ (by omega)
              have hwj : IntKind.i64.wrap ((j : Int) + 1) = (j : Int) + 1 := IntWalk.i64_in _ (by omega)
              have htle := HT.le
              have htmax := HT.max
              unfold maxLen at htmax
              (refine wp_region_noPanic (wp_region_plan [0, 1, 2, 3, 4, 5, 6, 7, 8, 9, 12, 13, 14, 15, 16, 17, 18, 19] [10, 11, 20] (fun w' => w'.heap[wr.heap.size]? = some (.cells #[.int .i64 x.1, .int .i64 x.2] 60 (0, 0)) ∧ (∃ bv mo, w'.heap[sb]? = some (.cells #[.slice (some ⟨b, off, none⟩) pairs.length pcap, .map (some mb), bv, mo] 69 (0, 0))) ∧ MapAt w' Try.prog 60 ekP evI mb wts) (by kernel_rfl) (by kernel_rfl) (fun _ _ _ _ _ h => h) ⟨e0, ⟨_, _, e1⟩, e2.drew⟩ ?_))
              ((refine wpTakes_nth (v := ?_) rfl rfl ?_ ?_; rotate_left 1; (· ((intro w hw; (try dsimp only at hw); (try go_split_ands); go_simp; try with_reducible rfl); all_goals go_simp; all_goals with_reducible rfl)); (try simp only [Act.put, List.setIfInBounds_toArray, List.set_cons_zero, List.set_cons_succ])); (refine wpTakes_nth (v := ?_) rfl rfl ?_ ?_; rotate_left 1; (· ((intro w hw; (try dsimp only at hw); (try go_split_ands); go_simp; try with_reducible rfl); all_goals go_simp; all_goals with_reducible rfl)); (try simp only [Act.put, List.setIfInBounds_toArray, List.set_cons_zero, List.set_cons_succ])); (refine wpTakes_nth (v := ?_) rfl rfl ?_ ?_; rotate_left 1; (· ((intro w hw; (try dsimp only at hw); (try go_split_ands); go_simp; try with_reducible rfl); all_goals go_simp; all_goals with_reducible rfl)); (try simp only [Act.put, List.setIfInBounds_toArray, List.set_cons_zero, List.set_cons_succ])); (refine wpTakes_nth (v := ?_) rfl rfl ?_ ?_; rotate_left 1; (· ((intro w hw; (try dsimp only at hw); (try go_split_ands); go_simp; try with_reducible rfl); all_goals go_simp; all_goals with_reducible rfl)); (try simp only [Act.put, List.setIfInBounds_toArray, List.set_cons_zero, List.set_cons_succ])); (refine wpTakes_nth (v := ?_) rfl rfl ?_ ?_; rotate_left 1; (· ((intro w hw; (try dsimp only at hw); (try go_split_ands); go_simp; try with_reducible rfl); all_goals go_simp; all_goals with_reducible rfl)); (try simp only [Act.put, List.setIfInBounds_toArray, List.set_cons_zero, List.set_cons_succ])); (refine wpTakes_nth (v := ?_) rfl rfl ?_ ?_; rotate_left 1; (· ((intro w hw; (try dsimp only at hw); (try go_split_ands); go_simp; try with_reducible rfl); all_goals go_simp; all_goals with_reducible rfl)); (try simp only [Act.put, List.setIfInBounds_toArray, List.set_cons_zero, List.set_cons_succ])); (refine wpTakes_nth (v := ?_) rfl rfl ?_ ?_; rotate_left 1; (· ((intro w hw; (try dsimp only at hw); (try go_split_ands); go_simp; try with_reducible rfl); all_goals go_simp; all_goals with_reducible rfl)); (try simp only [Act.put, List.setIfInBounds_toArray, List.set_cons_zero, List.set_cons_succ])); (refine wpTakes_nth (v := ?_) rfl rfl ?_ ?_; rotate_left 1; (· ((intro w hw; (try dsimp only at hw); (try go_split_ands); go_simp; try with_reducible rfl); all_goals go_simp; all_goals with_reducible rfl)); (try simp only [Act.put, List.setIfInBounds_toArray, List.set_cons_zero, List.set_cons_succ])); (refine wpTakes_nth (v := ?_) rfl rfl ?_ ?_; rotate_left 1; (· ((intro w hw; (try dsimp only at hw); (try go_split_ands); go_simp; try with_reducible rfl); all_goals go_simp; all_goals with_reducible rfl)); (try simp only [Act.put, List.setIfInBounds_toArray, List.set_cons_zero, List.set_cons_succ])))
              (refine wpTakes_nth (v := ?_) rfl rfl ?_ ?_; rotate_left 1; (· ((intro wl hwl; obtain ⟨l0, l1⟩ := cells2 hwl.1; clear hwl); all_goals go_simp; all_goals with_reducible rfl)); (try simp only [Act.put, List.setIfInBounds_toArray, List.set_cons_zero, List.set_cons_succ]))
              ((refine wpTakes_nth (v := ?_) rfl rfl ?_ ?_; rotate_left 1; (· ((intro w hw; (try dsimp only at hw); (try go_split_ands); go_simp; try with_reducible rfl); all_goals go_simp; all_goals with_reducible rfl)); (try simp only [Act.put, List.setIfInBounds_toArray, List.set_cons_zero, List.set_cons_succ])); (refine wpTakes_nth (v := ?_) rfl rfl ?_ ?_; rotate_left 1; (· ((intro w hw; (try dsimp only at hw); (try go_split_ands); go_simp; try with_reducible rfl); all_goals go_simp; all_goals with_reducible rfl)); (try simp only [Act.put, List.setIfInBounds_toArray, List.set_cons_zero, List.set_cons_succ])); (refine wpTakes_nth (v := ?_) rfl rfl ?_ ?_; rotate_left 1; (· ((intro w hw; (try dsimp only at hw); (try go_split_ands); go_simp; try with_reducible rfl); all_goals go_simp; all_goals with_reducible rfl)); (try simp only [Act.put, List.setIfInBounds_toArray, List.set_cons_zero, List.set_cons_succ])); (refine wpTakes_nth (v := ?_) rfl rfl ?_ ?_; rotate_left 1; (· ((intro w hw; (try dsimp only at hw); (try go_split_ands); go_simp; try with_reducible rfl); all_goals go_simp; all_goals with_reducible rfl)); (try simp only [Act.put, List.setIfInBounds_toArray, List.set_cons_zero, List.set_cons_succ])))
              (refine wpTakes_nth (v := (.map (some mb))) rfl rfl ?_ ?_; (· ((intro wl hwl; obtain ⟨_, ⟨bv, mo, hl⟩, _⟩ := hwl; have l1 := (cells4 hl).2.1; clear hl); all_goals go_simp; all_goals with_reducible rfl)); (try simp only [Act.put, List.setIfInBounds_toArray, List.set_cons_zero, List.set_cons_succ]))
              (refine wpTakes_nth (v := (.agg #[.int .i64 x.1, .int .i64 x.2])) rfl rfl ?_ ?_; (· ((intro wl hwl; obtain ⟨l0, l1⟩ := cells2 hwl.1; clear hwl); all_goals go_simp; all_goals with_reducible rfl)); (try simp only [Act.put, List.setIfInBounds_toArray, List.set_cons_zero, List.set_cons_succ]))
              (refine wpTakes_nth (v := (.int .i64 q)) rfl rfl ?_ ?_; (· ((intro wl hwl; have hl := HLOOK.out wl hwl.2.2; clear hwl); all_goals go_simp; all_goals with_reducible rfl)); (try simp only [Act.put, List.setIfInBounds_toArray, List.set_cons_zero, List.set_cons_succ]))
              (refine wpTakes_nth (v := (.int .i64 (sum + q))) rfl rfl ?_ ?_; (· ((intro wl hwl; clear hwl); all_goals go_simp; all_goals with_reducible rfl)); (try simp only [Act.put, List.setIfInBounds_toArray, List.set_cons_zero, List.set_cons_succ]))
              refine wpTakes_nil ?_
              (refine wpTail_nth rfl rfl (fun K hK => ?_); go_simp)
              ((try refine hK _ _ ?_); refine wpHold_mk ?_ ?_; (· (exact ⟨blk_alloc e0, ⟨_, _, blk_alloc e1⟩, (e2.alloc _).drew⟩)); (try clear hK K); (try simp only [Act.put, List.setIfInBounds_toArray, List.set_cons_zero, List.set_cons_succ]))
              have hT2 := (((HT.kept hg hto).ext hX2).ext (((Ext.refl _).alloc (.cells #[.int .i64 x.1, .int .i64 x.2] 60)).drew)).cut
              have hcn : ∀ j u, (encP x)[j]? = some u → (w2.alloc (.cells #[.int .i64 x.1, .int .i64 x.2] 60)).drew.cell? ((⟨w2.heap.size, 0, none⟩ : Addr).add j) = some u := fun j u hj => by
                have := cells_new (w := w2) rfl (encP x) 60 j u hj
                exact this
              have hlt1 : taken.length < 1099511627776 := by omega
              (refine wpTail_nth rfl rfl (fun K hK => ?_))
              refine opWp_append_full elemP (by decide) _ _ rfl tp taken rfl hT2 htn w2.heap.size 1 x rfl hcn hlt1 ?_
              intro v' w3 hO3 hg3
              have hX3 : Ext w2 w3 := (((Ext.refl _).alloc (.cells #[.int .i64 x.1, .int .i64 x.2] 60)).drew).grown_none hg3
              have hs3 : sb < w2.heap.size := lt_of_block e1
              obtain ⟨p3, cap3, rfl, hS3⟩ := hO3.slice encP_len
              have hoff := hO3.off (b := sb) (by simp; omega)
              ((try refine hK _ _ ?_); refine wpHold_mk ?_ ?_; (· (exact ⟨blk_ext hX3 e0, ⟨_, _, blk_ext hX3 e1⟩, e2.ext hX3⟩)); (try clear hK K); (try simp only [Act.put, List.setIfInBounds_toArray, List.set_cons_zero, List.set_cons_succ]))
              have hcall := IH.out (pairs.length - (j + 1)) (by omega) (j + 1) (Nat.le_refl _) (by omega) p3 cap3 (taken ++ [x]) (sum + q) s w3 ⟨bq, bqcap, blk_ext hX3 e1, (hbqs.ext hX2).ext hX3, hbqo⟩ (((HP.kept hg hpo).ext hX2).ext hX3) (e2.ext hX3) hS3 hoff (Or.inr (by simp)) (by simp; omega) (by simp; omega)
              have hj1 : ((j + 1 : Nat) : Int) = (j : Int) + 1 := by omega
              rw [hj1, List.length_append, List.length_singleton] at hcall
              have HCALL := hid hcall
              clear hcall hj1
              (refine wpTail_nth rfl rfl (fun K hK => ?_); go_simp)
              refine HCALL.out.mono ?_
              rintro e w4 ⟨rfl, HS4, hg4⟩
              go_wp2_with fail
              obtain ⟨b4, cap4, hb4, hbs4, hbo4⟩ := HS4
              have e0' : w4.heap[wr.heap.size]? = some (.cells #[.int .i64 x.1, .int .i64 x.2] 60 (0, 0)) := (hg4.block _ (lt_of_block (blk_ext hX3 e0)) (fun e => hbx (Option.some.inj e))).trans (blk_ext hX3 e0)
              have e2' : MapAt w4 Try.prog 60 ekP evI mb wts := (e2.ext hX3).of_block (hg4.block mb (e2.ext hX3).lt (fun e => hmb (Option.some.inj e)))
              ((try refine hK _ _ ?_); refine wpHold_mk ?_ ?_; (· (exact ⟨e0', ⟨_, _, hb4⟩, e2'⟩)); (try clear hK K); (try simp only [Act.put, List.setIfInBounds_toArray, List.set_cons_zero, List.set_cons_succ]))
              (refine wpTail_nil (NoPanic.normal ?_))
              have hgw : w.grownBy w4 (some sb) := (hg2.andThen (grown_ext hX3) (fun j e => Or.inr e)).andThen hg4 (fun j e => Or.inr e)
              have hres2 : loopL (wtOf wts) (pairs.drop (j + 1)) taken sum (tryL (wtOf wts) (pairs.drop (j + 1)) (taken ++ [x]) (sum + q) s) = tryL (wtOf wts) (pairs.drop k) taken sum st := by
                rw [← HRES.out, HSTEP.out]
              have HRES2 := hid hres2
              clear hres2 e0' e2' e0 e1 e2 hg4 hX3
              go_wp2
              go_roundw
              case rel => exact ⟨j + 1, _, by omega, by omega, by simp, ⟨b4, cap4, hb4, hbs4, hbo4⟩, hgw, HRES2.out⟩
              case measure => simp [intOf]; omega
          · have hje : j = pairs.length := by omega
            subst hje
            have hl : loopL (wtOf wts) (pairs.drop pairs.length) taken sum s = s := by rw [List.drop_length]; rfl
            rw [hl] at HRES
            go_wp2
            go_end0
            exact ⟨rfl, by rw [← HRES.out]; exact ⟨bq, bqcap, hbq, hbqs, hbqo⟩, hg⟩

end Go.Proofs.Ytnedoaapnfpkfaa
