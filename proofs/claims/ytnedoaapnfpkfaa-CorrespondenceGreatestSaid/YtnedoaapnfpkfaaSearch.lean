/-
  The contract of the reference's search. Conditions: few couples, few matches.
-/
import Derived.Test.YtnedoaapnfpkfaaFirst
import Derived.Test.YtnedoaapnfpkfaaMatches
namespace Go.Proofs.Ytnedoaapnfpkfaa
open Go.RowKit

theorem weightL_take {l : List (Int × Int)} {cur : List (Int × Int)} {k : Nat} (h : k < l.length) : weightL (l.take (k + 1)) cur = weightL (l.take k) cur + ((cur.countP (fun y => decide (l[k] = y)) : Nat) : Int) := by
  unfold weightL; rw [List.take_succ_eq_append_getElem h, List.foldl_append]; rfl
theorem weightL_bound (l cur : List (Int × Int)) : 0 ≤ weightL l cur ∧ weightL l cur ≤ (l.length : Int) * (cur.length : Int) := by
  unfold weightL
  suffices h : ∀ (l : List (Int × Int)) (n : Int), n ≤ l.foldl (fun (n : Int) x => n + ((cur.countP (fun y => decide (x = y)) : Nat) : Int)) n ∧ l.foldl (fun (n : Int) x => n + ((cur.countP (fun y => decide (x = y)) : Nat) : Int)) n ≤ n + (l.length : Int) * (cur.length : Int) by simpa using h l 0
  intro l
  induction l with
  | nil => intro n; simp
  | cons x l ih =>
    intro n
    have h1 := ih (n + ((cur.countP (fun y => decide (x = y)) : Nat) : Int))
    have h2 := List.countP_le_length (p := fun y => decide (x = y)) (l := cur)
    rw [List.foldl_cons, List.length_cons]
    have e : ((l.length + 1 : Nat) : Int) * (cur.length : Int) = (l.length : Int) * (cur.length : Int) + (cur.length : Int) := by rw [Int.natCast_add, Int.add_mul]; simp
    rw [e]
    constructor <;> omega
theorem cntP_take {α : Type} {p : α → Bool} {l : List α} {k : Nat} (h : k < l.length) : (l.take (k + 1)).countP p = (l.take k).countP p + if p l[k] then 1 else 0 := by
  rw [List.take_succ_eq_append_getElem h, List.countP_append]; simp [List.countP_cons]

/-- The list is empty, or its slice lies in another block than b. -/
def OffR (p : Option Addr) (l : List (Int × Int)) (b : Nat) : Prop := l = [] ∨ ∀ c off, p = some ⟨c, off, none⟩ → c ≠ b
theorem SliceAt.offR {w : World} {p : Option Addr} {cap b : Nat} {l : List (Int × Int)} (h : SliceAt w encP 2 p cap l) (hb : w.heap.size ≤ b) : OffR p l b := by
  cases l with
  | nil => exact Or.inl rfl
  | cons x l =>
    obtain ⟨c, off, hp, hc, _⟩ := h.place (by simp)
    refine Or.inr fun c' off' h' => ?_
    rw [hp] at h'
    cases h'
    omega
theorem OwnsL.offR {w : World} {base e n cap b : Nat} {p : Option Addr} {l : List (Int × Int)} (h : OwnsL w base e 2 encP (.slice p n cap) l) (hb : b < base) : OffR p l b := by
  refine Or.inr fun c off hp => ?_
  subst hp
  have := (World.ownsRow.lt h c rfl).1
  omega
theorem SliceAt.keptR {w w' : World} {p : Option Addr} {cap b : Nat} {l : List (Int × Int)} (h : SliceAt w encP 2 p cap l) (hg : w.grownBy w' (some b)) (ho : OffR p l b) : SliceAt w' encP 2 p cap l where
  le := h.le
  max := h.max
  place := fun h0 => by
    obtain ⟨c, off, hp, hc, hcell⟩ := h.place h0
    have hne : c ≠ b := by
      rcases ho with rfl | ho
      · simp at h0
      · exact ho c off hp
    refine ⟨c, off, hp, Nat.lt_of_lt_of_le hc hg.size, fun j hj i u hu => ?_⟩
    have hb := hg.block c hc (fun e => hne (Option.some.inj e))
    rw [← hcell j hj i u hu]
    simp only [World.cell?, hb]

def SearchPost (w : World) (pc pb : Option Addr) (cur : List (Int × Int)) (best : Try3) (r : Try3) (e : Ending) (w' : World) : Prop :=
  ∃ pr cr, e = .returned (.agg #[.slice pr r.1.length cr, .int .i64 r.2.1, .bool r.2.2]) ∧ SliceAt w' encP 2 pr cr r.1 ∧ Ext w w' ∧ ∀ b, b < w.heap.size → OffR pc cur b → OffR pb best.1 b → OffR pr r.1 b

/-- The leaf: all matches have been looked at. -/
theorem search_leaf (pl pm : Option Addr) (cl cm : Nat) (cps : List Cp) (ms : List (Int × Int)) (hcl : cps.length ≤ 4096) (hml : ms.length ≤ 4096) (pc pb : Option Addr) (cc cb : Nat) (cur : List (Int × Int)) (best : Try3) (w : World) (HL : SliceAt w encC 3 pl cl cps) (HM : SliceAt w encP 2 pm cm ms) (HC : SliceAt w encP 2 pc cc cur) (HB : SliceAt w encP 2 pb cb best.1) (hcur : cur.length ≤ ms.length) :
      Calls Try.prog 33 #[.slice pl cps.length cl, .slice pm ms.length cm, .int .i64 ms.length, .slice pc cur.length cc, .agg #[.slice pb best.1.length cb, .int .i64 best.2.1, .bool best.2.2]] w (SearchPost w pc pb cur best (pick3 best cur (weightL (cps.map (·.2)) cur))) := by
  obtain ⟨bl, bn, bb⟩ := best
  have hm1 := HL.max
  have hl1 := HL.le
  have hm2 := HC.max
  have hl2 := HC.le
  unfold maxLen at hm1 hm2
  have hee : ((ms.length : Int) == (ms.length : Int)) = true := by simp
  go_enter Try.func33, Try.ntmps33
  go_wp2
  go_loopw [11, 12, 13] (fun nv i _ wr => ∃ k : Nat, k ≤ cps.length ∧ i = .int .i64 k ∧ nv = .int .i64 (weightL ((cps.take k).map (·.2)) cur) ∧ wr.heap[w.heap.size]? = some (.cells #[.slice pb bl.length cb, .int .i64 bn, .bool bb] 74 (0, 0)) ∧ wr.heap[w.heap.size + 1]? = some (.cells #[.slice none 0 0, .int .i64 0, .bool false] 74 (0, 0)) ∧ Ext w wr) (fun _ i _ _ => cps.length - (intOf i).toNat)
  case atStart => exact ⟨0, by omega, rfl, by simp [weightL], blk_alloc (blk_new _ _), blk_newat (by simp) _, ((Ext.refl _).alloc _).alloc _⟩
  case round =>
    obtain ⟨k, hk, rfl, rfl, h9, h10, HX⟩ := hrel
    by_cases hlt : k < cps.length
    · have hbq := weightL_bound ((cps.take k).map (·.2)) cur
      have hbq2 : (((cps.take k).map (·.2)).length : Int) * (cur.length : Int) ≤ 4096 * 4096 := Int.mul_le_mul (by rw [List.length_map, List.length_take]; omega) (by omega) (by omega) (by omega)
      have hlt' : k < (cps.map (·.2)).length := by simpa using hlt
      have hstep : weightL ((cps.take (k + 1)).map (·.2)) cur = weightL ((cps.take k).map (·.2)) cur + ((cur.countP (fun y => decide (cps[k].2 = y)) : Nat) : Int) := by
        have := weightL_take (cur := cur) hlt'
        rw [List.map_take, List.map_take, this, List.getElem_map]
      have hq : 0 ≤ weightL ((cps.take k).map (·.2)) cur ∧ weightL ((cps.take k).map (·.2)) cur ≤ 16777216 := by omega
      clear hbq hbq2 hlt'
      obtain ⟨b1, f1, rfl, hb1, hcc⟩ := (HL.ext HX).cp_at hlt
      generalize weightL ((cps.take k).map (·.2)) cur = q at *
      generalize cps[k].2 = x at *
      have HSTEP := hid hstep
      have HCC := hid hcc
      clear hstep hcc
      go_wp2
      obtain ⟨wo, rfl⟩ : ∃ wo : World, wo = wr := ⟨_, rfl⟩
      go_loopw [11, 13] (fun nv i wr => ∃ t : Nat, t ≤ cur.length ∧ i = .int .i64 t ∧ nv = .int .i64 (q + (((cur.take t).countP (fun y => decide (x = y)) : Nat) : Int)) ∧ wr.heap[w.heap.size]? = some (.cells #[.slice pb bl.length cb, .int .i64 bn, .bool bb] 74 (0, 0)) ∧ wr.heap[w.heap.size + 1]? = some (.cells #[.slice none 0 0, .int .i64 0, .bool false] 74 (0, 0)) ∧ Ext w wr ∧ Ext wo wr) (fun _ i _ => cur.length - (intOf i).toNat)
      case atStart => exact ⟨0, by omega, rfl, by simp, h9, h10, HX, Ext.refl _⟩
      case round =>
        clear h9 h10 HX
        obtain ⟨t, ht, rfl, rfl, h9, h10, HX, HXX⟩ := hrel
        by_cases htl : t < cur.length
        · obtain ⟨b2, f2, rfl, hb2, d0, d1⟩ := (HC.ext HX).pair_at htl
          have c1 := (HXX.cell (p := ⟨b1, f1 + k * 3 + 1, none⟩) hb1).trans HCC.out.2.1
          have c2 := (HXX.cell (p := ⟨b1, f1 + k * 3 + 2, none⟩) hb1).trans HCC.out.2.2
          have hct := cntP_take (p := fun y => decide (x = y)) htl
          have hcb : (cur.take t).countP (fun y => decide (x = y)) ≤ t := Nat.le_trans List.countP_le_length (by rw [List.length_take]; omega)
          generalize (cur.take t).countP (fun y => decide (x = y)) = c at *
          generalize cur[t] = y at *
          have HCT := hid hct
          clear hct
          have hcut : ((x.1 == y.1) = true ∧ (x.2 == y.2) = true ∧ decide (x = y) = true) ∨ ((x.1 == y.1) = false ∧ decide (x = y) = false) ∨ ((x.1 == y.1) = true ∧ (x.2 == y.2) = false ∧ decide (x = y) = false) := by
            by_cases g1 : x.1 = y.1
            · by_cases g2 : x.2 = y.2
              · left; simp [g1, g2, Prod.ext_iff]
              · right; right; simp [g1, g2, Prod.ext_iff]
            · right; left; simp [g1, Prod.ext_iff]
          rcases hcut with ⟨g1, g2, hd⟩ | ⟨g1, hd⟩ | ⟨g1, g2, hd⟩
          · have HD := hid hd
            clear hd
            go_wp2_with fail
            go_quiet (fail)
            go_wp2
            go_roundw
            case rel => exact ⟨t + 1, by omega, by go_num, by rw [HCT.out, HD.out]; simp; omega, h9, h10, HX.drewN _, HXX.drewN _⟩
            case measure => simp [intOf]; omega
          all_goals
            have HD := hid hd
            clear hd
            go_wp2_with fail
            go_quiet (fail)
            go_wp2
            go_roundw
            case rel => exact ⟨t + 1, by omega, by go_num, by rw [HCT.out, HD.out]; simp, h9, h10, HX.drewN _, HXX.drewN _⟩
            case measure => simp [intOf]; omega
        · have hke : t = cur.length := by omega
          subst hke
          have hcl' : (cur.take cur.length).countP (fun y => decide (x = y)) = cur.countP (fun y => decide (x = y)) := by rw [List.take_length]
          have HCL := hid hcl'
          clear hcl'
          go_wp2
          go_roundw
          case rel => exact ⟨k + 1, by omega, by go_num, by rw [HSTEP.out, HCL.out], h9, h10, HX⟩
          case measure => simp [intOf]; omega
    · have hke : k = cps.length := by omega
      subst hke
      rw [List.take_length]
      generalize hqq : weightL (cps.map (·.2)) cur = q at *
      have HQ := hid hqq
      clear hqq
      have hpick : pick3 (bl, bn, bb) cur q = if !bb || decide (q > bn) || (q == bn && firstB cur bl) then (cur, q, true) else (bl, bn, bb) := rfl
      have HPICK := hid hpick
      clear hpick
      cases bb
      · have hp : pick3 (bl, bn, false) cur q = (cur, q, true) := by rw [HPICK.out]; rfl
        have HP := hid hp
        clear hp HPICK
        obtain ⟨z0, z1, z2⟩ := cells3 h10
        obtain ⟨y0, y1, y2⟩ := free3 h10
        obtain ⟨x0, x1, x2⟩ := cells3 h9
        have hfin := set3 h10 (.slice pc cur.length cc) (.int .i64 q) (.bool true)
        have hxf := ((HX.setCell (p := ⟨w.heap.size + 1, 0, none⟩) (Nat.le_succ _) (.slice pc cur.length cc)).setCell (p := ⟨w.heap.size + 1, 1, none⟩) (Nat.le_succ _) (.int .i64 q)).setCell (p := ⟨w.heap.size + 1, 2, none⟩) (Nat.le_succ _) (.bool true)
        have HFIN := hid hfin
        clear hfin
        go_wp2
        refine bodyPost_at fun W hW => ?_
        have hbW := cells3 (w := W) (by rw [hW]; exact HFIN.out)
        have hxW : Ext w W := by rw [hW]; exact hxf
        clear hW
        obtain ⟨s0, s1, s2⟩ := hbW
        refine bodyPost_ret (v := .agg #[.slice pc cur.length cc, .int .i64 q, .bool true]) (by simp [results, Try.results33, go_sem, s0, s1, s2]) rfl ?_
        exact ⟨pc, cc, by rw [HQ.out, HP.out], by rw [HQ.out, HP.out]; exact HC.ext hxW, hxW, fun b _ h _ => by rw [HQ.out, HP.out]; exact h⟩
      · by_cases hgt : q > bn
        · have hp : pick3 (bl, bn, true) cur q = (cur, q, true) := by rw [HPICK.out, decide_eq_true hgt]; rfl
          have hd : decide (q > bn) = true := by simpa using hgt
          have HP := hid hp
          clear hp HPICK
          obtain ⟨z0, z1, z2⟩ := cells3 h10
          obtain ⟨y0, y1, y2⟩ := free3 h10
          obtain ⟨x0, x1, x2⟩ := cells3 h9
          have hfin := set3 h10 (.slice pc cur.length cc) (.int .i64 q) (.bool true)
          have hxf := ((HX.setCell (p := ⟨w.heap.size + 1, 0, none⟩) (Nat.le_succ _) (.slice pc cur.length cc)).setCell (p := ⟨w.heap.size + 1, 1, none⟩) (Nat.le_succ _) (.int .i64 q)).setCell (p := ⟨w.heap.size + 1, 2, none⟩) (Nat.le_succ _) (.bool true)
          have HFIN := hid hfin
          clear hfin
          go_wp2
          refine bodyPost_at fun W hW => ?_
          have hbW := cells3 (w := W) (by rw [hW]; exact HFIN.out)
          have hxW : Ext w W := by rw [hW]; exact hxf
          clear hW
          obtain ⟨s0, s1, s2⟩ := hbW
          refine bodyPost_ret (v := .agg #[.slice pc cur.length cc, .int .i64 q, .bool true]) (by simp [results, Try.results33, go_sem, s0, s1, s2]) rfl ?_
          exact ⟨pc, cc, by rw [HQ.out, HP.out], by rw [HQ.out, HP.out]; exact HC.ext hxW, hxW, fun b _ h _ => by rw [HQ.out, HP.out]; exact h⟩
        · have hd : decide (q > bn) = false := by simpa using hgt
          by_cases heq : q = bn
          · have he : (q == bn) = true := by simpa using heq
            have hp0 : pick3 (bl, bn, true) cur q = if firstB cur bl then (cur, q, true) else (bl, bn, true) := by rw [HPICK.out, hd, he]; rfl
            have HP0 := hid hp0
            clear hp0 HPICK heq hgt
            obtain ⟨x0, x1, x2⟩ := cells3 h9
            go_wp2_with fail
            refine (first_any pc pb cc cb cur bl _ (HC.ext HX) (HB.ext HX)).mono ?_
            rintro e w2 ⟨rfl, hx2⟩
            have HX2 := HX.trans hx2
            have h92 := blk_ext hx2 h9
            have h102 := blk_ext hx2 h10
            clear x0 x1 x2
            cases hf : firstB cur bl
            · have hp : pick3 (bl, bn, true) cur q = (bl, bn, true) := by rw [HP0.out, hf]; rfl
              have HP := hid hp
              clear hp HP0 hf
              obtain ⟨z0, z1, z2⟩ := cells3 h102
              obtain ⟨y0, y1, y2⟩ := free3 h102
              obtain ⟨x0, x1, x2⟩ := cells3 h92
              have hfin := set3 h102 (.slice pb bl.length cb) (.int .i64 bn) (.bool true)
              have hxf := ((HX2.setCell (p := ⟨w.heap.size + 1, 0, none⟩) (Nat.le_succ _) (.slice pb bl.length cb)).setCell (p := ⟨w.heap.size + 1, 1, none⟩) (Nat.le_succ _) (.int .i64 bn)).setCell (p := ⟨w.heap.size + 1, 2, none⟩) (Nat.le_succ _) (.bool true)
              have HFIN := hid hfin
              clear hfin
              go_wp2
              refine bodyPost_at fun W hW => ?_
              have hbW := cells3 (w := W) (by rw [hW]; exact HFIN.out)
              have hxW : Ext w W := by rw [hW]; exact hxf
              clear hW
              obtain ⟨s0, s1, s2⟩ := hbW
              refine bodyPost_ret (v := .agg #[.slice pb bl.length cb, .int .i64 bn, .bool true]) (by simp [results, Try.results33, go_sem, s0, s1, s2]) rfl ?_
              exact ⟨pb, cb, by rw [HQ.out, HP.out], by rw [HQ.out, HP.out]; exact HB.ext hxW, hxW, fun b _ _ h => by rw [HQ.out, HP.out]; exact h⟩
            · have hp : pick3 (bl, bn, true) cur q = (cur, q, true) := by rw [HP0.out, hf]; rfl
              have HP := hid hp
              clear hp HP0 hf
              obtain ⟨z0, z1, z2⟩ := cells3 h102
              obtain ⟨y0, y1, y2⟩ := free3 h102
              obtain ⟨x0, x1, x2⟩ := cells3 h92
              have hfin := set3 h102 (.slice pc cur.length cc) (.int .i64 q) (.bool true)
              have hxf := ((HX2.setCell (p := ⟨w.heap.size + 1, 0, none⟩) (Nat.le_succ _) (.slice pc cur.length cc)).setCell (p := ⟨w.heap.size + 1, 1, none⟩) (Nat.le_succ _) (.int .i64 q)).setCell (p := ⟨w.heap.size + 1, 2, none⟩) (Nat.le_succ _) (.bool true)
              have HFIN := hid hfin
              clear hfin
              go_wp2
              refine bodyPost_at fun W hW => ?_
              have hbW := cells3 (w := W) (by rw [hW]; exact HFIN.out)
              have hxW : Ext w W := by rw [hW]; exact hxf
              clear hW
              obtain ⟨s0, s1, s2⟩ := hbW
              refine bodyPost_ret (v := .agg #[.slice pc cur.length cc, .int .i64 q, .bool true]) (by simp [results, Try.results33, go_sem, s0, s1, s2]) rfl ?_
              exact ⟨pc, cc, by rw [HQ.out, HP.out], by rw [HQ.out, HP.out]; exact HC.ext hxW, hxW, fun b _ h _ => by rw [HQ.out, HP.out]; exact h⟩
          · have he : (q == bn) = false := by simpa using heq
            have hp : pick3 (bl, bn, true) cur q = (bl, bn, true) := by rw [HPICK.out, hd, he]; rfl
            have HP := hid hp
            clear hp HPICK heq hgt
            obtain ⟨z0, z1, z2⟩ := cells3 h10
            obtain ⟨y0, y1, y2⟩ := free3 h10
            obtain ⟨x0, x1, x2⟩ := cells3 h9
            have hfin := set3 h10 (.slice pb bl.length cb) (.int .i64 bn) (.bool true)
            have hxf := ((HX.setCell (p := ⟨w.heap.size + 1, 0, none⟩) (Nat.le_succ _) (.slice pb bl.length cb)).setCell (p := ⟨w.heap.size + 1, 1, none⟩) (Nat.le_succ _) (.int .i64 bn)).setCell (p := ⟨w.heap.size + 1, 2, none⟩) (Nat.le_succ _) (.bool true)
            have HFIN := hid hfin
            clear hfin
            go_wp2
            refine bodyPost_at fun W hW => ?_
            have hbW := cells3 (w := W) (by rw [hW]; exact HFIN.out)
            have hxW : Ext w W := by rw [hW]; exact hxf
            clear hW
            obtain ⟨s0, s1, s2⟩ := hbW
            refine bodyPost_ret (v := .agg #[.slice pb bl.length cb, .int .i64 bn, .bool true]) (by simp [results, Try.results33, go_sem, s0, s1, s2]) rfl ?_
            exact ⟨pb, cb, by rw [HQ.out, HP.out], by rw [HQ.out, HP.out]; exact HB.ext hxW, hxW, fun b _ _ h => by rw [HQ.out, HP.out]; exact h⟩


end Go.Proofs.Ytnedoaapnfpkfaa
