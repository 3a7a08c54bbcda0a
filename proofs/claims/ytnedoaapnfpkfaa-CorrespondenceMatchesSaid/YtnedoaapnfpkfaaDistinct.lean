/-
  slices.Collect and slices.SortedFunc over maps.Keys of a map keyed by Pair; correspondence.distinct. Conditions: fewer than 2^40 entries; the numbers are such as an int holds.
-/
import Derived.Test.YtnedoaapnfpkfaaSorted
import Derived.Test.YtnedoaapnfpkfaaCheck
import Derived.DeepKeys4
import Derived.Test.YtnedoaapnfpkfaaEntry
import Derived.Test.YtnedoaapnfpkfaaEntry
namespace Go.Proofs.Ytnedoaapnfpkfaa
open Go.RowKit Go.Sort Go.Shelf Go.Maps

theorem collectP_any (Bm b : Nat) (m : List ((Int × Int) × Int)) (w : World) (hBm : Bm < w.heap.size) (hm : w.cell? ⟨Bm, 0, none⟩ = some (.map (some b))) (hown : MapAt w Try.prog 60 ekP evI b m) (hlen : m.length < 1099511627776) :
    Calls Try.prog 78 #[.func (.func 80) #[] #[.pointer (some ⟨Bm, 0, none⟩)]] w fun e w' =>
      ∃ (v : Value) (ss : List (Int × Int)), e = .returned v ∧ ss.Perm (m.map (·.1)) ∧ OwnsL w' w.heap.size 60 2 encP v ss ∧ Ext w w' := by
  have hap := callsIn_wide.1 (appendP_in 4 (by omega) 80 #[.pointer (some ⟨Bm, 0, none⟩)] (enters_of Try.func80 (by kernel_rfl) rfl) _ _ hlen w (keysP_gives 3 (by omega) Bm b m w hBm hm hown))
  go_enter Try.func78, Try.ntmps78
  go_wp2_with fail
  refine hap.mono ?_
  rintro e w1 ⟨v, ss, rfl, hp, hO, hX⟩
  go_wp2
  go_ret
  exact ⟨v, ss, rfl, hp, hO, hX⟩

theorem sortedP_any (Bm b : Nat) (m : List ((Int × Int) × Int)) (w : World) (hBm : Bm < w.heap.size) (hm : w.cell? ⟨Bm, 0, none⟩ = some (.map (some b))) (hown : MapAt w Try.prog 60 ekP evI b m) (hlen : m.length < 1099511627776) :
    Calls Try.prog 49 #[.func (.func 80) #[] #[.pointer (some ⟨Bm, 0, none⟩)], .func (.func 51) #[] #[]] w fun e w' =>
      ∃ (v : Value), e = .returned v ∧ OwnsL w' w.heap.size 60 2 encP v (sortP (m.map (·.1))) ∧ Ext w w' := by
  go_enter Try.func49, Try.ntmps49
  go_wp2_with fail
  refine (collectP_any Bm b m w hBm hm hown hlen).mono ?_
  rintro e w1 ⟨v, ss, rfl, hp, hO, hX⟩
  go_wp2_with fail
  have hss : ss.length = m.length := by rw [hp.length_eq, List.length_map]
  refine (sortP_own hO (by omega)).mono ?_
  rintro e w2 ⟨rfl, hO2, hG2⟩
  have hX2 := hX.grownL hO (Nat.le_refl _) hG2
  rw [sortP_of_perm hp] at hO2
  go_wp2
  go_ret
  exact ⟨v, rfl, hO2, hX2⟩

theorem rowP : (60 : TypeId) < Try.prog.types.size := of_decide_eq_true (by kernel_rfl)
theorem laidB : laidOutB Try.prog = true := by kernel_rfl
theorem lawP : WideMaps.KeyLaw Try.prog 60 := deep_law_laid laidB (m := 2) (by omega) rowP (by kernel_rfl) (by kernel_rfl)
theorem keyedP : Keyed Try.prog 60 := Keyed.of_law lawP

/-- Numbers that an int holds. -/
def fits (x : Int × Int) : Prop := (-9223372036854775808 ≤ x.1 ∧ x.1 ≤ 9223372036854775807) ∧ (-9223372036854775808 ≤ x.2 ∧ x.2 ≤ 9223372036854775807)
theorem lits_int (d : Nat) {n : Int} (h : -9223372036854775808 ≤ n ∧ n ≤ 9223372036854775807) : Try.prog.keyLits (d + 1) 3 [.int .i64 n] = some [.int .i64 n] := by
  have hw : (Lit.int IntKind.i64 n).wf = true := WalkArith.wf_i64 (by omega)
  simp [Program.keyLits, Try.underlying3, hw]
theorem cellsP : Try.prog.cellsOf 60 = 2 := by kernel_rfl
theorem cellsInt : Try.prog.cellsOf 3 = 1 := by kernel_rfl
theorem key_pair {x : Int × Int} (h : fits x) : ∃ l, keyOf Try.prog 60 (ekP x) = some l := by
  have hk : Try.prog.keyType 60 = true := by kernel_rfl
  have hl : ∀ d, Try.prog.keyLits (d + 1 + 1) 60 [.int .i64 x.1, .int .i64 x.2] = some [.int .i64 x.1, .int .i64 x.2] := by
    intro d
    unfold Program.keyLits
    simp [Try.underlying60, cellsP, cellsInt, lits_int d h.1, lits_int d h.2]
  refine ⟨.string (keyBytes [.int .i64 x.1, .int .i64 x.2]), ?_⟩
  unfold keyOf ekP
  simp [Try.underlying60, hk, Value.formed, cellsP, Value.cells]
  exact ⟨_, hl 181, rfl⟩

theorem mem_aset {κ β : Type} [DecidableEq κ] {m : List (κ × β)} {k : κ} {v : β} {x : κ} : x ∈ (aset m k v).map (·.1) ↔ x = k ∨ x ∈ m.map (·.1) := by
  cases hl : alook m k with
  | none => rw [aset_new hl]; simp [or_comm]
  | some u =>
    have hk : k ∈ m.map (·.1) := List.mem_map.2 ⟨_, alook_mem hl, rfl⟩
    have hmap : (aset m k v).map (·.1) = m.map (·.1) := by
      unfold aset
      split
      · rw [List.map_map]
        refine List.map_congr_left fun y _ => ?_
        by_cases e : y.1 = k
        · simp [e]
        · simp [e]
      · rename_i h
        exact absurd (List.any_eq_true.2 ⟨_, alook_mem hl, by simp⟩) h
    rw [hmap]
    exact ⟨Or.inr, fun h => h.elim (fun e => e ▸ hk) id⟩

/-- How often each pair stands in the list. -/
def countP (l : List (Int × Int)) : List ((Int × Int) × Int) := l.foldl (fun m x => aset m x ((alook m x).getD 0 + 1)) []
theorem countP_take {l : List (Int × Int)} {k : Nat} (h : k < l.length) : countP (l.take (k + 1)) = aset (countP (l.take k)) l[k] ((alook (countP (l.take k)) l[k]).getD 0 + 1) := by
  unfold countP; rw [List.take_succ_eq_append_getElem h, List.foldl_append]; rfl
theorem nodup_countP (l : List (Int × Int)) : ((countP l).map (·.1)).Nodup := by
  unfold countP
  suffices h : ∀ (l : List (Int × Int)) (m : List ((Int × Int) × Int)), (m.map (·.1)).Nodup → ((l.foldl (fun m x => aset m x ((alook m x).getD 0 + 1)) m).map (·.1)).Nodup from h l [] (by simp)
  intro l
  induction l with
  | nil => intro m h; exact h
  | cons x l ih => intro m h; exact ih _ (nodup_aset h _ _)
theorem alook_countP (l : List (Int × Int)) (x : Int × Int) : (alook (countP l) x).getD 0 = l.count x := by
  suffices h : ∀ (l : List (Int × Int)) (m : List ((Int × Int) × Int)), (m.map (·.1)).Nodup → (alook (l.foldl (fun m x => aset m x ((alook m x).getD 0 + 1)) m) x).getD 0 = (alook m x).getD 0 + l.count x by
    have := h l [] (by simp)
    simpa [countP, alook] using this
  intro l
  induction l with
  | nil => intro m h; simp
  | cons y l ih =>
    intro m h
    rw [List.foldl_cons, ih _ (nodup_aset h _ _), alook_aset h, List.count_cons]
    by_cases e : y = x
    · subst e; simp; omega
    · rw [if_neg e]; simp [e]
theorem mem_countP (l : List (Int × Int)) (x : Int × Int) : x ∈ (countP l).map (·.1) ↔ x ∈ l := by
  suffices h : ∀ (l : List (Int × Int)) (m : List ((Int × Int) × Int)), x ∈ (l.foldl (fun m x => aset m x ((alook m x).getD 0 + 1)) m).map (·.1) ↔ x ∈ m.map (·.1) ∨ x ∈ l by
    have := h l []
    simpa [countP] using this
  intro l
  induction l with
  | nil => intro m; simp
  | cons y l ih =>
    intro m
    rw [List.foldl_cons, ih, mem_aset]
    simp only [List.mem_cons]
    constructor
    · rintro ((h | h) | h)
      · exact Or.inr (Or.inl h)
      · exact Or.inl h
      · exact Or.inr (Or.inr h)
    · rintro (h | h | h)
      · exact Or.inl (Or.inr h)
      · exact Or.inl (Or.inl h)
      · exact Or.inr h
theorem length_aset {κ β : Type} [DecidableEq κ] (m : List (κ × β)) (k : κ) (v : β) : (aset m k v).length ≤ m.length + 1 := by
  unfold aset; split <;> simp
theorem length_countP (l : List (Int × Int)) : (countP l).length ≤ l.length := by
  suffices h : ∀ (l : List (Int × Int)) (m : List ((Int × Int) × Int)), (l.foldl (fun m x => aset m x ((alook m x).getD 0 + 1)) m).length ≤ m.length + l.length by
    simpa [countP] using h l []
  intro l
  induction l with
  | nil => intro m; simp
  | cons y l ih =>
    intro m
    have h1 := ih (aset m y ((alook m y).getD 0 + 1))
    have h2 := length_aset m y ((alook m y).getD 0 + 1)
    rw [List.foldl_cons, List.length_cons]
    omega

def DistinctPost (w : World) (l : List (Int × Int)) (e : Ending) (w' : World) : Prop :=
  ∃ v b, e = .returned (.tuple #[v, .map (some b)]) ∧ w.heap.size ≤ b ∧ MapAt w' Try.prog 60 ekP evI b (countP l) ∧ OwnsL w' w.heap.size 60 2 encP v (sortP ((countP l).map (·.1))) ∧ Ext w w'

theorem zero_int (w : World) : (zeroValue 3).run Try.prog w = .ok (evI 0) w := by kernel_rfl

set_option maxRecDepth 10000 in
set_option maxHeartbeats 1000000 in
theorem distinct_any (p : Option Addr) (cp : Nat) (l : List (Int × Int)) (w : World) (h : SliceAt w encP 2 p cp l) (hf : ∀ x ∈ l, fits x) (hlen : l.length < 1099511627776) :
    Calls Try.prog 31 #[.slice p l.length cp] w (DistinctPost w l) := by
  have hmax := h.max
  have hle := h.le
  unfold maxLen at hmax
  go_enter Try.func31, Try.ntmps31
  have hmm := @run_makeMap Try.prog
  go_wp2
  go_loopw [6, 10] (fun _ i wr => ∃ k : Nat, k ≤ l.length ∧ i = .int .i64 k ∧ MapAt wr Try.prog 60 ekP evI w.heap.size (countP (l.take k)) ∧ Ext w wr) (fun _ i _ => l.length - (intOf i).toNat)
  case atStart => exact ⟨0, by omega, rfl, MapAt.made _ _ _ _ _, (Ext.refl _).alloc _⟩
  case round =>
    obtain ⟨k, hk, rfl, HM, HX⟩ := hrel
    by_cases hlt : k < l.length
    · obtain ⟨bi, oi, rfl, hbi, c0, c1⟩ := (h.ext HX).pair_at hlt
      go_wp2_with fail
      have hx := hf l[k] (List.getElem_mem hlt)
      obtain ⟨kl, hkey⟩ := key_pair hx
      have hcnt : (alook (countP (l.take k)) l[k]).getD 0 = ((l.take k).count l[k] : Nat) := alook_countP _ _
      have hcl : (l.take k).count l[k] ≤ k := by have h1 := List.count_le_length (a := l[k]) (l := l.take k); rw [List.length_take] at h1; omega
      have hstep := countP_take hlt
      rw [hcnt] at hstep
      generalize (l.take k).count l[k] = c at *
      generalize hmm' : countP (l.take k) = mk at *
      generalize hxk : l[k] = x at *
      have HXK := hid hxk
      have HSTEP := hid hstep
      have HMK := hid hmm'
      clear hxk hstep hmm' hx
      have hw1 : IntKind.i64.wrap ((c : Int) + 1) = (c : Int) + 1 := IntWalk.i64_in _ (by omega)
      have e0 : (wr.alloc (.cells #[.int .i64 x.1, .int .i64 x.2] 60)).heap[wr.heap.size]? = some (.cells #[.int .i64 x.1, .int .i64 x.2] 60 (0, 0)) := blk_new _ _
      have hML := ((HM.alloc (.cells #[.int .i64 x.1, .int .i64 x.2] 60)).drew)
      have hne : wr.heap.size ≠ w.heap.size := by have := HM.lt; omega
      obtain ⟨we, st, hrune, hMe, hEe, hGe⟩ := hML.entry ekP_inj keyedP Try.underlying67 (zero_int _) hkey
      rw [hcnt] at hrune hMe
      obtain ⟨wf, hrunp, hMf, hGf⟩ := hMe.put ekP_inj hEe 67 ((c : Int) + 1)
      have hcnt2 : (alook (aset mk x (c : Int)) x).getD 0 = c := by rw [alook_aset HM.nodup, if_pos rfl]; rfl
      have hlook := fun (W : World) (m' : List ((Int × Int) × Int)) (h : MapAt W Try.prog 60 ekP evI w.heap.size m') => h.look (t := 67) ekP_inj keyedP Try.underlying67 (zero_int _) hkey false
      simp only [ekP, evI, Bool.false_eq_true, if_false] at hlook hrune hrunp
      have HCNT := hid hcnt
      have HLOOK := hid hlook
      clear hcnt hkey hlook
      (refine wp_region_noPanic (wp_region_planE [0, 1, 2, 3] [4, 5] 6 (fun w' => w'.heap[wr.heap.size]? = some (.cells #[.int .i64 x.1, .int .i64 x.2] 60 (0, 0)) ∧ ∃ m', MapAt w' Try.prog 60 ekP evI w.heap.size m' ∧ (alook m' x).getD 0 = (c : Int)) (by kernel_rfl) (by kernel_rfl) (fun _ _ _ _ _ h => h) ⟨e0, mk, hML, HCNT.out⟩ ?_))
      (refine wpTakes_nth (v := ?_) rfl rfl ?_ ?_; rotate_left 1; (· ((intro w hw; (try dsimp only at hw); (try go_split_ands); go_simp; try with_reducible rfl); all_goals go_simp; all_goals with_reducible rfl)); (try simp only [Act.put, List.setIfInBounds_toArray, List.set_cons_zero, List.set_cons_succ]))
      (refine wpTakes_nth (v := ?_) rfl rfl ?_ ?_; rotate_left 1; (· ((intro wl hwl; obtain ⟨l0, l1⟩ := cells2 hwl.1; clear hwl); all_goals go_simp; all_goals with_reducible rfl)); (try simp only [Act.put, List.setIfInBounds_toArray, List.set_cons_zero, List.set_cons_succ]))
      (refine wpTakes_nth (v := ?_) rfl rfl ?_ ?_; rotate_left 1; (· ((intro wl hwl; obtain ⟨m', hm', hc'⟩ := hwl.2; have hl := HLOOK.out wl m' hm'; rw [hc'] at hl; clear hwl hm'); all_goals go_simp; all_goals with_reducible rfl)); (try simp only [Act.put, List.setIfInBounds_toArray, List.set_cons_zero, List.set_cons_succ]))
      (refine wpTakes_nth (v := ?_) rfl rfl ?_ ?_; rotate_left 1; (· ((intro w hw; (try dsimp only at hw); (try go_split_ands); go_simp; try with_reducible rfl); all_goals go_simp; all_goals with_reducible rfl)); (try simp only [Act.put, List.setIfInBounds_toArray, List.set_cons_zero, List.set_cons_succ]))
      refine wpTakes_nil ?_
      (refine wpTail_nth rfl rfl (fun K hK => ?_); go_simp)
      ((try refine hK _ _ ?_); refine wpHold_mk ?_ ?_; (· (exact ⟨(hGe.block _ (lt_of_block e0) (fun e => hne (Option.some.inj e))).trans e0, _, hMe, hcnt2⟩)); (try clear hK K); (try simp only [Act.put, List.setIfInBounds_toArray, List.set_cons_zero, List.set_cons_succ]))
      (refine wpTail_nth rfl rfl (fun K hK => ?_); go_simp)
      ((try refine hK _ _ ?_); refine wpHold_mk ?_ ?_; (· (exact ⟨(hGe.block _ (lt_of_block e0) (fun e => hne (Option.some.inj e))).trans e0, _, hMe, hcnt2⟩)); (try clear hK K); (try simp only [Act.put, List.setIfInBounds_toArray, List.set_cons_zero, List.set_cons_succ]))
      (refine wpTail_nil (wpOp_last rfl rfl ?_); go_simp; refine NoPanic.normal ?_)
      rw [aset_aset HM.nodup] at hMf
      have hXf : Ext w wf := ((((HX.alloc _).drew).grown hGe (Nat.le_refl _)).grown hGf (Nat.le_refl _))
      clear hrune hrunp hMe hEe hGe hGf hML e0
      go_wp2
      go_roundw
      case rel => exact ⟨k + 1, by omega, by simp, by rw [HSTEP.out]; exact hMf, hXf⟩
      case measure => simp [intOf]; omega
    · have hke : k = l.length := by omega
      subst hke
      rw [List.take_length] at HM
      have hlc := length_countP l
      go_wp2_with fail
      refine (keysP_any _ _).mono ?_
      rintro e w1 ⟨rfl, rfl⟩
      go_wp2_with fail
      refine (sortedP_any wr.heap.size w.heap.size _ _ (by simp) (cell_of_box_a (blk_new _ _)).1 (HM.alloc _) (by omega)).mono ?_
      rintro e w2 ⟨v, rfl, hO, hX2⟩
      go_wp2
      go_ret2
      exact ⟨v, w.heap.size, rfl, Nat.le_refl _, (HM.alloc _).ext hX2, hO.of_base (by have := HX.size; simp; omega), (HX.alloc _).trans hX2⟩

end Go.Proofs.Ytnedoaapnfpkfaa
