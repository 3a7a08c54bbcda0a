/-
  The contracts of correspondence.Splits and Lumps. Conditions: none beyond how the arguments read.
-/
import Derived.Test.YtnedoaapnfpkfaaMatchesP
import Derived.Test.YtnedoaapnfpkfaaCheck
import Derived.Test.YtnedoaapnfpkfaaShelfC
import Derived.Maps.AppendAt
namespace Go.Proofs.Ytnedoaapnfpkfaa
open Go.RowKit Go.Sort Go.Shelf Go.Maps

/-- How often each number stands in the list. -/
def cntK (l : List Int) : List (Int × Int) := l.foldl (fun m x => aset m x ((alook m x).getD 0 + 1)) []
theorem cntK_take {l : List Int} {k : Nat} (h : k < l.length) : cntK (l.take (k + 1)) = aset (cntK (l.take k)) l[k] ((alook (cntK (l.take k)) l[k]).getD 0 + 1) := by
  unfold cntK; rw [List.take_succ_eq_append_getElem h, List.foldl_append]; rfl
theorem nodup_cntK (l : List Int) : ((cntK l).map (·.1)).Nodup := by
  unfold cntK
  suffices h : ∀ (l : List Int) (m : List (Int × Int)), (m.map (·.1)).Nodup → ((l.foldl (fun m x => aset m x ((alook m x).getD 0 + 1)) m).map (·.1)).Nodup from h l [] (by simp)
  intro l
  induction l with
  | nil => intro m h; exact h
  | cons x l ih => intro m h; exact ih _ (nodup_aset h _ _)
theorem alook_cntK (l : List Int) (x : Int) : (alook (cntK l) x).getD 0 = l.count x := by
  suffices h : ∀ (l : List Int) (m : List (Int × Int)), (m.map (·.1)).Nodup → (alook (l.foldl (fun m x => aset m x ((alook m x).getD 0 + 1)) m) x).getD 0 = (alook m x).getD 0 + l.count x by
    have := h l [] (by simp)
    simpa [cntK, alook] using this
  intro l
  induction l with
  | nil => intro m h; simp
  | cons y l ih =>
    intro m h
    rw [List.foldl_cons, ih _ (nodup_aset h _ _), alook_aset h, List.count_cons]
    by_cases e : y = x
    · subst e; simp; omega
    · rw [if_neg e]; simp [e]
theorem mem_cntK (l : List Int) (x : Int) : x ∈ (cntK l).map (·.1) ↔ x ∈ l := by
  suffices h : ∀ (l : List Int) (m : List (Int × Int)), x ∈ (l.foldl (fun m x => aset m x ((alook m x).getD 0 + 1)) m).map (·.1) ↔ x ∈ m.map (·.1) ∨ x ∈ l by
    have := h l []
    simpa [cntK] using this
  intro l
  induction l with
  | nil => intro m; simp
  | cons y l ih =>
    intro m
    rw [List.foldl_cons, ih, mem_aset]
    simp only [List.mem_cons]
    constructor
    · rintro ((h | h) | h)
      · exact Or.inr (Or.inl h)
      · exact Or.inl h
      · exact Or.inr (Or.inr h)
    · rintro (h | h | h)
      · exact Or.inl (Or.inr h)
      · exact Or.inl (Or.inl h)
      · exact Or.inr h
theorem length_cntK (l : List Int) : (cntK l).length ≤ l.length := by
  suffices h : ∀ (l : List Int) (m : List (Int × Int)), (l.foldl (fun m x => aset m x ((alook m x).getD 0 + 1)) m).length ≤ m.length + l.length by
    simpa [cntK] using h l []
  intro l
  induction l with
  | nil => intro m; simp
  | cons y l ih =>
    intro m
    have h1 := ih (aset m y ((alook m y).getD 0 + 1))
    have h2 := length_aset m y ((alook m y).getD 0 + 1)
    rw [List.foldl_cons, List.length_cons]
    omega
theorem val_cntK {l : List Int} {x : Int × Int} (h : x ∈ cntK l) : x.2 = l.count x.1 := by
  obtain ⟨j, hj⟩ := List.mem_iff_getElem?.1 h
  have h1 := alook_at (nodup_cntK l) (j := j) (k := x.1) (v := x.2) hj
  have h2 := alook_cntK l x.1
  rw [h1] at h2
  simpa using h2

/-- The numbers that stand twice or more. -/
def splitsP (l : List Int) : List Int := sortI (((cntK l).filter fun x => decide (2 ≤ x.2)).map (·.1))
theorem splitsP_spec (l : List Int) : (splitsP l).Pairwise (· ≤ ·) ∧ (splitsP l).Nodup ∧ ∀ x, x ∈ splitsP l ↔ 2 ≤ l.count x := by
  refine ⟨sortI_sorted _, (sortI_perm _).nodup_iff.2 ((nodup_cntK l).sublist (List.Sublist.map _ List.filter_sublist)), fun x => ?_⟩
  unfold splitsP
  rw [(sortI_perm _).mem_iff, List.mem_map]
  constructor
  · rintro ⟨y, hy, rfl⟩
    obtain ⟨h1, h2⟩ := List.mem_filter.1 hy
    have h3 := val_cntK h1
    have h4 : 2 ≤ y.2 := by simpa using h2
    omega
  · intro h
    have hx : x ∈ l := List.count_pos_iff.1 (by omega)
    obtain ⟨y, hy, rfl⟩ := List.mem_map.1 ((mem_cntK l x).2 hx)
    refine ⟨y, List.mem_filter.2 ⟨hy, ?_⟩, rfl⟩
    have := val_cntK hy
    simp; omega

/-! ### The map as the kit's words have it -/

/-- Is the element below 2? -/
def lowD {H : Type} (_ : Lit) : DataW H → Bool
  | .lit (.int _ v) => decide (v < 2)
  | _ => false
def datumI {H : Type} (m : List (Int × Int)) : List (Lit × DataW H) := (m.map fun x => (Lit.int .i64 x.1, DataW.lit (.int .i64 x.2))).foldr DataW.insert []

theorem small_wf {z : Int} (h : -1000000 ≤ z ∧ z ≤ 1000000) : (Lit.int .i64 z).wf = true := by
  have h1 : IntKind.i64.min = -9223372036854775808 := rfl
  have h2 : IntKind.i64.max = 9223372036854775807 := rfl
  simp only [Lit.wf, Bool.and_eq_true, decide_eq_true_eq]
  omega

theorem MapAt.owns {H : Type} {w : World} {b : Nat} {m : List (Int × Int)} (h : MapAt w Try.prog 3 ekI evI b m) (hv : ∀ x ∈ m, (-1000000 ≤ x.1 ∧ x.1 ≤ 1000000) ∧ (-1000000 ≤ x.2 ∧ x.2 ≤ 1000000)) (hn : m.length ≤ 1000000) :
    w.ownsMap Try.prog 3 (plainElem (H := H) Try.prog 3) b m.length (.map (datumI m)) := by
  obtain ⟨⟨es, clock, h1, h2, h3⟩, h4, h5⟩ := h
  have hlen : es.size = m.length := by
    have := congrArg List.length h3
    simpa using this
  have hrd : ∀ (e : MapEntry) (x : Int × Int), e.key = ekI x.1 → e.val = evI x.2 → x ∈ m → WideElems.rd (H := H) Try.prog 3 (plainElem Try.prog 3) e = some (.int .i64 x.1, .lit (.int .i64 x.2)) := by
    intro e x hk hvl hx
    obtain ⟨g1, g2⟩ := hv x hx
    unfold WideElems.rd
    rw [hk, hvl, key_i64 (by omega), show evI x.2 = .int .i64 x.2 from rfl, plainElem_int Try.underlying3 (small_wf g2)]
    rfl
  have hat : ∀ e ∈ es.toList, ∃ x ∈ m, e.key = ekI x.1 ∧ e.val = evI x.2 := by
    intro e he
    obtain ⟨i, hi, rfl⟩ := List.getElem_of_mem he
    have him : i < m.length := by rw [← hlen]; simpa using hi
    have h6 : (es.toList.map (fun e => (e.key, e.val)))[i]? = (m.map (fun x => (ekI x.1, evI x.2)))[i]? := by rw [h3]
    rw [List.getElem?_map, List.getElem?_map, List.getElem?_eq_getElem hi, List.getElem?_eq_getElem him] at h6
    simp only [Option.map_some, Option.some.injEq, Prod.mk.injEq] at h6
    exact ⟨m[i], List.getElem_mem him, h6.1, h6.2⟩
  refine ⟨es, clock, h1, ⟨by rw [hlen]; unfold maxLen; omega, h2, fun e he => ?_⟩, by omega, ?_⟩
  · obtain ⟨x, hx, hk, hvl⟩ := hat e he
    exact ⟨_, hrd e x hk hvl hx⟩
  · congr 1
    unfold datumI
    congr 1
    refine List.ext_getElem (by simp [hlen]) fun i hi1 hi2 => ?_
    have hi : i < es.toList.length := by simpa [hlen] using hi1
    have him : i < m.length := by simpa [hlen] using hi2
    have h6 : (es.toList.map (fun e => (e.key, e.val)))[i]? = (m.map (fun x => (ekI x.1, evI x.2)))[i]? := by rw [h3]
    rw [List.getElem?_map, List.getElem?_map, List.getElem?_eq_getElem hi, List.getElem?_eq_getElem him] at h6
    simp only [Option.map_some, Option.some.injEq, Prod.mk.injEq] at h6
    rw [List.getElem_map, List.getElem_map]
    rw [WideElems.rg_of (hrd _ m[i] h6.1 h6.2 (List.getElem_mem him))]

theorem keys_left {H : Type} (m : List (Int × Int)) : (intKeys (Lib.deleteFuncD (H := H) lowD (.map (datumI m)))).Perm ((m.filter fun x => decide (2 ≤ x.2)).map (·.1)) := by
  have hp : (datumI (H := H) m).Perm (m.map fun x => (Lit.int .i64 x.1, DataW.lit (.int .i64 x.2))) := WideShapes.sorted_perm _
  show (((datumI (H := H) m).filter fun p => !lowD p.1 p.2).map fun p => _root_.Go.intOf p.1).Perm _
  refine ((hp.filter _).map _).trans ?_
  rw [List.filter_map, List.map_map]
  have e1 : (m.filter ((fun p : Lit × DataW H => !lowD p.1 p.2) ∘ fun x : Int × Int => (Lit.int .i64 x.1, DataW.lit (.int .i64 x.2)))) = m.filter fun x => decide (2 ≤ x.2) := by
    refine List.filter_congr fun x _ => ?_
    simp [lowD]
    by_cases h : x.2 < 2
    · simp [h] <;> omega
    · simp [h] <;> omega
  rw [e1]
  exact List.Perm.refl _

theorem size_left {H : Type} (m : List (Int × Int)) : Maps.size (Lib.deleteFuncD (H := H) lowD (.map (datumI m))) ≤ m.length := by
  have hp : (datumI (H := H) m).Perm (m.map fun x => (Lit.int .i64 x.1, DataW.lit (.int .i64 x.2))) := WideShapes.sorted_perm _
  have h1 := hp.length_eq
  rw [List.length_map] at h1
  have h2 := List.length_filter_le (fun p => !lowD p.1 p.2) (datumI (H := H) m)
  show ((datumI (H := H) m).filter fun p => !lowD p.1 p.2).length ≤ m.length
  omega

theorem low_any (k : Value) (v : Int) (W : World) : Calls Try.prog 38 (#[k, .int .i64 v] ++ #[]) W fun e w' => e = .returned (.bool (decide (v < 2))) ∧ w' = W := by
  go_enter Try.func38, Try.ntmps38
  go_wp2
  go_ret
  exact ⟨rfl, rfl⟩

theorem delete_any {H : Type} (b n : Nat) (D : DataW H) (w : World) (hown : w.ownsMap Try.prog 3 (plainElem Try.prog 3) b n D) :
    Calls Try.prog 37 #[.map (some b), .func (.func 38) #[] #[]] w fun e w' => e = .returned (.tuple #[]) ∧ w'.ownsMap Try.prog 3 (plainElem Try.prog 3) b n (Lib.deleteFuncD lowD D) ∧ w.grownBy w' (some b) := by
  have eg : ∀ args w, (callFunc 38 args).run Try.prog w = .ok (.enter 38 args) w := enters_of Try.func38 (by kernel_rfl) rfl
  exact AnyDf.maps_DeleteFunc Try.delI Try.keyed3 (plainElem Try.prog 3) lowD 38 #[] b n D w eg hown (fun W key val kl yd yp _ _ hv => by
    obtain ⟨c, rfl, hy, _⟩ := plainElem_int_inv Try.underlying3 hv
    obtain rfl : yd = .lit (.int .i64 c) := by simpa using (congrArg Prod.fst hy)
    exact (low_any key c W).mono fun _ _ ⟨he, hw⟩ => ⟨he, hw ▸ World.grownBy.refl _ _⟩)

theorem sortsI (m : Nat) : AnyZI.SortsIn Try.prog Try.sortedI_ren Fence.wide m :=
  ⟨fun blk off cap ss W hH hblk hsz => callsIn_wide.2 (AnyM.slices_Sort_int Try.sortII blk off cap ss W hH hblk hsz),
   fun p cap W => callsIn_wide.2 (AnyM.slices_Sort_int_none Try.sortII p cap W)⟩

theorem keysI_any (mb : Option Nat) (w : World) : Calls Try.prog 40 #[.map mb] w fun e w' => e = .returned (.func (.func 61) #[] #[.pointer (some ⟨w.heap.size, 0, none⟩)]) ∧ w' = w.alloc (.cells #[.map mb] 81) :=
  callsIn_wide.1 (AnyZI.keys_in Try.keysI Fence.wide 5 trivial rfl mb w)

theorem sortedI_any {H : Type} (Bm b nn : Nat) (D0 : DataW H) (R : Value → Option (DataW H × List MemPlace)) (w : World) (hBm : Bm < w.heap.size) (hm : w.cell? ⟨Bm, 0, none⟩ = some (.map (some b))) (hown : w.ownsMap Try.prog 3 R b nn D0) (hsz : Maps.size D0 ≤ 1000000) :
    Calls Try.prog 39 #[.func (.func 61) #[] #[.pointer (some ⟨Bm, 0, none⟩)]] w fun e w' => ∃ (v : Value) (l : List Int), e = .returned v ∧ l = sortI (intKeys D0) ∧ OwnsL w' w.heap.size 3 1 encI v l ∧ Ext w w' := by
  have hseq : SeqGives Fence.wide 2 Try.prog 61 #[.pointer (some ⟨Bm, 0, none⟩)] encZ (fun ss => ss.Perm (intKeys D0)) (Maps.size D0) w :=
    AnyZI.keys_gives (ρ := Try.keysI_ren) { Try.keysI with } Fence.wide _ trivial rfl (by omega) Bm b nn D0 w hBm hm hown
  have cS := AnyZI.sorted_in Try.sortedI Fence.wide 5 trivial trivial trivial trivial rfl (by omega) (sortsI _) (enters_of Try.func29 (by kernel_rfl) rfl) 61 #[.pointer (some ⟨Bm, 0, none⟩)] trivial (enters_of Try.func61 (by kernel_rfl) rfl) _ _ (by unfold maxLen; omega) (by omega) _ hseq
  refine (callsIn_wide.1 cS).mono ?_
  rintro e w' ⟨v, ss, rfl, hS, hrow, _, hb⟩
  refine ⟨v, sortI (intKeys D0), rfl, rfl, ?_, hb⟩
  have he : ss.mergeSort (fun x y => decide (x ≤ y)) = sortI (intKeys D0) := mergeSort_of_perm_i hS
  rw [he] at hrow
  unfold OwnsL
  rw [flat_encI, sortI_length, ← hS.length_eq]
  exact hrow

def SplitsPost (w : World) (a b : List Sp) (side : Int) (er : Int) (e : Ending) (w' : World) : Prop :=
  ∃ v l, e = .returned (.tuple #[v, .int .i64 er]) ∧ l = (if er = 0 then splitsP ((msL a b side).map (·.1)) else []) ∧ OwnsL w' w.heap.size 3 1 encI v l ∧ Ext w w'

theorem msL_nums {a b : List Sp} {side : Int} (h : errS a b side = 0) : ∀ x ∈ msL a b side, (1 ≤ x.1 ∧ x.1 ≤ 999) ∧ (1 ≤ x.2 ∧ x.2 ≤ 999) := by
  intro x hx
  refine common_nums h x ?_
  unfold msL at hx
  rw [(sortP_perm _).mem_iff, mem_countP] at hx
  exact hx

set_option maxRecDepth 10000 in
set_option maxHeartbeats 2000000 in
theorem splits_any (p q : Option Addr) (cp cq : Nat) (a b : List Sp) (side : Int) (w : World) (h : SliceAt w encSp 7 p cp a) (h' : SliceAt w encSp 7 q cq b) :
    Calls Try.prog 15 #[.slice p a.length cp, .slice q b.length cq, .int .i64 side] w (SplitsPost w a b side (errS a b side)) := by
  by_cases hok : errS a b side = 0
  · have hlm := msL_length hok
    have hnums := msL_nums hok
    have HOK := hid hok
    have hmm := @run_makeMap Try.prog
    clear hok
    go_enter Try.func15, Try.ntmps15
    go_wp2_with fail
    refine (matches_any p q cp cq a b side _ h h').mono ?_
    rintro e w1 ⟨v, l, rfl, hl, HO1, hx1⟩
    rw [if_pos HOK.out] at hl
    subst hl
    rw [HOK.out]
    obtain ⟨pm, cm, rfl, HM⟩ := HO1.slice encP_len
    have hmmx := HM.max
    have hlmx := HM.le
    unfold maxLen at hmmx
    generalize hms : msL a b side = ms at *
    have HMS := hid hms
    have HNUM := hid hnums
    clear hms hnums
    go_wp2
    go_loopw [12, 26] (fun _ i wr => ∃ k : Nat, k ≤ ms.length ∧ i = .int .i64 k ∧ MapAt wr Try.prog 3 ekI evI w1.heap.size (cntK ((ms.map (·.1)).take k)) ∧ Ext w wr ∧ Ext w1 wr) (fun _ i _ => ms.length - (intOf i).toNat)
    case atStart => exact ⟨0, by omega, rfl, MapAt.made _ _ _ _ _, hx1.alloc _, (Ext.refl _).alloc _⟩
    case round =>
      obtain ⟨k, hk, rfl, HMP, HX, HXX⟩ := hrel
      by_cases hlt : k < ms.length
      · obtain ⟨bm, fm, rfl, hbm, c0, c1⟩ := (HM.ext HXX).pair_at hlt
        have hnx := HNUM.out ms[k] (List.getElem_mem hlt)
        have hlt' : k < (ms.map (·.1)).length := by simpa using hlt
        have hstep := cntK_take hlt'
        have hcnt := alook_cntK ((ms.map (·.1)).take k) (ms.map (·.1))[k]
        have hcl : ((ms.map (·.1)).take k).count (ms.map (·.1))[k] ≤ k := by have h1 := List.count_le_length (a := (ms.map (·.1))[k]) (l := (ms.map (·.1)).take k); rw [List.length_take] at h1; omega
        rw [List.getElem_map] at hstep hcnt hcl
        generalize ((ms.map (·.1)).take k).count (ms[k].1) = c at *
        generalize cntK ((ms.map (·.1)).take k) = mk at *
        generalize ms[k] = x at *
        rw [hcnt] at hstep
        have HSTEP := hid hstep
        clear hstep hlt'
        have hkey := key_i64 (n := x.1) (by omega)
        have HM1 := HMP.alloc (.cells #[.int .i64 x.1, .int .i64 x.2] 37)
        have hlook := HM1.look (t := 81) ekI_inj Try.keyed3 Try.underlying81 (zero_int _) hkey false
        rw [hcnt] at hlook
        simp only [ekI, evI, Bool.false_eq_true, if_false] at hlook
        obtain ⟨w2, hst, hm2, hg2⟩ := HM1.store ekI_inj Try.keyed3 Try.underlying81 hkey ((c : Int) + 1)
        simp only [ekI, evI] at hst
        have HX2 := (HX.alloc (.cells #[.int .i64 x.1, .int .i64 x.2] 37)).grown hg2 hx1.size
        have HXX2 := (HXX.alloc (.cells #[.int .i64 x.1, .int .i64 x.2] 37)).grown hg2 (Nat.le_refl _)
        have HM2 := hid hm2
        have HCNT := hid hcnt
        clear hkey HM1 hm2 hg2 hcnt
        go_wp2
        go_roundw
        case rel => exact ⟨k + 1, by omega, by go_num, by rw [HSTEP.out]; exact HM2.out, HX2, HXX2⟩
        case measure => simp [intOf]; omega
      · have hke : k = ms.length := by omega
        subst hke
        rw [List.take_of_length_le (by simp)] at HMP
        have hcl := length_cntK (ms.map (·.1))
        rw [List.length_map] at hcl
        have hv : ∀ x ∈ cntK (ms.map (·.1)), (-1000000 ≤ x.1 ∧ x.1 ≤ 1000000) ∧ (-1000000 ≤ x.2 ∧ x.2 ≤ 1000000) := by
          intro x hx
          have h1 := (mem_cntK (ms.map (·.1)) x.1).1 (List.mem_map_of_mem hx)
          obtain ⟨y, hy, hy2⟩ := List.mem_map.1 h1
          have h2 := HNUM.out y hy
          have h3 := val_cntK hx
          have h4 := List.count_le_length (a := x.1) (l := ms.map (·.1))
          rw [List.length_map] at h4
          omega
        have hown := HMP.owns (H := Unit) hv (by omega)
        have hsz := size_left (H := Unit) (cntK (ms.map (·.1)))
        have hkl : sortI (intKeys (Lib.deleteFuncD (H := Unit) lowD (.map (datumI (cntK (ms.map (·.1))))))) = splitsP (ms.map (·.1)) := mergeSort_of_perm_i (keys_left _)
        have HKL := hid hkl
        clear hkl hv
        have hdel := delete_any (H := Unit) w1.heap.size _ _ wr hown
        generalize (Lib.deleteFuncD (H := Unit) lowD (.map (datumI (cntK (ms.map (·.1)))))) = D1 at *
        have HDEL := hid hdel
        clear hdel hown
        go_wp2_with fail
        refine HDEL.out.mono ?_
        rintro e w2 ⟨rfl, hown2, hg2⟩
        have HX2 := HX.grown hg2 hx1.size
        go_wp2_with fail
        refine (keysI_any _ _).mono ?_
        rintro e w3 ⟨rfl, rfl⟩
        go_wp2_with fail
        refine (sortedI_any w2.heap.size w1.heap.size _ _ _ _ (by simp) (cell_of_box_a (blk_new _ _)).1 (hown2.alloc _) (by omega)).mono ?_
        rintro e w4 ⟨v, l, rfl, hl, HO, HX4⟩
        have HL := hid hl
        clear hl hown2 hg2
        go_wp2
        go_ret2
        refine ⟨v, l, ?_, ?_, HO.of_base (by have := HX2.size; simp; omega), (HX2.alloc _).trans HX4⟩
        · rw [HOK.out]; rfl
        · rw [HOK.out, if_pos rfl, HMS.out, HL.out, HKL.out]
  · have g : (errS a b side == 0) = false := by simpa using hok
    have g' : (errS a b side != 0) = true := by rw [bne, g]; rfl
    have HOK := hid hok
    clear hok
    go_enter Try.func15, Try.ntmps15
    go_wp2_with fail
    refine (matches_any p q cp cq a b side _ h h').mono ?_
    rintro e w1 ⟨v, l, rfl, hl, HO1, hx1⟩
    clear hl
    go_wp2
    go_ret2
    exact ⟨_, [], rfl, (if_neg HOK.out).symm, OwnsL.nil _ _ _ _ _, hx1⟩

theorem errS_swap {a b : List Sp} {side : Int} (h : checkE2 a b = 0) : errS b a side = errS a b side := by
  obtain ⟨h1, h2⟩ := orE_ok.1 h
  have h3 : checkE2 b a = 0 := orE_ok.2 ⟨h2, h1⟩
  unfold errS
  rw [if_pos h, if_pos h3]
theorem errS_check {a b : List Sp} {side : Int} (h : ¬ checkE2 a b = 0) : errS a b side = checkE2 a b := by unfold errS; rw [if_neg h]

theorem lumps_any (p q : Option Addr) (cp cq : Nat) (a b : List Sp) (side : Int) (w : World) (h : SliceAt w encSp 7 p cp a) (h' : SliceAt w encSp 7 q cq b) :
    Calls Try.prog 16 #[.slice p a.length cp, .slice q b.length cq, .int .i64 side] w (SplitsPost w b a side (errS a b side)) := by
  by_cases hok : checkE2 a b = 0
  · have hsw := errS_swap (side := side) hok
    have HSW := hid hsw
    have HOK := hid hok
    clear hsw hok
    go_enter Try.func16, Try.ntmps16
    go_wp2_with fail
    refine (check2_any p q cp cq a b _ h h').mono ?_
    rintro e w1 ⟨rfl, hx1⟩
    rw [HOK.out]
    have HX1 := hid hx1
    clear hx1
    go_wp2_with fail
    refine (splits_any q p cq cp b a side _ (h'.ext HX1.out) (h.ext HX1.out)).mono ?_
    rintro e w2 ⟨v, l, rfl, hl, HO, hx2⟩
    rw [HSW.out] at hl ⊢
    have HL := hid hl
    clear hl
    go_wp2
    go_ret2
    exact ⟨v, l, rfl, HL.out, HO.of_base HX1.out.size, HX1.out.trans hx2⟩
  · have g : (checkE2 a b == 0) = false := by simpa using hok
    have g' : (checkE2 a b != 0) = true := by rw [bne, g]; rfl
    have hc := errS_check (side := side) hok
    have HC := hid hc
    have HOK := hid hok
    clear hok hc
    go_enter Try.func16, Try.ntmps16
    go_wp2_with fail
    refine (check2_any p q cp cq a b _ h h').mono ?_
    rintro e w1 ⟨rfl, hx1⟩
    go_wp2
    go_ret2
    refine ⟨_, [], ?_, ?_, OwnsL.nil _ _ _ _ _, hx1⟩
    · rw [HC.out]; rfl
    · rw [HC.out, if_neg HOK.out]

end Go.Proofs.Ytnedoaapnfpkfaa
