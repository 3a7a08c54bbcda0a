/-
  Contracts of specimen.Check and of the check of two studies: the error of a list. Conditions: none beyond how the list reads.
-/
import Derived.Test.YtnedoaapnfpkfaaSpecimen
namespace Go.Proofs.Ytnedoaapnfpkfaa
open Go.RowKit Go.Maps

theorem Try.keyed3 : Keyed Try.prog 3 := int_keyed Try.underlying3
theorem key_i64 {n : Int} (h : -9223372036854775808 ≤ n ∧ n ≤ 9223372036854775807) : keyOf Try.prog 3 (ekI n) = some (.int .i64 n) :=
  keyOf_int_mk Try.underlying3 (WalkArith.wf_i64 (by omega))
theorem zero_bool (w : World) : (zeroValue 4).run Try.prog w = .ok (evB false) w := by kernel_rfl

/-- Which Ids have been seen. -/
def Seen (m : List (Int × Bool)) (l : List Sp) : Prop := ∀ x, (alook m x).getD false = l.any (fun t => t.id == x)
theorem Seen.nil : Seen [] [] := fun _ => rfl
theorem Seen.step {m : List (Int × Bool)} {l : List Sp} (h : Seen m l) (hn : (m.map (·.1)).Nodup) (s : Sp) : Seen (aset m s.id true) (l ++ [s]) := by
  intro x
  rw [alook_aset hn, List.any_append]
  by_cases e : s.id = x
  · simp [e]
  · rw [if_neg e, h x]; simp [e]

set_option maxRecDepth 10000 in
theorem check_any (p : Option Addr) (cap : Nat) (l : List Sp) (w : World) (h : SliceAt w encSp 7 p cap l) :
    Calls Try.prog 59 #[.slice p l.length cap] w fun e w' => e = .returned (.int .i64 (checkE l)) ∧ Ext w w' := by
  have hmax := h.max
  have hle := h.le
  unfold maxLen at hmax
  have hmm := @run_makeMap Try.prog
  by_cases hlong : 64 < l.length
  · have hr : checkE l = 6 := by unfold checkE; rw [if_pos hlong]
    rw [hr]
    clear hr
    go_enter Try.func59, Try.ntmps59
    go_wp2
    go_ret
    exact ⟨rfl, Ext.refl _⟩
  go_enter Try.func59, Try.ntmps59
  go_wp2
  go_loopw [4, 6, 13] (fun tw _ i wr => ∃ (k : Nat) (m : List (Int × Bool)), k ≤ l.length ∧ i = .int .i64 k ∧ tw = .bool (dupB (l.take k)) ∧ (∀ s ∈ l.take k, validB s = true) ∧ MapAt wr Try.prog 3 ekI evB w.heap.size m ∧ Seen m (l.take k) ∧ Ext w wr) (fun _ _ i _ => l.length - (intOf i).toNat)
  case atStart => exact ⟨0, [], by omega, rfl, rfl, by simp, MapAt.made _ _ _ _ _, Seen.nil, (Ext.refl _).alloc _⟩
  case round =>
    obtain ⟨k, m, hk, rfl, rfl, hv, hm, hs, hx⟩ := hrel
    have HV := hid hv
    have HM := hid hm
    have HS := hid hs
    clear hv hm hs
    by_cases hlt : k < l.length
    · obtain ⟨b, off, rfl, hbk, c0, c1, c2, c3, c4, c5, c6⟩ := (h.ext hx).sp_at hlt
      go_wp2_with fail
      refine (valid_any l[k] _).mono ?_
      rintro e w1 ⟨rfl, hb1⟩
      have HM1 := (HM.out.alloc _).ext hb1
      have HB1 := hid (hb1)
      obtain ⟨s0, s1, s2, s3, s4, s5, s6⟩ := cells7 (blk_ext hb1 (blk_new _ _))
      clear hb1
      by_cases hval : validB l[k] = true
      · have hrange := (validB_iff.1 hval).2.2.2.2.1
        have hkey := key_i64 (n := l[k].id) (by omega)
        have hlook := HM1.look (t := 130) ekI_inj Try.keyed3 Try.underlying130 (zero_bool _) hkey false
        rw [HS.out l[k].id] at hlook
        simp only [ekI, evB, Bool.false_eq_true, if_false] at hlook
        generalize hsn : (List.take k l).any (fun t => t.id == l[k].id) = sn at hlook
        have HSN := hid hsn
        have HRG := hid hrange
        clear hsn hrange
        obtain ⟨w2, hst, hm2, hg2⟩ := HM1.store ekI_inj Try.keyed3 Try.underlying130 hkey true
        simp only [ekI, evB] at hst
        have HM2 := hid hm2
        have HG2 := hid hg2
        have HVL := hid hval
        have hend : ∀ tw, (dupB (List.take k l) || sn) = tw → ∃ (k_1 : Nat) (m' : List (Int × Bool)), k_1 ≤ l.length ∧ Value.int .i64 ((k : Int) + 1) = .int .i64 k_1 ∧ Value.bool tw = .bool (dupB (l.take k_1)) ∧ (∀ s ∈ l.take k_1, validB s = true) ∧ MapAt w2 Try.prog 3 ekI evB w.heap.size m' ∧ Seen m' (l.take k_1) ∧ Ext w w2 := by
          intro tw htw
          refine ⟨k + 1, aset m l[k].id true, by omega, by go_num, ?_, ?_, HM2.out, ?_, ((hx.alloc _).trans HB1.out).grown HG2.out (Nat.le_refl _)⟩
          · rw [List.take_succ_eq_append_getElem hlt, dupB_snoc, HSN.out, htw]
          · intro s hs
            rw [List.take_succ_eq_append_getElem hlt] at hs
            rcases List.mem_append.1 hs with hs | hs
            · exact HV.out s hs
            · simp at hs; rw [hs]; exact hval
          · rw [List.take_succ_eq_append_getElem hlt]
            exact HS.out.step HM.out.nodup l[k]
        have HEND := hid hend
        clear hkey HM1 hm2 hg2 hend
        cases hd : dupB (List.take k l)
        · have HD := hid hd
          clear hd
          go_wp2
          go_roundw
          case rel => exact HEND.out sn (by rw [HD.out]; rfl)
          case measure => simp [intOf]; omega
        · have HD := hid hd
          clear hd
          go_wp2
          go_roundw
          case rel => exact HEND.out true (by rw [HD.out]; rfl)
          case measure => simp [intOf]; omega
      · have hval' : validB l[k] = false := by simpa using hval
        clear hval
        have hr : checkE l = 1 := by
          unfold checkE
          rw [if_neg hlong, if_pos]
          exact List.any_eq_true.2 ⟨l[k], List.getElem_mem hlt, by rw [hval']; rfl⟩
        have HR := hid hr
        clear hr
        go_wp2
        go_ret
        exact ⟨ret_int HR.out.symm, (hx.alloc _).trans HB1.out⟩
    · have hke : k = l.length := by omega
      subst hke
      have hv := HV.out
      rw [List.take_length] at hv
      have hv' : l.any (fun s => !validB s) = false := List.any_eq_false.2 (fun s hs => by simp [hv s hs])
      cases hd : dupB l
      · have hr : checkE l = 0 := by unfold checkE; rw [if_neg hlong, if_neg (by simp [hv']), if_neg (by simp [hd])]
        have HR := hid hr
        rw [List.take_length, hd]
        clear hr hv hv' hd
        go_wp2
        go_ret
        exact ⟨ret_int HR.out.symm, hx⟩
      · have hr : checkE l = 8 := by unfold checkE; rw [if_neg hlong, if_neg (by simp [hv']), if_pos hd]
        have HR := hid hr
        rw [List.take_length, hd]
        clear hr hv hv' hd
        go_wp2
        go_ret
        exact ⟨ret_int HR.out.symm, hx⟩

end Go.Proofs.Ytnedoaapnfpkfaa
