/-
  The contract of coinagebase.Check: the error of a list. Conditions: none beyond how the list reads.
-/
import Derived.Test.YtnedoaapnfpkfaaCoinbase
namespace Go.Proofs.Ytnedoaapnfpkfaa
open Go.RowKit

theorem dupB_at {l : List Sp} {i k : Nat} (hi : i < l.length) (hk : k < i) (he : l[i].id = l[k].id) : dupB l = true := by
  cases hd : dupB l
  · have hn := dupB_false.1 hd
    have := List.pairwise_iff_getElem.1 hn k i (by simpa using Nat.lt_trans hk hi) (by simpa using hi) hk
    simp only [List.getElem_map] at this
    exact absurd he.symm this
  · rfl

set_option maxHeartbeats 400000 in
theorem bcheck_any (p : Option Addr) (cap : Nat) (l : List Sp) (w : World) (h : SliceAt w encSp 7 p cap l) :
    Calls Try.prog 23 #[.slice p l.length cap] w fun e w' => e = .returned (.int .i64 (checkE l)) ∧ Ext w w' := by
  have hmax := h.max
  have hle := h.le
  unfold maxLen at hmax
  by_cases hlong : 64 < l.length
  · have hr : checkE l = 6 := by unfold checkE; rw [if_pos hlong]
    rw [hr]
    clear hr
    go_enter Try.func23, Try.ntmps23
    go_wp2
    go_ret
    exact ⟨rfl, Ext.refl _⟩
  go_enter Try.func23, Try.ntmps23
  go_wp2
  go_loopw [3] (fun i wr => ∃ k : Nat, k ≤ l.length ∧ i = .int .i64 k ∧ (∀ s ∈ l.take k, validB s = true) ∧ Ext w wr) (fun i _ => l.length - (intOf i).toNat)
  case atStart => exact ⟨0, by omega, rfl, by simp, Ext.refl _⟩
  case round =>
    obtain ⟨k, hk, rfl, hv, hx⟩ := hrel
    have HV := hid hv
    clear hv
    by_cases hlt : k < l.length
    · obtain ⟨b, off, rfl, hbk, c0, c1, c2, c3, c4, c5, c6⟩ := (h.ext hx).sp_at hlt
      go_wp2_with fail
      refine (bspecimen_any l[k] _).mono ?_
      rintro e w1 ⟨rfl, hb1⟩
      have HB1 := hid hb1
      clear hb1
      by_cases hval : validB l[k] = true
      · have HVL := hid hval
        go_wp2
        go_roundw
        case rel =>
          refine ⟨k + 1, by omega, by go_num, ?_, hx.trans HB1.out⟩
          intro s hs
          rw [List.take_succ_eq_append_getElem hlt] at hs
          rcases List.mem_append.1 hs with hs | hs
          · exact HV.out s hs
          · simp at hs; rw [hs]; exact HVL.out
        case measure => simp [intOf]; omega
      · have hval' : validB l[k] = false := by simpa using hval
        clear hval
        have hr : checkE l = 1 := by
          unfold checkE
          rw [if_neg hlong, if_pos]
          exact List.any_eq_true.2 ⟨l[k], List.getElem_mem hlt, by rw [hval']; rfl⟩
        have HR := hid hr
        clear hr
        go_wp2
        go_ret
        exact ⟨ret_int HR.out.symm, hx.trans HB1.out⟩
    · have hke : k = l.length := by omega
      subst hke
      have hv := HV.out
      rw [List.take_length] at hv
      have hv' : l.any (fun s => !validB s) = false := List.any_eq_false.2 (fun s hs => by simp [hv s hs])
      have HV' := hid hv'
      clear hv hv' HV
      go_wp2
      obtain ⟨wo, rfl⟩ : ∃ wo : World, wo = wr := ⟨_, rfl⟩
      go_loopw [4, 5] (fun i _ wr => ∃ k : Nat, k ≤ l.length ∧ i = .int .i64 k ∧ dupB (l.take k) = false ∧ Ext w wr) (fun i _ _ => l.length - (intOf i).toNat)
      case atStart => exact ⟨0, by omega, rfl, rfl, hx⟩
      case round =>
        obtain ⟨k, hk, rfl, hd, hx⟩ := hrel
        have HD := hid hd
        clear hd
        by_cases hlt : k < l.length
        · go_wp2
          obtain ⟨wo, rfl⟩ : ∃ wo : World, wo = wr := ⟨_, rfl⟩
          go_loopw [5] (fun i wr => ∃ t : Nat, t ≤ k ∧ i = .int .i64 t ∧ (∀ s ∈ l.take t, s.id ≠ l[k].id) ∧ Ext w wr) (fun i _ => k - (intOf i).toNat)
          case atStart => exact ⟨0, by omega, rfl, by simp, hx⟩
          case round =>
            obtain ⟨t, ht, rfl, hne, hx⟩ := hrel
            have HN := hid hne
            clear hne
            by_cases htk : t < k
            · have htl : t < l.length := by omega
              obtain ⟨b, off, rfl, hbk, c0, _⟩ := (h.ext hx).sp_at hlt
              obtain ⟨b', off', hpp, hbk', d0, _⟩ := (h.ext hx).sp_at htl
              cases hpp
              by_cases he : l[k].id = l[t].id
              · have hr : checkE l = 8 := by unfold checkE; rw [if_neg hlong, if_neg (by simp [HV'.out]), if_pos (dupB_at hlt htk he)]
                have HR := hid hr
                have ht : (l[k].id == l[t].id) = true := by simpa using he
                clear hr he
                go_wp2_with fail
                go_quiet (fail)
                go_wp2
                go_ret
                exact ⟨ret_int HR.out.symm, hx.drewN _⟩
              · have ht : (l[k].id == l[t].id) = false := by simpa using he
                have HE := hid he
                clear he
                go_wp2_with fail
                go_quiet (fail)
                go_wp2
                go_roundw
                case rel =>
                  refine ⟨t + 1, by omega, by go_num, ?_, hx.drewN _⟩
                  intro s hs
                  rw [List.take_succ_eq_append_getElem htl] at hs
                  rcases List.mem_append.1 hs with hs | hs
                  · exact HN.out s hs
                  · simp at hs; rw [hs]; exact fun e => HE.out e.symm
                case measure => simp [intOf]; omega
            · have hke : t = k := by omega
              subst hke
              go_wp2
              go_roundw
              case rel =>
                refine ⟨t + 1, by omega, by go_num, ?_, hx⟩
                rw [List.take_succ_eq_append_getElem hlt, dupB_snoc, HD.out, Bool.false_or, List.any_eq_false]
                intro s hs
                simpa using HN.out s hs
              case measure => simp [intOf]; omega
        · have hke : k = l.length := by omega
          subst hke
          have hr : checkE l = 0 := by
            have h1 := HD.out
            rw [List.take_length] at h1
            unfold checkE; rw [if_neg hlong, if_neg (by simp [HV'.out]), if_neg (by simp [h1])]
          have HR := hid hr
          clear hr
          go_wp2
          go_ret
          exact ⟨ret_int HR.out.symm, hx⟩

end Go.Proofs.Ytnedoaapnfpkfaa
