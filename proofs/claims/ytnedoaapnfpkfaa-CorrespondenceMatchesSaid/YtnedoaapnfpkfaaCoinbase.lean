/-
  Contracts of package coinagebase, as far as layer 18 reaches it: In, Number, Id, Specimen, Check, Has, and the comparisons of lists. Conditions: none beyond how the arguments read.
-/
import Derived.Test.YtnedoaapnfpkfaaEq
import Derived.Test.YtnedoaapnfpkfaaSpecimen
import Derived.Deep.QuietTactic
import Derived.BigQuiet
namespace Go.Proofs.Ytnedoaapnfpkfaa
open Go.RowKit

theorem bin_any (n lo hi : Int) (w : World) :
    Calls Try.prog 63 #[.int .i64 n, .int .i64 lo, .int .i64 hi] w fun e w' => e = .returned (.bool (inB n lo hi)) ∧ w = w' := by
  go_enter Try.func63, Try.ntmps63
  go_wp2
  · have h : lo ≤ n := by assumption
    go_ret
    exact ⟨ret_bool (by simp [inB, h]), rfl⟩
  · have h : n < lo := by assumption
    go_ret
    exact ⟨ret_bool (by have : ¬ lo ≤ n := by omega
                        simp [inB, this]), rfl⟩

theorem bnumber_any (n : Int) (w : World) :
    Calls Try.prog 62 #[.int .i64 n] w fun e w' => e = .returned (.bool (inB n 1 999)) ∧ w = w' := by
  go_enter Try.func62, Try.ntmps62
  go_wp2_with (go_at_call 63; refine (bin_any _ _ _ _).mono ?_; rintro e w' ⟨rfl, rfl⟩)
  go_ret
  exact ⟨rfl, rfl⟩
theorem bid_any (n : Int) (w : World) :
    Calls Try.prog 64 #[.int .i64 n] w fun e w' => e = .returned (.bool (inB n 1 9999)) ∧ w = w' := by
  go_enter Try.func64, Try.ntmps64
  go_wp2_with (go_at_call 63; refine (bin_any _ _ _ _).mono ?_; rintro e w' ⟨rfl, rfl⟩)
  go_ret
  exact ⟨rfl, rfl⟩

set_option maxHeartbeats 1000000 in
theorem bspecimen_any (s : Sp) (w : World) :
    Calls Try.prog 43 #[s.val] w fun e w' => e = .returned (.bool (validB s)) ∧ Ext w w' := by
  obtain ⟨i, o, r, os, rs, ax, wt⟩ := s
  have hv : validB ⟨i, o, r, os, rs, ax, wt⟩ = (inB o 1 999 && inB r 1 999 && inB os 1 9 && inB rs 1 9 && inB i 1 9999 && inB ax 0 11 && inB wt 1 200000) := rfl
  rw [hv]
  clear hv
  go_enter Try.func43, Try.ntmps43
  go_wp2_with (first
    | (go_at_call 62; refine (bnumber_any _ _).mono ?_; rintro e w' ⟨rfl, rfl⟩)
    | (go_at_call 64; refine (bid_any _ _).mono ?_; rintro e w' ⟨rfl, rfl⟩)
    | (go_at_call 63; refine (bin_any _ _ _ _).mono ?_; rintro e w' ⟨rfl, rfl⟩))
  all_goals
    go_ret
    refine ⟨ret_bool ?_, (Ext.refl _).alloc _⟩
    simp [*]

theorem bhas_any (p : Option Addr) (cap : Nat) (l : List Int) (n : Int) (w : World) (h : SliceAt w encI 1 p cap l) :
    Calls Try.prog 24 #[.slice p l.length cap, .int .i64 n] w fun e w' => e = .returned (.bool (decide (n ∈ l))) ∧ w = w' := by
  have hmax := h.max
  have hle := h.le
  unfold maxLen at hmax
  go_enter Try.func24, Try.ntmps24
  go_wp2
  go_loop [5] (fun i => ∃ k : Nat, k ≤ l.length ∧ i = .int .i64 k ∧ n ∉ l.take k) (fun i => l.length - (intOf i).toNat)
  case atStart => exact ⟨0, by omega, rfl, by simp⟩
  case round =>
    obtain ⟨k, hk, rfl, hn⟩ := hrel
    have HN := hid hn
    clear hn
    by_cases hlt : k < l.length
    · obtain ⟨b, off, rfl, hbk, hc⟩ := h.int_at hlt
      by_cases he : l[k] = n
      · have he' : (l[k] == n) = true := by simpa using he
        have hr : decide (n ∈ l) = true := by simp; rw [← he]; exact List.getElem_mem hlt
        have HR := hid hr
        clear hr he
        go_wp2
        go_ret
        exact ⟨ret_bool HR.out.symm, rfl⟩
      · have he' : (l[k] == n) = false := by simpa using he
        have HE := hid he
        clear he
        go_wp2
        go_round
        case rel =>
          refine ⟨k + 1, by omega, by go_num, ?_⟩
          rw [List.take_succ_eq_append_getElem hlt, List.mem_append]
          rintro (h1 | h1)
          · exact HN.out h1
          · simp at h1; exact HE.out h1.symm
        case measure => simp [intOf]; omega
    · have hke : k = l.length := by omega
      subst hke
      have hr : decide (n ∈ l) = false := by have := HN.out; rw [List.take_length] at this; simpa using this
      have HR := hid hr
      clear hr
      go_wp2
      go_ret
      exact ⟨ret_bool HR.out.symm, rfl⟩

end Go.Proofs.Ytnedoaapnfpkfaa
