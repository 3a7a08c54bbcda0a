/-
  Contracts of the comparisons of lists of package coinagebase: Ints, Pairs, Entries, Specimens. Printed by wip/gen_cmp.py. Conditions: none beyond how the arguments read.
-/
import Derived.Test.YtnedoaapnfpkfaaCoinbase
namespace Go.Proofs.Ytnedoaapnfpkfaa
open Go.RowKit

theorem SliceAt.pair_at {w : World} {p : Option Addr} {cap : Nat} {l : List (Int × Int)} (h : SliceAt w encP 2 p cap l) {j : Nat} (hj : j < l.length) :
    ∃ b off, p = some ⟨b, off, none⟩ ∧ b < w.heap.size ∧ w.cell? ⟨b, off + j * 2, none⟩ = some (.int .i64 l[j].1) ∧ w.cell? ⟨b, off + j * 2 + 1, none⟩ = some (.int .i64 l[j].2) := by
  obtain ⟨b, off, hp, hb, hc⟩ := h.place (by omega)
  exact ⟨b, off, hp, hb, hc j hj 0 _ rfl, hc j hj 1 _ rfl⟩

/-- The comparison of lists of ints. -/
theorem bints_any (p q : Option Addr) (cap cap' : Nat) (l m : List Int) (w : World) (h : SliceAt w encI 1 p cap l) (h' : SliceAt w encI 1 q cap' m) :
    Calls Try.prog 21 #[.slice p l.length cap, .slice q m.length cap'] w fun e w' => e = .returned (.bool (decide (l = m))) ∧ Ext w w' := by
  have hmax := h.max
  have hle := h.le
  have hmax' := h'.max
  have hle' := h'.le
  unfold maxLen at hmax hmax'
  by_cases hlen : l.length = m.length
  · have hb : ((l.length : Int) == (m.length : Int)) = true := by rw [beq_iff_eq]; omega
    have HL := hid hlen
    clear hlen
    have hne : ((l.length : Int) != (m.length : Int)) = false := by rw [bne, hb]; rfl
    go_enter Try.func21, Try.ntmps21
    go_wp2
    go_loopw [5] (fun i wr => ∃ k : Nat, k ≤ l.length ∧ i = .int .i64 k ∧ l.take k = m.take k ∧ Ext w wr) (fun i _ => l.length - (intOf i).toNat)
    case atStart => exact ⟨0, by omega, rfl, rfl, Ext.refl _⟩
    case round =>
      obtain ⟨k, hk, rfl, hn, hx⟩ := hrel
      have HN := hid hn
      clear hn
      by_cases hlt : k < l.length
      · have hlt' : k < m.length := by have := HL.out; omega
        obtain ⟨b, off, rfl, hbk, hc⟩ := (h.ext hx).int_at hlt
        obtain ⟨b', off', rfl, hbk', hc'⟩ := (h'.ext hx).int_at hlt'
        by_cases he : l[k] = m[k]
        · have ht : (l[k] != m[k]) = false := by rw [he]; simp
          have HE := hid he
          clear he
          go_wp2_with fail
          go_quiet (fail)
          go_wp2
          go_roundw
          case rel =>
            refine ⟨k + 1, by omega, by go_num, ?_, hx.drewN _⟩
            rw [List.take_succ_eq_append_getElem hlt, List.take_succ_eq_append_getElem hlt', HN.out, HE.out]
          case measure => simp [intOf]; omega
        · have ht : (l[k] != m[k]) = true := by simpa using he
          have hr : decide (l = m) = false := by
            simp only [decide_eq_false_iff_not]; intro e; apply he; simp only [e]
          have HR := hid hr
          clear hr he
          go_wp2_with fail
          go_quiet (fail)
          go_wp2
          go_ret
          exact ⟨ret_bool HR.out.symm, hx.drewN _⟩
      · have hke : k = l.length := by omega
        subst hke
        have hr : decide (l = m) = true := by
          have h1 := HN.out
          have h2 := HL.out
          rw [List.take_length, h2, List.take_length] at h1
          simp only [decide_eq_true_eq]; exact h1
        have HR := hid hr
        clear hr
        go_wp2
        go_ret
        exact ⟨ret_bool HR.out.symm, hx⟩
  · have hb : ((l.length : Int) == (m.length : Int)) = false := by simp; omega
    have hne : ((l.length : Int) != (m.length : Int)) = true := by rw [bne, hb]; rfl
    have hr : decide (l = m) = false := by simp; intro e; exact hlen (by rw [e])
    have HR := hid hr
    clear hr hlen
    go_enter Try.func21, Try.ntmps21
    go_wp2
    go_ret
    exact ⟨ret_bool HR.out.symm, Ext.refl _⟩


/-- The comparison of lists of pairs. -/
theorem bpairs_any (p q : Option Addr) (cap cap' : Nat) (l m : List (Int × Int)) (w : World) (h : SliceAt w encP 2 p cap l) (h' : SliceAt w encP 2 q cap' m) :
    Calls Try.prog 11 #[.slice p l.length cap, .slice q m.length cap'] w fun e w' => e = .returned (.bool (decide (l = m))) ∧ Ext w w' := by
  have hmax := h.max
  have hle := h.le
  have hmax' := h'.max
  have hle' := h'.le
  unfold maxLen at hmax hmax'
  by_cases hlen : l.length = m.length
  · have hb : ((l.length : Int) == (m.length : Int)) = true := by rw [beq_iff_eq]; omega
    have HL := hid hlen
    clear hlen
    have hne : ((l.length : Int) != (m.length : Int)) = false := by rw [bne, hb]; rfl
    go_enter Try.func11, Try.ntmps11
    go_wp2
    go_loopw [5] (fun i wr => ∃ k : Nat, k ≤ l.length ∧ i = .int .i64 k ∧ l.take k = m.take k ∧ Ext w wr) (fun i _ => l.length - (intOf i).toNat)
    case atStart => exact ⟨0, by omega, rfl, rfl, Ext.refl _⟩
    case round =>
      obtain ⟨k, hk, rfl, hn, hx⟩ := hrel
      have HN := hid hn
      clear hn
      by_cases hlt : k < l.length
      · have hlt' : k < m.length := by have := HL.out; omega
        obtain ⟨b, off, rfl, hbk, c0, c1⟩ := (h.ext hx).pair_at hlt
        obtain ⟨b', off', rfl, hbk', d0, d1⟩ := (h'.ext hx).pair_at hlt'
        have hneq := neq_pair l[k] m[k]
        have hgrd := fun xo yo => guard_pair .neq xo yo l[k] m[k]
        by_cases he : l[k] = m[k]
        · have ht : (!decide (l[k] = m[k])) = false := by rw [he]; simp
          have HE := hid he
          clear he
          go_wp2_with fail
          go_quiet (fail)
          go_wp2
          go_roundw
          case rel =>
            refine ⟨k + 1, by omega, by go_num, ?_, hx.drewN _⟩
            rw [List.take_succ_eq_append_getElem hlt, List.take_succ_eq_append_getElem hlt', HN.out, HE.out]
          case measure => simp [intOf]; omega
        · have ht : (!decide (l[k] = m[k])) = true := by simpa using he
          have hr : decide (l = m) = false := by
            simp only [decide_eq_false_iff_not]; intro e; apply he; simp only [e]
          have HR := hid hr
          clear hr he
          go_wp2_with fail
          go_quiet (fail)
          go_wp2
          go_ret
          exact ⟨ret_bool HR.out.symm, hx.drewN _⟩
      · have hke : k = l.length := by omega
        subst hke
        have hr : decide (l = m) = true := by
          have h1 := HN.out
          have h2 := HL.out
          rw [List.take_length, h2, List.take_length] at h1
          simp only [decide_eq_true_eq]; exact h1
        have HR := hid hr
        clear hr
        go_wp2
        go_ret
        exact ⟨ret_bool HR.out.symm, hx⟩
  · have hb : ((l.length : Int) == (m.length : Int)) = false := by simp; omega
    have hne : ((l.length : Int) != (m.length : Int)) = true := by rw [bne, hb]; rfl
    have hr : decide (l = m) = false := by simp; intro e; exact hlen (by rw [e])
    have HR := hid hr
    clear hr hlen
    go_enter Try.func11, Try.ntmps11
    go_wp2
    go_ret
    exact ⟨ret_bool HR.out.symm, Ext.refl _⟩


/-- The comparison of lists of entries. -/
theorem bentries_any (p q : Option Addr) (cap cap' : Nat) (l m : List (Int × Int)) (w : World) (h : SliceAt w encP 2 p cap l) (h' : SliceAt w encP 2 q cap' m) :
    Calls Try.prog 22 #[.slice p l.length cap, .slice q m.length cap'] w fun e w' => e = .returned (.bool (decide (l = m))) ∧ Ext w w' := by
  have hmax := h.max
  have hle := h.le
  have hmax' := h'.max
  have hle' := h'.le
  unfold maxLen at hmax hmax'
  by_cases hlen : l.length = m.length
  · have hb : ((l.length : Int) == (m.length : Int)) = true := by rw [beq_iff_eq]; omega
    have HL := hid hlen
    clear hlen
    have hne : ((l.length : Int) != (m.length : Int)) = false := by rw [bne, hb]; rfl
    go_enter Try.func22, Try.ntmps22
    go_wp2
    go_loopw [5] (fun i wr => ∃ k : Nat, k ≤ l.length ∧ i = .int .i64 k ∧ l.take k = m.take k ∧ Ext w wr) (fun i _ => l.length - (intOf i).toNat)
    case atStart => exact ⟨0, by omega, rfl, rfl, Ext.refl _⟩
    case round =>
      obtain ⟨k, hk, rfl, hn, hx⟩ := hrel
      have HN := hid hn
      clear hn
      by_cases hlt : k < l.length
      · have hlt' : k < m.length := by have := HL.out; omega
        obtain ⟨b, off, rfl, hbk, c0, c1⟩ := (h.ext hx).pair_at hlt
        obtain ⟨b', off', rfl, hbk', d0, d1⟩ := (h'.ext hx).pair_at hlt'
        have hneq := neq_entry l[k] m[k]
        have hgrd := fun xo yo => guard_entry .neq xo yo l[k] m[k]
        by_cases he : l[k] = m[k]
        · have ht : (!decide (l[k] = m[k])) = false := by rw [he]; simp
          have HE := hid he
          clear he
          go_wp2_with fail
          go_quiet (fail)
          go_wp2
          go_roundw
          case rel =>
            refine ⟨k + 1, by omega, by go_num, ?_, hx.drewN _⟩
            rw [List.take_succ_eq_append_getElem hlt, List.take_succ_eq_append_getElem hlt', HN.out, HE.out]
          case measure => simp [intOf]; omega
        · have ht : (!decide (l[k] = m[k])) = true := by simpa using he
          have hr : decide (l = m) = false := by
            simp only [decide_eq_false_iff_not]; intro e; apply he; simp only [e]
          have HR := hid hr
          clear hr he
          go_wp2_with fail
          go_quiet (fail)
          go_wp2
          go_ret
          exact ⟨ret_bool HR.out.symm, hx.drewN _⟩
      · have hke : k = l.length := by omega
        subst hke
        have hr : decide (l = m) = true := by
          have h1 := HN.out
          have h2 := HL.out
          rw [List.take_length, h2, List.take_length] at h1
          simp only [decide_eq_true_eq]; exact h1
        have HR := hid hr
        clear hr
        go_wp2
        go_ret
        exact ⟨ret_bool HR.out.symm, hx⟩
  · have hb : ((l.length : Int) == (m.length : Int)) = false := by simp; omega
    have hne : ((l.length : Int) != (m.length : Int)) = true := by rw [bne, hb]; rfl
    have hr : decide (l = m) = false := by simp; intro e; exact hlen (by rw [e])
    have HR := hid hr
    clear hr hlen
    go_enter Try.func22, Try.ntmps22
    go_wp2
    go_ret
    exact ⟨ret_bool HR.out.symm, Ext.refl _⟩


/-- The comparison of lists of specimens. -/
theorem bspecimens_any (p q : Option Addr) (cap cap' : Nat) (l m : List Sp) (w : World) (h : SliceAt w encSp 7 p cap l) (h' : SliceAt w encSp 7 q cap' m) :
    Calls Try.prog 12 #[.slice p l.length cap, .slice q m.length cap'] w fun e w' => e = .returned (.bool (decide (l = m))) ∧ Ext w w' := by
  have hmax := h.max
  have hle := h.le
  have hmax' := h'.max
  have hle' := h'.le
  unfold maxLen at hmax hmax'
  by_cases hlen : l.length = m.length
  · have hb : ((l.length : Int) == (m.length : Int)) = true := by rw [beq_iff_eq]; omega
    have HL := hid hlen
    clear hlen
    have hne : ((l.length : Int) != (m.length : Int)) = false := by rw [bne, hb]; rfl
    go_enter Try.func12, Try.ntmps12
    go_wp2
    go_loopw [5] (fun i wr => ∃ k : Nat, k ≤ l.length ∧ i = .int .i64 k ∧ l.take k = m.take k ∧ Ext w wr) (fun i _ => l.length - (intOf i).toNat)
    case atStart => exact ⟨0, by omega, rfl, rfl, Ext.refl _⟩
    case round =>
      obtain ⟨k, hk, rfl, hn, hx⟩ := hrel
      have HN := hid hn
      clear hn
      by_cases hlt : k < l.length
      · have hlt' : k < m.length := by have := HL.out; omega
        obtain ⟨b, off, rfl, hbk, c0, c1, c2, c3, c4, c5, c6⟩ := (h.ext hx).sp_at hlt
        obtain ⟨b', off', rfl, hbk', d0, d1, d2, d3, d4, d5, d6⟩ := (h'.ext hx).sp_at hlt'
        have hneq := neq_sp l[k] m[k]
        have hgrd := fun xo yo => guard_sp .neq xo yo l[k] m[k]
        by_cases he : l[k] = m[k]
        · have ht : (!decide (l[k] = m[k])) = false := by rw [he]; simp
          have HE := hid he
          clear he
          go_wp2_with fail
          go_quiet (fail)
          go_wp2
          go_roundw
          case rel =>
            refine ⟨k + 1, by omega, by go_num, ?_, hx.drewN _⟩
            rw [List.take_succ_eq_append_getElem hlt, List.take_succ_eq_append_getElem hlt', HN.out, HE.out]
          case measure => simp [intOf]; omega
        · have ht : (!decide (l[k] = m[k])) = true := by simpa using he
          have hr : decide (l = m) = false := by
            simp only [decide_eq_false_iff_not]; intro e; apply he; simp only [e]
          have HR := hid hr
          clear hr he
          go_wp2_with fail
          go_quiet (fail)
          go_wp2
          go_ret
          exact ⟨ret_bool HR.out.symm, hx.drewN _⟩
      · have hke : k = l.length := by omega
        subst hke
        have hr : decide (l = m) = true := by
          have h1 := HN.out
          have h2 := HL.out
          rw [List.take_length, h2, List.take_length] at h1
          simp only [decide_eq_true_eq]; exact h1
        have HR := hid hr
        clear hr
        go_wp2
        go_ret
        exact ⟨ret_bool HR.out.symm, hx⟩
  · have hb : ((l.length : Int) == (m.length : Int)) = false := by simp; omega
    have hne : ((l.length : Int) != (m.length : Int)) = true := by rw [bne, hb]; rfl
    have hr : decide (l = m) = false := by simp; intro e; exact hlen (by rw [e])
    have HR := hid hr
    clear hr hlen
    go_enter Try.func12, Try.ntmps12
    go_wp2
    go_ret
    exact ⟨ret_bool HR.out.symm, Ext.refl _⟩


end Go.Proofs.Ytnedoaapnfpkfaa
