/-
  Contracts of package specimen, as far as the statements reach it: in, Valid, Check, Find; and cmp.Or of error codes. Conditions: lists are shorter than 2^40.
-/
import Derived.Test.YtnedoaapnfpkfaaRows
import Derived.Test.YtnedoaapnfpkfaaBase
import Derived.Test.YtnedoaapnfpkfaaMap
import Derived.Test.YtnedoaapnfpkfaaSp

namespace Go.Proofs.Ytnedoaapnfpkfaa
open Go.RowKit Go.Maps

theorem in_any (n lo hi : Int) (w : World) :
    Calls Try.prog 98 #[.int .i64 n, .int .i64 lo, .int .i64 hi] w fun e w' => e = .returned (.bool (inB n lo hi)) ∧ w = w' := by
  go_enter Try.func98, Try.ntmps98
  go_wp2
  · have h : lo ≤ n := by assumption
    go_ret
    exact ⟨ret_bool (by simp [inB, h]), rfl⟩
  · have h : n < lo := by assumption
    go_ret
    exact ⟨ret_bool (by have : ¬ lo ≤ n := by omega
                        simp [inB, this]), rfl⟩

set_option maxHeartbeats 400000 in
theorem valid_any (s : Sp) (w : World) :
    Calls Try.prog 84 #[s.val] w fun e w' => e = .returned (.bool (validB s)) ∧ Ext w w' := by
  obtain ⟨i, o, r, os, rs, ax, wt⟩ := s
  have hv : validB ⟨i, o, r, os, rs, ax, wt⟩ = (inB o 1 999 && inB r 1 999 && inB os 1 9 && inB rs 1 9 && inB i 1 9999 && inB ax 0 11 && inB wt 1 200000) := rfl
  rw [hv]
  clear hv
  go_enter Try.func84, Try.ntmps84
  go_wp2_with (go_at_call 98; refine (in_any _ _ _ _).mono ?_; rintro e w' ⟨rfl, rfl⟩)
  all_goals
    go_ret
    refine ⟨ret_bool ?_, (Ext.refl _).alloc _⟩
    simp [*]

theorem or_errno (b : Nat) (x y : Int) (w : World) (h0 : w.cell? ⟨b, 0, none⟩ = some (.int .i64 x)) (h1 : w.cell? ⟨b, 1, none⟩ = some (.int .i64 y)) :
    Calls Try.prog 58 #[.slice (some ⟨b, 0, none⟩) 2 2] w fun e w' => e = .returned (.int .i64 (orE x y)) ∧ w = w' := by
  by_cases hx : x = 0
  · subst hx
    have hx0 : ((0 : Int) == 0) = true := rfl
    by_cases hy : y = 0
    · subst hy
      go_enter Try.func58, Try.ntmps58
      go_wp2
      refine wp_loop_rounds 3 ?_
      rw [rounds_succ]
      go_wp2
      rw [rounds_succ]
      go_wp2
      rw [rounds_succ]
      go_wp2
      go_ret
      exact ⟨ret_int (orE_zero 0).symm, rfl⟩
    · have hy' : (y == 0) = false := by simpa using hy
      go_enter Try.func58, Try.ntmps58
      go_wp2
      refine wp_loop_rounds 2 ?_
      rw [rounds_succ]
      go_wp2
      rw [rounds_succ]
      go_wp2
      go_ret
      exact ⟨ret_int (orE_zero y).symm, rfl⟩
  · have hx' : (x == 0) = false := by simpa using hx
    have HXX := hid hx
    clear hx
    go_enter Try.func58, Try.ntmps58
    go_wp2
    refine wp_loop_rounds 1 ?_
    rw [rounds_succ]
    go_wp2
    go_ret
    exact ⟨ret_int (orE_other HXX.out).symm, rfl⟩


theorem cells7 {w : World} {b : Nat} {t : TypeId} {v0 v1 v2 v3 v4 v5 v6 : Value} (h : w.heap[b]? = some (.cells #[v0, v1, v2, v3, v4, v5, v6] t (0, 0))) :
    w.cell? ⟨b, 0, none⟩ = some v0 ∧ w.cell? ⟨b, 1, none⟩ = some v1 ∧ w.cell? ⟨b, 2, none⟩ = some v2 ∧ w.cell? ⟨b, 3, none⟩ = some v3 ∧ w.cell? ⟨b, 4, none⟩ = some v4 ∧ w.cell? ⟨b, 5, none⟩ = some v5 ∧ w.cell? ⟨b, 6, none⟩ = some v6 := by
  simp [World.cell?, h]
theorem free7 {w : World} {b : Nat} {t : TypeId} {v0 v1 v2 v3 v4 v5 v6 : Value} (h : w.heap[b]? = some (.cells #[v0, v1, v2, v3, v4, v5, v6] t (0, 0))) :
    w.frozen? ⟨b, 0, none⟩ = false ∧ w.frozen? ⟨b, 1, none⟩ = false ∧ w.frozen? ⟨b, 2, none⟩ = false ∧ w.frozen? ⟨b, 3, none⟩ = false ∧ w.frozen? ⟨b, 4, none⟩ = false ∧ w.frozen? ⟨b, 5, none⟩ = false ∧ w.frozen? ⟨b, 6, none⟩ = false := by
  simp [World.frozen?, h]

/-- The seven cells of a specimen of a list, in Int's words of the walk. -/
theorem SliceAt.sp_at {w : World} {p : Option Addr} {cap : Nat} {l : List Sp} (h : SliceAt w encSp 7 p cap l) {j : Nat} (hj : j < l.length) :
    ∃ b off, p = some ⟨b, off, none⟩ ∧ b < w.heap.size ∧ w.cell? ⟨b, off + j * 7, none⟩ = some (.int .i64 l[j].id) ∧ w.cell? ⟨b, off + j * 7 + 1, none⟩ = some (.int .i64 l[j].obv) ∧ w.cell? ⟨b, off + j * 7 + 2, none⟩ = some (.int .i64 l[j].rev) ∧
      w.cell? ⟨b, off + j * 7 + 3, none⟩ = some (.int .i64 l[j].os) ∧ w.cell? ⟨b, off + j * 7 + 4, none⟩ = some (.int .i64 l[j].rs) ∧ w.cell? ⟨b, off + j * 7 + 5, none⟩ = some (.int .i64 l[j].ax) ∧ w.cell? ⟨b, off + j * 7 + 6, none⟩ = some (.int .i64 l[j].wt) := by
  obtain ⟨b, off, hp, hb, hc⟩ := h.place (by omega)
  exact ⟨b, off, hp, hb, hc j hj 0 _ rfl, hc j hj 1 _ rfl, hc j hj 2 _ rfl, hc j hj 3 _ rfl, hc j hj 4 _ rfl, hc j hj 5 _ rfl, hc j hj 6 _ rfl⟩

theorem findS_take_none {l : List Sp} {n : Int} : ∀ {k : Nat} (hk : k < l.length), findS (l.take k) n = none → (l[k].id == n) = true → findS l n = some l[k] := by
  intro k hk h0 h1
  have e : l = l.take k ++ l[k] :: l.drop (k + 1) := by simp
  have : findS (l.take k ++ l[k] :: l.drop (k + 1)) n = some l[k] := by
    unfold findS at h0 ⊢
    rw [List.find?_append, h0]
    simp only [List.find?_cons, h1, Option.none_or]
  rw [← e] at this
  exact this
theorem findS_take_succ {l : List Sp} {n : Int} {k : Nat} (hk : k < l.length) (h0 : findS (l.take k) n = none) (h1 : (l[k].id == n) = false) : findS (l.take (k + 1)) n = none := by
  rw [List.take_succ_eq_append_getElem hk]
  unfold findS at h0 ⊢
  rw [List.find?_append, h0]
  simp [h1]

set_option maxHeartbeats 400000 in
theorem find_any (p : Option Addr) (cap : Nat) (l : List Sp) (n : Int) (w : World) (h : SliceAt w encSp 7 p cap l) :
    Calls Try.prog 36 #[.slice p l.length cap, .int .i64 n] w fun e w' => ∃ s : Sp, e = .returned (.tuple #[s.val, .bool (findS l n).isSome]) ∧ s = (findS l n).getD zeroSp ∧ Ext w w' := by
  have hmax := h.max
  have hle := h.le
  unfold maxLen at hmax
  go_enter Try.func36, Try.ntmps36
  go_wp2
  go_loopw [7, 10] (fun _ i wr => ∃ k : Nat, k ≤ l.length ∧ i = .int .i64 k ∧ findS (l.take k) n = none ∧ Ext w wr ∧ wr.heap[w.heap.size]? = some (.cells #[.int .i64 0, .int .i64 0, .int .i64 0, .int .i64 0, .int .i64 0, .int .i64 0, .int .i64 0] 39 (0, 0))) (fun _ i _ => l.length - (intOf i).toNat)
  case atStart => exact ⟨0, by omega, rfl, rfl, (Ext.refl _).alloc _, blk_new _ _⟩
  case round =>
    obtain ⟨k, hk, rfl, hn, hx, hb⟩ := hrel
    have HN := hid hn
    have HB := hid hb
    obtain ⟨r0, r1, r2, r3, r4, r5, r6⟩ := cells7 hb
    obtain ⟨q0, q1, q2, q3, q4, q5, q6⟩ := free7 hb
    have hz : w.heap.size < wr.heap.size := lt_of_block hb
    clear hn hb
    by_cases hlt : k < l.length
    · obtain ⟨b, off, rfl, hbk, c0, c1, c2, c3, c4, c5, c6⟩ := (h.ext hx).sp_at hlt
      go_wp2
      · have he : (l[k].id == n) = true := by assumption
        have hf := findS_take_none hlt HN.out he
        refine bodyPost_at fun W hW => ?_
        have hxW : Ext w W := by rw [hW]; with_reducible (repeat (first | apply Ext.alloc | (refine Ext.setCell ?_ (Nat.le_refl _) _) | exact hx))
        have hbW := cells7 (w := W) (by rw [hW]; exact blk_alloc (set7 HB.out _ _ _ _ _ _ _))
        clear hW
        obtain ⟨s0, s1, s2, s3, s4, s5, s6⟩ := hbW
        refine bodyPost_ret (v := .tuple #[l[k].val, .bool true]) (by simp [results, Try.results36, go_sem, s0, s1, s2, s3, s4, s5, s6]) rfl ?_
        exact ⟨l[k], by rw [hf]; rfl, by rw [hf]; rfl, hxW⟩
      · have he : (l[k].id == n) = false := by assumption
        have hf := findS_take_succ hlt HN.out he
        go_roundw
        case rel => exact ⟨k + 1, by omega, by go_num, hf, hx.alloc _, blk_alloc HB.out⟩
        case measure => simp [intOf]; omega
    · have hke : k = l.length := by omega
      subst hke
      go_wp2
      have hf : findS l n = none := by have := HN.out; rwa [List.take_length] at this
      refine bodyPost_at fun W hW => ?_
      have hxW : Ext w W := by rw [hW]; with_reducible (repeat (first | apply Ext.alloc | (refine Ext.setCell ?_ (Nat.le_refl _) _) | exact hx))
      have hbW := cells7 (w := W) (by rw [hW]; exact set7 HB.out _ _ _ _ _ _ _)
      clear hW
      obtain ⟨s0, s1, s2, s3, s4, s5, s6⟩ := hbW
      refine bodyPost_ret (v := .tuple #[zeroSp.val, .bool false]) (by simp [results, Try.results36, go_sem, s0, s1, s2, s3, s4, s5, s6, zeroSp]) rfl ?_
      exact ⟨zeroSp, by rw [hf]; rfl, by rw [hf]; rfl, hxW⟩

end Go.Proofs.Ytnedoaapnfpkfaa
