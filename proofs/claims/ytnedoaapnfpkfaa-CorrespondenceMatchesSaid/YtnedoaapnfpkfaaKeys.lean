/-
  maps.Keys of a map keyed by Pair, and its iterator. Conditions: the map is held as a list of keys and values.
-/
import Derived.Test.YtnedoaapnfpkfaaRange
import Derived.Test.YtnedoaapnfpkfaaEq
import Derived.Test.YtnedoaapnfpkfaaOps
import Derived.Shelf.SlIter.Collect
import Derived.RangeFuncNested
namespace Go.Proofs.Ytnedoaapnfpkfaa
open Go.RowKit Go.Maps Go.MapKept

/-- A pair of numbers as a key; a number as an element. -/
def ekP (x : Int × Int) : Value := .agg #[.int .i64 x.1, .int .i64 x.2]
def evI (x : Int) : Value := .int .i64 x
theorem ekP_inj (x y : Int × Int) (h : ekP x = ekP y) : x = y := by
  simp [ekP] at h; exact Prod.ext h.1 h.2

theorem alloc_abides {β : Type} {B : Nat} {J : β → World → Prop} (hJ : AbidesFrom B J) {s : β} {W : World} (h : J s W) (o : Obj) : J s (W.alloc o) := hJ s W _ none h (World.grownBy_alloc W o none) (fun r e => by cases e)

set_option maxHeartbeats 1000000 in
set_option maxRecDepth 10000 in
theorem keysP1_in (n : Nat) (hn : 1 ≤ n) (l Bm b : Nat) (m : List ((Int × Int) × Int)) (J Jx : List (Int × Int) → World → Prop)
    (hY : ∀ pre x W, J pre W → pre.length < m.length → YieldAt Fence.wide (n - 1) Try.prog l #[ekP x] W fun e W' => (e = .returned (.bool true) ∧ J (pre ++ [x]) W' ∧ KeepsWalks W W') ∨ (e = .returned (.bool false) ∧ Jx (pre ++ [x]) W'))
    (W : World) (hJ : AbidesFrom W.heap.size J) (hm : W.cell? ⟨Bm, 0, none⟩ = some (.map (some b))) (hown : MapAt W Try.prog 60 ekP evI b m) (h0 : J [] W) :
    CallsIn Fence.wide n Try.prog 80 #[.func (.yield l) #[] #[], .pointer (some ⟨Bm, 0, none⟩)] W fun e W' => (∃ v, e = .returned v) ∧ ((∃ ss : List (Int × Int), ss.Perm (m.map (·.1)) ∧ J ss W') ∨ (∃ pre : List (Int × Int), True ∧ Jx pre W')) := by
  obtain ⟨w0, hrange, hrg0, hg0, hs0⟩ := hown.range Try.underlying67
  refine callsIn_of_wp Try.func80 rfl trivial ?_ rfl
  simp only [Try.ntmps80, List.size_toArray, List.length_cons, List.length_nil, Nat.reduceAdd, Nat.reduceSub, Array.replicate_succ, Array.replicate_zero, List.push_toArray, List.append_toArray, List.nil_append, List.cons_append]
  gi_wp2
  gi_loopw [3] (fun _ wr => ∃ (cnt : Nat) (ss : List (Int × Int)), RangeAt wr Try.prog 60 ekP evI b W.heap.size m ss cnt ∧ ss.length + cnt ≤ m.length ∧ J ss wr) (fun _ wr => wr.rangeLeft b W.heap.size)
  case atStart => exact ⟨_, [], hrg0, by simp, hJ [] W w0 none h0 hg0 (fun r e => by cases e)⟩
  case round =>
    obtain ⟨cnt, ss, hrg, hcs, hJs⟩ := hrel
    rcases hrg.next ekP_inj 0 with ⟨hc0, hall, hnx⟩ | ⟨k, v, w2, cnt2, hin, hnew, hnx, hrg2, hlt, hg2, hs2, hen⟩
    · gi_wp2
      go_end0
      exact ⟨⟨_, rfl⟩, Or.inl ⟨ss, hrg.perm hall, hJs⟩⟩
    · have hJ2 : J ss w2 := hJ ss wr w2 (some W.heap.size) hJs hg2 (fun r e => by cases e; exact ⟨Nat.le_refl _, hrg.walk⟩)
      have hJ3 : J ss (w2.alloc (.cells #[.int .i64 k.1, .int .i64 k.2] 60)) := hJ ss w2 _ none hJ2 (World.grownBy_alloc _ _ none) (fun r e => by cases e)
      have hrg3 : RangeAt (w2.alloc (.cells #[.int .i64 k.1, .int .i64 k.2] 60)) Try.prog 60 ekP evI b W.heap.size m (ss ++ [k]) cnt2 := hrg2.kept (World.grownBy_alloc _ _ none) (by simp) (by simp)
      obtain ⟨fn, tmps, assign, body, hy, hR⟩ := hY ss k _ hJ3 (by omega)
      simp only [ekP, evI] at hnx hen hy
      clear hs2
      gi_wp2
      refine hR.mono ?_
      rintro e W3 (⟨rfl, hJ4, hk4⟩ | ⟨rfl, hJ4⟩)
      rotate_left
      · gi_wp2
        (try simp only [Exit.inBlock, Exit.then])
        refine bodyPost_ret (results_none rfl _ _ _) rfl ?_
        exact ⟨⟨_, rfl⟩, Or.inr ⟨_, trivial, hJ4⟩⟩
      gi_wp2
      have hrg4 := hrg3.of_walks hk4
      go_roundw
      case rel => exact ⟨cnt2, ss ++ [k], hrg4, by simp; omega, hJ4⟩
      case measure => rw [hrg4.left_eq, hrg.left_eq]; exact hlt

/-- maps.Keys(m): the map is boxed; the function value captures the box. -/
theorem keysP_any (mb : Option Nat) (w : World) : Calls Try.prog 50 #[.map mb] w fun e w' => e = .returned (.func (.func 80) #[] #[.pointer (some ⟨w.heap.size, 0, none⟩)]) ∧ w' = w.alloc (.cells #[.map mb] 67) := by
  go_enter Try.func50, Try.ntmps50
  go_wp2
  go_ret
  exact ⟨rfl, rfl⟩

/-- It hands back an iterator over the keys. -/
theorem keysP_gives (n : Nat) (hn : 1 ≤ n) (Bm b : Nat) (m : List ((Int × Int) × Int)) (w : World) (hBm : Bm < w.heap.size) (hm : w.cell? ⟨Bm, 0, none⟩ = some (.map (some b))) (hown : MapAt w Try.prog 60 ekP evI b m) :
    SeqStopsK Fence.wide n Try.prog 80 #[.pointer (some ⟨Bm, 0, none⟩)] (fun x => #[ekP x]) KeepsWalks (fun ss => ss.Perm (m.map (·.1))) (fun _ => True) m.length w := fun l J Jx W hW hJ _ hY h0 =>
  keysP1_in n hn l Bm b m J Jx hY W hJ ((hW.cell (p := ⟨Bm, 0, none⟩) hBm).trans hm) (hown.of_block (hW.block b hown.lt)) h0

end Go.Proofs.Ytnedoaapnfpkfaa
