/-
  The walk of the statement CorrespondenceBest: it answers true. Conditions: none beyond how the arguments read.
-/
import Derived.Test.YtnedoaapnfpkfaaAwake
import Derived.Test.YtnedoaapnfpkfaaRefBest
namespace Go.Proofs.Ytnedoaapnfpkfaa
open Go.RowKit

theorem opW_app {w w' : World} {base : Nat} {v : Value} {l : List Sp} (h : OwnsL w base 39 7 encSp v l) (hx : Ext w w') : OwnsL w' base 39 7 encSp v l := h.ext hx

/-- append of a whole slice, in a region in the text's order. -/
theorem wpList_append_many {α : Type} {P : Program} {t e : TypeId} {enc : α → List Value} {k bytes : Nat} (E : ElemT P t e enc k bytes) (hb : bytes ≤ 100) {w : World} {ops : Array Oper} {rest : List Oper} {o : Oper} {a : Act} {Q : Exit → Act → World → Prop} (hgd : o.guard = none) (s x : Operand)
    (ho : o.op = .call { callee := .builtin .append, args := #[s, x], argTypes := #[t, t] }) (base : Nat) (v : Value) (l m : List α) (hs : a.eval s = v) (hown : OwnsL w base e k enc v l) (p : Option Addr) (cap : Nat) (hx : a.eval x = .slice p m.length cap) (hm : SliceAt w enc k p cap m)
    (hlen : l.length + m.length < 1099511627776) (hbase : base ≤ w.heap.size)
    (h : ∀ v' w', OwnsL w' base e k enc v' (l ++ m) → w.grownBy w' v.ownBlock → (v'.ownBlock = v.ownBlock ∨ v'.ownBlock = some w.heap.size) → wpList P ops Q rest (a.put o.dst v') w') : wpList P ops Q (o :: rest) a w :=
  wpList_plain hgd fun _ hK => opWp_append_many E hb s x ho base v l m hs hown p cap hx hm hlen hbase fun v' w' h1 h2 h3 => hK _ _ (h v' w' h1 h2 h3)

set_option maxRecDepth 10000 in
set_option maxHeartbeats 2000000 in
theorem law_best (p q : Option Addr) (cp cq : Nat) (a b : List Sp) (side : Int) (w : World) (h : SliceAt w encSp 7 p cp a) (h' : SliceAt w encSp 7 q cq b) :
    Calls Try.prog 3 #[.slice p a.length cp, .slice q b.length cq, .int .i64 side] w fun e w' => e = .returned (.bool true) ∧ Ext w w' := by
  have hmax := h.max
  have hle := h.le
  have hmax' := h'.max
  have hle' := h'.le
  unfold maxLen at hmax hmax'
  go_enter Try.func3, Try.ntmps3
  go_wp2_with fail
  refine (awake_any _).mono ?_
  rintro e w1 ⟨rfl, hx1⟩
  go_wp2_with fail
  refine (few_any p cp a _ (h.ext hx1)).mono ?_
  rintro e w2 ⟨rfl, rfl⟩
  cases hf : fewB a.length
  · clear hf
    go_wp2_with fail
    refine (awake_any _).mono ?_
    rintro e w2 ⟨rfl, hx2⟩
    go_wp2
    go_ret
    exact ⟨rfl, hx1.trans hx2⟩
  · have ha := fewB_lt hf
    clear hf
    go_wp2_with fail
    refine (few_any q cq b _ (h'.ext hx1)).mono ?_
    rintro e w2 ⟨rfl, rfl⟩
    cases hf : fewB b.length
    · clear hf
      go_wp2_with fail
      refine (awake_any _).mono ?_
      rintro e w2 ⟨rfl, hx2⟩
      go_wp2
      go_ret
      exact ⟨rfl, hx1.trans hx2⟩
    · have hb := fewB_lt hf
      clear hf
      have hlA : ([] : List Sp).length + a.length < 1099511627776 := by simp; omega
      have hlB : ([] : List Sp).length + b.length < 1099511627776 := by simp; omega
      have HX1 := hid hx1
      clear hx1
      have hOf : OwnsL (w1.alloc (.cells #[] 39)) w1.heap.size 39 7 encSp (.slice (some ⟨w1.heap.size, 0, none⟩) 0 0) [] := OwnsL.fresh_at _ _ _ _ (blk_new _ _) (Nat.le_refl _)
      go_wp2_with (at_builtin; refine wpList_append_many elemSp (by decide) rfl _ _ rfl w1.heap.size _ [] a rfl hOf p cp rfl (((h.ext HX1.out).ext ((Ext.refl _).alloc _))) hlA (by simp) ?_)
      intro v1 w2 hO1 hg1 _
      have HE1 : Ext w1 w2 := ((Ext.refl _).alloc _).grownL hOf (Nat.le_refl _) hg1
      have hOg : OwnsL (w2.alloc (.cells #[] 39)) w2.heap.size 39 7 encSp (.slice (some ⟨w2.heap.size, 0, none⟩) 0 0) [] := OwnsL.fresh_at _ _ _ _ (blk_new _ _) (Nat.le_refl _)
      clear hg1 hOf
      go_wp2_with (at_builtin; refine wpList_append_many elemSp (by decide) rfl _ _ rfl w2.heap.size _ [] b rfl hOg q cq rfl ((((h'.ext HX1.out).ext HE1).ext ((Ext.refl _).alloc _))) hlB (by simp) ?_)
      intro v2 w3 hO2 hg2 _
      have HE2 : Ext w2 w3 := ((Ext.refl _).alloc _).grownL hOg (Nat.le_refl _) hg2
      obtain ⟨p1, c1, rfl, hS1⟩ := (hO1.ext HE2).slice encSp_len
      obtain ⟨p2, c2, rfl, hS2⟩ := hO2.slice encSp_len
      have HX3 := (HX1.out.trans HE1).trans HE2
      clear hg2 hOg hO1 hO2 HE1 HE2
      go_wp2_with fail
      refine (best_any p1 p2 c1 c2 a b side _ hS1 hS2).mono ?_
      rintro e w4 ⟨p3, c3, l, n, rfl, hl, hs3, hx4⟩
      go_wp2_with fail
      refine (rbest_any p q cp cq a b side _ ((h.ext HX3).ext hx4) ((h'.ext HX3).ext hx4)).mono ?_
      rintro e w5 ⟨p5, c5, l', n', rfl, hl', hs5, hx5⟩
      have heq : (l', n') = (l, n) := hl'.trans hl.symm
      cases heq
      clear hl hl'
      have HP3 := hs3.ext hx5
      have HS1 := (hS1.ext hx4).ext hx5
      have HS2 := (hS2.ext hx4).ext hx5
      have HX5 := (HX3.trans hx4).trans hx5
      have HA5 := h.ext HX5
      have HB5 := h'.ext HX5
      clear hs3 hS1 hS2 hx4 hx5 HX3
      generalize errB a b side = er at *
      go_wp2_with fail
      refine (bpairs_any p3 p5 c3 c5 l l _ HP3 hs5).mono ?_
      rintro e w6 ⟨rfl, hx6⟩
      rw [show decide (l = l) = true from by simp]
      go_wp2_with fail
      refine (bspecimens_any p1 p c1 cp a a _ (HS1.ext hx6) (HA5.ext hx6)).mono ?_
      rintro e w7 ⟨rfl, hx7⟩
      rw [show decide (a = a) = true from by simp]
      go_wp2_with fail
      refine (bspecimens_any p2 q c2 cq b b _ ((HS2.ext hx6).ext hx7) ((HB5.ext hx6).ext hx7)).mono ?_
      rintro e w8 ⟨rfl, hx8⟩
      rw [show decide (b = b) = true from by simp]
      go_wp2
      go_ret
      exact ⟨rfl, ((HX5.trans hx6).trans hx7).trans hx8⟩

end Go.Proofs.Ytnedoaapnfpkfaa
