/-
  slices.AppendSeq and slices.Collect of pairs, against whatever iterator value. Conditions: the iterator keeps the kit's contract of an iterator.
-/
import Derived.Test.YtnedoaapnfpkfaaKeys
import Derived.Test.YtnedoaapnfpkfaaPairs
namespace Go.Proofs.Ytnedoaapnfpkfaa
open Go.RowKit Go.Maps Go.Sort Go.Shelf

theorem OwnsL.isCells {α : Type} {w : World} {base e k : Nat} {enc : α → List Value} {v : Value} {l : List α} (h : OwnsL w base e k enc v l) : ∀ (j : Nat) (o : Obj), v.ownBlock = some j → w.heap[j]? = some o → o.isCells = true := by
  intro j o hj ho
  rcases h.2 with ⟨rfl, _⟩ | ⟨g, cap, cur, rfl, _, hgb, _⟩
  · cases hj
  · cases hj
    rw [hgb] at ho; cases ho; rfl

/-- append(s, x) of one element, in a round. -/
theorem wpListIn_append_one {α : Type} {F : Fence} {n : Nat} {P : Program} {t e : TypeId} {enc : α → List Value} {k bytes : Nat} (E : ElemT P t e enc k bytes) (hb : bytes ≤ 100) {w : World} {ops : Array Oper} {rest : List Oper} {o : Oper} {a : Act} {Q : Exit → Act → World → Prop} (hgd : o.guard = none) (s x : Operand)
    (ho : o.op = .call { callee := .builtin .append, args := #[s, x], argTypes := #[t, t] }) (base : Nat) (v : Value) (l : List α) (hs : a.eval s = v) (hown : OwnsL w base e k enc v l)
    (g c : Nat) (y : α) (hx : a.eval x = .slice (some ⟨g, 0, none⟩) 1 c) (hc : ∀ j u, (enc y)[j]? = some u → w.cell? ((⟨g, 0, none⟩ : Addr).add j) = some u) (hlen : l.length < 1099511627776) (hbase : base ≤ w.heap.size)
    (h : ∀ v' w', OwnsL w' base e k enc v' (l ++ [y]) → w.grownBy w' v.ownBlock → wpListIn F n P ops Q rest (a.put o.dst v') w') : wpListIn F n P ops Q (o :: rest) a w := by
  refine wpListIn_plain hgd fun K hK => ?_
  obtain ⟨v', w', hr, ho', hg⟩ := run_append_one (P := P) E hb o.type hown g c y hc hlen hbase
  unfold Oper.wpIn
  refine ⟨by simp [Oper.about, ho, resolve, Target.leads, Sem.run_pure], ?_⟩
  rw [Oper.semAt_plain F _ _ (by rw [ho]; intro c hc'; cases hc')]
  simp [execOp, ho, resolve, invoke, builtin, hs, hx, hr, Result.andThen]
  exact hK _ _ (h _ _ ho' hg)

set_option maxRecDepth 100000 in
set_option maxHeartbeats 2000000 in
theorem appendP_in (n : Nat) (hn : 2 ≤ n) (g : Nat) (lb : Array Value) (eg : ∀ args w, (callFunc g args).run Try.prog w = .ok (.enter g args) w)
    (S : List (Int × Int) → Prop) (N : Nat) (hN : N < 1099511627776) (w : World) (hseq : SeqStopsK Fence.wide (n - 1) Try.prog g lb (fun x => #[ekP x]) KeepsWalks S (fun _ => True) N w) :
    CallsIn Fence.wide n Try.prog 96 #[.slice none 0 0, .func (.func g) #[] lb] w fun e w' => ∃ (v : Value) (ss : List (Int × Int)), e = .returned v ∧ S ss ∧ OwnsL w' w.heap.size 60 2 encP v ss ∧ Ext w w' := by
  refine callsIn_of_wp_marks Try.func96 rfl trivial ?_ rfl
  simp only [Try.ntmps96, List.size_toArray, List.length_cons, List.length_nil, Nat.reduceAdd, Nat.reduceSub, Array.replicate_succ, Array.replicate_zero, List.push_toArray, List.append_toArray, List.nil_append, List.cons_append]
  gi_wp2
  refine wpIn_rangeFunc_ownH rfl (by omega) rfl trivial eg hseq KeepsWalks.trans (fun W l o o' _ h1 _ h3 => KeepsWalks.putObj _ h1 h3) ((Below.refl _ w).alloc (Nat.le_refl _) _) (fun _ => rfl)
    (fun ss W => ∃ v, W.heap[w.heap.size]? = some (.cells #[v] 25 (0, 0)) ∧ OwnsL W (w.heap.size + 1) 60 2 encP v ss ∧ Ext w W) (fun _ _ _ => False) ?hI ?hIx ?h0
    (fun x a' W => ∃ c, a' = ⟨#[.slice none 0 0, .func (.func g) #[] lb, .pointer (some ⟨w.heap.size, 0, none⟩), undef, .slice none 0 0, .pointer (some ⟨c, 0, none⟩), .func (.func g) #[] lb, ekP x, undef, undef, undef, undef, undef], []⟩ ∧ W.heap[c]? = some (.cells #[.int .i64 x.1, .int .i64 x.2] 60 (0, 0)) ∧ w.heap.size < c) ?hAx ?hassign ?hbody ?hdone ?hstop
  case hI =>
    rintro s W W' row ⟨v, h1, h2, h3⟩ hg hr
    refine ⟨v, ?_, ?_, ?_⟩
    · refine (hg.block _ (lt_of_block h1) (fun e => ?_)).trans h1
      have := (hr _ e.symm).1
      simp at this; omega
    · refine World.ownsRow.kept h2 hg ?_
      cases hv : v.ownBlock with
      | none => exact Or.inl rfl
      | some q =>
        refine Or.inr fun e => ?_
        obtain ⟨_, o, ho, hc⟩ := hr q e.symm
        rcases ownsRow_ne_a h2 ho (fun cur e => by rw [e] at hc; cases hc) with e1 | e1
        · rw [e1] at hv; cases hv
        · exact e1 hv
    · cases row with
      | none => exact h3.grown_none hg
      | some r => exact h3.grown hg (by have := (hr r rfl).1; simp at this; omega)
  case hIx => exact fun _ _ _ _ _ h => h.elim
  case h0 => exact ⟨_, blk_new _ _, OwnsL.nil _ _ _ _ _, (Ext.refl w).alloc _⟩
  case hAx =>
    rintro x a' _ W W' row ⟨c, h1, h2, h3⟩ hg hr
    refine ⟨c, h1, ?_, h3⟩
    refine (hg.block _ (lt_of_block h2) (fun e => ?_)).trans h2
    obtain ⟨_, o, ho, hc⟩ := hr _ e.symm
    rw [h2] at ho; cases ho; cases hc
  case hassign =>
    rintro l pre x W K ⟨v, h1, h2, h3⟩ hK
    unfold ekP
    gi_wp2_with (rw [Oper.semAt_eq _ _ _ (fun c h => by cases h)]; go_simp; try go_bits)
    exact hK _ _ ((KeepsOthers.alloc _ _).from _) (KeepsWalks.alloc _ _) ⟨v, blk_alloc h1, h2.alloc _, h3.alloc _⟩ ⟨_, rfl, blk_new _ _, lt_of_block h1⟩
  case hbody =>
    rintro l pre x a' W _ _ ⟨v, h1, h2, h3⟩ ⟨c, rfl, h4, h5⟩ hlen
    obtain ⟨hc1, hf1⟩ := cell_of_box_a h1
    obtain ⟨c0, c1⟩ := cells2 h4
    gi_wp2_with (first
      | (gi_at_builtin; refine wpListIn_append_one elemP (by decide) rfl _ _ rfl (w.heap.size + 1) _ _ rfl (h2.alloc _) W.heap.size 1 x rfl (cells_new rfl (encP x) _) (by omega) (by have := lt_of_block h1; simp; omega) ?_; intro v' w3 hown' hg3
         have hv3 : w3.heap[w.heap.size]? = some (.cells #[v] 25 (0, 0)) := blk_grownL hg3 (blk_alloc h1) (fun r hr => by have := (World.ownsRow.lt h2 r hr).1; omega)
         obtain ⟨hc3, hf3⟩ := cell_of_box_a hv3
         obtain ⟨p', cap', rfl, hsl'⟩ := hown'.slice encP_len
         go_frame)
      | (rw [Oper.semAt_eq _ _ _ (fun c h => by cases h)]; go_simp; try go_bits))
    have hko : KeepsOthers W (w3.setCell ⟨w.heap.size, 0, none⟩ (.slice p' (pre ++ [x]).length cap')) := ((KeepsOthers.alloc _ _).trans (KeepsOthers.of_grownBy hg3 (OwnsL.isCells (h2.alloc _)))).trans (KeepsOthers.setCell _ _ _)
    have hX3 : Ext w w3 := (h3.alloc _).grownL (h2.alloc _) (Nat.le_succ _) hg3
    have hbx := heap_setCell_box_a (.slice p' (pre ++ [x]).length cap') hv3
    refine ⟨by simpa using hko.from _, by simpa using hko.walks, .slice p' (pre ++ [x]).length cap', by simpa using hbx, ?_, ?_⟩
    · have := hown'.kept (grownBy_setCell0_a w3 w.heap.size (.slice p' (pre ++ [x]).length cap')) (fun e => by have := (World.ownsRow.lt hown' _ e).1; omega)
      simpa using this
    · exact hX3.setCell (Nat.le_refl _) _
  case hdone =>
    rintro D ss W hD hS ⟨v, h1, h2, h3⟩ hk
    obtain ⟨hc1, hf1⟩ := cell_of_box_a h1
    gi_wp2
    refine ⟨by simp, .inl ⟨_, _, rfl, run_takeDeferred hk, ?_⟩⟩
    have hD' : w.heap.size + 1 ≤ D := by simpa using hD
    refine ⟨_, results_tmp rfl _ _ _, v, ss, rfl, hS, ?_, ?_⟩
    · refine OwnsL.of_base (base := w.heap.size + 1) ?_ (Nat.le_succ _)
      exact World.ownsRow.kept h2 (grownBy_putObj_a _ _ _) (ownsRow_ne_a h2 hk (fun cur e => by cases e))
    · exact h3.grown (grownBy_putObj_a _ _ _) (by omega)
  case hstop => exact fun _ _ _ _ _ _ h _ => h.elim

end Go.Proofs.Ytnedoaapnfpkfaa
