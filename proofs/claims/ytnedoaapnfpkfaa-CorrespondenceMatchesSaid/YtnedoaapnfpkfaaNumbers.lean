/-
  append to one of two rows of the call's own: which block it writes; slices.Compact at a row of the call's own. Conditions: as XOps.
-/
import Derived.Test.YtnedoaapnfpkfaaTree
import Derived.Test.YtnedoaapnfpkfaaSort
import Derived.Maps.AppendAt
import Derived.Lib.RowBridge
namespace Go.Proofs.Ytnedoaapnfpkfaa
open Go.RowKit Go.Sort

theorem opWp_append_at {α : Type} {P : Program} {t e : TypeId} {enc : α → List Value} {k bytes : Nat} (E : ElemT P t e enc k bytes) (hb : bytes ≤ 100) {w : World} {o : Oper} {a : Act} {K : Act → World → Prop} {Q : Exit → Act → World → Prop} (s x : Operand)
    (ho : o.op = .call { callee := .builtin .append, args := #[s, x], argTypes := #[t, t] }) (base : Nat) (v : Value) (l : List α) (hs : a.eval s = v) (hown : OwnsL w base e k enc v l)
    (g c : Nat) (y : α) (hx : a.eval x = .slice (some ⟨g, 0, none⟩) 1 c) (hc : ∀ j u, (enc y)[j]? = some u → w.cell? ((⟨g, 0, none⟩ : Addr).add j) = some u) (hlen : l.length < 1099511627776) (hbase : base ≤ w.heap.size)
    (h : ∀ v' w', OwnsL w' base e k enc v' (l ++ [y]) → w.grownBy w' v.ownBlock → (v'.ownBlock = v.ownBlock ∨ v'.ownBlock = some w.heap.size) → K (a.put o.dst v') w') : o.wp P a w K Q := by
  obtain ⟨i, z, hi, hz, h1, h2, h3⟩ := E.info
  have hm : 9223372036854775807 = maxLen := rfl
  obtain ⟨v', w', hr, ho', hg, _, hat⟩ := run_append_own_at (P := P) w base t o.type e i z k bytes E.ht hi hz h1 h2 h3 E.pos v l.length (l.flatMap enc) hown ⟨g, 0, none⟩ 1 c (enc y) (by rw [E.len]; omega) hc (E.one y) (by rw [← hm]; omega) (by
    have : (l.length + 1) * bytes ≤ 1099511627776 * 100 := Nat.mul_le_mul (by omega) hb
    omega) hbase
  unfold Oper.wp execOp
  simp only [ho, resolve, invoke, builtin, Sem.run_bind, Sem.run_pure, Result.andThen_ok, List.map_toArray, List.map_cons, List.map_nil, hs, hx, hr]
  exact h _ _ (by unfold OwnsL; simpa using ho') hg hat

theorem blk_at2 {w : World} {n : Nat} (h : n = w.heap.size) (o : Obj) : (w.alloc o).heap[n]? = some o := by
  subst h; exact blk_new w o
theorem cells1_at {w : World} {b : Nat} {v : Int} {t : TypeId} (h : w.heap[b]? = some (.cells #[.int .i64 v] t (0, 0))) : ∀ j u, (encI v)[j]? = some u → w.cell? ((⟨b, 0, none⟩ : Addr).add j) = some u := by
  intro j u hj
  match j, hj with
  | 0, hj => simp [encI] at hj; subst hj; simp [Addr.add, World.cell?, h]
  | j + 1, hj => simp [encI] at hj

/-- A row stays while another is written. -/
theorem OwnsL.keptR {α : Type} {w w' : World} {base e k : Nat} {enc : α → List Value} {v : Value} {l : List α} {row : Option Nat} (h : OwnsL w base e k enc v l) (hg : w.grownBy w' row) (hne : ∀ r, v.ownBlock = some r → row ≠ some r) : OwnsL w' base e k enc v l := by
  refine World.ownsRow.kept h hg ?_
  cases hv : v.ownBlock with
  | none => exact Or.inl rfl
  | some r => exact Or.inr (fun e => hne r hv e.symm)

/-- slices.Compact at a row of the call's own: how long what it hands back is; it turns that row alone. -/
theorem compact_own {base e : Nat} {v : Value} {l : List Int} {w : World} (h : OwnsL w base e 1 encI v l) (hsz : l.length < 4611686018427387904) :
    Calls Try.prog 30 #[v] w fun e' w' => ∃ p cap, e' = .returned (.slice p (Lib.compact l).length cap) ∧ (Lib.compact l).length ≤ cap ∧ cap ≤ maxLen ∧ w.grownBy w' v.ownBlock := by
  have h0 := h
  unfold OwnsL at h h0
  rw [flat_encI] at h0
  obtain ⟨hlen, ⟨hv, hl⟩ | ⟨g, cap, cur, hv, hg, hh, hle, hmax, hsz', htake⟩⟩ := h
  · subst hv
    have hl' : l = [] := List.eq_nil_of_length_eq_zero hl
    subst hl'
    refine (Try.slices_Compact_int_empty none 0 w).mono fun e' w' ⟨he, hw⟩ => ⟨none, 0, he, by simp [Lib.compact, Lib.compactUpTo], Nat.zero_le _, ?_⟩
    rw [hw]; exact World.grownBy.refl w _
  · subst hv
    refine (Try.slices_Compact_int g 0 cap l w (holds_owns (Value.int .i64) (d0 := l.toArray) (by simpa using h0)) (by omega) hle).mono fun e' w' ⟨he, q, hw⟩ => ⟨_, cap, he, ?_, hmax, ?_⟩
    · have : (Lib.compact l).length ≤ l.length := Lib.compact_length_le l
      omega
    · rw [hw]
      have := grownBy_putRow (Value.int .i64) w q g 0 (Lib.compact l ++ List.replicate (l.length - (Lib.compact l).length) 0).toArray #[]
      exact ⟨rfl, rfl, rfl, by simp [putRow, mapBlock, Sort.ahead], fun k hk hne => by have := this.block k hk hne; simpa [grow] using this⟩

end Go.Proofs.Ytnedoaapnfpkfaa
