/-
  The built-in append of one element to a row of the call's own, in words of lists. Conditions: fewer than 2^40 elements.
-/
import Derived.Test.YtnedoaapnfpkfaaBase
import Derived.Test.YtnedoaapnfpkfaaEq
import Derived.Test.YtnedoaapnfpkfaaSp
import Derived.Deep.AppendLies
namespace Go.Proofs.Ytnedoaapnfpkfaa
open Go.RowKit

/-- An element type: its slice type, its cells, its size in bytes. -/
structure ElemT {α : Type} (P : Program) (t e : TypeId) (enc : α → List Value) (k bytes : Nat) : Prop where
  ht : P.underlying t = some (.slice e)
  info : ∃ i z, P.info? e = some i ∧ i.zero = some z ∧ i.size = k ∧ i.bytes = bytes ∧ z.cells.size = k
  pos : 0 < k
  len : ∀ x, (enc x).length = k
  one : ∀ x, ∀ u ∈ enc x, u.oneCell' = true

theorem wpList_append_one {α : Type} {P : Program} {t e : TypeId} {enc : α → List Value} {k bytes : Nat} (E : ElemT P t e enc k bytes) (hb : bytes ≤ 100) {w : World} {ops : Array Oper} {rest : List Oper} {o : Oper} {a : Act} {Q : Exit → Act → World → Prop} (hgd : o.guard = none) (s x : Operand)
    (ho : o.op = .call { callee := .builtin .append, args := #[s, x], argTypes := #[t, t] }) (base : Nat) (v : Value) (l : List α) (hs : a.eval s = v) (hown : OwnsL w base e k enc v l)
    (g c : Nat) (y : α) (hx : a.eval x = .slice (some ⟨g, 0, none⟩) 1 c) (hc : ∀ j u, (enc y)[j]? = some u → w.cell? ((⟨g, 0, none⟩ : Addr).add j) = some u) (hlen : l.length < 1099511627776) (hbase : base ≤ w.heap.size)
    (h : ∀ v' w', OwnsL w' base e k enc v' (l ++ [y]) → w.grownBy w' v.ownBlock → wpList P ops Q rest (a.put o.dst v') w') : wpList P ops Q (o :: rest) a w := by
  obtain ⟨i, z, hi, hz, h1, h2, h3⟩ := E.info
  have hm : 9223372036854775807 = maxLen := rfl
  refine wpList_append_own w hgd s x t ho base e i z k bytes E.ht hi hz h1 h2 h3 E.pos v l.length (l.flatMap enc) hs hown ⟨g, 0, none⟩ 1 c (enc y) hx (by rw [E.len]; omega) hc (E.one y) (by rw [← hm]; omega) ?_ hbase ?_
  · have : (l.length + 1) * bytes ≤ 1099511627776 * 100 := Nat.mul_le_mul (by omega) hb
    omega
  · intro v' w' ho' hg _
    exact h v' w' (by unfold OwnsL; simpa using ho') hg

/-- The same as an equation on the run. -/
theorem run_append_one {α : Type} {P : Program} {t e : TypeId} {enc : α → List Value} {k bytes : Nat} (E : ElemT P t e enc k bytes) (hb : bytes ≤ 100) {w : World} (ty : TypeId) {base : Nat} {v : Value} {l : List α} (hown : OwnsL w base e k enc v l)
    (g c : Nat) (y : α) (hc : ∀ j u, (enc y)[j]? = some u → w.cell? ((⟨g, 0, none⟩ : Addr).add j) = some u) (hlen : l.length < 1099511627776) (hbase : base ≤ w.heap.size) :
    ∃ v' w', (Builtin.append_ #[t, t] ty #[v, .slice (some ⟨g, 0, none⟩) 1 c]).run P w = .ok v' w' ∧ OwnsL w' base e k enc v' (l ++ [y]) ∧ w.grownBy w' v.ownBlock := by
  obtain ⟨i, z, hi, hz, h1, h2, h3⟩ := E.info
  have hm : 9223372036854775807 = maxLen := rfl
  obtain ⟨v', w', hr, ho', hg, _⟩ := run_append_own (P := P) w base t ty e i z k bytes E.ht hi hz h1 h2 h3 E.pos v l.length (l.flatMap enc) hown ⟨g, 0, none⟩ 1 c (enc y) (by rw [E.len]; omega) hc (E.one y) (by rw [← hm]; omega) (by
    have : (l.length + 1) * bytes ≤ 1099511627776 * 100 := Nat.mul_le_mul (by omega) hb
    omega) hbase
  exact ⟨v', w', hr, by unfold OwnsL; simpa using ho', hg⟩

theorem elem_of {α : Type} {P : Program} {t e : TypeId} {enc : α → List Value} {k bytes : Nat} {z : Value} (ht : P.underlying t = some (.slice e)) (hi : (P.info? e).map (fun i => (i.zero, i.size, i.bytes)) = some (some z, k, bytes)) (hz : z.cells.size = k) (hp : 0 < k) (hl : ∀ x, (enc x).length = k) (h1 : ∀ x, ∀ u ∈ enc x, u.oneCell' = true) : ElemT P t e enc k bytes := by
  obtain ⟨i, h1', h2, h3, h4⟩ := info_parts hi
  exact ⟨ht, ⟨i, z, h1', h2, h3, h4, hz⟩, hp, hl, h1⟩
theorem one_encI (x : Int) : ∀ u ∈ encI x, u.oneCell' = true := by intro u hu; simp [encI] at hu; subst hu; rfl

theorem elemI : ElemT Try.prog 41 3 encI 1 8 := elem_of (z := .int .i64 0) Try.underlying41 (by kernel_rfl) rfl (by decide) encI_len one_encI
theorem one_encP (x : Int × Int) : ∀ u ∈ encP x, u.oneCell' = true := by
  intro u hu; simp [encP] at hu; rcases hu with rfl | rfl <;> rfl
theorem elemP : ElemT Try.prog 25 60 encP 2 16 := elem_of (z := .agg #[.int .i64 0, .int .i64 0]) Try.underlying25 (by kernel_rfl) rfl (by decide) encP_len one_encP
theorem elemE : ElemT Try.prog 33 37 encP 2 16 := elem_of (z := .agg #[.int .i64 0, .int .i64 0]) Try.underlying33 (by kernel_rfl) rfl (by decide) encP_len one_encP
theorem one_encSp (x : Sp) : ∀ u ∈ encSp x, u.oneCell' = true := by
  intro u hu; simp [encSp] at hu; rcases hu with rfl | rfl | rfl | rfl | rfl | rfl | rfl <;> rfl
theorem elemSp : ElemT Try.prog 22 39 encSp 7 56 := elem_of (z := .agg #[.int .i64 0, .int .i64 0, .int .i64 0, .int .i64 0, .int .i64 0, .int .i64 0, .int .i64 0]) Try.underlying22 (by kernel_rfl) rfl (by decide) encSp_len one_encSp
/-- The cells of a couple. -/
def encC (x : Int × Int × Int) : List Value := [.int .i64 x.1, .int .i64 x.2.1, .int .i64 x.2.2]
theorem encC_len (x : Int × Int × Int) : (encC x).length = 3 := rfl
theorem one_encC (x : Int × Int × Int) : ∀ u ∈ encC x, u.oneCell' = true := by
  intro u hu; simp [encC] at hu; rcases hu with rfl | rfl | rfl <;> rfl
theorem elemC : ElemT Try.prog 76 89 encC 3 24 := elem_of (z := .agg #[.int .i64 0, .int .i64 0, .int .i64 0]) Try.underlying76 (by kernel_rfl) rfl (by decide) encC_len one_encC

end Go.Proofs.Ytnedoaapnfpkfaa
