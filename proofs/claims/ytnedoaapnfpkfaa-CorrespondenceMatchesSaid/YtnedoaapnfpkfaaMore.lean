/-
  append of a whole slice onto a row of the call's own; the rest of a slice; a new row without elements. Conditions: fewer than 2^40 elements.
-/
import Derived.Test.YtnedoaapnfpkfaaTree
import Derived.Maps.AppendAt
namespace Go.Proofs.Ytnedoaapnfpkfaa
open Go.RowKit

/-- The elements from n on, as the model places them. -/
theorem SliceAt.drop {α : Type} {w : World} {enc : α → List Value} {k : Nat} {p : Option Addr} {cap : Nat} {l : List α} (h : SliceAt w enc k p cap l) (n : Nat) (hn : n ≤ l.length) : SliceAt w enc k (if cap = n then p else p.map (·.add (n * k))) (cap - n) (l.drop n) where
  le := by have := h.le; rw [List.length_drop]; omega
  max := Nat.le_trans (Nat.sub_le _ _) h.max
  place := fun h0 => by
    rw [List.length_drop] at h0
    obtain ⟨b, off, hp, hb, hc⟩ := h.place (by omega)
    have hle := h.le
    rw [if_neg (by omega), hp]
    refine ⟨b, off + n * k, by simp [Addr.add_lit], hb, fun j hj i u hu => ?_⟩
    rw [List.length_drop] at hj
    rw [List.getElem_drop] at hu
    have := hc (n + j) (by omega) i u hu
    rw [Nat.add_mul] at this
    rw [← this]
    congr 2
    omega

theorem SliceAt.drop_some {α : Type} {w : World} {enc : α → List Value} {k b off cap : Nat} {l : List α} {n : Nat} (h : SliceAt w enc k (some ⟨b, off, none⟩) cap l) (hn : n < l.length) : SliceAt w enc k (some ⟨b, off + n * k, none⟩) (cap - n) (l.drop n) := by
  have h1 := h.drop n (Nat.le_of_lt hn)
  have hle := h.le
  rw [if_neg (by omega)] at h1
  simpa [Addr.add_lit] using h1
theorem SliceAt.drop_all {α : Type} {w : World} {enc : α → List Value} {k cap : Nat} {p p' : Option Addr} {l : List α} (h : SliceAt w enc k p cap l) : SliceAt w enc k p' (cap - l.length) (l.drop l.length) := by
  rw [List.drop_length]
  exact SliceAt.nil _ _ _ _ _ (Nat.le_trans (Nat.sub_le _ _) h.max)

theorem run_append_nil {P : Program} {α : Type} {t ty e : TypeId} {i : TypeInfo} {k : Nat} {enc : α → List Value} (ht : P.underlying t = some (.slice e)) (hi : P.info? e = some i) {w : World} {base : Nat} {v : Value} {l : List α} (hown : OwnsL w base e k enc v l) (c : Nat) :
    (Builtin.append_ #[t, t] ty #[v, .slice none 0 c]).run P w = .ok v w := by
  obtain ⟨_, ⟨rfl, _⟩ | ⟨g, cap, cur, rfl, _, _, hnc, _⟩⟩ := hown
  · simp [Builtin.append_, run_underlying ht, sizeOf, typeInfo, hi, Builtin.lenOf, Builtin.firstCells]
  · simp [Builtin.append_, run_underlying ht, sizeOf, typeInfo, hi, Builtin.lenOf, Builtin.firstCells, hnc, storeCells]

theorem SliceAt.cells {α : Type} {w : World} {enc : α → List Value} {k : Nat} (hk0 : 0 < k) (hk : ∀ x, (enc x).length = k) {a : Addr} {cap : Nat} {l : List α} (h : SliceAt w enc k (some a) cap l) : ∀ j u, (l.flatMap enc)[j]? = some u → w.cell? (a.add j) = some u := by
  intro j u hj
  have hjl : j < l.length * k := by have := (List.getElem?_eq_some_iff.1 hj).1; rwa [length_flat enc k hk l] at this
  have hj2 : j / k < l.length := Nat.div_lt_of_lt_mul (by rw [Nat.mul_comm]; exact hjl)
  obtain ⟨b, off, hp, hb, hcell⟩ := h.place (Nat.lt_of_le_of_lt (Nat.zero_le _) hj2)
  cases hp
  have hmk : j % k < (enc l[j / k]).length := by rw [hk]; exact Nat.mod_lt _ hk0
  have hgl := flat_getElem enc k hk l (j / k) hj2 (j % k) _ (List.getElem?_eq_getElem hmk)
  rw [Nat.div_add_mod' j k, hj] at hgl
  have := hcell (j / k) hj2 (j % k) u (by rw [List.getElem?_eq_getElem hmk]; exact hgl.symm)
  rw [Nat.add_assoc, Nat.div_add_mod' j k] at this
  rw [Addr.add_lit]; exact this

/-- append(s, m...). -/
theorem run_append_many {α : Type} {P : Program} {t e : TypeId} {enc : α → List Value} {k bytes : Nat} (E : ElemT P t e enc k bytes) (hb : bytes ≤ 100) {w : World} (ty : TypeId) {base : Nat} {v : Value} {l m : List α} (hown : OwnsL w base e k enc v l) {p : Option Addr} {cap : Nat} (hs : SliceAt w enc k p cap m)
    (hlen : l.length + m.length < 1099511627776) (hbase : base ≤ w.heap.size) :
    ∃ v' w', (Builtin.append_ #[t, t] ty #[v, .slice p m.length cap]).run P w = .ok v' w' ∧ OwnsL w' base e k enc v' (l ++ m) ∧ w.grownBy w' v.ownBlock ∧ (v'.ownBlock = v.ownBlock ∨ v'.ownBlock = some w.heap.size) := by
  obtain ⟨i, z, hi, hz, h1, h2, h3⟩ := E.info
  have hm : 9223372036854775807 = maxLen := rfl
  cases p with
  | none =>
    have hm0 : m = [] := by
      cases m with
      | nil => rfl
      | cons x m => obtain ⟨b, off, hp, _⟩ := hs.place (by simp); cases hp
    subst hm0
    exact ⟨v, w, run_append_nil E.ht hi hown cap, by simpa using hown, World.grownBy.refl w _, Or.inl rfl⟩
  | some ad =>
    obtain ⟨v', w', hr, ho', hg, _, hat⟩ := run_append_own_at (P := P) w base t ty e i z k bytes E.ht hi hz h1 h2 h3 E.pos v l.length (l.flatMap enc) hown ad m.length cap (m.flatMap enc) (length_flat enc k E.len m) (hs.cells E.pos E.len) (by
      intro u hu
      obtain ⟨x, _, hx⟩ := List.mem_flatMap.1 hu
      exact E.one x u hx) (by rw [← hm]; omega) (by
      have : (l.length + m.length) * bytes ≤ 1099511627776 * 100 := Nat.mul_le_mul (by omega) hb
      omega) hbase
    exact ⟨v', w', hr, by unfold OwnsL; simpa using ho', hg, hat⟩

theorem opWp_append_many {α : Type} {P : Program} {t e : TypeId} {enc : α → List Value} {k bytes : Nat} (E : ElemT P t e enc k bytes) (hb : bytes ≤ 100) {w : World} {o : Oper} {a : Act} {K : Act → World → Prop} {Q : Exit → Act → World → Prop} (s x : Operand)
    (ho : o.op = .call { callee := .builtin .append, args := #[s, x], argTypes := #[t, t] }) (base : Nat) (v : Value) (l m : List α) (hs : a.eval s = v) (hown : OwnsL w base e k enc v l) (p : Option Addr) (cap : Nat) (hx : a.eval x = .slice p m.length cap) (hm : SliceAt w enc k p cap m)
    (hlen : l.length + m.length < 1099511627776) (hbase : base ≤ w.heap.size)
    (h : ∀ v' w', OwnsL w' base e k enc v' (l ++ m) → w.grownBy w' v.ownBlock → (v'.ownBlock = v.ownBlock ∨ v'.ownBlock = some w.heap.size) → K (a.put o.dst v') w') : o.wp P a w K Q := by
  obtain ⟨v', w', hr, ho', hg, hat⟩ := run_append_many (P := P) E hb o.type hown hm hlen hbase
  unfold Oper.wp execOp
  simp only [ho, resolve, invoke, builtin, Sem.run_bind, Sem.run_pure, Result.andThen_ok, List.map_toArray, List.map_cons, List.map_nil, hs, hx, hr]
  exact h _ _ ho' hg hat

theorem blk_newat {w : World} {n : Nat} (h : n = w.heap.size) (o : Obj) : (w.alloc o).heap[n]? = some o := by
  subst h; exact blk_new w o
/-- A new row without elements. -/
theorem OwnsL.fresh {α : Type} (w : World) (e k : Nat) (enc : α → List Value) : OwnsL (w.alloc (.cells #[] e)) w.heap.size e k enc (.slice (some ⟨w.heap.size, 0, none⟩) 0 0) ([] : List α) :=
  ⟨by simp, Or.inr ⟨w.heap.size, 0, #[], rfl, Nat.le_refl _, blk_new _ _, Nat.le_refl _, Nat.zero_le _, by simp, by simp⟩⟩
theorem OwnsL.fresh_at {α : Type} {w : World} {g : Nat} (base e k : Nat) (enc : α → List Value) (hg : w.heap[g]? = some (.cells #[] e (0, 0))) (hb : base ≤ g) : OwnsL w base e k enc (.slice (some ⟨g, 0, none⟩) 0 0) ([] : List α) :=
  ⟨by simp, Or.inr ⟨g, 0, #[], rfl, hb, hg, Nat.le_refl _, Nat.zero_le _, by simp, by simp⟩⟩

end Go.Proofs.Ytnedoaapnfpkfaa
