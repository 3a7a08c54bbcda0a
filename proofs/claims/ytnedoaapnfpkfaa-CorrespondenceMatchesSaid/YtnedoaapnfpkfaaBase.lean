/-
  Plain words for contracts over memory: how a slice of structs reads in a world, and that this stays when the world only grows. Conditions: none.
-/
import Derived.WalkKit
import Derived.WalkSpells
import Derived.WalkLawsBesides
namespace Go.Proofs.Ytnedoaapnfpkfaa
open Go.RowKit

/-- A fact that the walk must not see. -/
theorem hid {p : Prop} (h : p) : Hid p := h

/-- The world w' has all the blocks of w as they were. -/
abbrev Ext (w w' : World) : Prop := Below w.heap.size w w'

theorem Ext.refl (w : World) : Ext w w := Below.refl _ _
theorem Ext.trans {a b c : World} (h : Ext a b) (k : Ext b c) : Ext a c := Below.trans h (k.mono h.size)
theorem Ext.alloc {a w : World} (h : Ext a w) (o : Obj) : Ext a (w.alloc o) := Below.alloc h h.size o
theorem Ext.drew {a w : World} (h : Ext a w) : Ext a w.drew := Below.drew h
theorem Ext.drewN {a w : World} (h : Ext a w) (n : Nat) : Ext a (w.drewN n) := below_drewN h n
theorem Ext.setCell {a w : World} (h : Ext a w) {p : Addr} (hp : a.heap.size ≤ p.block) (u : Value) : Ext a (w.setCell p u) := Below.setCell h hp u

theorem Ext.grown {a w w' : World} {b : Nat} (h : Ext a w) (hg : w.grownBy w' (some b)) (hb : a.heap.size ≤ b) : Ext a w' :=
  Below.grown h hg h.size (fun k e => by cases e; exact hb)
theorem Ext.grown_none {a w w' : World} (h : Ext a w) (hg : w.grownBy w' none) : Ext a w' := Below.grown h hg h.size (fun k e => by cases e)
theorem blk_grown {w w' : World} {b r : Nat} {o : Obj} (hg : w.grownBy w' (some r)) (hb : w.heap[b]? = some o) (hne : b ≠ r) : w'.heap[b]? = some o :=
  (hg.block b (lt_of_block hb) (fun e => hne (Option.some.inj e))).trans hb

/-- A block's content, in a later world. -/
theorem blk_ext {w w' : World} {b : Nat} {o : Obj} (h : Ext w w') (hb : w.heap[b]? = some o) : w'.heap[b]? = some o :=
  (h.block b (lt_of_block hb)).trans hb
theorem blk_alloc {w : World} {b : Nat} {o x : Obj} (hb : w.heap[b]? = some o) : (w.alloc x).heap[b]? = some o :=
  (Below.heap_alloc w x b (lt_of_block hb)).trans hb
theorem blk_new (w : World) (x : Obj) : (w.alloc x).heap[w.heap.size]? = some x := heap_alloc_new w x
theorem blk_drew {w : World} {b : Nat} {o : Obj} (hb : w.heap[b]? = some o) : w.drew.heap[b]? = some o := hb
theorem blk_drewN {w : World} {b n : Nat} {o : Obj} (hb : w.heap[b]? = some o) : (w.drewN n).heap[b]? = some o := hb
theorem blk_setCell_other {w : World} {b : Nat} {o : Obj} {a : Addr} (u : Value) (hb : w.heap[b]? = some o) (hne : b ≠ a.block) : (w.setCell a u).heap[b]? = some o :=
  (Below.heap_setCell w a u b hne).trans hb

theorem Ext.toGrown {w w' : World} (h : Ext w w') : w.grownBy w' none := ⟨h.os, h.tape, h.output, h.size, fun k hk _ => h.block k hk⟩
theorem owns_ext {w w' : World} {base : Nat} {e : TypeId} {size : Nat} {v : Value} {n : Nat} {xs : List Value} (h : w.ownsRow base e size v n xs) (hx : Ext w w') : w'.ownsRow base e size v n xs :=
  h.kept hx.toGrown (by cases v.ownBlock <;> simp)
theorem owns_base {w : World} {base base' : Nat} {e : TypeId} {size : Nat} {v : Value} {n : Nat} {xs : List Value} (h : w.ownsRow base e size v n xs) (hb : base' ≤ base) : w.ownsRow base' e size v n xs := by
  obtain ⟨h1, h2 | ⟨g, cap, cur, hv, hg, r⟩⟩ := h
  · exact ⟨h1, Or.inl h2⟩
  · exact ⟨h1, Or.inr ⟨g, cap, cur, hv, Nat.le_trans hb hg, r⟩⟩
/-- Behind a law that may write the row of the call's own. -/
theorem Ext.grownRow {a w w' : World} {base : Nat} {e : TypeId} {size : Nat} {v : Value} {n : Nat} {xs : List Value} (h : Ext a w) (ho : w.ownsRow base e size v n xs) (hb : a.heap.size ≤ base) (hg : w.grownBy w' v.ownBlock) : Ext a w' :=
  Below.grown h hg h.size (fun k e => Nat.le_trans hb (ho.lt k e).1)

/-- How a slice whose elements take k cells reads: p is its first element's place, cap its capacity, l its elements. -/
structure SliceAt {α : Type} (w : World) (enc : α → List Value) (k : Nat) (p : Option Addr) (cap : Nat) (l : List α) : Prop where
  le : l.length ≤ cap
  max : cap ≤ maxLen
  place : 0 < l.length → ∃ b off, p = some ⟨b, off, none⟩ ∧ b < w.heap.size ∧ ∀ (j : Nat) (h : j < l.length) (i : Nat) (u : Value), (enc l[j])[i]? = some u → w.cell? ⟨b, off + j * k + i, none⟩ = some u

theorem SliceAt.ext {α : Type} {w w' : World} {enc : α → List Value} {k : Nat} {p : Option Addr} {cap : Nat} {l : List α} (h : SliceAt w enc k p cap l) (hx : Ext w w') : SliceAt w' enc k p cap l where
  le := h.le
  max := h.max
  place := fun h0 => by
    obtain ⟨b, off, hp, hb, hc⟩ := h.place h0
    exact ⟨b, off, hp, Nat.lt_of_lt_of_le hb hx.size, fun j hj i u hu => (hx.cell (p := ⟨b, _, none⟩) hb).trans (hc j hj i u hu)⟩

theorem SliceAt.nil {α : Type} (w : World) (enc : α → List Value) (k : Nat) (p : Option Addr) (cap : Nat) (hc : cap ≤ maxLen) : SliceAt w enc k p cap ([] : List α) :=
  ⟨Nat.zero_le _, hc, fun h => absurd h (by simp)⟩

/-- The first n elements, at the same place. -/
theorem SliceAt.take {α : Type} {w : World} {enc : α → List Value} {k : Nat} {p : Option Addr} {cap : Nat} {l : List α} (h : SliceAt w enc k p cap l) (n : Nat) : SliceAt w enc k p cap (l.take n) where
  le := Nat.le_trans (List.length_take_le' _ _) h.le
  max := h.max
  place := fun h0 => by
    have h1 : 0 < l.length := by
      have := List.length_take_le' n l; omega
    obtain ⟨b, off, hp, hb, hc⟩ := h.place h1
    refine ⟨b, off, hp, hb, fun j hj i u hu => ?_⟩
    have hj' : j < l.length := by have := List.length_take_le' n l; omega
    exact hc j hj' i u (by rwa [List.getElem_take] at hu)

theorem flat_getElem {α : Type} (enc : α → List Value) (k : Nat) (hk : ∀ x, (enc x).length = k) : ∀ (l : List α) (j : Nat) (h : j < l.length) (i : Nat) (u : Value), (enc l[j])[i]? = some u → (l.flatMap enc)[j * k + i]? = some u
  | [], _, h, _, _, _ => absurd h (by simp)
  | x :: l, 0, _, i, u, hu => by
    simp only [List.getElem_cons_zero] at hu
    have hi : i < (enc x).length := (List.getElem?_eq_some_iff.1 hu).1
    simp only [List.flatMap_cons, Nat.zero_mul, Nat.zero_add]
    rw [List.getElem?_append_left hi]
    exact hu
  | x :: l, j + 1, h, i, u, hu => by
    simp only [List.getElem_cons_succ] at hu
    have := flat_getElem enc k hk l j (by simpa using h) i u hu
    simp only [List.flatMap_cons]
    rw [List.getElem?_append_right (by rw [hk]; have : (j + 1) * k = j * k + k := Nat.succ_mul j k; omega), hk]
    have e : (j + 1) * k + i - k = j * k + i := by have : (j + 1) * k = j * k + k := Nat.succ_mul j k; omega
    rw [e]
    exact this

theorem length_flat {α : Type} (enc : α → List Value) (k : Nat) (hk : ∀ x, (enc x).length = k) : ∀ l : List α, (l.flatMap enc).length = l.length * k
  | [] => by simp
  | x :: l => by simp only [List.flatMap_cons, List.length_append, hk, length_flat enc k hk l, List.length_cons]; rw [Nat.succ_mul]; omega

/-- A row of the call's own reads as a slice. -/
theorem SliceAt.of_owns {α : Type} {w : World} {enc : α → List Value} {k : Nat} (hk : ∀ x, (enc x).length = k) {base : Nat} {e : TypeId} {v : Value} {l : List α} (h : w.ownsRow base e k v l.length (l.flatMap enc)) :
    ∃ p cap, v = .slice p l.length cap ∧ SliceAt w enc k p cap l := by
  obtain ⟨hlen, hn | ⟨g, cap, cur, hv, hg, hh, hle, hmax, hsz, htake⟩⟩ := h
  · obtain ⟨hv, h0⟩ := hn
    have hl : l = [] := List.eq_nil_of_length_eq_zero h0
    subst hl
    exact ⟨none, 0, hv, SliceAt.nil _ _ _ _ _ (Nat.zero_le _)⟩
  · refine ⟨some ⟨g, 0, none⟩, cap, hv, hle, hmax, fun _ => ⟨g, 0, rfl, lt_of_block hh, fun j hj i u hu => ?_⟩⟩
    have h1 := flat_getElem enc k hk l j hj i u hu
    rw [cell_of_row w g _ cur e (0, 0) hh]
    rw [← htake, List.getElem?_take] at h1
    split at h1
    · simpa using h1
    · cases h1

/-- The slice v owns, in a row of the call's own from block base on, the elements l, of type e, k cells each. -/
def OwnsL {α : Type} (w : World) (base e k : Nat) (enc : α → List Value) (v : Value) (l : List α) : Prop := w.ownsRow base e k v l.length (l.flatMap enc)
theorem OwnsL.nil {α : Type} (w : World) (base e k : Nat) (enc : α → List Value) : OwnsL w base e k enc (.slice none 0 0) ([] : List α) := World.ownsRow_nil _ _ _ _
theorem OwnsL.ext {α : Type} {w w' : World} {base e k : Nat} {enc : α → List Value} {v : Value} {l : List α} (h : OwnsL w base e k enc v l) (hx : Ext w w') : OwnsL w' base e k enc v l := owns_ext h hx
theorem OwnsL.alloc {α : Type} {w : World} {base e k : Nat} {enc : α → List Value} {v : Value} {l : List α} (h : OwnsL w base e k enc v l) (o : Obj) : OwnsL (w.alloc o) base e k enc v l := World.ownsRow.alloc h o
theorem OwnsL.drewN {α : Type} {w : World} {base e k : Nat} {enc : α → List Value} {v : Value} {l : List α} (h : OwnsL w base e k enc v l) (n : Nat) : OwnsL (w.drewN n) base e k enc v l := owns_ext h ((Ext.refl _).drewN n)
theorem OwnsL.of_base {α : Type} {w : World} {base base' e k : Nat} {enc : α → List Value} {v : Value} {l : List α} (h : OwnsL w base e k enc v l) (hb : base' ≤ base) : OwnsL w base' e k enc v l := owns_base h hb
theorem OwnsL.slice {α : Type} {w : World} {base e k : Nat} {enc : α → List Value} {v : Value} {l : List α} (h : OwnsL w base e k enc v l) (hk : ∀ x, (enc x).length = k) : ∃ p cap, v = .slice p l.length cap ∧ SliceAt w enc k p cap l := SliceAt.of_owns hk h
theorem OwnsL.ne {α : Type} {w : World} {base e k : Nat} {enc : α → List Value} {v : Value} {l : List α} (h : OwnsL w base e k enc v l) {b : Nat} (hb : w.heap.size ≤ b) : ∀ r, v.ownBlock = some r → b ≠ r := fun r hr => by
  have := (World.ownsRow.lt h r hr).2; omega
theorem blk_grownL {w w' : World} {b : Nat} {o : Obj} {v : Value} (hg : w.grownBy w' v.ownBlock) (hb : w.heap[b]? = some o) (hne : ∀ r, v.ownBlock = some r → b ≠ r) : w'.heap[b]? = some o :=
  (hg.block b (lt_of_block hb) (fun e => hne b e.symm rfl)).trans hb
theorem OwnsL.kept {α : Type} {w w' : World} {base e k : Nat} {enc : α → List Value} {v : Value} {l : List α} {r : Nat} (h : OwnsL w base e k enc v l) (hg : w.grownBy w' (some r)) (hne : v.ownBlock ≠ some r) : OwnsL w' base e k enc v l := World.ownsRow.kept h hg (Or.inr hne)
theorem Ext.grownL {α : Type} {a w w' : World} {base e k : Nat} {enc : α → List Value} {v : Value} {l : List α} (h : Ext a w) (ho : OwnsL w base e k enc v l) (hb : a.heap.size ≤ base) (hg : w.grownBy w' v.ownBlock) : Ext a w' := h.grownRow ho hb hg

/-- The number of an int's value. -/
def encI (x : Int) : List Value := [.int .i64 x]
theorem encI_len (x : Int) : (encI x).length = 1 := rfl
theorem flat_encI (l : List Int) : l.flatMap encI = l.map (.int .i64) := by
  induction l with
  | nil => rfl
  | cons x l ih => simp [List.flatMap_cons, encI] at ih ⊢; exact ih

theorem SliceAt.int_at {w : World} {p : Option Addr} {cap : Nat} {l : List Int} (h : SliceAt w encI 1 p cap l) {j : Nat} (hj : j < l.length) :
    ∃ b off, p = some ⟨b, off, none⟩ ∧ b < w.heap.size ∧ w.cell? ⟨b, off + j, none⟩ = some (.int .i64 l[j]) := by
  obtain ⟨b, off, hp, hb, hc⟩ := h.place (by omega)
  exact ⟨b, off, hp, hb, by simpa using hc j hj 0 (.int .i64 l[j]) rfl⟩

theorem ret_val {v v' : Value} (h : v = v') : Ending.returned v = .returned v' := by rw [h]
theorem ret_bool {a b : Bool} (h : a = b) : Ending.returned (.bool a) = .returned (.bool b) := by rw [h]
theorem ret_int {k : IntKind} {a b : Int} (h : a = b) : Ending.returned (.int k a) = .returned (.int k b) := by rw [h]

/-- A store into a block whose content is known. -/
theorem set_at {w : World} {b i : Nat} {c : Array Value} {t : TypeId} {f : Nat × Nat} (h : w.heap[b]? = some (.cells c t f)) (u : Value) : (w.setCell ⟨b, i, none⟩ u).heap[b]? = some (.cells (c.setIfInBounds i u) t f) := by
  simp only [World.setCell, Array.getElem?_modify, h]; simp
theorem set7 {w : World} {b : Nat} {t : TypeId} {f : Nat × Nat} {v0 v1 v2 v3 v4 v5 v6 : Value} (h : w.heap[b]? = some (.cells #[v0, v1, v2, v3, v4, v5, v6] t f)) (u0 u1 u2 u3 u4 u5 u6 : Value) :
    (((((((w.setCell ⟨b, 0, none⟩ u0).setCell ⟨b, 1, none⟩ u1).setCell ⟨b, 2, none⟩ u2).setCell ⟨b, 3, none⟩ u3).setCell ⟨b, 4, none⟩ u4).setCell ⟨b, 5, none⟩ u5).setCell ⟨b, 6, none⟩ u6).heap[b]? = some (.cells #[u0, u1, u2, u3, u4, u5, u6] t f) := by
  have h0 := set_at (i := 0) h u0
  have h1 := set_at (i := 1) h0 u1
  have h2 := set_at (i := 2) h1 u2
  have h3 := set_at (i := 3) h2 u3
  have h4 := set_at (i := 4) h3 u4
  have h5 := set_at (i := 5) h4 u5
  have h6 := set_at (i := 6) h5 u6
  simp only [List.setIfInBounds_toArray, List.set_cons_zero, List.set_cons_succ] at h6
  exact h6
theorem cells_new {w : World} {B : Nat} (hB : B = w.heap.size) (xs : List Value) (t : TypeId) : ∀ j u, xs[j]? = some u → (w.alloc (.cells xs.toArray t)).cell? ((⟨B, 0, none⟩ : Addr).add j) = some u := by
  intro j u hu
  subst hB
  have hadd : (⟨w.heap.size, 0, none⟩ : Addr).add j = ⟨w.heap.size, j, none⟩ := by unfold Addr.add; split <;> simp_all
  rw [hadd]
  simp only [World.cell?, heap_alloc_new w]
  simpa using hu
theorem bodyPost_at {P : Program} {fn : Func} {R : Ending → World → Prop} {e : Exit} {a : Act} {w : World} (h : ∀ W, W = w → bodyPost P fn R e a W) : bodyPost P fn R e a w := h w rfl

end Go.Proofs.Ytnedoaapnfpkfaa
