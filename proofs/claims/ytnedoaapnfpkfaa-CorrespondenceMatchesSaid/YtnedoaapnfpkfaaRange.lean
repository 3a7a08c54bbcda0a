/-
  A range over a map of the call's own that is held as a list of keys with their values: the state of the loop, its begin, its step. The order of the keys is whatever the tape says. Conditions: the map's keys are of a type whose values as keys are one-to-one.
-/
import Derived.Test.YtnedoaapnfpkfaaMap
import Derived.Maps.Range
import Derived.RangeFuncGives
namespace Go.Proofs.Ytnedoaapnfpkfaa
open Go.RowKit Go.Maps Go.MapKept Go.ChangeMaps

section
variable {κ β : Type}

/-- Block r walks over the map in block b, which holds m; ss: the keys that have come; cnt: how many entries are still to come. -/
structure RangeAt (w : World) (P : Program) (T : TypeId) (ek : κ → Value) (ev : β → Value) (b r : Nat) (m : List (κ × β)) (ss : List κ) (cnt : Nat) : Prop where
  blk : ∃ es clock since seen c0, w.heap[b]? = some (.map es clock) ∧ Stamped es clock ∧ es.toList.map (fun e => (e.key, e.val)) = m.map (fun x => (ek x.1, ev x.2)) ∧
    w.heap[r]? = some (.mapIter (some b) since seen c0) ∧ (∀ x ∈ es.toList, x.born < since) ∧ (leftOf es seen).size = cnt ∧ since ≤ c0 ∧ since ≤ clock ∧ (∀ e ∈ es.toList, ∀ k, e.key = ek k → (seen.contains e.born = true ↔ k ∈ ss))
  nodup : (m.map (·.1)).Nodup
  once : ss.Nodup
  come : ∀ k ∈ ss, k ∈ m.map (·.1)

variable {w : World} {P : Program} {T : TypeId} {ek : κ → Value} {ev : β → Value} {b r : Nat} {m : List (κ × β)} {ss : List κ} {cnt : Nat}

theorem RangeAt.of_blocks {w' : World} (h : RangeAt w P T ek ev b r m ss cnt) (hb : w'.heap[b]? = w.heap[b]?) (hr : w'.heap[r]? = w.heap[r]?) : RangeAt w' P T ek ev b r m ss cnt := by
  obtain ⟨⟨es, clock, since, seen, c0, h1, h2, h3, h4, h5⟩, h6, h7, h8⟩ := h
  exact ⟨⟨es, clock, since, seen, c0, hb.trans h1, h2, h3, hr.trans h4, h5⟩, h6, h7, h8⟩
theorem RangeAt.lt (h : RangeAt w P T ek ev b r m ss cnt) : b < w.heap.size ∧ r < w.heap.size := by
  obtain ⟨⟨es, clock, since, seen, c0, h1, h2, h3, h4, h5⟩, _⟩ := h
  exact ⟨lt_of_block h1, lt_of_block h4⟩
theorem RangeAt.kept {w' : World} {row : Option Nat} (h : RangeAt w P T ek ev b r m ss cnt) (hg : w.grownBy w' row) (hb : some b ≠ row) (hr : some r ≠ row) : RangeAt w' P T ek ev b r m ss cnt := h.of_blocks (hg.block b h.lt.1 hb) (hg.block r h.lt.2 hr)
theorem RangeAt.of_walks {w' : World} (h : RangeAt w P T ek ev b r m ss cnt) (hk : KeepsWalks w w') : RangeAt w' P T ek ev b r m ss cnt := by
  obtain ⟨⟨es, clock, since, seen, c0, h1, h2, h3, h4, h5⟩, h6, h7, h8⟩ := h
  exact ⟨⟨es, clock, since, seen, c0, hk.same b _ h1 rfl, h2, h3, hk.same r _ h4 rfl, h5⟩, h6, h7, h8⟩
theorem RangeAt.left_eq (h : RangeAt w P T ek ev b r m ss cnt) : w.rangeLeft b r = cnt := by
  obtain ⟨⟨es, clock, since, seen, c0, h1, h2, h3, h4, h5, h6, _⟩, _⟩ := h
  simp only [World.rangeLeft, h1, h4]
  exact h6
theorem RangeAt.walk (h : RangeAt w P T ek ev b r m ss cnt) : ∃ o : Obj, w.heap[r]? = some o ∧ o.isWalk = true := by
  obtain ⟨⟨es, clock, since, seen, c0, h1, h2, h3, h4, h5⟩, _⟩ := h
  exact ⟨_, h4, rfl⟩
theorem RangeAt.ne (h : RangeAt w P T ek ev b r m ss cnt) : r ≠ b := by
  obtain ⟨⟨es, clock, since, seen, c0, h1, h2, h3, h4, h5⟩, _⟩ := h
  intro e; rw [e, h1] at h4; cases h4

/-- 'range m'. -/
theorem MapAt.range (h : MapAt w P T ek ev b m) {t e : TypeId} (ht : P.underlying t = some (.map T e)) :
    ∃ w', (Instr.range t (.map (some b))).run P w = .ok (.pointer (some ⟨w.heap.size, 0, none⟩)) w' ∧ RangeAt w' P T ek ev b w.heap.size m [] m.length ∧ w.grownBy w' none ∧ w'.heap.size = w.heap.size + 1 := by
  have hlt := h.lt
  obtain ⟨⟨es, clock, h1, h2, h3⟩, h4, h5⟩ := h
  refine ⟨_, run_range_map w t T e b es clock ht h1, ⟨⟨es, clock, clock, #[], clock, (Below.heap_alloc w _ b hlt).trans h1, h2, h3, heap_alloc_new w _, ?_, ?_, Nat.le_refl _, Nat.le_refl _, ?_⟩, h5, List.nodup_nil, by simp⟩, World.grownBy_alloc w _ none, by simp⟩
  · exact ((stamped_iff es clock).1 h2).1
  · have := congrArg List.length h3
    have hf : es.filter (fun _ => true) = es := Array.filter_eq_self.2 (fun _ _ => rfl)
    simp [leftOf] at this ⊢
    rw [hf]; exact this
  · intro e he k hk; simp

/-- THE STEP. -/
theorem RangeAt.next (h : RangeAt w P T ek ev b r m ss cnt) (inj : ∀ x y, ek x = ek y → x = y) (ty : TypeId) :
    (cnt = 0 ∧ (∀ k ∈ m.map (·.1), k ∈ ss) ∧ (Instr.next (.pointer (some ⟨r, 0, none⟩)) false ty).run P w = .ok (.tuple #[.bool false]) w) ∨
    ∃ k v w' cnt', (k, v) ∈ m ∧ k ∉ ss ∧ (Instr.next (.pointer (some ⟨r, 0, none⟩)) false ty).run P w = .ok (.tuple #[.bool true, ek k, ev v]) w' ∧ RangeAt w' P T ek ev b r m (ss ++ [k]) cnt' ∧ cnt' < cnt ∧ w.grownBy w' (some r) ∧ w'.heap.size = w.heap.size ∧
      (Instr.entry (.pointer (some ⟨r, 0, none⟩))).run P w' = .ok (.tuple #[ek k, ev v]) w' := by
  have hne := h.ne
  obtain ⟨⟨es, clock, since, seen, c0, hb, hst, hm, hr, hold, rfl, hsc, hsk, hss⟩, hnd, honce, hcome⟩ := h
  have ent : ∀ e ∈ es.toList, ∃ x ∈ m, e.key = ek x.1 ∧ e.val = ev x.2 := by
    intro e he
    have h1 : (e.key, e.val) ∈ m.map (fun x => (ek x.1, ev x.2)) := hm ▸ List.mem_map.2 ⟨e, he, rfl⟩
    obtain ⟨x, hx, h2⟩ := List.mem_map.1 h1
    simp at h2
    exact ⟨x, hx, h2.1.symm, h2.2.symm⟩
  have back : ∀ x ∈ m, ∃ e ∈ es.toList, e.key = ek x.1 ∧ e.val = ev x.2 := by
    intro x hx
    have h1 : (ek x.1, ev x.2) ∈ es.toList.map (fun e => (e.key, e.val)) := hm ▸ List.mem_map.2 ⟨x, hx, rfl⟩
    obtain ⟨e, he, h2⟩ := List.mem_map.1 h1
    simp at h2
    exact ⟨e, he, h2.1, h2.2⟩
  rcases run_next_at (P := P) w ty r b since c0 seen es clock hr hb hold hsc with ⟨h0, hrun⟩ | ⟨e, he, w1, hal, hrun⟩
  · refine Or.inl ⟨h0, fun k hk => ?_, hrun⟩
    obtain ⟨x, hx, rfl⟩ := List.mem_map.1 hk
    obtain ⟨e, he, hek, _⟩ := back x hx
    exact (hss e he x.1 hek).1 (all_seen es seen h0 e he)
  · obtain ⟨hem, hes⟩ := mem_left he
    obtain ⟨x, hx, hk, hv⟩ := ent e hem
    have hnew : x.1 ∉ ss := fun hin => by
      have := (hss e hem x.1 hk).2 hin
      rw [hes] at this; cases this
    have hr1 : w1.heap[r]? = some (.mapIter (some b) since seen c0) := by rcases hal with rfl | rfl <;> exact hr
    have hb1 : w1.heap[b]? = some (.map es clock) := by rcases hal with rfl | rfl <;> exact hb
    have hset := heap_set (o' := .mapIter (some b) since (seen.push e.born) clock) hr1
    have hb' : (setBlock w1 r (.mapIter (some b) since (seen.push e.born) clock)).heap[b]? = some (.map es clock) := (hset.2 b (fun e1 => hne e1.symm)).trans hb1
    have hst' := (stamped_iff es clock).1 hst
    refine Or.inr ⟨x.1, x.2, setBlock w1 r (.mapIter (some b) since (seen.push e.born) clock), (leftOf es (seen.push e.born)).size, hx, hnew, ?_, ⟨⟨es, clock, since, seen.push e.born, clock, hb', hst, hm, hset.1, hold, rfl, hsk, hsk, ?_⟩, hnd, ?_, ?_⟩, left_shrinks es seen e he, ?_, ?_, ?_⟩
    · rw [← hk, ← hv]; exact hrun
    · intro e' he' k' hk'
      rw [contains_push, Bool.or_eq_true, hss e' he' k' hk', List.mem_append, List.mem_singleton]
      refine or_congr_right ?_
      constructor
      · intro hbn
        have := born_inj hst'.2.1 he' hem (by simpa using hbn)
        subst this
        exact inj _ _ (hk'.symm.trans hk)
      · intro e1
        subst e1
        have := entry_eq_of_key hst'.2.2 he' hem (hk'.trans hk.symm)
        simp [this]
    · refine List.nodup_append.2 ⟨honce, by simp, fun a ha b hb => by simp at hb; subst hb; exact fun e => hnew (e ▸ ha)⟩
    · intro k hk'
      rcases List.mem_append.1 hk' with h1 | h1
      · exact hcome k h1
      · simp at h1; subst h1; exact List.mem_map.2 ⟨x, hx, rfl⟩
    · rcases hal with rfl | rfl <;> exact ⟨rfl, rfl, rfl, by simp [setBlock], fun i _ hi => hset.2 i (fun e1 => hi (by rw [e1]))⟩
    · rcases hal with rfl | rfl <;> simp [setBlock]
    · rw [← hk, ← hv]
      exact run_entry_at _ r b since seen es clock e hset.1 hb' hem hst'.2.1

/-- AT THE END. -/
theorem RangeAt.perm [DecidableEq κ] (h : RangeAt w P T ek ev b r m ss cnt) (hall : ∀ k ∈ m.map (·.1), k ∈ ss) : ss.Perm (m.map (·.1)) :=
  (List.perm_ext_iff_of_nodup h.once h.nodup).2 fun k => ⟨h.come k, hall k⟩
end

end Go.Proofs.Ytnedoaapnfpkfaa
