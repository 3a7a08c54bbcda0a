/-
  A map of the call's own as a list of keys with their values, in the order in which the keys came: what a look-up gives, and what a store makes of it. Conditions: the keys are of a type for which the kit knows the law of keys.
-/
import Derived.Test.YtnedoaapnfpkfaaBase
import Derived.Maps.Own
import Derived.Maps.OwnOps
import Derived.Maps.OwnSet
namespace Go.Proofs.Ytnedoaapnfpkfaa
open Go.RowKit Go.Maps Go.MapKept Go.ChangeMaps

section
variable {κ β : Type} [DecidableEq κ]

/-- What a list of keys and values has at a key. -/
def alook (m : List (κ × β)) (k : κ) : Option β := (m.find? (fun x => x.1 == k)).map (·.2)
/-- The list with a value for a key. -/
def aset (m : List (κ × β)) (k : κ) (v : β) : List (κ × β) :=
  if m.any (fun x => x.1 == k) then m.map (fun x => if x.1 == k then (k, v) else x) else m ++ [(k, v)]

theorem alook_none {m : List (κ × β)} {k : κ} : alook m k = none ↔ ∀ x ∈ m, x.1 ≠ k := by
  simp [alook, List.find?_eq_none]

omit [DecidableEq κ] in
theorem set_same : ∀ {l : List κ} {j : Nat} {x : κ}, l[j]? = some x → l.set j x = l
  | [], _, _, h => by simp at h
  | y :: l, 0, x, h => by simp at h; simp [h]
  | y :: l, j + 1, x, h => by simp at h; simp [set_same h]

theorem alook_at {m : List (κ × β)} (hn : (m.map (·.1)).Nodup) {j : Nat} {k : κ} {v : β} (h : m[j]? = some (k, v)) : alook m k = some v := by
  induction m generalizing j with
  | nil => simp at h
  | cons x m ih =>
    simp only [List.map_cons, List.nodup_cons] at hn
    cases j with
    | zero => simp at h; subst h; simp [alook]
    | succ j =>
      simp at h
      have hne : (x.1 == k) = false := by
        rw [beq_eq_false_iff_ne]
        intro e
        exact hn.1 (List.mem_map.2 ⟨(k, v), List.mem_of_getElem? h, e.symm⟩)
      have := ih hn.2 h
      simpa [alook, hne] using this

theorem aset_at {m : List (κ × β)} (hn : (m.map (·.1)).Nodup) {j : Nat} {k : κ} {v u : β} (h : m[j]? = some (k, u)) : aset m k v = m.set j (k, v) := by
  have hany : m.any (fun x => x.1 == k) = true := List.any_eq_true.2 ⟨(k, u), List.mem_of_getElem? h, by simp⟩
  unfold aset
  rw [if_pos hany]
  clear hany
  induction m generalizing j with
  | nil => simp at h
  | cons x m ih =>
    simp only [List.map_cons, List.nodup_cons] at hn
    cases j with
    | zero =>
      simp at h; subst h
      simp only [List.map_cons, beq_self_eq_true, if_true, List.set_cons_zero, List.cons.injEq, true_and]
      have : ∀ y ∈ m, (if y.1 == k then (k, v) else y) = y := by
        intro y hy
        rw [if_neg]
        intro e
        exact hn.1 (List.mem_map.2 ⟨y, hy, by simpa using e⟩)
      exact (List.map_congr_left this).trans (List.map_id' m)
    | succ j =>
      simp at h
      have hne : (x.1 == k) = false := by
        rw [beq_eq_false_iff_ne]
        intro e
        exact hn.1 (List.mem_map.2 ⟨(k, u), List.mem_of_getElem? h, e.symm⟩)
      have hrec := ih hn.2 h
      simp only [List.map_cons, hne, List.set_cons_succ, List.cons.injEq]
      exact ⟨by simp, hrec⟩

theorem aset_new {m : List (κ × β)} {k : κ} {v : β} (h : alook m k = none) : aset m k v = m ++ [(k, v)] := by
  unfold aset
  rw [if_neg]
  intro e
  obtain ⟨x, hx, he⟩ := List.any_eq_true.1 e
  exact alook_none.1 h x hx (by simpa using he)

theorem alook_mem {m : List (κ × β)} {k : κ} {v : β} (h : alook m k = some v) : (k, v) ∈ m := by
  unfold alook at h
  obtain ⟨x, hx, hv⟩ := Option.map_eq_some_iff.1 h
  have h1 := List.find?_some hx
  have h2 := List.mem_of_find?_eq_some hx
  have : x = (k, v) := by cases x; simp at h1 hv; simp [h1, hv]
  exact this ▸ h2

theorem alook_aset {m : List (κ × β)} (hn : (m.map (·.1)).Nodup) (k k' : κ) (v : β) : alook (aset m k v) k' = if k = k' then some v else alook m k' := by
  cases hl : alook m k with
  | none =>
    rw [aset_new hl]
    by_cases e : k = k'
    · subst e
      rw [if_pos rfl]
      unfold alook
      rw [List.find?_append]
      have : m.find? (fun x => x.1 == k) = none := by
        unfold alook at hl; simpa using hl
      rw [this]; simp
    · rw [if_neg e]
      unfold alook
      rw [List.find?_append]
      have : [(k, v)].find? (fun x => x.1 == k') = none := by simp [e]
      rw [this]; simp
  | some u =>
    obtain ⟨j, hj⟩ := List.mem_iff_getElem?.1 (alook_mem hl)
    rw [aset_at hn hj]
    have hn' : ((m.set j (k, v)).map (·.1)).Nodup := by
      rw [List.map_set]
      have : (m.map (·.1)).set j k = m.map (·.1) := set_same (by rw [List.getElem?_map, hj]; rfl)
      simpa [this] using hn
    have hjl : j < m.length := (List.getElem?_eq_some_iff.1 hj).1
    by_cases e : k = k'
    · subst e
      rw [if_pos rfl]
      exact alook_at hn' (j := j) (by simp [hjl])
    · rw [if_neg e]
      cases hl' : alook m k' with
      | none =>
        rw [alook_none] at hl' ⊢
        intro x hx
        rcases List.mem_or_eq_of_mem_set hx with h | h
        · exact hl' x h
        · subst h; exact e
      | some u' =>
        obtain ⟨i, hi⟩ := List.mem_iff_getElem?.1 (alook_mem hl')
        refine alook_at hn' (j := i) ?_
        have hne : j ≠ i := by
          intro e'; subst e'; rw [hj] at hi; simp at hi; exact e hi.1
        rw [List.getElem?_set_ne hne]; exact hi

theorem nodup_aset {m : List (κ × β)} (hn : (m.map (·.1)).Nodup) (k : κ) (v : β) : ((aset m k v).map (·.1)).Nodup := by
  cases hl : alook m k with
  | none =>
    rw [aset_new hl, List.map_append, List.nodup_append]
    refine ⟨hn, by simp, ?_⟩
    intro a ha b hb
    simp at hb
    subst hb
    obtain ⟨x, hx, rfl⟩ := List.mem_map.1 ha
    exact alook_none.1 hl x hx
  | some u =>
    obtain ⟨j, hj⟩ := List.mem_iff_getElem?.1 (alook_mem hl)
    rw [aset_at hn hj, List.map_set]
    have : (m.map (·.1)).set j k = m.map (·.1) := set_same (by rw [List.getElem?_map, hj]; rfl)
    simpa [this] using hn

end

section
variable {κ β : Type}

/-- Block b is a map whose keys and values, in the order in which the keys came, are those of m. -/
structure MapAt (w : World) (P : Program) (T : TypeId) (ek : κ → Value) (ev : β → Value) (b : Nat) (m : List (κ × β)) : Prop where
  blk : ∃ es clock, w.heap[b]? = some (.map es clock) ∧ Stamped es clock ∧ es.toList.map (fun e => (e.key, e.val)) = m.map (fun x => (ek x.1, ev x.2))
  keys : ∀ x ∈ m, ∃ l, keyOf P T (ek x.1) = some l
  nodup : (m.map (·.1)).Nodup

variable {w : World} {P : Program} {T : TypeId} {ek : κ → Value} {ev : β → Value} {b : Nat} {m : List (κ × β)}

theorem MapAt.of_block {w' : World} (h : MapAt w P T ek ev b m) (hb : w'.heap[b]? = w.heap[b]?) : MapAt w' P T ek ev b m := by
  obtain ⟨⟨es, clock, h1, h2⟩, h3, h4⟩ := h
  exact ⟨⟨es, clock, hb.trans h1, h2⟩, h3, h4⟩
theorem MapAt.lt (h : MapAt w P T ek ev b m) : b < w.heap.size := by
  obtain ⟨⟨es, clock, h1, _⟩, _⟩ := h
  exact lt_of_block h1
theorem MapAt.ext {w' : World} (h : MapAt w P T ek ev b m) (hx : Ext w w') : MapAt w' P T ek ev b m := h.of_block (hx.block b h.lt)
theorem MapAt.alloc (h : MapAt w P T ek ev b m) (o : Obj) : MapAt (w.alloc o) P T ek ev b m := h.of_block (Below.heap_alloc w o b h.lt)
theorem MapAt.setCell (h : MapAt w P T ek ev b m) {a : Addr} (ha : b ≠ a.block) (u : Value) : MapAt (w.setCell a u) P T ek ev b m := h.of_block (Below.heap_setCell w a u b ha)
theorem MapAt.drew (h : MapAt w P T ek ev b m) : MapAt w.drew P T ek ev b m := h.of_block rfl
theorem MapAt.made (w : World) (P : Program) (T : TypeId) (ek : κ → Value) (ev : β → Value) : MapAt (w.alloc (.map #[] 0)) P T ek ev w.heap.size [] where
  blk := ⟨#[], 0, heap_alloc_new w _, ⟨by simp, by simp, by simp⟩, rfl⟩
  keys := by simp
  nodup := by simp

theorem entries_keys {es : Array MapEntry} (hm : es.toList.map (fun e => (e.key, e.val)) = m.map (fun x => (ek x.1, ev x.2))) (hk : ∀ x ∈ m, ∃ l, keyOf P T (ek x.1) = some l) : ∀ e ∈ es.toList, ∃ l, keyOf P T e.key = some l := by
  intro e he
  have h1 : (e.key, e.val) ∈ m.map (fun x => (ek x.1, ev x.2)) := hm ▸ List.mem_map.2 ⟨e, he, rfl⟩
  obtain ⟨x, hx, h2⟩ := List.mem_map.1 h1
  obtain ⟨l, hl⟩ := hk x hx
  simp at h2
  exact ⟨l, h2.1 ▸ hl⟩

end

section
variable {κ β : Type} [DecidableEq κ] {w : World} {P : Program} {T : TypeId} {ek : κ → Value} {ev : β → Value} {b : Nat} {m : List (κ × β)}

/-- What the search for a key finds. -/
theorem MapAt.find (inj : ∀ x y, ek x = ek y → x = y) (K : Keyed P T) {es : Array MapEntry} (hm : es.toList.map (fun e => (e.key, e.val)) = m.map (fun x => (ek x.1, ev x.2))) (hks : ∀ x ∈ m, ∃ l, keyOf P T (ek x.1) = some l) (hnd : (m.map (·.1)).Nodup)
    {k : κ} {kl : Lit} (hk : keyOf P T (ek k) = some kl) (w : World) :
    ((Instr.findKey T (ek k) es.toList).run P w = .ok none w ∧ alook m k = none ∧ ∀ e ∈ es.toList, e.key ≠ ek k) ∨
    ∃ (j : Nat) (v : β) (e : MapEntry), (Instr.findKey T (ek k) es.toList).run P w = .ok (some (j, ev v)) w ∧ m[j]? = some (k, v) ∧ alook m k = some v ∧ es.toList[j]? = some e ∧ e.key = ek k ∧ e.val = ev v := by
  rcases K.find w hk es.toList (entries_keys hm hks) with ⟨h1, h2⟩ | ⟨j, e, h1, h2, h3⟩
  · refine Or.inl ⟨h1, alook_none.2 fun x hx he => ?_, h2⟩
    have h4 : (ek x.1, ev x.2) ∈ es.toList.map (fun e => (e.key, e.val)) := hm ▸ List.mem_map.2 ⟨x, hx, rfl⟩
    obtain ⟨e, he', h5⟩ := List.mem_map.1 h4
    simp at h5
    exact h2 e he' (by rw [h5.1, he])
  · have h4 : (m.map (fun x => (ek x.1, ev x.2)))[j]? = some (e.key, e.val) := by rw [← hm, List.getElem?_map, h2]; rfl
    rw [List.getElem?_map] at h4
    obtain ⟨x, hx, h5⟩ := Option.map_eq_some_iff.1 h4
    simp at h5
    have hxk : x.1 = k := inj _ _ (h5.1.trans h3)
    have hx' : m[j]? = some (k, x.2) := by rw [hx]; congr 1; exact Prod.ext hxk rfl
    refine Or.inr ⟨j, x.2, e, ?_, hx', alook_at hnd hx', h2, h3, h5.2.symm⟩
    rw [h1, ← h5.2]

/-- 'm[k]' and 'v, ok := m[k]'. -/
theorem MapAt.look (h : MapAt w P T ek ev b m) (inj : ∀ x y, ek x = ek y → x = y) (K : Keyed P T) {t e : TypeId} (ht : P.underlying t = some (.map T e)) {z : β} (hz : (zeroValue e).run P w = .ok (ev z) w) {k : κ} {kl : Lit} (hk : keyOf P T (ek k) = some kl) (c : Bool) :
    (Instr.lookup t (.map (some b)) (ek k) c).run P w = .ok (if c then .tuple #[ev ((alook m k).getD z), .bool (alook m k).isSome] else ev ((alook m k).getD z)) w := by
  obtain ⟨⟨es, clock, h1, h2, h3⟩, h4, h5⟩ := h
  rcases MapAt.find inj K h3 h4 h5 hk w with ⟨hf, hl, _⟩ | ⟨j, v, e0, hf, _, hl, _⟩
  · simp [Instr.lookup, run_underlying ht, MapKept.run_getObj_map h1, K.check w _ hk, hf, hz, hl, Result.andThen]
  · simp [Instr.lookup, run_underlying ht, MapKept.run_getObj_map h1, K.check w _ hk, hf, hl, Result.andThen]

/-- 'm[k] = v'. -/
theorem MapAt.store (h : MapAt w P T ek ev b m) (inj : ∀ x y, ek x = ek y → x = y) (K : Keyed P T) {t e : TypeId} (ht : P.underlying t = some (.map T e)) {k : κ} {kl : Lit} (hk : keyOf P T (ek k) = some kl) (v : β) :
    ∃ w', (Instr.mapUpdate t (.map (some b)) (ek k) (ev v)).run P w = .ok () w' ∧ MapAt w' P T ek ev b (aset m k v) ∧ w.grownBy w' (some b) := by
  obtain ⟨⟨es, clock, h1, h2, h3⟩, h4, h5⟩ := h
  have gb : ∀ o, w.grownBy (setBlock w b o) (some b) := fun o => ⟨rfl, rfl, rfl, by simp [setBlock], fun i _ hi => heap_setBlock_other h1 _ (fun e => hi (by rw [e]))⟩
  rcases MapAt.find inj K h3 h4 h5 hk w with ⟨hf, hl, hne⟩ | ⟨j, u, e0, hf, hj, hl, he0, hk0, hv0⟩
  · refine ⟨setBlock w b (.map (es.push ⟨ek k, ev v, clock⟩) (clock + 1)), ?_, ⟨⟨_, _, heap_setBlock_same h1 _, stamped_push h2 hne, ?_⟩, ?_, nodup_aset h5 k v⟩, gb _⟩
    · simp [Instr.mapUpdate, run_underlying ht, MapKept.run_getObj_map h1, K.check w false hk, hf, MapKept.run_setObj_map _ h1, Result.andThen, setBlock]
    · rw [aset_new hl]; simp [h3]
    · rw [aset_new hl]
      intro x hx
      rcases List.mem_append.1 hx with hx | hx
      · exact h4 x hx
      · simp at hx; subst hx; exact ⟨kl, hk⟩
  · have hj' : es[j]? = some e0 := by simpa using he0
    have hlist : (es.modify j (fun e' => { e' with key := ek k, val := ev v })).toList = es.toList.set j { e0 with key := ek k, val := ev v } := by rw [Array.toList_modify, modify_eq_set _ _ _ _ he0]
    refine ⟨setBlock w b (.map (es.modify j (fun e' => { e' with key := ek k, val := ev v })) clock), ?_, ⟨⟨_, _, heap_setBlock_same h1 _, stamped_modify h2 _ _ (fun _ _ => rfl) (fun e' _ he' => by rw [hj'] at he'; cases he'; exact hk0.symm), ?_⟩, ?_, nodup_aset h5 k v⟩, gb _⟩
    · simp [Instr.mapUpdate, run_underlying ht, MapKept.run_getObj_map h1, K.check w false hk, hf, hj', hk0, K.stays w hk, MapKept.run_setObj_map _ h1, Result.andThen, setBlock]
    · rw [aset_at h5 hj, hlist, List.map_set, h3, List.map_set]
    · rw [aset_at h5 hj]
      intro x hx
      rcases List.mem_or_eq_of_mem_set hx with hx | hx
      · exact h4 x hx
      · subst hx; exact ⟨kl, hk⟩

end

section
variable {κ β : Type} [DecidableEq κ] {w : World} {P : Program} {T : TypeId} {ek : κ → Value} {ev : β → Value} {b : Nat} {m : List (κ × β)} {ops : Array Oper} {rest : List Oper} {o : Oper} {a : Act} {Q : Exit → Act → World → Prop}

/-- 'm[k]' at the operation. -/
theorem wpList_look (hg : o.guard = none) (mo xo : Operand) (t : TypeId) (hop : o.op = Op.lookup t mo xo false) (h : MapAt w P T ek ev b m) (inj : ∀ x y, ek x = ek y → x = y) (K : Keyed P T) (e : TypeId) (ht : P.underlying t = some (.map T e)) (z : β) (hz : (zeroValue e).run P w = .ok (ev z) w)
    (k : κ) (kl : Lit) (hm : a.eval mo = .map (some b)) (hx : a.eval xo = ek k) (hk : keyOf P T (ek k) = some kl) (hK : wpList P ops Q rest (a.put o.dst (ev ((alook m k).getD z))) w) : wpList P ops Q (o :: rest) a w := by
  refine wpList_plain hg fun K' hK' => ?_
  have hrun := h.look inj K ht hz hk false
  unfold Oper.wp
  simp only [execOp, hop, hm, hx, Sem.run_bind, hrun, Result.andThen_ok, Sem.run_pure]
  exact hK' _ _ hK

/-- 'm[k] = v' at the operation. -/
theorem wpList_store (hg : o.guard = none) (mo xo vo : Operand) (t : TypeId) (hop : o.op = Op.mapUpdate t mo xo vo) (h : MapAt w P T ek ev b m) (inj : ∀ x y, ek x = ek y → x = y) (K : Keyed P T) (e : TypeId) (ht : P.underlying t = some (.map T e))
    (k : κ) (kl : Lit) (v : β) (hm : a.eval mo = .map (some b)) (hx : a.eval xo = ek k) (hv : a.eval vo = ev v) (hk : keyOf P T (ek k) = some kl)
    (hK : ∀ w', MapAt w' P T ek ev b (aset m k v) → w.grownBy w' (some b) → wpList P ops Q rest (a.put o.dst undef) w') : wpList P ops Q (o :: rest) a w := by
  refine wpList_plain hg fun K' hK' => ?_
  obtain ⟨w', hrun, h1, h2⟩ := h.store inj K ht hk v
  unfold Oper.wp
  simp only [execOp, hop, hm, hx, hv, Sem.run_bind, hrun, Result.andThen_ok, Sem.run_pure]
  exact hK' _ _ (hK w' h1 h2)
end

/-- The number of an int as a value. -/
def ekI (x : Int) : Value := .int .i64 x
theorem ekI_inj (x y : Int) (h : ekI x = ekI y) : x = y := by cases h; rfl
def evB (x : Bool) : Value := .bool x

end Go.Proofs.Ytnedoaapnfpkfaa
