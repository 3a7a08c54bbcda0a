/-
  'm[k] op= v' over a map of the call's own that is held as a list of keys with their values: the entry is made or found, then written. Conditions: the keys are of a type for which the kit knows the law of keys.
-/
import Derived.Test.YtnedoaapnfpkfaaMap
import Derived.Laws.IdiomRangeMap
namespace Go.Proofs.Ytnedoaapnfpkfaa
open Go.RowKit Go.Maps Go.MapKept Go.ChangeMaps

section
variable {κ β : Type} {w : World} {P : Program} {T : TypeId} {ek : κ → Value} {ev : β → Value} {b : Nat} {m : List (κ × β)}

/-- The entry of stamp st is the one at key k. -/
def EntryAt (w : World) (ek : κ → Value) (b st : Nat) (k : κ) : Prop := ∃ (es : Array MapEntry) (clock j : Nat) (e : MapEntry), w.heap[b]? = some (.map es clock) ∧ es[j]? = some e ∧ e.born = st ∧ e.key = ek k
theorem EntryAt.of_block {w' : World} {k : κ} {st : Nat} (h : EntryAt w ek b st k) (hb : w'.heap[b]? = w.heap[b]?) : EntryAt w' ek b st k := by
  obtain ⟨es, clock, j, e, h1, h2⟩ := h
  exact ⟨es, clock, j, e, hb.trans h1, h2⟩

variable [DecidableEq κ]

theorem aset_aset {m : List (κ × β)} (hn : (m.map (·.1)).Nodup) (k : κ) (v u : β) : aset (aset m k v) k u = aset m k u := by
  cases hl : alook m k with
  | none =>
    have h1 := aset_new (v := v) hl
    have h2 : (aset m k v)[m.length]? = some (k, v) := by rw [h1]; simp
    rw [aset_at (nodup_aset hn k v) h2, h1, aset_new (v := u) hl]
    simp
  | some a =>
    obtain ⟨j, hj⟩ := List.mem_iff_getElem?.1 (alook_mem hl)
    have hjl : j < m.length := (List.getElem?_eq_some_iff.1 hj).1
    have h1 := aset_at (v := v) hn hj
    have h2 : (aset m k v)[j]? = some (k, v) := by rw [h1]; simp [hjl]
    rw [aset_at (nodup_aset hn k v) h2, h1, aset_at (v := u) hn hj, List.set_set]

/-- The first half: the entry is there. -/
theorem MapAt.entry (h : MapAt w P T ek ev b m) (inj : ∀ x y, ek x = ek y → x = y) (K : Keyed P T) {t e : TypeId} (ht : P.underlying t = some (.map T e)) {z : β} (hz : (zeroValue e).run P w = .ok (ev z) w) {k : κ} {kl : Lit} (hk : keyOf P T (ek k) = some kl) :
    ∃ w' st, (Instr.mapEntry t (.map (some b)) (ek k)).run P w = .ok (.tuple #[ev ((alook m k).getD z), .int .i64 (st : Nat)]) w' ∧ MapAt w' P T ek ev b (aset m k ((alook m k).getD z)) ∧ EntryAt w' ek b st k ∧ w.grownBy w' (some b) := by
  obtain ⟨⟨es, clock, h1, h2, h3⟩, h4, h5⟩ := h
  have gb : ∀ o, w.grownBy (setBlock w b o) (some b) := fun o => ⟨rfl, rfl, rfl, by simp [setBlock], fun i _ hi => heap_setBlock_other h1 _ (fun e => hi (by rw [e]))⟩
  rcases MapAt.find inj K h3 h4 h5 hk w with ⟨hf, hl, hne⟩ | ⟨j, u, e0, hf, hj, hl, he0, hk0, hv0⟩
  · refine ⟨setBlock w b (.map (es.push ⟨ek k, ev z, clock⟩) (clock + 1)), clock, ?_, ⟨⟨_, _, heap_setBlock_same h1 _, stamped_push h2 hne, ?_⟩, ?_, nodup_aset h5 k _⟩, ⟨_, _, es.size, ⟨ek k, ev z, clock⟩, heap_setBlock_same h1 _, by simp, rfl, rfl⟩, gb _⟩
    · simp [Instr.mapEntry, run_underlying ht, MapKept.run_getObj_map h1, K.check w false hk, hf, hz, hl, MapKept.run_setObj_map _ h1, Result.andThen, setBlock, goInt]
    · rw [aset_new hl]; simp [h3, hl]
    · rw [aset_new hl]
      intro x hx
      rcases List.mem_append.1 hx with hx | hx
      · exact h4 x hx
      · simp at hx; subst hx; exact ⟨kl, hk⟩
  · have hj' : es[j]? = some e0 := by simpa using he0
    have hlist : (es.modify j (fun e' => { e' with key := ek k })).toList = es.toList.set j { e0 with key := ek k } := by rw [Array.toList_modify, modify_eq_set _ _ _ _ he0]
    have hset : aset m k ((alook m k).getD z) = m := by
      rw [aset_at h5 hj, hl]
      exact set_same (by rw [hj]; rfl)
    refine ⟨setBlock w b (.map (es.modify j (fun e' => { e' with key := ek k })) clock), e0.born, ?_, ⟨⟨_, _, heap_setBlock_same h1 _, stamped_modify h2 _ _ (fun _ _ => rfl) (fun e' _ he' => by rw [hj'] at he'; cases he'; exact hk0.symm), ?_⟩, ?_, nodup_aset h5 k _⟩, ⟨_, _, j, { e0 with key := ek k }, heap_setBlock_same h1 _, ?_, rfl, rfl⟩, gb _⟩
    · simp [Instr.mapEntry, run_underlying ht, MapKept.run_getObj_map h1, K.check w false hk, hf, hl, hj', hk0, K.stays w hk, MapKept.run_setObj_map _ h1, Result.andThen, setBlock, goInt]
    · rw [hset, hlist, List.map_set, h3]
      exact set_same (by rw [List.getElem?_map, hj]; simp [hv0])
    · rw [hset]; exact h4
    · rw [Array.getElem?_modify]; simp [hj']

/-- The second half: it is written. -/
theorem MapAt.put (h : MapAt w P T ek ev b m) (inj : ∀ x y, ek x = ek y → x = y) {k : κ} {st : Nat} (he : EntryAt w ek b st k) (t : TypeId) (v : β) :
    ∃ w', (Instr.entryStore t (.map (some b)) (.int .i64 (st : Nat)) (ev v)).run P w = .ok () w' ∧ MapAt w' P T ek ev b (aset m k v) ∧ w.grownBy w' (some b) := by
  obtain ⟨⟨es, clock, h1, h2, h3⟩, h4, h5⟩ := h
  obtain ⟨es', clock', j, e0, h1', hj', hst, hk0⟩ := he
  rw [h1] at h1'
  cases h1'
  have gb : ∀ o, w.grownBy (setBlock w b o) (some b) := fun o => ⟨rfl, rfl, rfl, by simp [setBlock], fun i _ hi => heap_setBlock_other h1 _ (fun e => hi (by rw [e]))⟩
  have he0 : es.toList[j]? = some e0 := by simpa using hj'
  have hbn := ((stamped_iff es clock).1 h2).2.1
  have hjl : j < es.size := (Array.getElem?_eq_some_iff.1 hj').1
  have hfind : es.findIdx? (fun e => (e.born : Int) == (st : Int)) = some j := by
    rw [Array.findIdx?_eq_some_iff_getElem]
    have hje : es[j] = e0 := (Array.getElem?_eq_some_iff.1 hj').2
    refine ⟨hjl, by simp [hje, hst], fun i hi => ?_⟩
    have hil : i < es.size := by omega
    simp only [beq_iff_eq]
    intro hc
    have hb' : es[i].born = e0.born := by omega
    have hn := List.pairwise_iff_getElem.1 hbn i j (by simpa using hil) (by simpa using hjl) hi
    simp [hje] at hn
    exact hn hb'
  have h4' : (m.map (fun x => (ek x.1, ev x.2)))[j]? = some (e0.key, e0.val) := by rw [← h3, List.getElem?_map, he0]; rfl
  rw [List.getElem?_map] at h4'
  obtain ⟨x, hx, hx'⟩ := Option.map_eq_some_iff.1 h4'
  simp at hx'
  have hxk : x.1 = k := inj _ _ (hx'.1.trans hk0)
  have hm : m[j]? = some (k, x.2) := by rw [hx]; congr 1; exact Prod.ext hxk rfl
  have hlist : (es.modify j (fun e' => { e' with val := ev v })).toList = es.toList.set j { e0 with val := ev v } := by rw [Array.toList_modify, modify_eq_set _ _ _ _ he0]
  refine ⟨setBlock w b (.map (es.modify j (fun e' => { e' with val := ev v })) clock), ?_, ⟨⟨_, _, heap_setBlock_same h1 _, stamped_modify h2 _ _ (fun _ _ => rfl) (fun _ _ _ => rfl), ?_⟩, ?_, nodup_aset h5 k v⟩, gb _⟩
  · simp [Instr.entryStore, MapKept.run_getObj_map h1, asInt, asIntOf, hfind, MapKept.run_setObj_map _ h1, Result.andThen, setBlock]
  · rw [aset_at h5 hm, hlist, List.map_set, h3, List.map_set, hk0]
  · rw [aset_at h5 hm]
    intro y hy
    rcases List.mem_or_eq_of_mem_set hy with hy | hy
    · exact h4 y hy
    · subst hy; exact hxk ▸ h4 x (List.mem_of_getElem? hx)
end

end Go.Proofs.Ytnedoaapnfpkfaa
