/- Words for maps of the call's own, by their entries: any type of keys that the reader reads. Program-free. -/
import Derived.Maps.OwnOps
import Derived.Maps.OwnSet
import Derived.DeepKeys3
import Derived.Tactics2
namespace Go.Proofs.YtiochodepgldpaaDoor
open Go Go.RowKit
open Go.Maps (Keyed)
/-- Block b is a map with these entries. -/
def MapAt (w : World) (b : Nat) (l : List (Value × Value)) : Prop := ∃ es clock, w.heap[b]? = some (.map es clock) ∧ es.toList.map (fun e => (e.key, e.val)) = l
section
variable {P : Program} {w w' : World} {b : Nat} {l : List (Value × Value)} {k e t : TypeId}
theorem MapAt.lt (h : MapAt w b l) : b < w.heap.size := by
  obtain ⟨es, c, hb, _⟩ := h
  rcases Nat.lt_or_ge b w.heap.size with hlt | hge
  · exact hlt
  · rw [Array.getElem?_eq_none hge] at hb; cases hb
theorem MapAt.of_block (h : MapAt w b l) (e : w'.heap[b]? = w.heap[b]?) : MapAt w' b l := by
  obtain ⟨es, c, hb, hl⟩ := h
  exact ⟨es, c, e.trans hb, hl⟩
theorem MapAt.below {B : Nat} (h : MapAt w b l) (hb : Below B w w') (hlt : b < B) : MapAt w' b l := h.of_block (hb.block b hlt)
theorem MapAt.made (w : World) : MapAt (w.alloc (.map #[] 0)) w.heap.size [] := ⟨#[], 0, heap_alloc_new w _, rfl⟩
/-- A look-up: there is no entry with the key, or one of them is answered. -/
theorem run_lookup_at (c : Bool) (K : Keyed P k) (ht : P.underlying t = some (.map k e)) {z : Value} (hz : (zeroValue e).run P w = .ok z w) (h : MapAt w b l) (hl : ∀ p ∈ l, ∃ kl, keyOf P k p.1 = some kl) {key : Value} {kl : Lit} (hkey : keyOf P k key = some kl) :
    ((Instr.lookup t (.map (some b)) key c).run P w = .ok (if c then .tuple #[z, .bool false] else z) w ∧ ∀ p ∈ l, p.1 ≠ key) ∨
    ∃ v, (key, v) ∈ l ∧ (Instr.lookup t (.map (some b)) key c).run P w = .ok (if c then .tuple #[v, .bool true] else v) w := by
  obtain ⟨es, clock, hb, rfl⟩ := h
  have hk : ∀ x ∈ es.toList, ∃ kl, keyOf P k x.key = some kl := fun x hx => hl _ (List.mem_map.2 ⟨x, hx, rfl⟩)
  rcases K.find w hkey es.toList hk with ⟨h1, h2⟩ | ⟨j, e0, h1, h2, h3⟩
  · refine .inl ⟨by simp [Instr.lookup, run_underlying ht, MapKept.run_getObj_map hb, K.check w _ hkey, h1, hz, Result.andThen], fun p hp => ?_⟩
    obtain ⟨x, hx, rfl⟩ := List.mem_map.1 hp
    exact h2 x hx
  · refine .inr ⟨e0.val, List.mem_map.2 ⟨e0, List.mem_of_getElem? h2, by rw [h3]⟩, by simp [Instr.lookup, run_underlying ht, MapKept.run_getObj_map hb, K.check w _ hkey, h1, Result.andThen]⟩
/-- A store: the entry is there; the others are as they were. -/
theorem run_update_at (K : Keyed P k) (ht : P.underlying t = some (.map k e)) (h : MapAt w b l) (hl : ∀ p ∈ l, ∃ kl, keyOf P k p.1 = some kl) {key val : Value} {kl : Lit} (hkey : keyOf P k key = some kl) :
    ∃ w' l', (Instr.mapUpdate t (.map (some b)) key val).run P w = .ok () w' ∧ MapAt w' b l' ∧ w.grownBy w' (some b) ∧ (∀ p ∈ l', p = (key, val) ∨ p ∈ l) ∧ (key, val) ∈ l' ∧ ∀ p ∈ l, ∃ v, (p.1, v) ∈ l' := by
  obtain ⟨es, clock, hb, rfl⟩ := h
  have hk : ∀ x ∈ es.toList, ∃ kl, keyOf P k x.key = some kl := fun x hx => hl _ (List.mem_map.2 ⟨x, hx, rfl⟩)
  have hgr : ∀ o, w.grownBy (ChangeMaps.setBlock w b o) (some b) := fun o => ⟨rfl, rfl, rfl, by simp [ChangeMaps.setBlock], fun i _ hi => ChangeMaps.heap_setBlock_other hb _ (fun e => hi (by rw [e]))⟩
  rcases K.find w hkey es.toList hk with ⟨h1, h2⟩ | ⟨j, e0, h1, h2, h3⟩
  · refine ⟨_, _, ?_, ⟨es.push ⟨key, val, clock⟩, clock + 1, ChangeMaps.heap_setBlock_same hb _, rfl⟩, hgr _, ?_, ?_, ?_⟩
    · simp [Instr.mapUpdate, run_underlying ht, MapKept.run_getObj_map hb, K.check w false hkey, h1, MapKept.run_setObj_map _ hb, Result.andThen, ChangeMaps.setBlock]
    · intro p hp
      simp only [Array.toList_push, List.map_append, List.mem_append, List.map_cons, List.map_nil, List.mem_singleton] at hp
      rcases hp with hp | hp
      · exact .inr hp
      · exact .inl hp
    · simp
    · intro p hp
      exact ⟨p.2, by simp only [Array.toList_push, List.map_append, List.mem_append]; exact .inl hp⟩
  · have hj : j < es.size := by
      have := (List.getElem?_eq_some_iff.1 h2).1
      simpa using this
    have hst : (Instr.keyThatStays (((es[j]?).map (·.key)).getD key) key).run P w = .ok key w := by
      have : es[j]? = some e0 := by rw [← Array.getElem?_toList]; exact h2
      rw [this]
      simp only [Option.map_some, Option.getD_some, h3]
      exact K.stays w hkey
    have hlist : (es.modify j fun e => { e with key := key, val := val }).toList.map (fun e => (e.key, e.val)) = (es.toList.map fun e => (e.key, e.val)).set j (key, val) := by
      apply List.ext_getElem?
      intro i
      simp only [List.getElem?_map, Array.getElem?_toList, Array.getElem?_modify, List.getElem?_set, List.length_map, Array.length_toList]
      by_cases hij : j = i
      · subst hij
        have : es[j]? = some e0 := by rw [← Array.getElem?_toList]; exact h2
        simp [hj]
      · simp [hij]
    refine ⟨_, _, ?_, ⟨es.modify j fun e => { e with key := key, val := val }, clock, ChangeMaps.heap_setBlock_same hb _, hlist⟩, hgr _, ?_, ?_, ?_⟩
    · simp [Instr.mapUpdate, run_underlying ht, MapKept.run_getObj_map hb, K.check w false hkey, h1, hst, MapKept.run_setObj_map _ hb, Result.andThen, ChangeMaps.setBlock]
    · intro p hp
      rcases List.mem_or_eq_of_mem_set hp with h | h
      · exact .inr h
      · exact .inl h
    · exact List.mem_set (by simpa using hj) _
    · intro p hp
      obtain ⟨i, hi, rfl⟩ := List.getElem_of_mem hp
      by_cases hij : j = i
      · subst hij
        refine ⟨val, ?_⟩
        have : (es.toList.map fun e => (e.key, e.val))[j].1 = key := by
          have h4 : es.toList[j]? = some e0 := h2
          have h5 := (List.getElem?_eq_some_iff.1 h4).2
          simp only [List.getElem_map, h5, h3]
        rw [this]
        exact List.mem_set (by simpa using hj) _
      · refine ⟨((es.toList.map fun e => (e.key, e.val))[i]).2, ?_⟩
        have h5 : ((es.toList.map fun e => (e.key, e.val)).set j (key, val))[i]'(by simpa using hi) = (es.toList.map fun e => (e.key, e.val))[i] := List.getElem_set_ne hij _
        show (es.toList.map fun e => (e.key, e.val))[i] ∈ _
        rw [← h5]
        exact List.getElem_mem _
end
end Go.Proofs.YtiochodepgldpaaDoor
