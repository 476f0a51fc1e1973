/- A drawn region, one obligation for each operation, as in the text before it; but what holds of the world may speak of slots as well. -/
import Derived.Test.YtnfpjcjlapljjaaGreatDoorRegW
namespace Go.Proofs.YtnfpjcjlapljjaaGreatDoor
open Go Go.RowKit
section
variable {P : Program} {ops : Array Oper} {Q : Exit → Act → World → Prop}
theorem any_factsS {a0 : Act} {w0 : World} (E : Nat → Bool) (Base : (Nat → Bool) → (Nat → Value) → World → Prop) (Fact : Nat → (Nat → Value) → World → Prop) (V : Nat → List Nat)
    (hV : ∀ j s s' w, (∀ t, t ∈ V j → s' t = s t) → Fact j s w → Fact j s' w)
    (hap : FactsApart ops V = true) (hso : FactsSoundW ops a0.tmps.size = true) (h0 : Base (fun _ => false) (sl a0) w0)
    (hop : ∀ (i : Nat) (o : Oper), ops[i]? = some o → ∀ (L : Nat → Bool) (a : Act) (w : World), L i = false → (∀ t, (∀ (k : Nat) ok, ops[k]? = some ok → ok.dst = some t → k = i ∨ (ok.after.any fun e => Region.binds .any e && e.on == i) = true) → sl a t = sl a0 t) → (∀ k, (o.after.any fun e => Region.binds .any e && e.on == k) = true → Fact k (sl a) w) → Base L (sl a) w →
      WpW P ops Q o a w (fun a' w' => ∃ v, a' = a.put o.dst v ∧ (∀ s : Nat → Value, (∀ t, o.dst ≠ some t → s t = sl a t) → (∀ d, o.dst = some d → s d = v) → Base (fun j => L j || j == i) s w') ∧ (∀ j, j ≠ i → (E j = true ∨ consW ops i j = true) → Fact j (sl a) w → Fact j (sl a) w') ∧ ∀ s : Nat → Value, (∀ t, o.dst ≠ some t → s t = sl a t) → (∀ d, o.dst = some d → s d = v) → Fact i s w'))
    (hend : ∀ (L : Nat → Bool) (a : Act) (w : World), a.tmps.size = a0.tmps.size → a.defers = a0.defers → (∀ t, (∀ (k : Nat) ok, ops[k]? = some ok → ok.dst ≠ some t) → sl a t = sl a0 t) → Base L (sl a) w → (∀ i, i < ops.size → E i = true → Fact i (sl a) w) → Q .normal a w) :
    wpAny P .any ops Q ops.size (Array.replicate ops.size false) a0 w0 := by
  have hso' : ∀ (i : Nat) (o : Oper), ops[i]? = some o → (∀ d, o.dst = some d → d < a0.tmps.size) ∧ ∀ e ∈ o.after, Region.binds .any e = true → e.on < i := by
    intro i o ho
    have hi : i < ops.size := (Array.getElem?_eq_some_iff.1 ho).1
    unfold FactsSoundW at hso
    rw [List.all_eq_true] at hso
    have h := hso i (List.mem_range.2 hi)
    rw [ho] at h
    simp only [Bool.and_eq_true] at h
    obtain ⟨h2, h3⟩ := h
    refine ⟨fun d hd => by rw [hd] at h2; simpa using h2, fun e he hb => ?_⟩
    have := Array.all_eq_true_iff_forall_mem.1 h3 e he
    simpa [hb] using this
  have hap' : ∀ (i j : Nat) (oi oj : Oper) (d : Nat), ops[i]? = some oi → ops[j]? = some oj → oi.dst = some d → d ∈ V j → i = j ∨ ∃ e ∈ oj.after, Region.binds .any e = true ∧ e.on = i := by
    intro i j oi oj d hi hj hd hv
    have h1 : i < ops.size := (Array.getElem?_eq_some_iff.1 hi).1
    have h2 : j < ops.size := (Array.getElem?_eq_some_iff.1 hj).1
    unfold FactsApart at hap
    have h := List.all_eq_true.1 (List.all_eq_true.1 hap i (List.mem_range.2 h1)) j (List.mem_range.2 h2)
    rw [hi, hj] at h
    simp only [hd, Bool.or_eq_true, Bool.not_eq_true', beq_iff_eq] at h
    rcases h with (h | h) | h
    · have : (V j).contains d = true := by simpa using hv
      rw [h] at this; cases this
    · exact .inl h
    · obtain ⟨q, hq, h⟩ := Array.any_eq_true.1 h
      simp only [Bool.and_eq_true, beq_iff_eq] at h
      exact .inr ⟨_, Array.getElem_mem hq, h⟩
  refine any_inv0 (fun L a w => a.tmps.size = a0.tmps.size ∧ a.defers = a0.defers ∧ (∀ t, (∀ (k : Nat) ok, ops[k]? = some ok → ok.dst = some t → L k = false) → sl a t = sl a0 t) ∧ Base L (sl a) w ∧ (∀ i, i < ops.size → L i = true → (E i = true ∨ ∃ k, L k = false ∧ ∃ ok, ops[k]? = some ok ∧ ∃ e ∈ ok.after, Region.binds .any e = true ∧ e.on = i) → Fact i (sl a) w) ∧
    (∀ (i : Nat) (o : Oper), ops[i]? = some o → L i = true → ∀ e ∈ o.after, Region.binds .any e = true → L e.on = true)) (fun i o ho e he hb => (hso' i o ho).2 e he hb) ⟨rfl, rfl, fun _ _ => rfl, h0, fun _ _ h _ => absurd h (by simp), fun _ _ _ h => absurd h (by simp)⟩ ?_ ?_
  · intro L a w i o ⟨hz, hdf, hf, hb, hF, hcl⟩ ho hli hdeps
    have hi : i < ops.size := (Array.getElem?_eq_some_iff.1 ho).1
    have hD : ∀ k, (o.after.any fun e => Region.binds .any e && e.on == k) = true → Fact k (sl a) w := fun k hk => by
      obtain ⟨q, hq, h⟩ := Array.any_eq_true.1 hk
      simp only [Bool.and_eq_true, beq_iff_eq] at h
      have hlt := (hso' i o ho).2 _ (Array.getElem_mem hq) h.1
      rw [← h.2]
      exact hF _ (by omega) (hdeps _ (Array.getElem_mem hq) h.1) (.inr ⟨i, hli, o, ho, _, Array.getElem_mem hq, h.1, rfl⟩)
    have hf2 : ∀ t, (∀ (k : Nat) ok, ops[k]? = some ok → ok.dst = some t → k = i ∨ (ok.after.any fun e => Region.binds .any e && e.on == i) = true) → sl a t = sl a0 t := fun t ht => hf t fun k ok hk hd => by
      rcases ht k ok hk hd with rfl | h
      · exact hli
      · obtain ⟨q, hq, hqe⟩ := Array.any_eq_true.1 h
        simp only [Bool.and_eq_true, beq_iff_eq] at hqe
        cases hL : L k with
        | false => rfl
        | true =>
          have := hcl k ok hk hL _ (Array.getElem_mem hq) hqe.1
          rw [hqe.2, hli] at this
          cases this
    have hO := hop i o ho L a w hli hf2 hD hb
    unfold wpOp
    rw [ho]
    dsimp only
    split
    case isTrue hw =>
      refine .inl (Oper.wp_mono ?_ (hO.1 hw))
      rintro a' w' ⟨v, rfl, hb', hst, hFi⟩
      have hsame : ∀ d, o.dst = some d → sl (a.put o.dst v) d = v := fun d hd => by
        rw [hd]; exact sl_put_same (by rw [hz]; exact (hso' i o ho).1 d hd)
      have hother : ∀ t, o.dst ≠ some t → sl (a.put o.dst v) t = sl a t := fun t ht => by
        cases hd : o.dst with
        | none => rfl
        | some d => exact sl_put_other (fun e => ht (by rw [hd, e]))
      refine ⟨?_, ?_, fun t ht => (hother t (fun hd => by have := ht i o ho hd; simp at this)).trans (hf t fun k ok hk hd => by have := ht k ok hk hd; simp only [Bool.or_eq_false_iff] at this; exact this.1), hb' _ hother hsame, fun j hj hlj hlive => ?_, fun j oj hoj hlj e he hbe => ?_⟩
      · rw [← hz]; cases o.dst <;> simp [Act.put]
      · rw [← hdf]; cases o.dst <;> simp [Act.put]
      · by_cases hji : j = i
        · subst hji
          exact hFi _ hother hsame
        · have hlj' : L j = true := by simpa [hji] using hlj
          have hlive' : E j = true ∨ ∃ k, k ≠ i ∧ L k = false ∧ ∃ ok, ops[k]? = some ok ∧ ∃ e ∈ ok.after, Region.binds .any e = true ∧ e.on = j := by
            rcases hlive with h | ⟨k, hk, h⟩
            · exact .inl h
            · simp only [Bool.or_eq_false_iff, beq_eq_false_iff_ne] at hk
              exact .inr ⟨k, hk.2, hk.1, h⟩
          have hcons : E j = true ∨ consW ops i j = true := by
            rcases hlive' with h | ⟨k, h1, hlk, ok, h2, e, h3, h4, h5⟩
            · exact .inl h
            · refine .inr ?_
              unfold consW
              refine List.any_eq_true.2 ⟨k, List.mem_range.2 (Array.getElem?_eq_some_iff.1 h2).1, ?_⟩
              rw [h2, ho]
              simp only [Bool.and_eq_true, bne_iff_ne, ne_eq, Bool.not_eq_true']
              refine ⟨⟨h1, Bool.eq_false_iff.2 fun hw => ?_⟩, Array.any_eq_true'.2 ⟨e, h3, ?_⟩⟩
              · obtain ⟨q, hq, hqe⟩ := Array.any_eq_true.1 hw
                simp only [Bool.and_eq_true, beq_iff_eq] at hqe
                have := hdeps _ (Array.getElem_mem hq) hqe.1
                rw [hqe.2, hlk] at this
                cases this
              · simp [h4, h5]
          refine hV j (sl a) _ w' (fun t ht => hother t fun hd => ?_) (hst j hji hcons (hF j hj hlj' (hlive'.imp id fun ⟨k, _, h⟩ => ⟨k, h⟩)))
          obtain ⟨oj, hoj⟩ : ∃ oj, ops[j]? = some oj := ⟨ops[j], Array.getElem?_eq_getElem hj⟩
          rcases hap' i j o oj t ho hoj hd ht with h | ⟨e, he, hbe, hon⟩
          · exact hji h.symm
          · have := hcl j oj hoj hlj' e he hbe
            rw [hon, hli] at this; cases this
      · by_cases hji : j = i
        · subst hji
          rw [ho] at hoj
          injection hoj with hoj
          subst hoj
          simp [hdeps e he hbe]
        · have hlj' : L j = true := by simpa [hji] using hlj
          simp [hcl j oj hoj hlj' e he hbe]
    case isFalse hw =>
      obtain ⟨v, hv, hb', hst, hFi⟩ := hO.2 (by simpa using hw)
      rw [hv]
      have hsame : ∀ d, o.dst = some d → sl (a.put o.dst v) d = v := fun d hd => by
        rw [hd]; exact sl_put_same (by rw [hz]; exact (hso' i o ho).1 d hd)
      have hother : ∀ t, o.dst ≠ some t → sl (a.put o.dst v) t = sl a t := fun t ht => by
        cases hd : o.dst with
        | none => rfl
        | some d => exact sl_put_other (fun e => ht (by rw [hd, e]))
      refine ⟨?_, ?_, fun t ht => (hother t (fun hd => by have := ht i o ho hd; simp at this)).trans (hf t fun k ok hk hd => by have := ht k ok hk hd; simp only [Bool.or_eq_false_iff] at this; exact this.1), hb' _ hother hsame, fun j hj hlj hlive => ?_, fun j oj hoj hlj e he hbe => ?_⟩
      · rw [← hz]; cases o.dst <;> simp [Act.put]
      · rw [← hdf]; cases o.dst <;> simp [Act.put]
      · by_cases hji : j = i
        · subst hji
          exact hFi _ hother hsame
        · have hlj' : L j = true := by simpa [hji] using hlj
          have hlive' : E j = true ∨ ∃ k, k ≠ i ∧ L k = false ∧ ∃ ok, ops[k]? = some ok ∧ ∃ e ∈ ok.after, Region.binds .any e = true ∧ e.on = j := by
            rcases hlive with h | ⟨k, hk, h⟩
            · exact .inl h
            · simp only [Bool.or_eq_false_iff, beq_eq_false_iff_ne] at hk
              exact .inr ⟨k, hk.2, hk.1, h⟩
          have hcons : E j = true ∨ consW ops i j = true := by
            rcases hlive' with h | ⟨k, h1, hlk, ok, h2, e, h3, h4, h5⟩
            · exact .inl h
            · refine .inr ?_
              unfold consW
              refine List.any_eq_true.2 ⟨k, List.mem_range.2 (Array.getElem?_eq_some_iff.1 h2).1, ?_⟩
              rw [h2, ho]
              simp only [Bool.and_eq_true, bne_iff_ne, ne_eq, Bool.not_eq_true']
              refine ⟨⟨h1, Bool.eq_false_iff.2 fun hw => ?_⟩, Array.any_eq_true'.2 ⟨e, h3, ?_⟩⟩
              · obtain ⟨q, hq, hqe⟩ := Array.any_eq_true.1 hw
                simp only [Bool.and_eq_true, beq_iff_eq] at hqe
                have := hdeps _ (Array.getElem_mem hq) hqe.1
                rw [hqe.2, hlk] at this
                cases this
              · simp [h4, h5]
          refine hV j (sl a) _ w (fun t ht => hother t fun hd => ?_) (hst j hji hcons (hF j hj hlj' (hlive'.imp id fun ⟨k, _, h⟩ => ⟨k, h⟩)))
          obtain ⟨oj, hoj⟩ : ∃ oj, ops[j]? = some oj := ⟨ops[j], Array.getElem?_eq_getElem hj⟩
          rcases hap' i j o oj t ho hoj hd ht with h | ⟨e, he, hbe, hon⟩
          · exact hji h.symm
          · have := hcl j oj hoj hlj' e he hbe
            rw [hon, hli] at this; cases this
      · by_cases hji : j = i
        · subst hji
          rw [ho] at hoj
          injection hoj with hoj
          subst hoj
          simp [hdeps e he hbe]
        · have hlj' : L j = true := by simpa [hji] using hlj
          simp [hcl j oj hoj hlj' e he hbe]
  · intro L a w ⟨hz, hdf, hf, hb, hF, _⟩ hall
    exact hend L a w hz hdf (fun t ht => hf t fun k ok hk hd => absurd hd (ht k ok hk)) hb fun i hi he => hF i hi (hall i hi) (.inl he)

/-- What is to be shown of one operation: from the facts that it waits for, it yields a value, keeps the others' facts, and has its own. -/
def OpFactS (P : Program) (Q : Exit → Act → World → Prop) (a0 : Act) (l : List Oper) (E : Nat → Bool) (Base : (Nat → Bool) → (Nat → Value) → World → Prop) (Fact : Nat → (Nat → Value) → World → Prop) (i : Nat) (o : Oper) : Prop :=
  ∀ (L : Nat → Bool) (a : Act) (w : World), L i = false → (∀ t, freeB l i t = true → sl a t = sl a0 t) → (∀ k, (o.after.any fun e => Region.binds .any e && e.on == k) = true → Fact k (sl a) w) → Base L (sl a) w →
    WpW P l.toArray Q o a w (fun a' w' => ∃ v, a' = a.put o.dst v ∧ (∀ s : Nat → Value, (∀ t, o.dst ≠ some t → s t = sl a t) → (∀ d, o.dst = some d → s d = v) → Base (fun j => L j || j == i) s w') ∧ (∀ j, j ≠ i → (E j = true ∨ consW l.toArray i j = true) → Fact j (sl a) w → Fact j (sl a) w') ∧ ∀ s : Nat → Value, (∀ t, o.dst ≠ some t → s t = sl a t) → (∀ d, o.dst = some d → s d = v) → Fact i s w')
theorem any_eachS {a0 : Act} {w0 : World} {l : List Oper} (E : Nat → Bool) (Base : (Nat → Bool) → (Nat → Value) → World → Prop) (Fact : Nat → (Nat → Value) → World → Prop) (V : Nat → List Nat)
    (hV : ∀ j s s' w, (∀ t, t ∈ V j → s' t = s t) → Fact j s w → Fact j s' w)
    (hap : FactsApart l.toArray V = true) (hso : FactsSoundW l.toArray a0.tmps.size = true) (h0 : Base (fun _ => false) (sl a0) w0)
    (hop : Each (OpFactS P Q a0 l E Base Fact) 0 l)
    (hend : ∀ (L : Nat → Bool) (a : Act) (w : World), a.tmps.size = a0.tmps.size → a.defers = a0.defers → (∀ t, (l.all fun ok => ok.dst != some t) = true → sl a t = sl a0 t) → Base L (sl a) w → (∀ i, i < l.length → E i = true → Fact i (sl a) w) → Q .normal a w) :
    wpAny P .any l.toArray Q l.toArray.size (Array.replicate l.toArray.size false) a0 w0 := by
  have hfr : ∀ a : Act, (∀ t, (∀ (k : Nat) ok, l.toArray[k]? = some ok → ok.dst ≠ some t) → sl a t = sl a0 t) → ∀ t, (l.all fun ok => ok.dst != some t) = true → sl a t = sl a0 t := by
    intro a h t ht
    refine h t fun k ok hk => ?_
    rw [List.getElem?_toArray] at hk
    have := List.all_eq_true.1 ht ok (List.mem_of_getElem? hk)
    simpa using this
  have hfr2 : ∀ (a : Act) (i : Nat), (∀ t, (∀ (k : Nat) ok, l.toArray[k]? = some ok → ok.dst = some t → k = i ∨ (ok.after.any fun e => Region.binds .any e && e.on == i) = true) → sl a t = sl a0 t) → ∀ t, freeB l i t = true → sl a t = sl a0 t := by
    intro a i h t ht
    refine h t fun k ok hk hd => ?_
    rw [List.getElem?_toArray] at hk
    have h1 := List.all_eq_true.1 ht k (List.mem_range.2 (List.getElem?_eq_some_iff.1 hk).1)
    rw [hk] at h1
    simp only [Bool.or_eq_true, bne_iff_ne, ne_eq, beq_iff_eq] at h1
    rcases h1 with (h1 | h1) | h1
    · exact absurd hd h1
    · exact .inl h1
    · exact .inr h1
  refine any_factsS E Base Fact V hV hap hso h0 (fun i o ho L a w hl hf D hb => ?_) (fun L a w h1 h2 h3 h4 h5 => hend L a w h1 h2 (hfr a h3) h4 (fun i hi he => h5 i (by simpa using hi) he))
  have := hop.at_ i o (by simpa using ho)
  rw [Nat.zero_add] at this
  exact this L a w hl (hfr2 a i hf) D hb

theorem any_lawS {a0 : Act} {w0 : World} {l : List Oper} (E : Nat → Bool) (Base : (Nat → Bool) → (Nat → Value) → World → Prop) (Fact : Nat → (Nat → Value) → World → Prop) (V : Nat → List Nat)
    (hV : ∀ j s s' w, (∀ t, t ∈ V j → s' t = s t) → Fact j s w → Fact j s' w)
    (hap : FactsApart l.toArray V = true) (hso : FactsSoundW l.toArray a0.tmps.size = true) (h0 : Base (fun _ => false) (sl a0) w0)
    (hop : Each (OpFactS P Q a0 l E Base Fact) 0 l)
    (hend : ∀ (L : Nat → Bool) (x : Nat → Value) (w : World), Base L x w → (∀ i, i < l.length → E i = true → Fact i x w) → Q .normal (after l a0 x) w) :
    wpAny P .any l.toArray Q l.toArray.size (Array.replicate l.toArray.size false) a0 w0 :=
  any_eachS E Base Fact V hV hap hso h0 hop fun L a w hz hd hf hb hF => by
    rw [after_eq hz hd hf]
    exact hend L (sl a) w hb hF
/-- An operation that yields v and leaves w'. -/
theorem OpFactS.value {a0 : Act} {l : List Oper} {E : Nat → Bool} {Base : (Nat → Bool) → (Nat → Value) → World → Prop} {Fact : Nat → (Nat → Value) → World → Prop} {i : Nat} {o : Oper} (hgd : o.guard = none)
    (hst : ∀ j s w w', Below w.heap.size w w' → Fact j s w → Fact j s w') (hbb : ∀ (L : Nat → Bool) (s s' : Nat → Value) (w w' : World), (∀ t, o.dst ≠ some t → s' t = s t) → Below w.heap.size w w' → Base L s w → Base (fun j => L j || j == i) s' w')
    (h : ∀ (L : Nat → Bool) (a : Act) (w : World), L i = false → (∀ t, freeB l i t = true → sl a t = sl a0 t) → (∀ k, (o.after.any fun e => Region.binds .any e && e.on == k) = true → Fact k (sl a) w) → Base L (sl a) w →
      ∃ v w', (execOp a.eval o).run P w = .ok (.value v) w' ∧ Below w.heap.size w w' ∧ ∀ s : Nat → Value, (∀ t, o.dst ≠ some t → s t = sl a t) → (∀ d, o.dst = some d → s d = v) → Fact i s w') : OpFactS P Q a0 l E Base Fact i o := by
  intro L a w hl hf D hb
  have hw : Region.wanted o (yielded l.toArray a.tmps) = true := by simp [Region.wanted, hgd]
  refine ⟨fun _ => ?_, fun h => by rw [hw] at h; cases h⟩
  obtain ⟨v, w', hrun, hbl, hF⟩ := h L a w hl hf D hb
  unfold Oper.wp
  rw [hrun]
  exact ⟨v, rfl, fun s h _ => hbb L (sl a) s w w' h hbl hb, fun j _ _ hj => hst j _ _ _ hbl hj, hF⟩
/-- A call. -/
theorem OpFactS.call {a0 : Act} {l : List Oper} {E : Nat → Bool} {Base : (Nat → Bool) → (Nat → Value) → World → Prop} {Fact : Nat → (Nat → Value) → World → Prop} {i : Nat} {o : Oper} (hgd : o.guard = none)
    (hst : ∀ j s w w', Below w.heap.size w w' → Fact j s w → Fact j s w') (hbb : ∀ (L : Nat → Bool) (s s' : Nat → Value) (w w' : World), (∀ t, o.dst ≠ some t → s' t = s t) → Below w.heap.size w w' → Base L s w → Base (fun j => L j || j == i) s' w')
    (h : ∀ (L : Nat → Bool) (a : Act) (w : World), L i = false → (∀ t, freeB l i t = true → sl a t = sl a0 t) → (∀ k, (o.after.any fun e => Region.binds .any e && e.on == k) = true → Fact k (sl a) w) → Base L (sl a) w →
      ∃ f args, (execOp a.eval o).run P w = .ok (.enter f args) w ∧ Calls P f args w fun e w' => ∃ v, e = .returned v ∧ Below w.heap.size w w' ∧ ∀ s : Nat → Value, (∀ t, o.dst ≠ some t → s t = sl a t) → (∀ d, o.dst = some d → s d = v) → Fact i s w') : OpFactS P Q a0 l E Base Fact i o := by
  intro L a w hl hf D hb
  have hw : Region.wanted o (yielded l.toArray a.tmps) = true := by simp [Region.wanted, hgd]
  refine ⟨fun _ => ?_, fun h => by rw [hw] at h; cases h⟩
  obtain ⟨f, args, hrun, hc⟩ := h L a w hl hf D hb
  unfold Oper.wp
  rw [hrun]
  refine hc.mono ?_
  rintro e w' ⟨v, rfl, hbl, hF⟩
  exact ⟨v, rfl, fun s h _ => hbb L (sl a) s w w' h hbl hb, fun j _ _ hj => hst j _ _ _ hbl hj, hF⟩

/-- An operation that yields v and writes (an append in place): what it leaves of the other facts is shown for each. -/
theorem OpFactS.write {a0 : Act} {l : List Oper} {E : Nat → Bool} {Base : (Nat → Bool) → (Nat → Value) → World → Prop} {Fact : Nat → (Nat → Value) → World → Prop} {i : Nat} {o : Oper} (hgd : o.guard = none)
    (h : ∀ (L : Nat → Bool) (a : Act) (w : World), L i = false → (∀ t, freeB l i t = true → sl a t = sl a0 t) → (∀ k, (o.after.any fun e => Region.binds .any e && e.on == k) = true → Fact k (sl a) w) → Base L (sl a) w →
      ∃ v w', (execOp a.eval o).run P w = .ok (.value v) w' ∧ (∀ s : Nat → Value, (∀ t, o.dst ≠ some t → s t = sl a t) → (∀ d, o.dst = some d → s d = v) → Base (fun j => L j || j == i) s w') ∧ (∀ j, j ≠ i → (E j = true ∨ consW l.toArray i j = true) → Fact j (sl a) w → Fact j (sl a) w') ∧ ∀ s : Nat → Value, (∀ t, o.dst ≠ some t → s t = sl a t) → (∀ d, o.dst = some d → s d = v) → Fact i s w') : OpFactS P Q a0 l E Base Fact i o := by
  intro L a w hl hf D hb
  have hw : Region.wanted o (yielded l.toArray a.tmps) = true := by simp [Region.wanted, hgd]
  refine ⟨fun _ => ?_, fun h => by rw [hw] at h; cases h⟩
  obtain ⟨v, w', hrun, hB, hst, hF⟩ := h L a w hl hf D hb
  unfold Oper.wp
  rw [hrun]
  exact ⟨v, rfl, hB, hst, hF⟩
/-- A store. -/
theorem OpFactS.skip {a0 : Act} {l : List Oper} {E : Nat → Bool} {Base : (Nat → Bool) → (Nat → Value) → World → Prop} {Fact : Nat → (Nat → Value) → World → Prop} {i : Nat} {o : Oper} (hgd : o.guard = none)
    (h : ∀ (L : Nat → Bool) (a : Act) (w : World), L i = false → (∀ t, freeB l i t = true → sl a t = sl a0 t) → (∀ k, (o.after.any fun e => Region.binds .any e && e.on == k) = true → Fact k (sl a) w) → Base L (sl a) w →
      ∃ w', (execOp a.eval o).run P w = .ok .skip w' ∧ (∀ s : Nat → Value, (∀ t, o.dst ≠ some t → s t = sl a t) → Base (fun j => L j || j == i) s w') ∧ (∀ j, j ≠ i → (E j = true ∨ consW l.toArray i j = true) → Fact j (sl a) w → Fact j (sl a) w') ∧ ∀ s : Nat → Value, (∀ t, o.dst ≠ some t → s t = sl a t) → Fact i s w') : OpFactS P Q a0 l E Base Fact i o := by
  intro L a w hl hf D hb
  have hw : Region.wanted o (yielded l.toArray a.tmps) = true := by simp [Region.wanted, hgd]
  refine ⟨fun _ => ?_, fun h => by rw [hw] at h; cases h⟩
  obtain ⟨w', hrun, hB, hst, hF⟩ := h L a w hl hf D hb
  unfold Oper.wp
  rw [hrun]
  exact ⟨undef, rfl, fun s h _ => hB s h, hst, fun s h _ => hF s h⟩
end
section
variable {P : Program} {l : List Oper} {Q : Exit → Act → World → Prop}
/-- The first m operations, one obligation for each; then the rest. -/
theorem from_lawS {a0 : Act} {w0 : World} (m : Nat) {blk : List Oper} (E : Nat → Bool) (Base : (Nat → Bool) → (Nat → Value) → World → Prop) (Fact : Nat → (Nat → Value) → World → Prop) (V : Nat → List Nat) (hB : phaseB l m = true) (hb : l.take m = blk)
    (hV : ∀ j s s' w, (∀ t, t ∈ V j → s' t = s t) → Fact j s w → Fact j s' w)
    (hap : FactsApart blk.toArray V = true) (hso : FactsSoundW blk.toArray a0.tmps.size = true) (h0 : Base (fun _ => false) (sl a0) w0)
    (hop : Each (OpFactS P (fun e a w => e = .normal ∧ wpFrom P l Q m a w) a0 blk E Base Fact) 0 blk)
    (hend : ∀ (L : Nat → Bool) (x : Nat → Value) (w : World), Base L x w → (∀ i, i < blk.length → E i = true → Fact i x w) → wpFrom P l Q m (after blk a0 x) w) : wpFrom P l Q 0 a0 w0 :=
  from_any m (Q1 := fun e a w => e = .normal ∧ wpFrom P l Q m a w) hB hb (fun _ _ _ h h' => absurd h'.1 h) (any_lawS E Base Fact V hV hap hso h0 hop fun L x w hx hF => ⟨rfl, hend L x w hx hF⟩) fun _ _ h => h.2
end
end Go.Proofs.YtnfpjcjlapljjaaGreatDoor
