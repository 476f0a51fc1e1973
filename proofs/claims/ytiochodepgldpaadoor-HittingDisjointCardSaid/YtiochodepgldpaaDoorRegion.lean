/- A region that draws its order, by an invariant: one obligation for each operation, whatever the order. Program-free. -/
import Derived.Test.YtiochodepgldpaaDoorMem
import Derived.Orders
namespace Go.Proofs.YtiochodepgldpaaDoor
open Go Go.RowKit

section
variable {P : Program} {ops : Array Oper} {Q : Exit → Act → World → Prop}

theorem any_of_inv (Inv : (Nat → Bool) → Act → World → Prop)
    (hac : ∀ (i : Nat) (o : Oper), ops[i]? = some o → ∀ e ∈ o.after, Region.binds .any e = true → e.on < i)
    (hstep : ∀ (L : Nat → Bool) (a : Act) (w : World) (i : Nat) (o : Oper), Inv L a w → ops[i]? = some o → L i = false → (∀ e ∈ o.after, Region.binds .any e = true → L e.on = true) → wpOp P ops Q i (fun a' w' => Inv (fun j => L j || j == i) a' w') a w)
    (hend : ∀ (L : Nat → Bool) (a : Act) (w : World), Inv L a w → (∀ i, i < ops.size → L i = true) → Q .normal a w) :
    ∀ (fuel : Nat) (listed : Array Bool) (a : Act) (w : World), listed.size = ops.size → listed.toList.count false ≤ fuel → Inv (fun j => listed.getD j false) a w → wpAny P .any ops Q fuel listed a w := by
  have hall : ∀ listed : Array Bool, listed.size = ops.size → Region.ready .any ops listed = [] → ∀ i, i < ops.size → listed.getD i false = true := by
    intro listed hs hr i
    induction i using Nat.strongRecOn with
    | ind i ih =>
      intro hi
      rcases hl : listed.getD i false with _ | _
      · have hm : i ∈ Region.ready .any ops listed := by
          rw [mem_ready]
          have hi' : i < listed.size := by omega
          refine ⟨?_, ops[i], Array.getElem?_eq_getElem hi, fun e he hb => ?_⟩
          · simp [hi'] at hl ⊢; exact hl
          · have hlt := hac i _ (Array.getElem?_eq_getElem hi) e he hb
            exact ih e.on hlt (by omega)
        rw [hr] at hm
        cases hm
      · rfl
  intro fuel
  induction fuel with
  | zero =>
    intro listed a w hs hc hI
    have hL : ∀ i, i < ops.size → listed.getD i false = true := by
      intro i hi
      have hi' : i < listed.size := by omega
      rcases hl : listed.getD i false with _ | _
      · have hmem : false ∈ listed.toList := by
          simp [hi'] at hl
          rw [← hl]; simp
        have := List.count_pos_iff.2 hmem
        omega
      · rfl
    refine ⟨?_, hend _ _ _ hI hL⟩
    rw [List.eq_nil_iff_forall_not_mem]
    intro j hj
    obtain ⟨h1, o, ho, _⟩ := mem_ready.1 hj
    have hlt : j < ops.size := (Array.getElem?_eq_some_iff.1 ho).1
    have := hL j hlt
    have hj' : j < listed.size := by omega
    simp [hj'] at h1 this
    rw [h1] at this; cases this
  | succ fuel ih =>
    intro listed a w hs hc hI
    refine ⟨fun hr => hend _ _ _ hI (hall listed hs hr), fun i hi => ?_⟩
    obtain ⟨h1, o, ho, hd⟩ := mem_ready.1 hi
    have hlt : i < ops.size := (Array.getElem?_eq_some_iff.1 ho).1
    have hi' : i < listed.size := by omega
    have h2 : listed.getD i false = false := by simp [hi'] at h1 ⊢; exact h1
    have h3 : listed[i] = false := by simpa [hi'] using h2
    refine wpOp_mono (fun a' w' hI' => ih (listed.setIfInBounds i true) a' w' (by simp [hs]) ?_ ?_) (hstep _ a w i o hI ho h2 hd)
    · have : (listed.setIfInBounds i true).toList = listed.toList.set i true := by simp
      rw [this, List.count_set (by simpa using hi')]
      have hpos : 0 < listed.toList.count false := List.count_pos_iff.2 (by rw [← h3]; simp)
      have hcc : listed.toList.count false = Array.count false listed := by simp
      simp [h3]
      omega
    · have : (fun j => (listed.setIfInBounds i true).getD j false) = fun j => listed.getD j false || j == i := by
        funext j
        by_cases hj : j = i
        · subst hj
          simp [hi']
        · by_cases hjs : j < listed.size
          · simp [hjs, Ne.symm hj, hj]
          · simp [hjs, hj]
      rw [this]
      exact hI'

theorem wp_region_inv {id : Nat} {a : Act} {w : World} (hm : P.follows .mixedOrders = true) (Inv : (Nat → Bool) → Act → World → Prop)
    (hac : ∀ (i : Nat) (o : Oper), ops[i]? = some o → ∀ e ∈ o.after, Region.binds .any e = true → e.on < i)
    (h0 : Inv (fun _ => false) a w.drew)
    (hstep : ∀ (L : Nat → Bool) (a : Act) (w : World) (i : Nat) (o : Oper), Inv L a w → ops[i]? = some o → L i = false → (∀ e ∈ o.after, Region.binds .any e = true → L e.on = true) → wpOp P ops Q i (fun a' w' => Inv (fun j => L j || j == i) a' w') a w)
    (hend : ∀ (L : Nat → Bool) (a : Act) (w : World), Inv L a w → (∀ i, i < ops.size → L i = true) → Q .normal a w) : (Code.region id ops true).wp P Q a w := by
  refine wp_region_any hm (any_of_inv Inv hac hstep hend _ _ _ _ (by simp) ?_ ?_)
  · simp
  · have : (fun j => (Array.replicate ops.size false).getD j false) = fun _ => false := by
      funext j
      by_cases hj : j < ops.size <;> simp [hj]
    rw [this]
    exact h0

/-- What lies in a slot. -/
def sl (a : Act) (t : Nat) : Value := a.tmps.getD t undef
theorem sl_put_same {a : Act} {d : Nat} {v : Value} (hd : d < a.tmps.size) : sl (a.put (some d) v) d = v := by
  simp [sl, Act.put, hd]
theorem sl_put_other {a : Act} {d t : Nat} {v : Value} (h : t ≠ d) : sl (a.put (some d) v) t = sl a t := by
  unfold sl Act.put
  by_cases ht : t < a.tmps.size
  · simp [ht, Ne.symm h]
  · simp [ht]
/-- The temporary that operation number i writes is read by the fact j only if j waits for i. -/
def FactsApart (ops : Array Oper) (V : Nat → List Nat) : Bool :=
  (List.range ops.size).all fun i => (List.range ops.size).all fun j => match ops[i]?, ops[j]? with
    | some oi, some oj => (match oi.dst with
      | some d => !(V j).contains d || i == j || oj.after.any fun e => Region.binds .any e && e.on == i
      | none => true)
    | _, _ => true
def FactsSound (ops : Array Oper) (N : Nat) : Bool :=
  (List.range ops.size).all fun i => match ops[i]? with
    | some o => o.guard.isNone && (match o.dst with | some d => decide (d < N) | none => true) && o.after.all fun e => !Region.binds .any e || decide (e.on < i)
    | none => true

theorem wp_region_facts {id : Nat} {a0 : Act} {w0 : World} (hm : P.follows .mixedOrders = true) (Base : World → Prop) (Fact : Nat → (Nat → Value) → World → Prop) (V : Nat → List Nat)
    (hV : ∀ j s s' w, (∀ t, t ∈ V j → s' t = s t) → Fact j s w → Fact j s' w)
    (hap : FactsApart ops V = true) (hso : FactsSound ops a0.tmps.size = true) (h0 : Base w0.drew)
    (hop : ∀ (i : Nat) (o : Oper), ops[i]? = some o → ∀ (a : Act) (w : World), (∀ t, (∀ (k : Nat) ok, ops[k]? = some ok → ok.dst ≠ some t) → sl a t = sl a0 t) → (∀ k, (o.after.any fun e => Region.binds .any e && e.on == k) = true → Fact k (sl a) w) → Base w →
      o.wp P a w (fun a' w' => ∃ v, a' = a.put o.dst v ∧ Base w' ∧ (∀ j, j ≠ i → Fact j (sl a) w → Fact j (sl a) w') ∧ ∀ s : Nat → Value, (∀ t, o.dst ≠ some t → s t = sl a t) → (∀ d, o.dst = some d → s d = v) → Fact i s w') Q)
    (hend : ∀ (a : Act) (w : World), a.tmps.size = a0.tmps.size → a.defers = a0.defers → (∀ t, (∀ (k : Nat) ok, ops[k]? = some ok → ok.dst ≠ some t) → sl a t = sl a0 t) → Base w → (∀ i, i < ops.size → Fact i (sl a) w) → Q .normal a w) :
    (Code.region id ops true).wp P Q a0 w0 := by
  have hso' : ∀ (i : Nat) (o : Oper), ops[i]? = some o → o.guard = none ∧ (∀ d, o.dst = some d → d < a0.tmps.size) ∧ ∀ e ∈ o.after, Region.binds .any e = true → e.on < i := by
    intro i o ho
    have hi : i < ops.size := (Array.getElem?_eq_some_iff.1 ho).1
    unfold FactsSound at hso
    rw [List.all_eq_true] at hso
    have h := hso i (List.mem_range.2 hi)
    rw [ho] at h
    simp only [Bool.and_eq_true, Option.isNone_iff_eq_none] at h
    obtain ⟨⟨h1, h2⟩, h3⟩ := h
    refine ⟨h1, fun d hd => by rw [hd] at h2; simpa using h2, fun e he hb => ?_⟩
    have := Array.all_eq_true_iff_forall_mem.1 h3 e he
    simpa [hb] using this
  have hap' : ∀ (i j : Nat) (oi oj : Oper) (d : Nat), ops[i]? = some oi → ops[j]? = some oj → oi.dst = some d → d ∈ V j → i = j ∨ ∃ e ∈ oj.after, Region.binds .any e = true ∧ e.on = i := by
    intro i j oi oj d hi hj hd hv
    have h1 : i < ops.size := (Array.getElem?_eq_some_iff.1 hi).1
    have h2 : j < ops.size := (Array.getElem?_eq_some_iff.1 hj).1
    unfold FactsApart at hap
    have h := List.all_eq_true.1 (List.all_eq_true.1 hap i (List.mem_range.2 h1)) j (List.mem_range.2 h2)
    rw [hi, hj] at h
    simp only [hd, Bool.or_eq_true, Bool.not_eq_true', beq_iff_eq] at h
    rcases h with (h | h) | h
    · have : (V j).contains d = true := by simpa using hv
      rw [h] at this; cases this
    · exact .inl h
    · obtain ⟨q, hq, h⟩ := Array.any_eq_true.1 h
      simp only [Bool.and_eq_true, beq_iff_eq] at h
      exact .inr ⟨_, Array.getElem_mem hq, h⟩
  refine wp_region_inv hm (fun L a w => a.tmps.size = a0.tmps.size ∧ a.defers = a0.defers ∧ (∀ t, (∀ (k : Nat) ok, ops[k]? = some ok → ok.dst ≠ some t) → sl a t = sl a0 t) ∧ Base w ∧ (∀ i, i < ops.size → L i = true → Fact i (sl a) w) ∧
    (∀ (i : Nat) (o : Oper), ops[i]? = some o → L i = true → ∀ e ∈ o.after, Region.binds .any e = true → L e.on = true)) (fun i o ho e he hb => (hso' i o ho).2.2 e he hb) ⟨rfl, rfl, fun _ _ => rfl, h0, fun _ _ h => absurd h (by simp), fun _ _ _ h => absurd h (by simp)⟩ ?_ ?_
  · intro L a w i o ⟨hz, hdf, hf, hb, hF, hcl⟩ ho hli hdeps
    have hi : i < ops.size := (Array.getElem?_eq_some_iff.1 ho).1
    unfold wpOp
    rw [ho]
    have hwant : Region.wanted o (yielded ops a.tmps) = true := by simp [Region.wanted, (hso' i o ho).1]
    simp only [hwant, if_true]
    refine .inl (Oper.wp_mono ?_ (hop i o ho a w hf (fun k hk => ?_) hb))
    · rintro a' w' ⟨v, rfl, hb', hst, hFi⟩
      have hsame : ∀ d, o.dst = some d → sl (a.put o.dst v) d = v := fun d hd => by
        rw [hd]; exact sl_put_same (by rw [hz]; exact (hso' i o ho).2.1 d hd)
      have hother : ∀ t, o.dst ≠ some t → sl (a.put o.dst v) t = sl a t := fun t ht => by
        cases hd : o.dst with
        | none => rfl
        | some d => exact sl_put_other (fun e => ht (by rw [hd, e]))
      refine ⟨?_, ?_, fun t ht => (hother t (ht i o ho)).trans (hf t ht), hb', fun j hj hlj => ?_, fun j oj hoj hlj e he hbe => ?_⟩
      · rw [← hz]; cases o.dst <;> simp [Act.put]
      · rw [← hdf]; cases o.dst <;> simp [Act.put]
      · by_cases hji : j = i
        · subst hji
          exact hFi _ hother hsame
        · have hlj' : L j = true := by simpa [hji] using hlj
          refine hV j (sl a) _ w' (fun t ht => hother t fun hd => ?_) (hst j hji (hF j hj hlj'))
          obtain ⟨oj, hoj⟩ : ∃ oj, ops[j]? = some oj := ⟨ops[j], Array.getElem?_eq_getElem hj⟩
          rcases hap' i j o oj t ho hoj hd ht with h | ⟨e, he, hbe, hon⟩
          · exact hji h.symm
          · have := hcl j oj hoj hlj' e he hbe
            rw [hon, hli] at this; cases this
      · by_cases hji : j = i
        · subst hji
          rw [ho] at hoj
          injection hoj with hoj
          subst hoj
          simp [hdeps e he hbe]
        · have hlj' : L j = true := by simpa [hji] using hlj
          simp [hcl j oj hoj hlj' e he hbe]
    · obtain ⟨q, hq, h⟩ := Array.any_eq_true.1 hk
      simp only [Bool.and_eq_true, beq_iff_eq] at h
      have hlt := (hso' i o ho).2.2 _ (Array.getElem_mem hq) h.1
      rw [← h.2]
      exact hF _ (by omega) (hdeps _ (Array.getElem_mem hq) h.1)
  · intro L a w ⟨hz, hdf, hf, hb, hF, _⟩ hall
    exact hend a w hz hdf hf hb fun i hi => hF i hi (hall i hi)

/-- Each operation of a list, with its number. -/
def Each (p : Nat → Oper → Prop) : Nat → List Oper → Prop
  | _, [] => True
  | k, o :: r => p k o ∧ Each p (k + 1) r
theorem Each.at_ {p : Nat → Oper → Prop} {l : List Oper} : ∀ {k : Nat}, Each p k l → ∀ (i : Nat) (o : Oper), l[i]? = some o → p (k + i) o := by
  induction l with
  | nil => intro k _ i o h; simp at h
  | cons x r ih =>
    intro k h i o ho
    cases i with
    | zero => simp at ho; subst ho; exact h.1
    | succ i =>
      have := ih h.2 i o (by simpa using ho)
      rw [show k + 1 + i = k + (i + 1) from by omega] at this
      exact this
/-- What is to be shown of one operation: from the facts that it waits for, it yields a value, keeps the others' facts, and has its own. -/
def OpFact (P : Program) (Q : Exit → Act → World → Prop) (a0 : Act) (l : List Oper) (Base : World → Prop) (Fact : Nat → (Nat → Value) → World → Prop) (i : Nat) (o : Oper) : Prop :=
  ∀ (a : Act) (w : World), (∀ t, (l.all fun ok => ok.dst != some t) = true → sl a t = sl a0 t) → (∀ k, (o.after.any fun e => Region.binds .any e && e.on == k) = true → Fact k (sl a) w) → Base w →
    o.wp P a w (fun a' w' => ∃ v, a' = a.put o.dst v ∧ Base w' ∧ (∀ j, j ≠ i → Fact j (sl a) w → Fact j (sl a) w') ∧ ∀ s : Nat → Value, (∀ t, o.dst ≠ some t → s t = sl a t) → (∀ d, o.dst = some d → s d = v) → Fact i s w') Q
theorem wp_region_each {id : Nat} {a0 : Act} {w0 : World} {l : List Oper} (Base : World → Prop) (Fact : Nat → (Nat → Value) → World → Prop) (V : Nat → List Nat) (hm : P.follows .mixedOrders = true)
    (hV : ∀ j s s' w, (∀ t, t ∈ V j → s' t = s t) → Fact j s w → Fact j s' w)
    (hap : FactsApart l.toArray V = true) (hso : FactsSound l.toArray a0.tmps.size = true) (h0 : Base w0.drew)
    (hop : Each (OpFact P Q a0 l Base Fact) 0 l)
    (hend : ∀ (a : Act) (w : World), a.tmps.size = a0.tmps.size → a.defers = a0.defers → (∀ t, (l.all fun ok => ok.dst != some t) = true → sl a t = sl a0 t) → Base w → (∀ i, i < l.length → Fact i (sl a) w) → Q .normal a w) :
    (Code.region id l.toArray true).wp P Q a0 w0 := by
  have hfr : ∀ a : Act, (∀ t, (∀ (k : Nat) ok, l.toArray[k]? = some ok → ok.dst ≠ some t) → sl a t = sl a0 t) → ∀ t, (l.all fun ok => ok.dst != some t) = true → sl a t = sl a0 t := by
    intro a h t ht
    refine h t fun k ok hk => ?_
    rw [List.getElem?_toArray] at hk
    have := List.all_eq_true.1 ht ok (List.mem_of_getElem? hk)
    simpa using this
  refine wp_region_facts hm Base Fact V hV hap hso h0 (fun i o ho a w hf D hb => ?_) (fun a w h1 h2 h3 h4 h5 => hend a w h1 h2 (hfr a h3) h4 (fun i hi => h5 i (by simpa using hi)))
  have := hop.at_ i o (by simpa using ho)
  rw [Nat.zero_add] at this
  exact this a w (hfr a hf) D hb

/-- An operation that yields v and leaves w'. -/
theorem OpFact.value {a0 : Act} {l : List Oper} {Base : World → Prop} {Fact : Nat → (Nat → Value) → World → Prop} {i : Nat} {o : Oper}
    (hst : ∀ j s w w', Below w.heap.size w w' → Fact j s w → Fact j s w')
    (h : ∀ (a : Act) (w : World), (∀ t, (l.all fun ok => ok.dst != some t) = true → sl a t = sl a0 t) → (∀ k, (o.after.any fun e => Region.binds .any e && e.on == k) = true → Fact k (sl a) w) → Base w →
      ∃ v w', (execOp a.eval o).run P w = .ok (.value v) w' ∧ Below w.heap.size w w' ∧ Base w' ∧ ∀ s : Nat → Value, (∀ t, o.dst ≠ some t → s t = sl a t) → (∀ d, o.dst = some d → s d = v) → Fact i s w') : OpFact P Q a0 l Base Fact i o := by
  intro a w hf D hb
  obtain ⟨v, w', hrun, hbl, hB, hF⟩ := h a w hf D hb
  unfold Oper.wp
  rw [hrun]
  exact ⟨v, rfl, hB, fun j _ hj => hst j _ _ _ hbl hj, hF⟩
/-- A call. -/
theorem OpFact.call {a0 : Act} {l : List Oper} {Base : World → Prop} {Fact : Nat → (Nat → Value) → World → Prop} {i : Nat} {o : Oper}
    (hst : ∀ j s w w', Below w.heap.size w w' → Fact j s w → Fact j s w')
    (h : ∀ (a : Act) (w : World), (∀ t, (l.all fun ok => ok.dst != some t) = true → sl a t = sl a0 t) → (∀ k, (o.after.any fun e => Region.binds .any e && e.on == k) = true → Fact k (sl a) w) → Base w →
      ∃ f args, (execOp a.eval o).run P w = .ok (.enter f args) w ∧ Calls P f args w fun e w' => ∃ v, e = .returned v ∧ Below w.heap.size w w' ∧ Base w' ∧ ∀ s : Nat → Value, (∀ t, o.dst ≠ some t → s t = sl a t) → (∀ d, o.dst = some d → s d = v) → Fact i s w') : OpFact P Q a0 l Base Fact i o := by
  intro a w hf D hb
  obtain ⟨f, args, hrun, hc⟩ := h a w hf D hb
  unfold Oper.wp
  rw [hrun]
  refine hc.mono ?_
  rintro e w' ⟨v, rfl, hbl, hB, hF⟩
  exact ⟨v, rfl, hB, fun j _ hj => hst j _ _ _ hbl hj, hF⟩

/-- The frame behind the region: the frame ahead of it, the operations' temporaries written. -/
def after (l : List Oper) (a0 : Act) (x : Nat → Value) : Act := ⟨(l.filterMap (·.dst)).foldl (fun arr d => arr.setIfInBounds d (x d)) a0.tmps, a0.defers⟩
theorem fold_get (x : Nat → Value) : ∀ (ds : List Nat) (arr : Array Value), (ds.foldl (fun arr d => arr.setIfInBounds d (x d)) arr).size = arr.size ∧
    ∀ t, t < arr.size → (ds.foldl (fun arr d => arr.setIfInBounds d (x d)) arr).getD t undef = if t ∈ ds then x t else arr.getD t undef := by
  intro ds
  induction ds with
  | nil => intro arr; simp
  | cons d r ih =>
    intro arr
    obtain ⟨h1, h2⟩ := ih (arr.setIfInBounds d (x d))
    refine ⟨by simpa using h1, fun t ht => ?_⟩
    simp only [List.foldl_cons]
    rw [h2 t (by simpa using ht)]
    by_cases htr : t ∈ r
    · simp [htr]
    · by_cases htd : t = d
      · subst htd
        simp [htr, ht]
      · simp [htr, htd, ht, Ne.symm htd]
theorem after_eq {l : List Oper} {a0 a : Act} (hz : a.tmps.size = a0.tmps.size) (hd : a.defers = a0.defers) (hf : ∀ t, (l.all fun ok => ok.dst != some t) = true → sl a t = sl a0 t) : a = after l a0 (sl a) := by
  obtain ⟨h1, h2⟩ := fold_get (sl a) (l.filterMap (·.dst)) a0.tmps
  cases a with
  | mk tm df =>
    unfold after
    congr 1
    apply Array.ext
    · rw [h1]; exact hz
    · intro i hi1 hi2
      have hi : i < a0.tmps.size := by rw [← hz]; exact hi1
      have h3 := h2 i hi
      have e1 : (List.foldl (fun arr d => arr.setIfInBounds d (sl ⟨tm, df⟩ d)) a0.tmps (l.filterMap (·.dst)))[i] = (List.foldl (fun arr d => arr.setIfInBounds d (sl ⟨tm, df⟩ d)) a0.tmps (l.filterMap (·.dst))).getD i undef := by simp [hi2]
      rw [e1, h3]
      have e2 : tm[i] = sl ⟨tm, df⟩ i := by simp [sl, hi1]
      rw [e2]
      by_cases hm : i ∈ l.filterMap (·.dst)
      · rw [if_pos hm]
      · rw [if_neg hm]
        refine hf i (List.all_eq_true.2 fun ok hok => ?_)
        simp only [bne_iff_ne, ne_eq]
        intro he
        exact hm (List.mem_filterMap.2 ⟨ok, hok, he⟩)
theorem wp_region_law {id : Nat} {a0 : Act} {w0 : World} {l : List Oper} (Base : World → Prop) (Fact : Nat → (Nat → Value) → World → Prop) (V : Nat → List Nat) (hm : P.follows .mixedOrders = true)
    (hV : ∀ j s s' w, (∀ t, t ∈ V j → s' t = s t) → Fact j s w → Fact j s' w)
    (hap : FactsApart l.toArray V = true) (hso : FactsSound l.toArray a0.tmps.size = true) (h0 : Base w0.drew)
    (hop : Each (OpFact P Q a0 l Base Fact) 0 l)
    (hend : ∀ (x : Nat → Value) (w : World), Base w → (∀ i, i < l.length → Fact i x w) → Q .normal (after l a0 x) w) :
    (Code.region id l.toArray true).wp P Q a0 w0 :=
  wp_region_each Base Fact V hm hV hap hso h0 hop fun a w hz hd hf hb hF => by
    rw [after_eq hz hd hf]
    exact hend (sl a) w hb hF
/-- An operation that yields v and writes (an append in place): what it leaves of the other facts is shown for each. -/
theorem OpFact.write {a0 : Act} {l : List Oper} {Base : World → Prop} {Fact : Nat → (Nat → Value) → World → Prop} {i : Nat} {o : Oper}
    (h : ∀ (a : Act) (w : World), (∀ t, (l.all fun ok => ok.dst != some t) = true → sl a t = sl a0 t) → (∀ k, (o.after.any fun e => Region.binds .any e && e.on == k) = true → Fact k (sl a) w) → Base w →
      ∃ v w', (execOp a.eval o).run P w = .ok (.value v) w' ∧ Base w' ∧ (∀ j, j ≠ i → Fact j (sl a) w → Fact j (sl a) w') ∧ ∀ s : Nat → Value, (∀ t, o.dst ≠ some t → s t = sl a t) → (∀ d, o.dst = some d → s d = v) → Fact i s w') : OpFact P Q a0 l Base Fact i o := by
  intro a w hf D hb
  obtain ⟨v, w', hrun, hB, hst, hF⟩ := h a w hf D hb
  unfold Oper.wp
  rw [hrun]
  exact ⟨v, rfl, hB, hst, hF⟩
/-- A store. -/
theorem OpFact.skip {a0 : Act} {l : List Oper} {Base : World → Prop} {Fact : Nat → (Nat → Value) → World → Prop} {i : Nat} {o : Oper}
    (h : ∀ (a : Act) (w : World), (∀ t, (l.all fun ok => ok.dst != some t) = true → sl a t = sl a0 t) → (∀ k, (o.after.any fun e => Region.binds .any e && e.on == k) = true → Fact k (sl a) w) → Base w →
      ∃ w', (execOp a.eval o).run P w = .ok .skip w' ∧ Base w' ∧ (∀ j, j ≠ i → Fact j (sl a) w → Fact j (sl a) w') ∧ ∀ s : Nat → Value, (∀ t, o.dst ≠ some t → s t = sl a t) → Fact i s w') : OpFact P Q a0 l Base Fact i o := by
  intro a w hf D hb
  obtain ⟨w', hrun, hB, hst, hF⟩ := h a w hf D hb
  unfold Oper.wp
  rw [hrun]
  exact ⟨undef, rfl, hB, hst, fun s h _ => hF s h⟩
end
end Go.Proofs.YtiochodepgldpaaDoor
