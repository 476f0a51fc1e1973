/- A region that draws its order, by an invariant: one obligation for each operation, whatever the order. Program-free. A region that draws its order, cut in blocks: each operation of a later block waits for all of the earlier ones. A block is walked quietly in its own class of worlds, or operation by operation. Program-free. A region that draws its order, cut in phases: the first operations, in any order, by one obligation for each; then the rest. Program-free. Words for maps of the call's own, by their entries: any type of keys that the reader reads. Program-free. -/
import Derived.Test.YtnfpjcjlapljjaaGreatDoorBase
import Derived.Orders
import Derived.BigQuiet
import Derived.Maps.OwnOps
import Derived.Maps.OwnSet
import Derived.DeepKeys3
import Derived.Tactics2
namespace Go.Proofs.YtnfpjcjlapljjaaGreatDoor
open Go Go.RowKit

section
variable {P : Program} {ops : Array Oper} {Q : Exit → Act → World → Prop}

theorem any_of_inv (Inv : (Nat → Bool) → Act → World → Prop)
    (hac : ∀ (i : Nat) (o : Oper), ops[i]? = some o → ∀ e ∈ o.after, Region.binds .any e = true → e.on < i)
    (hstep : ∀ (L : Nat → Bool) (a : Act) (w : World) (i : Nat) (o : Oper), Inv L a w → ops[i]? = some o → L i = false → (∀ e ∈ o.after, Region.binds .any e = true → L e.on = true) → wpOp P ops Q i (fun a' w' => Inv (fun j => L j || j == i) a' w') a w)
    (hend : ∀ (L : Nat → Bool) (a : Act) (w : World), Inv L a w → (∀ i, i < ops.size → L i = true) → Q .normal a w) :
    ∀ (fuel : Nat) (listed : Array Bool) (a : Act) (w : World), listed.size = ops.size → listed.toList.count false ≤ fuel → Inv (fun j => listed.getD j false) a w → wpAny P .any ops Q fuel listed a w := by
  have hall : ∀ listed : Array Bool, listed.size = ops.size → Region.ready .any ops listed = [] → ∀ i, i < ops.size → listed.getD i false = true := by
    intro listed hs hr i
    induction i using Nat.strongRecOn with
    | ind i ih =>
      intro hi
      rcases hl : listed.getD i false with _ | _
      · have hm : i ∈ Region.ready .any ops listed := by
          rw [mem_ready]
          have hi' : i < listed.size := by omega
          refine ⟨?_, ops[i], Array.getElem?_eq_getElem hi, fun e he hb => ?_⟩
          · simp [hi'] at hl ⊢; exact hl
          · have hlt := hac i _ (Array.getElem?_eq_getElem hi) e he hb
            exact ih e.on hlt (by omega)
        rw [hr] at hm
        cases hm
      · rfl
  intro fuel
  induction fuel with
  | zero =>
    intro listed a w hs hc hI
    have hL : ∀ i, i < ops.size → listed.getD i false = true := by
      intro i hi
      have hi' : i < listed.size := by omega
      rcases hl : listed.getD i false with _ | _
      · have hmem : false ∈ listed.toList := by
          simp [hi'] at hl
          rw [← hl]; simp
        have := List.count_pos_iff.2 hmem
        omega
      · rfl
    refine ⟨?_, hend _ _ _ hI hL⟩
    rw [List.eq_nil_iff_forall_not_mem]
    intro j hj
    obtain ⟨h1, o, ho, _⟩ := mem_ready.1 hj
    have hlt : j < ops.size := (Array.getElem?_eq_some_iff.1 ho).1
    have := hL j hlt
    have hj' : j < listed.size := by omega
    simp [hj'] at h1 this
    rw [h1] at this; cases this
  | succ fuel ih =>
    intro listed a w hs hc hI
    refine ⟨fun hr => hend _ _ _ hI (hall listed hs hr), fun i hi => ?_⟩
    obtain ⟨h1, o, ho, hd⟩ := mem_ready.1 hi
    have hlt : i < ops.size := (Array.getElem?_eq_some_iff.1 ho).1
    have hi' : i < listed.size := by omega
    have h2 : listed.getD i false = false := by simp [hi'] at h1 ⊢; exact h1
    have h3 : listed[i] = false := by simpa [hi'] using h2
    refine wpOp_mono (fun a' w' hI' => ih (listed.setIfInBounds i true) a' w' (by simp [hs]) ?_ ?_) (hstep _ a w i o hI ho h2 hd)
    · have : (listed.setIfInBounds i true).toList = listed.toList.set i true := by simp
      rw [this, List.count_set (by simpa using hi')]
      have hpos : 0 < listed.toList.count false := List.count_pos_iff.2 (by rw [← h3]; simp)
      have hcc : listed.toList.count false = Array.count false listed := by simp
      simp [h3]
      omega
    · have : (fun j => (listed.setIfInBounds i true).getD j false) = fun j => listed.getD j false || j == i := by
        funext j
        by_cases hj : j = i
        · subst hj
          simp [hi']
        · by_cases hjs : j < listed.size
          · simp [hjs, Ne.symm hj, hj]
          · simp [hjs, hj]
      rw [this]
      exact hI'

/-- What lies in a slot. -/
def sl (a : Act) (t : Nat) : Value := a.tmps.getD t undef
theorem sl_put_same {a : Act} {d : Nat} {v : Value} (hd : d < a.tmps.size) : sl (a.put (some d) v) d = v := by
  simp [sl, Act.put, hd]
theorem sl_put_other {a : Act} {d t : Nat} {v : Value} (h : t ≠ d) : sl (a.put (some d) v) t = sl a t := by
  unfold sl Act.put
  by_cases ht : t < a.tmps.size
  · simp [ht, Ne.symm h]
  · simp [ht]
/-- The temporary that operation number i writes is read by the fact j only if j waits for i. -/
def FactsApart (ops : Array Oper) (V : Nat → List Nat) : Bool :=
  (List.range ops.size).all fun i => (List.range ops.size).all fun j => match ops[i]?, ops[j]? with
    | some oi, some oj => (match oi.dst with
      | some d => !(V j).contains d || i == j || oj.after.any fun e => Region.binds .any e && e.on == i
      | none => true)
    | _, _ => true
/-- Each operation of a list, with its number. -/
def Each (p : Nat → Oper → Prop) : Nat → List Oper → Prop
  | _, [] => True
  | k, o :: r => p k o ∧ Each p (k + 1) r
theorem Each.at_ {p : Nat → Oper → Prop} {l : List Oper} : ∀ {k : Nat}, Each p k l → ∀ (i : Nat) (o : Oper), l[i]? = some o → p (k + i) o := by
  induction l with
  | nil => intro k _ i o h; simp at h
  | cons x r ih =>
    intro k h i o ho
    cases i with
    | zero => simp at ho; subst ho; exact h.1
    | succ i =>
      have := ih h.2 i o (by simpa using ho)
      rw [show k + 1 + i = k + (i + 1) from by omega] at this
      exact this
/-- What is to be shown of one operation: from the facts that it waits for, it yields a value, keeps the others' facts, and has its own. -/
def OpFact (P : Program) (Q : Exit → Act → World → Prop) (a0 : Act) (l : List Oper) (Base : World → Prop) (Fact : Nat → (Nat → Value) → World → Prop) (i : Nat) (o : Oper) : Prop :=
  ∀ (a : Act) (w : World), (∀ t, (l.all fun ok => ok.dst != some t) = true → sl a t = sl a0 t) → (∀ k, (o.after.any fun e => Region.binds .any e && e.on == k) = true → Fact k (sl a) w) → Base w →
    o.wp P a w (fun a' w' => ∃ v, a' = a.put o.dst v ∧ Base w' ∧ (∀ j, j ≠ i → Fact j (sl a) w → Fact j (sl a) w') ∧ ∀ s : Nat → Value, (∀ t, o.dst ≠ some t → s t = sl a t) → (∀ d, o.dst = some d → s d = v) → Fact i s w') Q
/-- An operation that yields v and leaves w'. -/
theorem OpFact.value {a0 : Act} {l : List Oper} {Base : World → Prop} {Fact : Nat → (Nat → Value) → World → Prop} {i : Nat} {o : Oper}
    (hst : ∀ j s w w', Below w.heap.size w w' → Fact j s w → Fact j s w')
    (h : ∀ (a : Act) (w : World), (∀ t, (l.all fun ok => ok.dst != some t) = true → sl a t = sl a0 t) → (∀ k, (o.after.any fun e => Region.binds .any e && e.on == k) = true → Fact k (sl a) w) → Base w →
      ∃ v w', (execOp a.eval o).run P w = .ok (.value v) w' ∧ Below w.heap.size w w' ∧ Base w' ∧ ∀ s : Nat → Value, (∀ t, o.dst ≠ some t → s t = sl a t) → (∀ d, o.dst = some d → s d = v) → Fact i s w') : OpFact P Q a0 l Base Fact i o := by
  intro a w hf D hb
  obtain ⟨v, w', hrun, hbl, hB, hF⟩ := h a w hf D hb
  unfold Oper.wp
  rw [hrun]
  exact ⟨v, rfl, hB, fun j _ hj => hst j _ _ _ hbl hj, hF⟩
/-- A call. -/
theorem OpFact.call {a0 : Act} {l : List Oper} {Base : World → Prop} {Fact : Nat → (Nat → Value) → World → Prop} {i : Nat} {o : Oper}
    (hst : ∀ j s w w', Below w.heap.size w w' → Fact j s w → Fact j s w')
    (h : ∀ (a : Act) (w : World), (∀ t, (l.all fun ok => ok.dst != some t) = true → sl a t = sl a0 t) → (∀ k, (o.after.any fun e => Region.binds .any e && e.on == k) = true → Fact k (sl a) w) → Base w →
      ∃ f args, (execOp a.eval o).run P w = .ok (.enter f args) w ∧ Calls P f args w fun e w' => ∃ v, e = .returned v ∧ Below w.heap.size w w' ∧ Base w' ∧ ∀ s : Nat → Value, (∀ t, o.dst ≠ some t → s t = sl a t) → (∀ d, o.dst = some d → s d = v) → Fact i s w') : OpFact P Q a0 l Base Fact i o := by
  intro a w hf D hb
  obtain ⟨f, args, hrun, hc⟩ := h a w hf D hb
  unfold Oper.wp
  rw [hrun]
  refine hc.mono ?_
  rintro e w' ⟨v, rfl, hbl, hB, hF⟩
  exact ⟨v, rfl, hB, fun j _ hj => hst j _ _ _ hbl hj, hF⟩

/-- The frame behind the region: the frame ahead of it, the operations' temporaries written. -/
def after (l : List Oper) (a0 : Act) (x : Nat → Value) : Act := ⟨(l.filterMap (·.dst)).foldl (fun arr d => arr.setIfInBounds d (x d)) a0.tmps, a0.defers⟩
theorem fold_get (x : Nat → Value) : ∀ (ds : List Nat) (arr : Array Value), (ds.foldl (fun arr d => arr.setIfInBounds d (x d)) arr).size = arr.size ∧
    ∀ t, t < arr.size → (ds.foldl (fun arr d => arr.setIfInBounds d (x d)) arr).getD t undef = if t ∈ ds then x t else arr.getD t undef := by
  intro ds
  induction ds with
  | nil => intro arr; simp
  | cons d r ih =>
    intro arr
    obtain ⟨h1, h2⟩ := ih (arr.setIfInBounds d (x d))
    refine ⟨by simpa using h1, fun t ht => ?_⟩
    simp only [List.foldl_cons]
    rw [h2 t (by simpa using ht)]
    by_cases htr : t ∈ r
    · simp [htr]
    · by_cases htd : t = d
      · subst htd
        simp [htr, ht]
      · simp [htr, htd, ht, Ne.symm htd]
theorem after_eq {l : List Oper} {a0 a : Act} (hz : a.tmps.size = a0.tmps.size) (hd : a.defers = a0.defers) (hf : ∀ t, (l.all fun ok => ok.dst != some t) = true → sl a t = sl a0 t) : a = after l a0 (sl a) := by
  obtain ⟨h1, h2⟩ := fold_get (sl a) (l.filterMap (·.dst)) a0.tmps
  cases a with
  | mk tm df =>
    unfold after
    congr 1
    apply Array.ext
    · rw [h1]; exact hz
    · intro i hi1 hi2
      have hi : i < a0.tmps.size := by rw [← hz]; exact hi1
      have h3 := h2 i hi
      have e1 : (List.foldl (fun arr d => arr.setIfInBounds d (sl ⟨tm, df⟩ d)) a0.tmps (l.filterMap (·.dst)))[i] = (List.foldl (fun arr d => arr.setIfInBounds d (sl ⟨tm, df⟩ d)) a0.tmps (l.filterMap (·.dst))).getD i undef := by simp [hi2]
      rw [e1, h3]
      have e2 : tm[i] = sl ⟨tm, df⟩ i := by simp [sl, hi1]
      rw [e2]
      by_cases hm : i ∈ l.filterMap (·.dst)
      · rw [if_pos hm]
      · rw [if_neg hm]
        refine hf i (List.all_eq_true.2 fun ok hok => ?_)
        simp only [bne_iff_ne, ne_eq]
        intro he
        exact hm (List.mem_filterMap.2 ⟨ok, hok, he⟩)
/-- An operation that yields v and writes (an append in place): what it leaves of the other facts is shown for each. -/
theorem OpFact.write {a0 : Act} {l : List Oper} {Base : World → Prop} {Fact : Nat → (Nat → Value) → World → Prop} {i : Nat} {o : Oper}
    (h : ∀ (a : Act) (w : World), (∀ t, (l.all fun ok => ok.dst != some t) = true → sl a t = sl a0 t) → (∀ k, (o.after.any fun e => Region.binds .any e && e.on == k) = true → Fact k (sl a) w) → Base w →
      ∃ v w', (execOp a.eval o).run P w = .ok (.value v) w' ∧ Base w' ∧ (∀ j, j ≠ i → Fact j (sl a) w → Fact j (sl a) w') ∧ ∀ s : Nat → Value, (∀ t, o.dst ≠ some t → s t = sl a t) → (∀ d, o.dst = some d → s d = v) → Fact i s w') : OpFact P Q a0 l Base Fact i o := by
  intro a w hf D hb
  obtain ⟨v, w', hrun, hB, hst, hF⟩ := h a w hf D hb
  unfold Oper.wp
  rw [hrun]
  exact ⟨v, rfl, hB, hst, hF⟩
/-- A store. -/
theorem OpFact.skip {a0 : Act} {l : List Oper} {Base : World → Prop} {Fact : Nat → (Nat → Value) → World → Prop} {i : Nat} {o : Oper}
    (h : ∀ (a : Act) (w : World), (∀ t, (l.all fun ok => ok.dst != some t) = true → sl a t = sl a0 t) → (∀ k, (o.after.any fun e => Region.binds .any e && e.on == k) = true → Fact k (sl a) w) → Base w →
      ∃ w', (execOp a.eval o).run P w = .ok .skip w' ∧ Base w' ∧ (∀ j, j ≠ i → Fact j (sl a) w → Fact j (sl a) w') ∧ ∀ s : Nat → Value, (∀ t, o.dst ≠ some t → s t = sl a t) → Fact i s w') : OpFact P Q a0 l Base Fact i o := by
  intro a w hf D hb
  obtain ⟨w', hrun, hB, hst, hF⟩ := h a w hf D hb
  unfold Oper.wp
  rw [hrun]
  exact ⟨undef, rfl, hB, hst, fun s h _ => hF s h⟩
end
end Go.Proofs.YtnfpjcjlapljjaaGreatDoor
namespace Go.Proofs.YtnfpjcjlapljjaaGreatDoor
open Go Go.RowKit

/-- Operation j waits for i, through others. -/
def waitsOn (l : List Oper) : Nat → Nat → Nat → Bool
  | 0, _, _ => false
  | f + 1, j, i => match l[j]? with
    | some o => o.after.any fun e => Region.binds .any e && (e.on == i || (decide (i < e.on) && waitsOn l f e.on i))
    | none => false
/-- Each operation behind m waits for all from k to m. -/
def gateB (l : List Oper) (k m : Nat) : Bool :=
  (List.range (l.length - m)).all fun j => (List.range (m - k)).all fun i => waitsOn l l.length (m + j) (k + i)
def acycB (l : List Oper) : Bool := (List.range l.length).all fun i => match l[i]? with
  | some o => o.after.all fun e => !Region.binds .any e || decide (e.on < i)
  | none => true
def guardB (l : List Oper) (m : Nat) : Bool := (List.range m).all fun i => match l[i]? with
  | some o => (match o.guard with | some (g, _) => decide (g < m) | none => true)
  | none => true
def soloB (l : List Oper) (k m : Nat) : Bool :=
  decide (k ≤ m) && decide (m ≤ l.length) && acycB l && (List.range (m - k)).all fun i => gateB l (k + i) (k + i + 1)

section
variable {P : Program} {l : List Oper} {Q : Exit → Act → World → Prop}
/-- From operation k on, all before it done. -/
def wpFrom (P : Program) (l : List Oper) (Q : Exit → Act → World → Prop) (k : Nat) (a : Act) (w : World) : Prop :=
  ∀ listed : Array Bool, listed.size = l.length → (∀ j, j < l.length → listed.getD j false = decide (j < k)) → wpAny P .any l.toArray Q (l.length - k) listed a w

theorem region_blocks {id : Nat} {a : Act} {w : World} (hm : P.follows .mixedOrders = true) (h : wpFrom P l Q 0 a { w with drawn := w.drawn + 1 }) : (Code.region id l.toArray true).wp P Q a w := by
  refine wp_region_any hm ?_
  have := h (Array.replicate l.length false) (by simp) (fun j hj => by simp [hj])
  simpa using this

def Closed (l : List Oper) (listed : Array Bool) : Prop := ∀ (j : Nat) (o : Oper), l[j]? = some o → listed.getD j false = true → ∀ e ∈ o.after, Region.binds .any e = true → listed.getD e.on false = true
theorem waits_listed {listed : Array Bool} (hc : Closed l listed) : ∀ (f j i : Nat) (o : Oper), l[j]? = some o → (∀ e ∈ o.after, Region.binds .any e = true → listed.getD e.on false = true) → waitsOn l f j i = true → listed.getD i false = true := by
  intro f
  induction f with
  | zero => intro j i o _ _ h; simp [waitsOn] at h
  | succ f ih =>
    intro j i o ho hd h
    unfold waitsOn at h
    rw [ho] at h
    simp only at h
    obtain ⟨e, he, h⟩ := Array.any_eq_true'.1 h
    simp only [Bool.and_eq_true, Bool.or_eq_true, beq_iff_eq] at h
    obtain ⟨hb, h⟩ := h
    have hl := hd e he hb
    rcases h with h | ⟨_, h⟩
    · rw [← h]; exact hl
    · cases hoe : l[e.on]? with
      | none =>
        cases f with
        | zero => simp [waitsOn] at h
        | succ f => unfold waitsOn at h; rw [hoe] at h; simp at h
      | some oe => exact ih e.on i oe hoe (hc e.on oe hoe hl) h

theorem acyc_spec (h : acycB l = true) (i : Nat) (o : Oper) (ho : l[i]? = some o) : ∀ e ∈ o.after, Region.binds .any e = true → e.on < i := by
  intro e he hb
  have hi : i < l.length := (List.getElem?_eq_some_iff.1 ho).1
  have h1 := List.all_eq_true.1 h i (List.mem_range.2 hi)
  rw [ho] at h1
  have := Array.all_eq_true_iff_forall_mem.1 h1 e he
  simpa [hb] using this
theorem gate_spec {k m : Nat} (h : gateB l k m = true) {i j : Nat} (hj : m ≤ j) (hjl : j < l.length) (hki : k ≤ i) (him : i < m) : waitsOn l l.length j i = true := by
  have h1 := List.all_eq_true.1 h (j - m) (List.mem_range.2 (by omega))
  have h2 := List.all_eq_true.1 h1 (i - k) (List.mem_range.2 (by omega))
  rwa [show m + (j - m) = j from by omega, show k + (i - k) = i from by omega] at h2
theorem ready_spec {listed : Array Bool} {i : Nat} (h : i ∈ Region.ready .any l.toArray listed) : listed.getD i true = false ∧ ∃ o, l[i]? = some o ∧ ∀ e ∈ o.after, Region.binds .any e = true → listed.getD e.on false = true := by
  obtain ⟨h1, o, ho, h⟩ := mem_ready.1 h
  exact ⟨h1, o, by simpa using ho, h⟩
theorem getD_of_lt {listed : Array Bool} {j : Nat} (h : j < listed.size) (x y : Bool) : listed.getD j x = listed.getD j y := by simp [h]
theorem not_ready_nil (ha : acycB l = true) {listed : Array Bool} (hs : listed.size = l.length) {k : Nat} (hk : k < l.length) (hu : listed.getD k false = false) : ∃ i, i ≤ k ∧ i ∈ Region.ready .any l.toArray listed := by
  induction k using Nat.strongRecOn with
  | ind k ih =>
    by_cases hd : ∀ e ∈ l[k].after, Region.binds .any e = true → listed.getD e.on false = true
    · refine ⟨k, Nat.le_refl _, mem_ready.2 ⟨by rw [getD_of_lt (by omega) true false]; exact hu, l[k], by simp [hk], hd⟩⟩
    · obtain ⟨e, he, hb, hl⟩ : ∃ e, e ∈ l[k].after ∧ Region.binds .any e = true ∧ ¬ listed.getD e.on false = true := by
        apply Classical.byContradiction; intro hh
        exact hd fun e he hb => Classical.byContradiction fun hl => hh ⟨e, he, hb, hl⟩
      have hlt := acyc_spec ha k _ (List.getElem?_eq_getElem hk) e he hb
      obtain ⟨i, hi, hr⟩ := ih e.on hlt (by omega) (by simpa using hl)
      exact ⟨i, by omega, hr⟩

theorem closed_pre (ha : acycB l = true) {listed : Array Bool} (_hs : listed.size = l.length) {k : Nat} (h : ∀ j, j < l.length → listed.getD j false = decide (j < k)) : Closed l listed := by
  intro j o ho hl e he hb
  have hj : j < l.length := (List.getElem?_eq_some_iff.1 ho).1
  have hlt := acyc_spec ha j o ho e he hb
  rw [h j hj] at hl
  rw [h e.on (by omega)]
  simp only [decide_eq_true_eq] at hl ⊢
  omega
theorem closed_set {listed : Array Bool} (hs : listed.size = l.length) (hc : Closed l listed) {i : Nat} {o : Oper} (ho : l[i]? = some o) (hd : ∀ e ∈ o.after, Region.binds .any e = true → listed.getD e.on false = true) : Closed l (listed.setIfInBounds i true) := by
  have hi : i < l.length := (List.getElem?_eq_some_iff.1 ho).1
  have up : ∀ j, listed.getD j false = true → (listed.setIfInBounds i true).getD j false = true := by
    intro j h
    by_cases hj : j < listed.size
    · simp [hj, Array.getElem_setIfInBounds] at h ⊢
      exact .inr h
    · simp [hj] at h
  intro j oj hoj hl e he hb
  by_cases hji : j = i
  · subst hji
    rw [ho] at hoj; injection hoj with hoj; subst hoj
    exact up _ (hd e he hb)
  · have hj : j < l.length := (List.getElem?_eq_some_iff.1 hoj).1
    have : listed.getD j false = true := by
      rw [← hl]; simp [hs, hj, Ne.symm hji]
    exact up _ (hc j oj hoj this e he hb)

theorem wanted_take {m : Nat} (hg : guardB l m = true) {i : Nat} (hi : i < m) {o : Oper} (ho : l[i]? = some o) (t : Array Value) : Region.wanted o (yielded (l.take m).toArray t) = Region.wanted o (yielded l.toArray t) := by
  have h1 := List.all_eq_true.1 hg i (List.mem_range.2 hi)
  rw [ho] at h1
  simp only at h1
  unfold Region.wanted
  cases hgo : o.guard with
  | none => rfl
  | some p =>
    obtain ⟨g, b⟩ := p
    rw [hgo] at h1
    simp only [decide_eq_true_eq] at h1
    have : yielded (l.take m).toArray t g = yielded l.toArray t g := by
      unfold yielded
      simp [h1]
    simp only [this]

theorem from_end {k : Nat} {a : Act} {w : World} (hk : k = l.length) (h : Q .normal a w) : wpFrom P l Q k a w := by
  subst hk
  intro listed hs hl
  refine wpAny_done ?_ h _
  rw [List.eq_nil_iff_forall_not_mem]
  intro j hj
  obtain ⟨hu, o, ho, _⟩ := ready_spec hj
  have hjl : j < l.length := (List.getElem?_eq_some_iff.1 ho).1
  have := hl j hjl
  rw [getD_of_lt (by omega) true false, this] at hu
  simp [hjl] at hu

theorem Oper.wp_exit {o : Oper} {a : Act} {w : World} {K K' : Act → World → Prop} {Q1 : Exit → Act → World → Prop} (hK : ∀ a w, K a w → K' a w) (hQ : ∀ e a w, e ≠ .normal → Q1 e a w → Q e a w) (h : o.wp P a w K Q1) : o.wp P a w K' Q := by
  unfold Oper.wp at *
  generalize (execOp a.eval o).run P w = r at *
  cases r with
  | ok n w' =>
    cases n <;> simp only [Oper.upon] at h ⊢
    case enter f args =>
      refine Calls.mono h (fun e w'' he => ?_)
      cases e with
      | returned v => exact hK _ _ he
      | panicked c => exact hQ _ _ _ (by simp) he
      | outgrown => obtain ⟨a, w, h⟩ := he; exact ⟨a, w, hQ _ _ _ (by simp) h⟩
    case row r args => exact Rows.mono h fun v w hh => hK _ _ hh
    all_goals exact hK _ _ h
  | halt x w' =>
    cases x <;> simp only [Oper.upon] at h ⊢
    exact hQ _ _ _ (by simp) h
theorem solo_any {m : Nat} (ha : acycB l = true) {Q1 : Exit → Act → World → Prop} (h1 : ∀ a w, Q1 .normal a w → wpFrom P l Q m a w) (h2 : ∀ e a w, e ≠ .normal → Q1 e a w → Q e a w) : ∀ (b : List Oper) (k : Nat) (a : Act) (w : World), (∀ j, j < b.length → l[k + j]? = b[j]?) → k + b.length = m → m ≤ l.length →
    (∀ i, k ≤ i → i < m → gateB l i (i + 1) = true) → wpList P l.toArray Q1 b a w → wpFrom P l Q k a w := by
  intro b
  induction b with
  | nil =>
    intro k a w _ hk _ _ h
    have : k = m := by simpa using hk
    subst this
    exact h1 _ _ h
  | cons o r ih =>
    intro k a w hl hk hml hg h
    have ho : l[k]? = some o := by have := hl 0 (by simp); simpa using this
    have hkl : k < l.length := (List.getElem?_eq_some_iff.1 ho).1
    have hr : ∀ a w, wpList P l.toArray Q1 r a w → wpFrom P l Q (k + 1) a w := fun a w h =>
      ih (k + 1) a w (fun j hj => by have := hl (j + 1) (by simp; omega); simpa [Nat.add_assoc, Nat.add_comm 1 j] using this) (by simp at hk; omega) hml (fun i h1 h2 => hg i (by omega) h2) h
    intro listed hs hlk
    have hun : ∀ i, i < l.length → listed.getD i true = false → k ≤ i := fun i hi h => by
      rw [getD_of_lt (by omega) true false, hlk i hi] at h
      simpa using h
    rw [show l.length - k = (l.length - (k + 1)) + 1 from by omega]
    refine ⟨fun hn => ?_, fun i hi => ?_⟩
    · obtain ⟨i, _, hir⟩ := not_ready_nil ha hs hkl (by rw [hlk k hkl]; simp)
      rw [hn] at hir; cases hir
    · obtain ⟨hiu, oi, hoi, hd⟩ := ready_spec hi
      have hil : i < l.length := (List.getElem?_eq_some_iff.1 hoi).1
      have hki := hun i hil hiu
      have hik : i = k := by
        apply Classical.byContradiction; intro hne
        have := waits_listed (closed_pre ha hs hlk) _ i k oi hoi hd (gate_spec (hg k (Nat.le_refl _) (by simp at hk; omega)) (by omega) hil (Nat.le_refl _) (by omega))
        rw [hlk k hkl] at this
        simp at this
      subst hik
      have hnext : ∀ a w, wpList P l.toArray Q1 r a w → wpAny P .any l.toArray Q (l.length - (i + 1)) (listed.setIfInBounds i true) a w := fun a w h =>
        hr a w h _ (by simp [hs]) fun j hj => by
          have h1 := hlk j hj
          have hjs : j < listed.size := by omega
          simp [hjs] at h1
          simp [hjs, Array.getElem_setIfInBounds, h1]
          by_cases e : i = j
          · simp [e]
          · simp [e]; omega
      unfold wpOp
      have e2 : l.toArray[i]? = some o := by simp [ho]
      rw [e2]
      unfold wpList at h
      simp only
      split
      · rename_i hw
        rw [if_pos hw] at h
        rcases h with h | ⟨h, a', w', hlet⟩
        · exact .inl (Oper.wp_exit hnext h2 h)
        · exact .inr ⟨h, a', w', h2 _ _ _ (by simp) hlet⟩
      · rename_i hw
        rw [if_neg hw] at h
        exact hnext _ _ h
/-- Operations of which each alone may come up: one after the other. -/
theorem from_list {k : Nat} (m : Nat) {blk : List Oper} {a : Act} {w : World} (hB : soloB l k m = true) (hb : (l.take m).drop k = blk)
    (h : ∀ Q' : Exit → Act → World → Prop, (∀ a w, wpFrom P l Q m a w → Q' .normal a w) → (∀ e a w, e ≠ .normal → Q e a w → Q' e a w) → wpList P l.toArray Q' blk a w) : wpFrom P l Q k a w := by
  simp only [soloB, Bool.and_eq_true, decide_eq_true_eq] at hB
  obtain ⟨⟨⟨hkm, hml⟩, ha⟩, hg⟩ := hB
  refine solo_any (m := m) (Q1 := fun e a w => (e = .normal → wpFrom P l Q m a w) ∧ (e ≠ .normal → Q e a w)) ha (fun a w h => h.1 rfl) (fun e a w he h => h.2 he) blk k a w (fun j hj => ?_) ?_ hml (fun i h1 h2 => ?_)
    (h _ (fun a w h => ⟨fun _ => h, fun h => absurd rfl h⟩) fun e a w he h => ⟨fun h1 => absurd h1 he, fun _ => h⟩)
  · rw [← hb] at hj ⊢
    simp at hj
    simp [List.getElem?_take]; omega
  · rw [← hb]; simp; omega
  · have := List.all_eq_true.1 hg (i - k) (List.mem_range.2 (by omega))
    rwa [show k + (i - k) = i from by omega] at this
end
end Go.Proofs.YtnfpjcjlapljjaaGreatDoor
namespace Go.Proofs.YtnfpjcjlapljjaaGreatDoor
open Go Go.RowKit
section
variable {P : Program} {ops : Array Oper} {Q : Exit → Act → World → Prop}
theorem any_inv0 {a : Act} {w : World} (Inv : (Nat → Bool) → Act → World → Prop)
    (hac : ∀ (i : Nat) (o : Oper), ops[i]? = some o → ∀ e ∈ o.after, Region.binds .any e = true → e.on < i)
    (h0 : Inv (fun _ => false) a w)
    (hstep : ∀ (L : Nat → Bool) (a : Act) (w : World) (i : Nat) (o : Oper), Inv L a w → ops[i]? = some o → L i = false → (∀ e ∈ o.after, Region.binds .any e = true → L e.on = true) → wpOp P ops Q i (fun a' w' => Inv (fun j => L j || j == i) a' w') a w)
    (hend : ∀ (L : Nat → Bool) (a : Act) (w : World), Inv L a w → (∀ i, i < ops.size → L i = true) → Q .normal a w) : wpAny P .any ops Q ops.size (Array.replicate ops.size false) a w := by
  refine any_of_inv Inv hac hstep hend _ _ _ _ (by simp) ?_ ?_
  · simp
  · have : (fun j => (Array.replicate ops.size false).getD j false) = fun _ => false := by
      funext j
      by_cases hj : j < ops.size <;> simp [hj]
    rw [this]
    exact h0

/-- Fact j has another consumer than i. -/
def consB (ops : Array Oper) (i j : Nat) : Bool := (List.range ops.size).any fun k => match ops[k]? with
  | some o => k != i && o.after.any fun e => Region.binds .any e && e.on == j
  | none => false
/-- What is to be shown of one operation: from the facts that it waits for, it yields a value, keeps the others' facts, and has its own. -/
def OpFactL (P : Program) (Q : Exit → Act → World → Prop) (a0 : Act) (l : List Oper) (E : Nat → Bool) (Base : World → Prop) (Fact : Nat → (Nat → Value) → World → Prop) (i : Nat) (o : Oper) : Prop :=
  ∀ (a : Act) (w : World), (∀ t, (l.all fun ok => ok.dst != some t) = true → sl a t = sl a0 t) → (∀ k, (o.after.any fun e => Region.binds .any e && e.on == k) = true → Fact k (sl a) w) → Base w →
    o.wp P a w (fun a' w' => ∃ v, a' = a.put o.dst v ∧ Base w' ∧ (∀ j, j ≠ i → (E j = true ∨ consB l.toArray i j = true) → Fact j (sl a) w → Fact j (sl a) w') ∧ ∀ s : Nat → Value, (∀ t, o.dst ≠ some t → s t = sl a t) → (∀ d, o.dst = some d → s d = v) → Fact i s w') Q
/-- An operation that yields v and leaves w'. -/
theorem OpFactL.value {a0 : Act} {l : List Oper} {E : Nat → Bool} {Base : World → Prop} {Fact : Nat → (Nat → Value) → World → Prop} {i : Nat} {o : Oper}
    (hst : ∀ j s w w', Below w.heap.size w w' → Fact j s w → Fact j s w')
    (h : ∀ (a : Act) (w : World), (∀ t, (l.all fun ok => ok.dst != some t) = true → sl a t = sl a0 t) → (∀ k, (o.after.any fun e => Region.binds .any e && e.on == k) = true → Fact k (sl a) w) → Base w →
      ∃ v w', (execOp a.eval o).run P w = .ok (.value v) w' ∧ Below w.heap.size w w' ∧ Base w' ∧ ∀ s : Nat → Value, (∀ t, o.dst ≠ some t → s t = sl a t) → (∀ d, o.dst = some d → s d = v) → Fact i s w') : OpFactL P Q a0 l E Base Fact i o := by
  intro a w hf D hb
  obtain ⟨v, w', hrun, hbl, hB, hF⟩ := h a w hf D hb
  unfold Oper.wp
  rw [hrun]
  exact ⟨v, rfl, hB, fun j _ _ hj => hst j _ _ _ hbl hj, hF⟩
/-- A call. -/
theorem OpFactL.call {a0 : Act} {l : List Oper} {E : Nat → Bool} {Base : World → Prop} {Fact : Nat → (Nat → Value) → World → Prop} {i : Nat} {o : Oper}
    (hst : ∀ j s w w', Below w.heap.size w w' → Fact j s w → Fact j s w')
    (h : ∀ (a : Act) (w : World), (∀ t, (l.all fun ok => ok.dst != some t) = true → sl a t = sl a0 t) → (∀ k, (o.after.any fun e => Region.binds .any e && e.on == k) = true → Fact k (sl a) w) → Base w →
      ∃ f args, (execOp a.eval o).run P w = .ok (.enter f args) w ∧ Calls P f args w fun e w' => ∃ v, e = .returned v ∧ Below w.heap.size w w' ∧ Base w' ∧ ∀ s : Nat → Value, (∀ t, o.dst ≠ some t → s t = sl a t) → (∀ d, o.dst = some d → s d = v) → Fact i s w') : OpFactL P Q a0 l E Base Fact i o := by
  intro a w hf D hb
  obtain ⟨f, args, hrun, hc⟩ := h a w hf D hb
  unfold Oper.wp
  rw [hrun]
  refine hc.mono ?_
  rintro e w' ⟨v, rfl, hbl, hB, hF⟩
  exact ⟨v, rfl, hB, fun j _ _ hj => hst j _ _ _ hbl hj, hF⟩

/-- An operation that yields v and writes (an append in place): what it leaves of the other facts is shown for each. -/
theorem OpFactL.write {a0 : Act} {l : List Oper} {E : Nat → Bool} {Base : World → Prop} {Fact : Nat → (Nat → Value) → World → Prop} {i : Nat} {o : Oper}
    (h : ∀ (a : Act) (w : World), (∀ t, (l.all fun ok => ok.dst != some t) = true → sl a t = sl a0 t) → (∀ k, (o.after.any fun e => Region.binds .any e && e.on == k) = true → Fact k (sl a) w) → Base w →
      ∃ v w', (execOp a.eval o).run P w = .ok (.value v) w' ∧ Base w' ∧ (∀ j, j ≠ i → (E j = true ∨ consB l.toArray i j = true) → Fact j (sl a) w → Fact j (sl a) w') ∧ ∀ s : Nat → Value, (∀ t, o.dst ≠ some t → s t = sl a t) → (∀ d, o.dst = some d → s d = v) → Fact i s w') : OpFactL P Q a0 l E Base Fact i o := by
  intro a w hf D hb
  obtain ⟨v, w', hrun, hB, hst, hF⟩ := h a w hf D hb
  unfold Oper.wp
  rw [hrun]
  exact ⟨v, rfl, hB, hst, hF⟩
/-- A store. -/
theorem OpFactL.skip {a0 : Act} {l : List Oper} {E : Nat → Bool} {Base : World → Prop} {Fact : Nat → (Nat → Value) → World → Prop} {i : Nat} {o : Oper}
    (h : ∀ (a : Act) (w : World), (∀ t, (l.all fun ok => ok.dst != some t) = true → sl a t = sl a0 t) → (∀ k, (o.after.any fun e => Region.binds .any e && e.on == k) = true → Fact k (sl a) w) → Base w →
      ∃ w', (execOp a.eval o).run P w = .ok .skip w' ∧ Base w' ∧ (∀ j, j ≠ i → (E j = true ∨ consB l.toArray i j = true) → Fact j (sl a) w → Fact j (sl a) w') ∧ ∀ s : Nat → Value, (∀ t, o.dst ≠ some t → s t = sl a t) → Fact i s w') : OpFactL P Q a0 l E Base Fact i o := by
  intro a w hf D hb
  obtain ⟨w', hrun, hB, hst, hF⟩ := h a w hf D hb
  unfold Oper.wp
  rw [hrun]
  exact ⟨undef, rfl, hB, hst, fun s h _ => hF s h⟩
end
section
variable {P : Program} {l : List Oper} {Q : Exit → Act → World → Prop}
theorem cut_any {m : Nat} (hml : m ≤ l.length) (ha : acycB l = true) (hg : guardB l m = true) (hgt : gateB l 0 m = true) {Q1 : Exit → Act → World → Prop} (h1 : ∀ a w, Q1 .normal a w → wpFrom P l Q m a w) (h2 : ∀ e a w, e ≠ .normal → Q1 e a w → Q e a w) :
    ∀ (f : Nat) (listed1 listed : Array Bool) (a : Act) (w : World), listed1.size = m → listed.size = l.length → (∀ j, j < m → listed1.getD j false = listed.getD j false) → (∀ j, m ≤ j → j < l.length → listed.getD j false = false) → Closed l listed →
      listed1.toList.count false = f → wpAny P .any (l.take m).toArray Q1 f listed1 a w → wpAny P .any l.toArray Q (f + (l.length - m)) listed a w := by
  intro f
  induction f with
  | zero =>
    intro listed1 listed a w hs1 hs hag hm hc hf h
    rw [Nat.zero_add]
    refine h1 a w h.2 listed hs fun j hj => ?_
    by_cases hjm : j < m
    · rw [← hag j hjm]
      simp only [hjm, decide_true]
      have hj1 : j < listed1.size := by omega
      rcases hl : listed1.getD j false with _ | _
      · have hmem : false ∈ listed1.toList := by
          simp [hj1] at hl
          rw [← hl]; simp
        have := List.count_pos_iff.2 hmem
        omega
      · rfl
    · rw [hm j (by omega) hj]; simp [hjm]
  | succ f ih =>
    intro listed1 listed a w hs1 hs hag hm hc hf h
    obtain ⟨x, hx, hxu⟩ : ∃ x, x < m ∧ listed1.getD x false = false := by
      have hpos : 0 < listed1.toList.count false := by omega
      have hmem := List.count_pos_iff.1 hpos
      obtain ⟨x, hx, he⟩ := List.getElem_of_mem hmem
      have hx' : x < listed1.size := by simpa using hx
      exact ⟨x, by omega, by simp [hx']; simpa using he⟩
    have hlu : listed.getD x false = false := by rw [← hag x hx]; exact hxu
    rw [show f + 1 + (l.length - m) = f + (l.length - m) + 1 from by omega]
    refine ⟨fun hr => ?_, fun i hi => ?_⟩
    · obtain ⟨i, _, hir⟩ := not_ready_nil ha hs (by omega) hlu
      rw [hr] at hir; cases hir
    · obtain ⟨hiu, o, ho, hd⟩ := ready_spec hi
      have hil : i < l.length := (List.getElem?_eq_some_iff.1 ho).1
      have him : i < m := by
        apply Classical.byContradiction; intro hh
        have := waits_listed hc _ i x o ho hd (gate_spec hgt (by omega) hil (Nat.zero_le _) hx)
        rw [this] at hlu; cases hlu
      have hi1 : i < listed1.size := by omega
      have hiu1 : listed1.getD i false = false := by rw [hag i him, getD_of_lt (by omega) false true]; exact hiu
      have hr1 : i ∈ Region.ready .any (l.take m).toArray listed1 := by
        refine mem_ready.2 ⟨by rw [getD_of_lt hi1 true false]; exact hiu1, o, by simp [him, ho], fun e he hb => ?_⟩
        have hlt := acyc_spec ha i o ho e he hb
        rw [hag e.on (by omega)]
        exact hd e he hb
      have h3 := h.2 i hr1
      have hnext : ∀ a' w', wpAny P .any (l.take m).toArray Q1 f (listed1.setIfInBounds i true) a' w' → wpAny P .any l.toArray Q (f + (l.length - m)) (listed.setIfInBounds i true) a' w' := by
        intro a' w' h'
        refine ih (listed1.setIfInBounds i true) (listed.setIfInBounds i true) a' w' (by simp [hs1]) (by simp [hs]) (fun j hj => ?_) (fun j hj hjl => ?_) (closed_set hs hc ho hd) ?_ h'
        · have h1 := hag j hj
          have hj1 : j < listed1.size := by omega
          have hj2 : j < listed.size := by omega
          simp [hj1, hj2] at h1
          simp [hj1, hj2, Array.getElem_setIfInBounds, h1]
        · have hj2 : j < listed.size := by omega
          have h1 := hm j hj hjl
          simp [hj2] at h1
          simp [hj2, Array.getElem_setIfInBounds, h1]
          omega
        · have : (listed1.setIfInBounds i true).toList = listed1.toList.set i true := by simp
          have h3 : listed1[i] = false := by simpa [hi1] using hiu1
          rw [this, List.count_set (by simpa using hi1)]
          have hcc : listed1.toList.count false = Array.count false listed1 := by simp
          simp [h3]
          omega
      unfold wpOp at h3 ⊢
      have e1 : (l.take m).toArray[i]? = some o := by simp [him, ho]
      have e2 : l.toArray[i]? = some o := by simp [ho]
      rw [e1] at h3
      rw [e2]
      simp only at h3 ⊢
      rw [wanted_take hg him ho] at h3
      split
      · rename_i hw
        rw [if_pos hw] at h3
        rcases h3 with h | ⟨h, a', w', hlet⟩
        · exact .inl (Oper.wp_exit hnext h2 h)
        · exact .inr ⟨h, a', w', h2 _ _ _ (by simp) hlet⟩
      · rename_i hw
        rw [if_neg hw] at h3
        exact hnext _ _ h3
def phaseB (l : List Oper) (m : Nat) : Bool := decide (m ≤ l.length) && acycB l && guardB l m && gateB l 0 m
theorem from_any (m : Nat) {blk : List Oper} {a : Act} {w : World} (hB : phaseB l m = true) (hb : l.take m = blk) {Q1 : Exit → Act → World → Prop} (h2 : ∀ e a w, e ≠ .normal → Q1 e a w → Q e a w) (h : wpAny P .any blk.toArray Q1 blk.toArray.size (Array.replicate blk.toArray.size false) a w) (h1 : ∀ a w, Q1 .normal a w → wpFrom P l Q m a w) : wpFrom P l Q 0 a w := by
  subst hb
  simp only [phaseB, Bool.and_eq_true, decide_eq_true_eq] at hB
  obtain ⟨⟨⟨hml, ha⟩, hg⟩, hgt⟩ := hB
  intro listed hs hl
  have hsz : (l.take m).toArray.size = m := by simp; omega
  rw [hsz] at h
  have hun : ∀ j, j < l.length → listed.getD j false = false := fun j hj => by rw [hl j hj]; simp
  have := cut_any hml ha hg hgt h1 h2 m (Array.replicate m false) listed a w (by simp) hs (fun j hj => by rw [hun j (by omega)]; simp [hj]) (fun j _ hj => hun j hj) (closed_pre (k := 0) ha hs hl) (by simp) h
  rwa [show m + (l.length - m) = l.length - 0 from by omega] at this
end
end Go.Proofs.YtnfpjcjlapljjaaGreatDoor
namespace Go.Proofs.YtnfpjcjlapljjaaGreatDoor
open Go Go.RowKit
open Go.Maps (Keyed)
/-- Block b is a map with these entries. -/
def MapAt (w : World) (b : Nat) (l : List (Value × Value)) : Prop := ∃ es clock, w.heap[b]? = some (.map es clock) ∧ es.toList.map (fun e => (e.key, e.val)) = l
section
variable {P : Program} {w w' : World} {b : Nat} {l : List (Value × Value)} {k e t : TypeId}
theorem MapAt.lt (h : MapAt w b l) : b < w.heap.size := by
  obtain ⟨es, c, hb, _⟩ := h
  rcases Nat.lt_or_ge b w.heap.size with hlt | hge
  · exact hlt
  · rw [Array.getElem?_eq_none hge] at hb; cases hb
theorem MapAt.of_block (h : MapAt w b l) (e : w'.heap[b]? = w.heap[b]?) : MapAt w' b l := by
  obtain ⟨es, c, hb, hl⟩ := h
  exact ⟨es, c, e.trans hb, hl⟩
theorem MapAt.below {B : Nat} (h : MapAt w b l) (hb : Below B w w') (hlt : b < B) : MapAt w' b l := h.of_block (hb.block b hlt)
theorem MapAt.made (w : World) : MapAt (w.alloc (.map #[] 0)) w.heap.size [] := ⟨#[], 0, heap_alloc_new w _, rfl⟩
end
end Go.Proofs.YtnfpjcjlapljjaaGreatDoor
