/- A region that draws its order, cut in blocks: each operation of a later block waits for all of the earlier ones. A block is walked quietly in its own class of worlds, or operation by operation. Program-free. -/
import Derived.Test.YtiochodepgldpaaDoorRegion
import Derived.BigQuiet
namespace Go.Proofs.YtiochodepgldpaaDoor
open Go Go.RowKit

/-- Operation j waits for i, through others. -/
def waitsOn (l : List Oper) : Nat → Nat → Nat → Bool
  | 0, _, _ => false
  | f + 1, j, i => match l[j]? with
    | some o => o.after.any fun e => Region.binds .any e && (e.on == i || (decide (i < e.on) && waitsOn l f e.on i))
    | none => false
/-- Each operation behind m waits for all from k to m. -/
def gateB (l : List Oper) (k m : Nat) : Bool :=
  (List.range (l.length - m)).all fun j => (List.range (m - k)).all fun i => waitsOn l l.length (m + j) (k + i)
def acycB (l : List Oper) : Bool := (List.range l.length).all fun i => match l[i]? with
  | some o => o.after.all fun e => !Region.binds .any e || decide (e.on < i)
  | none => true
def guardB (l : List Oper) (m : Nat) : Bool := (List.range m).all fun i => match l[i]? with
  | some o => (match o.guard with | some (g, _) => decide (g < m) | none => true)
  | none => true
def blockB (l : List Oper) (k m : Nat) : Bool :=
  decide (k ≤ m) && decide (m ≤ l.length) && acycB l && guardB l m && gateB l k m && Region.noSelect (l.take m).toArray && Region.lexFrom .any (l.take m).toArray (m - k) k (Array.ofFn fun i : Fin m => decide (i.val < k))
def soloB (l : List Oper) (k m : Nat) : Bool :=
  decide (k ≤ m) && decide (m ≤ l.length) && acycB l && (List.range (m - k)).all fun i => gateB l (k + i) (k + i + 1)

section
variable {P : Program} {l : List Oper} {Q : Exit → Act → World → Prop}
/-- From operation k on, all before it done. -/
def wpFrom (P : Program) (l : List Oper) (Q : Exit → Act → World → Prop) (k : Nat) (a : Act) (w : World) : Prop :=
  ∀ listed : Array Bool, listed.size = l.length → (∀ j, j < l.length → listed.getD j false = decide (j < k)) → wpAny P .any l.toArray Q (l.length - k) listed a w

theorem region_blocks {id : Nat} {a : Act} {w : World} (hm : P.follows .mixedOrders = true) (h : wpFrom P l Q 0 a { w with drawn := w.drawn + 1 }) : (Code.region id l.toArray true).wp P Q a w := by
  refine wp_region_any hm ?_
  have := h (Array.replicate l.length false) (by simp) (fun j hj => by simp [hj])
  simpa using this

def Closed (l : List Oper) (listed : Array Bool) : Prop := ∀ (j : Nat) (o : Oper), l[j]? = some o → listed.getD j false = true → ∀ e ∈ o.after, Region.binds .any e = true → listed.getD e.on false = true
theorem waits_listed {listed : Array Bool} (hc : Closed l listed) : ∀ (f j i : Nat) (o : Oper), l[j]? = some o → (∀ e ∈ o.after, Region.binds .any e = true → listed.getD e.on false = true) → waitsOn l f j i = true → listed.getD i false = true := by
  intro f
  induction f with
  | zero => intro j i o _ _ h; simp [waitsOn] at h
  | succ f ih =>
    intro j i o ho hd h
    unfold waitsOn at h
    rw [ho] at h
    simp only at h
    obtain ⟨e, he, h⟩ := Array.any_eq_true'.1 h
    simp only [Bool.and_eq_true, Bool.or_eq_true, beq_iff_eq] at h
    obtain ⟨hb, h⟩ := h
    have hl := hd e he hb
    rcases h with h | ⟨_, h⟩
    · rw [← h]; exact hl
    · cases hoe : l[e.on]? with
      | none =>
        cases f with
        | zero => simp [waitsOn] at h
        | succ f => unfold waitsOn at h; rw [hoe] at h; simp at h
      | some oe => exact ih e.on i oe hoe (hc e.on oe hoe hl) h

theorem acyc_spec (h : acycB l = true) (i : Nat) (o : Oper) (ho : l[i]? = some o) : ∀ e ∈ o.after, Region.binds .any e = true → e.on < i := by
  intro e he hb
  have hi : i < l.length := (List.getElem?_eq_some_iff.1 ho).1
  have h1 := List.all_eq_true.1 h i (List.mem_range.2 hi)
  rw [ho] at h1
  have := Array.all_eq_true_iff_forall_mem.1 h1 e he
  simpa [hb] using this
theorem gate_spec {k m : Nat} (h : gateB l k m = true) {i j : Nat} (hj : m ≤ j) (hjl : j < l.length) (hki : k ≤ i) (him : i < m) : waitsOn l l.length j i = true := by
  have h1 := List.all_eq_true.1 h (j - m) (List.mem_range.2 (by omega))
  have h2 := List.all_eq_true.1 h1 (i - k) (List.mem_range.2 (by omega))
  rwa [show m + (j - m) = j from by omega, show k + (i - k) = i from by omega] at h2
theorem ready_spec {listed : Array Bool} {i : Nat} (h : i ∈ Region.ready .any l.toArray listed) : listed.getD i true = false ∧ ∃ o, l[i]? = some o ∧ ∀ e ∈ o.after, Region.binds .any e = true → listed.getD e.on false = true := by
  obtain ⟨h1, o, ho, h⟩ := mem_ready.1 h
  exact ⟨h1, o, by simpa using ho, h⟩
theorem getD_of_lt {listed : Array Bool} {j : Nat} (h : j < listed.size) (x y : Bool) : listed.getD j x = listed.getD j y := by simp [h]
theorem not_ready_nil (ha : acycB l = true) {listed : Array Bool} (hs : listed.size = l.length) {k : Nat} (hk : k < l.length) (hu : listed.getD k false = false) : ∃ i, i ≤ k ∧ i ∈ Region.ready .any l.toArray listed := by
  induction k using Nat.strongRecOn with
  | ind k ih =>
    by_cases hd : ∀ e ∈ l[k].after, Region.binds .any e = true → listed.getD e.on false = true
    · refine ⟨k, Nat.le_refl _, mem_ready.2 ⟨by rw [getD_of_lt (by omega) true false]; exact hu, l[k], by simp [hk], hd⟩⟩
    · obtain ⟨e, he, hb, hl⟩ : ∃ e, e ∈ l[k].after ∧ Region.binds .any e = true ∧ ¬ listed.getD e.on false = true := by
        apply Classical.byContradiction; intro hh
        exact hd fun e he hb => Classical.byContradiction fun hl => hh ⟨e, he, hb, hl⟩
      have hlt := acyc_spec ha k _ (List.getElem?_eq_getElem hk) e he hb
      obtain ⟨i, hi, hr⟩ := ih e.on hlt (by omega) (by simpa using hl)
      exact ⟨i, by omega, hr⟩

theorem closed_pre (ha : acycB l = true) {listed : Array Bool} (_hs : listed.size = l.length) {k : Nat} (h : ∀ j, j < l.length → listed.getD j false = decide (j < k)) : Closed l listed := by
  intro j o ho hl e he hb
  have hj : j < l.length := (List.getElem?_eq_some_iff.1 ho).1
  have hlt := acyc_spec ha j o ho e he hb
  rw [h j hj] at hl
  rw [h e.on (by omega)]
  simp only [decide_eq_true_eq] at hl ⊢
  omega
theorem closed_set {listed : Array Bool} (hs : listed.size = l.length) (hc : Closed l listed) {i : Nat} {o : Oper} (ho : l[i]? = some o) (hd : ∀ e ∈ o.after, Region.binds .any e = true → listed.getD e.on false = true) : Closed l (listed.setIfInBounds i true) := by
  have hi : i < l.length := (List.getElem?_eq_some_iff.1 ho).1
  have up : ∀ j, listed.getD j false = true → (listed.setIfInBounds i true).getD j false = true := by
    intro j h
    by_cases hj : j < listed.size
    · simp [hj, Array.getElem_setIfInBounds] at h ⊢
      exact .inr h
    · simp [hj] at h
  intro j oj hoj hl e he hb
  by_cases hji : j = i
  · subst hji
    rw [ho] at hoj; injection hoj with hoj; subst hoj
    exact up _ (hd e he hb)
  · have hj : j < l.length := (List.getElem?_eq_some_iff.1 hoj).1
    have : listed.getD j false = true := by
      rw [← hl]; simp [hs, hj, Ne.symm hji]
    exact up _ (hc j oj hoj this e he hb)

theorem wanted_take {m : Nat} (hg : guardB l m = true) {i : Nat} (hi : i < m) {o : Oper} (ho : l[i]? = some o) (t : Array Value) : Region.wanted o (yielded (l.take m).toArray t) = Region.wanted o (yielded l.toArray t) := by
  have h1 := List.all_eq_true.1 hg i (List.mem_range.2 hi)
  rw [ho] at h1
  simp only at h1
  unfold Region.wanted
  cases hgo : o.guard with
  | none => rfl
  | some p =>
    obtain ⟨g, b⟩ := p
    rw [hgo] at h1
    simp only [decide_eq_true_eq] at h1
    have : yielded (l.take m).toArray t g = yielded l.toArray t g := by
      unfold yielded
      simp [h1]
    simp only [this]

theorem wpQuiet_take {m : Nat} (hg : guardB l m = true) {C : World → Prop} {K : Act → Prop} : ∀ (b : List Oper) (k : Nat) (a : Act), (∀ j, j < b.length → l[k + j]? = b[j]?) → k + b.length ≤ m → wpQuiet P l.toArray C K b a → wpQuiet P (l.take m).toArray C K b a := by
  intro b
  induction b with
  | nil => intro k a _ _ h; exact h
  | cons o r ih =>
    intro k a hl hm h
    have ho : l[k]? = some o := by have := hl 0 (by simp); simpa using this
    have hw := wanted_take hg (i := k) (by simp at hm; omega) ho a.tmps
    have hr : ∀ a', wpQuiet P l.toArray C K r a' → wpQuiet P (l.take m).toArray C K r a' := fun a' h' =>
      ih (k + 1) a' (fun j hj => by have := hl (j + 1) (by simp; omega); simpa [Nat.add_assoc, Nat.add_comm 1 j] using this) (by simp at hm; omega) h'
    unfold wpQuiet at h ⊢
    rw [hw]
    split
    · rename_i hc
      rw [if_pos hc] at h
      exact Oper.quiet_mono hr h
    · rename_i hc
      rw [if_neg hc] at h
      exact hr _ h

theorem block_any {m : Nat} (hml : m ≤ l.length) (ha : acycB l = true) (hg : guardB l m = true) {k : Nat} (hgt : gateB l k m = true) {C : World → Prop} :
    ∀ (f : Nat) (listed1 listed : Array Bool) (a : Act) (w : World), C w → listed1.size = m → listed.size = l.length → (∀ j, j < m → listed1.getD j false = listed.getD j false) → (∀ j, j < k → listed.getD j false = true) → (∀ j, m ≤ j → j < l.length → listed.getD j false = false) → Closed l listed →
      listed1.toList.count false = f → wpAnyQ P .any (l.take m).toArray C (fun a' => ∀ w', C w' → wpFrom P l Q m a' w') f listed1 a → wpAny P .any l.toArray Q (f + (l.length - m)) listed a w := by
  intro f
  induction f with
  | zero =>
    intro listed1 listed a w hC hs1 hs hag hk hm hc hf h
    rw [Nat.zero_add]
    refine h.2 w hC listed hs fun j hj => ?_
    by_cases hjm : j < m
    · rw [← hag j hjm]
      simp only [hjm, decide_true]
      have hj1 : j < listed1.size := by omega
      rcases hl : listed1.getD j false with _ | _
      · have hmem : false ∈ listed1.toList := by
          simp [hj1] at hl
          rw [← hl]; simp
        have := List.count_pos_iff.2 hmem
        omega
      · rfl
    · rw [hm j (by omega) hj]; simp [hjm]
  | succ f ih =>
    intro listed1 listed a w hC hs1 hs hag hk hm hc hf h
    obtain ⟨x, hx, hxu⟩ : ∃ x, x < m ∧ listed1.getD x false = false := by
      have hpos : 0 < listed1.toList.count false := by omega
      have hmem := List.count_pos_iff.1 hpos
      obtain ⟨x, hx, he⟩ := List.getElem_of_mem hmem
      have hx' : x < listed1.size := by simpa using hx
      exact ⟨x, by omega, by simp [hx']; simpa using he⟩
    have hlu : listed.getD x false = false := by rw [← hag x hx]; exact hxu
    have hkx : k ≤ x := by
      apply Classical.byContradiction; intro hh
      rw [hk x (by omega)] at hlu; cases hlu
    rw [show f + 1 + (l.length - m) = f + (l.length - m) + 1 from by omega]
    refine ⟨fun hr => ?_, fun i hi => ?_⟩
    · obtain ⟨i, _, hir⟩ := not_ready_nil ha hs (by omega) hlu
      rw [hr] at hir; cases hir
    · obtain ⟨hiu, o, ho, hd⟩ := ready_spec hi
      have hil : i < l.length := (List.getElem?_eq_some_iff.1 ho).1
      have him : i < m := by
        apply Classical.byContradiction; intro hh
        have := waits_listed hc _ i x o ho hd (gate_spec hgt (by omega) hil hkx hx)
        rw [this] at hlu; cases hlu
      have hi1 : i < listed1.size := by omega
      have hiu1 : listed1.getD i false = false := by rw [hag i him, getD_of_lt (by omega) false true]; exact hiu
      have hr1 : i ∈ Region.ready .any (l.take m).toArray listed1 := by
        refine mem_ready.2 ⟨by rw [getD_of_lt hi1 true false]; exact hiu1, o, by simp [him, ho], fun e he hb => ?_⟩
        have hlt := acyc_spec ha i o ho e he hb
        rw [hag e.on (by omega)]
        exact hd e he hb
      have h2 := h.2 i hr1
      have h3 : qOp P l.toArray C i (wpAnyQ P .any (l.take m).toArray C (fun a' => ∀ w', C w' → wpFrom P l Q m a' w') f (listed1.setIfInBounds i true)) a := by
        unfold qOp at h2 ⊢
        have e1 : (l.take m).toArray[i]? = some o := by simp [him, ho]
        have e2 : l.toArray[i]? = some o := by simp [ho]
        rw [e1] at h2
        rw [e2]
        simp only at h2 ⊢
        rw [wanted_take hg him ho] at h2
        exact h2
      refine wpOp_of_qOp hC (fun a' w' hC' h' => ih (listed1.setIfInBounds i true) (listed.setIfInBounds i true) a' w' hC' (by simp [hs1]) (by simp [hs]) (fun j hj => ?_) (fun j hj => ?_) (fun j hj hjl => ?_) (closed_set hs hc ho hd) ?_ h') h3
      · have h1 := hag j hj
        have hj1 : j < listed1.size := by omega
        have hj2 : j < listed.size := by omega
        simp [hj1, hj2] at h1
        simp [hj1, hj2, Array.getElem_setIfInBounds, h1]
      · have hj2 : j < listed.size := by omega
        have h1 := hk j hj
        simp [hj2] at h1
        simp [hj2, Array.getElem_setIfInBounds, h1]
      · have hj2 : j < listed.size := by omega
        have h1 := hm j hj hjl
        simp [hj2] at h1
        simp [hj2, Array.getElem_setIfInBounds, h1]
        omega
      · have : (listed1.setIfInBounds i true).toList = listed1.toList.set i true := by simp
        have h3 : listed1[i] = false := by simpa [hi1] using hiu1
        rw [this, List.count_set (by simpa using hi1)]
        have hcc : listed1.toList.count false = Array.count false listed1 := by simp
        simp [h3]
        omega

theorem from_quiet {k : Nat} (m : Nat) {blk : List Oper} (C : World → Prop) {a : Act} {w : World} (hB : blockB l k m = true) (hb : (l.take m).drop k = blk) (hC : C w)
    (h : wpQuiet P l.toArray C (fun a' => ∀ w', C w' → wpFrom P l Q m a' w') blk a) : wpFrom P l Q k a w := by
  simp only [blockB, Bool.and_eq_true, decide_eq_true_eq] at hB
  obtain ⟨⟨⟨⟨⟨⟨hkm, hml⟩, ha⟩, hg⟩, hgt⟩, hns⟩, hlx⟩ := hB
  intro listed hs hl
  have hbl : blk.length = m - k := by rw [← hb]; simp; omega
  have hcount : (Array.ofFn fun i : Fin m => decide (i.val < k)).toList.count false = m - k := by
    have : (Array.ofFn fun i : Fin m => decide (i.val < k)).toList = List.replicate k true ++ List.replicate (m - k) false := by
      apply List.ext_getElem
      · simp; omega
      · intro n h1 h2
        simp only [Array.toList_ofFn, List.getElem_ofFn]
        by_cases hn : n < k
        · simp [hn]
        · simp [hn, List.getElem_append]
    rw [this]; simp [List.count_append, List.count_replicate]
  have hq := wpAnyQ_lex (C := C) (md := .any) (P := P) (Q := fun a' => ∀ w', C w' → wpFrom P l Q m a' w') hns blk k (Array.ofFn fun i : Fin m => decide (i.val < k)) a (fun j => by
    rw [← hb]; simp) (by rw [hbl]; exact hlx) (wpQuiet_take hg blk k a (fun j hj => by
      rw [← hb] at hj ⊢
      simp at hj
      simp [List.getElem?_take]; omega) (by omega) h)
  rw [hbl] at hq
  have := block_any hml ha hg hgt (m - k) _ listed a w hC (by simp) hs (fun j hj => by rw [hl j (by omega)]; simp [hj]) (fun j hj => by rw [hl j (by omega)]; simp [hj]) (fun j hj hjl => by rw [hl j hjl]; simp; omega) (closed_pre ha hs hl) hcount hq
  rwa [show m - k + (l.length - m) = l.length - k from by omega] at this

theorem from_end {k : Nat} {a : Act} {w : World} (hk : k = l.length) (h : Q .normal a w) : wpFrom P l Q k a w := by
  subst hk
  intro listed hs hl
  refine wpAny_done ?_ h _
  rw [List.eq_nil_iff_forall_not_mem]
  intro j hj
  obtain ⟨hu, o, ho, _⟩ := ready_spec hj
  have hjl : j < l.length := (List.getElem?_eq_some_iff.1 ho).1
  have := hl j hjl
  rw [getD_of_lt (by omega) true false, this] at hu
  simp [hjl] at hu

theorem Oper.wp_exit {o : Oper} {a : Act} {w : World} {K K' : Act → World → Prop} {Q1 : Exit → Act → World → Prop} (hK : ∀ a w, K a w → K' a w) (hQ : ∀ e a w, e ≠ .normal → Q1 e a w → Q e a w) (h : o.wp P a w K Q1) : o.wp P a w K' Q := by
  unfold Oper.wp at *
  generalize (execOp a.eval o).run P w = r at *
  cases r with
  | ok n w' =>
    cases n <;> simp only [Oper.upon] at h ⊢
    case enter f args =>
      refine Calls.mono h (fun e w'' he => ?_)
      cases e with
      | returned v => exact hK _ _ he
      | panicked c => exact hQ _ _ _ (by simp) he
      | outgrown => obtain ⟨a, w, h⟩ := he; exact ⟨a, w, hQ _ _ _ (by simp) h⟩
    case row r args => exact Rows.mono h fun v w hh => hK _ _ hh
    all_goals exact hK _ _ h
  | halt x w' =>
    cases x <;> simp only [Oper.upon] at h ⊢
    exact hQ _ _ _ (by simp) h
theorem solo_any {m : Nat} (ha : acycB l = true) {Q1 : Exit → Act → World → Prop} (h1 : ∀ a w, Q1 .normal a w → wpFrom P l Q m a w) (h2 : ∀ e a w, e ≠ .normal → Q1 e a w → Q e a w) : ∀ (b : List Oper) (k : Nat) (a : Act) (w : World), (∀ j, j < b.length → l[k + j]? = b[j]?) → k + b.length = m → m ≤ l.length →
    (∀ i, k ≤ i → i < m → gateB l i (i + 1) = true) → wpList P l.toArray Q1 b a w → wpFrom P l Q k a w := by
  intro b
  induction b with
  | nil =>
    intro k a w _ hk _ _ h
    have : k = m := by simpa using hk
    subst this
    exact h1 _ _ h
  | cons o r ih =>
    intro k a w hl hk hml hg h
    have ho : l[k]? = some o := by have := hl 0 (by simp); simpa using this
    have hkl : k < l.length := (List.getElem?_eq_some_iff.1 ho).1
    have hr : ∀ a w, wpList P l.toArray Q1 r a w → wpFrom P l Q (k + 1) a w := fun a w h =>
      ih (k + 1) a w (fun j hj => by have := hl (j + 1) (by simp; omega); simpa [Nat.add_assoc, Nat.add_comm 1 j] using this) (by simp at hk; omega) hml (fun i h1 h2 => hg i (by omega) h2) h
    intro listed hs hlk
    have hun : ∀ i, i < l.length → listed.getD i true = false → k ≤ i := fun i hi h => by
      rw [getD_of_lt (by omega) true false, hlk i hi] at h
      simpa using h
    rw [show l.length - k = (l.length - (k + 1)) + 1 from by omega]
    refine ⟨fun hn => ?_, fun i hi => ?_⟩
    · obtain ⟨i, _, hir⟩ := not_ready_nil ha hs hkl (by rw [hlk k hkl]; simp)
      rw [hn] at hir; cases hir
    · obtain ⟨hiu, oi, hoi, hd⟩ := ready_spec hi
      have hil : i < l.length := (List.getElem?_eq_some_iff.1 hoi).1
      have hki := hun i hil hiu
      have hik : i = k := by
        apply Classical.byContradiction; intro hne
        have := waits_listed (closed_pre ha hs hlk) _ i k oi hoi hd (gate_spec (hg k (Nat.le_refl _) (by simp at hk; omega)) (by omega) hil (Nat.le_refl _) (by omega))
        rw [hlk k hkl] at this
        simp at this
      subst hik
      have hnext : ∀ a w, wpList P l.toArray Q1 r a w → wpAny P .any l.toArray Q (l.length - (i + 1)) (listed.setIfInBounds i true) a w := fun a w h =>
        hr a w h _ (by simp [hs]) fun j hj => by
          have h1 := hlk j hj
          have hjs : j < listed.size := by omega
          simp [hjs] at h1
          simp [hjs, Array.getElem_setIfInBounds, h1]
          by_cases e : i = j
          · simp [e]
          · simp [e]; omega
      unfold wpOp
      have e2 : l.toArray[i]? = some o := by simp [ho]
      rw [e2]
      unfold wpList at h
      simp only
      split
      · rename_i hw
        rw [if_pos hw] at h
        rcases h with h | ⟨h, a', w', hlet⟩
        · exact .inl (Oper.wp_exit hnext h2 h)
        · exact .inr ⟨h, a', w', h2 _ _ _ (by simp) hlet⟩
      · rename_i hw
        rw [if_neg hw] at h
        exact hnext _ _ h
/-- Operations of which each alone may come up: one after the other. -/
theorem from_list {k : Nat} (m : Nat) {blk : List Oper} {a : Act} {w : World} (hB : soloB l k m = true) (hb : (l.take m).drop k = blk)
    (h : ∀ Q' : Exit → Act → World → Prop, (∀ a w, wpFrom P l Q m a w → Q' .normal a w) → (∀ e a w, e ≠ .normal → Q e a w → Q' e a w) → wpList P l.toArray Q' blk a w) : wpFrom P l Q k a w := by
  simp only [soloB, Bool.and_eq_true, decide_eq_true_eq] at hB
  obtain ⟨⟨⟨hkm, hml⟩, ha⟩, hg⟩ := hB
  refine solo_any (m := m) (Q1 := fun e a w => (e = .normal → wpFrom P l Q m a w) ∧ (e ≠ .normal → Q e a w)) ha (fun a w h => h.1 rfl) (fun e a w he h => h.2 he) blk k a w (fun j hj => ?_) ?_ hml (fun i h1 h2 => ?_)
    (h _ (fun a w h => ⟨fun _ => h, fun h => absurd rfl h⟩) fun e a w he h => ⟨fun h1 => absurd h1 he, fun _ => h⟩)
  · rw [← hb] at hj ⊢
    simp at hj
    simp [List.getElem?_take]; omega
  · rw [← hb]; simp; omega
  · have := List.all_eq_true.1 hg (i - k) (List.mem_range.2 (by omega))
    rwa [show k + (i - k) = i from by omega] at this
end
end Go.Proofs.YtiochodepgldpaaDoor
