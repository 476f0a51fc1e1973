/- A drawn region inside the wide fence: its first operations by the plain law, then the rest fenced (printed by tools/mkregin.py). -/
import Derived.Test.YtnphdmiondccgaaDoorRegW
import Derived.OrdersIn
import Derived.RegionIn
import Derived.TacticsIn
namespace Go.Proofs.YtnphdmiondccgaaDoor
open Go Go.RowKit
section
variable {P : Program} {l : List Oper} {Q : Exit → Act → World → Prop} {n : Nat}
/-- From operation k on, all before it done; in the wide fence. -/
def wpFromIn (n : Nat) (P : Program) (l : List Oper) (Q : Exit → Act → World → Prop) (k : Nat) (a : Act) (w : World) : Prop :=
  ∀ listed : Array Bool, listed.size = l.length → (∀ j, j < l.length → listed.getD j false = decide (j < k)) → wpAnyIn Fence.wide n P .any l.toArray Q (l.length - k) listed a w
theorem region_blocksIn {id : Nat} {a : Act} {w : World} (hm : P.follows .mixedOrders = true) (h : wpFromIn n P l Q 0 a { w with drawn := w.drawn + 1 }) : (Code.region id l.toArray true).wpIn Fence.wide n P Q a w := by
  refine wpIn_region_any hm ?_
  have := h (Array.replicate l.length false) (by simp) (fun j hj => by simp [hj])
  simpa using this
theorem from_endIn {k : Nat} {a : Act} {w : World} (hk : k = l.length) (h : Q .normal a w) : wpFromIn n P l Q k a w := by
  subst hk
  intro listed hs hl
  refine wpAnyIn_done ?_ h _
  rw [List.eq_nil_iff_forall_not_mem]
  intro j hj
  obtain ⟨hu, o, ho, _⟩ := ready_spec hj
  have hjl : j < l.length := (List.getElem?_eq_some_iff.1 ho).1
  have := hl j hjl
  rw [getD_of_lt (by omega) true false, this] at hu
  simp [hjl] at hu
/-- What an operation does outside a fence it does in the wide one. -/
theorem Oper.wp_in {o : Oper} {a : Act} {w : World} {K K' R : Act → World → Prop} (hK : ∀ a w, K a w → K' a w) (h : o.wp P a w K (fun e a w => e = .normal ∧ R a w)) : o.wpIn Fence.wide n P a w K' Q := by
  refine ⟨fun _ _ => trivial, ?_⟩
  unfold Oper.wp at h
  rw [Fence.wide_round, Oper.semAt_none]
  generalize (execOp a.eval o).run P w = r at *
  cases r with
  | ok x w' =>
    cases x <;> simp only [Oper.upon] at h <;> simp only [Oper.uponIn]
    case enter f args =>
      refine ⟨fun h => by simp [Fence.wide] at h, callsIn_wide.2 (Calls.mono h fun e w'' he => ?_)⟩
      cases e with
      | returned v => exact hK _ _ he
      | panicked c => exact absurd he.1 (by simp)
      | outgrown => obtain ⟨a, w, h⟩ := he; exact absurd h.1 (by simp)
    case row r args =>
      refine ⟨fun h => by simp [Fence.wide] at h, fun c cs _ => ?_⟩
      obtain ⟨v, w', h1, h2⟩ := h c cs
      exact ⟨v, w', hK _ _ h1, stepsIn_wide.2 h2⟩
    all_goals first | exact hK _ _ h | exact h.elim
  | halt x w' =>
    cases x <;> simp only [Oper.upon] at h <;> simp only [Oper.uponIn]
    exact absurd h.1 (by simp)
theorem Oper.wpIn_exit {o : Oper} {a : Act} {w : World} {K K' : Act → World → Prop} {Q1 : Exit → Act → World → Prop} (hK : ∀ a w, K a w → K' a w) (hQ : ∀ e a w, e ≠ .normal → Q1 e a w → Q e a w) (h : o.wpIn Fence.wide n P a w K Q1) : o.wpIn Fence.wide n P a w K' Q := by
  refine ⟨h.1, ?_⟩
  replace h := h.2
  generalize (o.semAt Fence.wide.round a.eval).run P w = r at *
  cases r with
  | ok x w' =>
    cases x <;> simp only [Oper.uponIn] at h ⊢
    case enter f args =>
      refine ⟨h.1, CallsIn.mono h.2 fun e w'' he => ?_⟩
      cases e with
      | returned v => exact hK _ _ he
      | panicked c => exact hQ _ _ _ (by simp) he
      | outgrown => obtain ⟨a, w, h⟩ := he; exact ⟨a, w, hQ _ _ _ (by simp) h⟩
    case row r args => exact ⟨h.1, RowsIn.mono h.2 fun v w hh => hK _ _ hh⟩
    case round l f tmps as b =>
      refine ⟨h.1, RoundIn.mono h.2 fun e w'' he => ?_⟩
      cases e with
      | returned v => exact hK _ _ he
      | panicked c => exact hQ _ _ _ (by simp) he
      | outgrown => obtain ⟨a, w, h⟩ := he; exact ⟨a, w, hQ _ _ _ (by simp) h⟩
    all_goals exact hK _ _ h
  | halt x w' =>
    cases x <;> simp only [Oper.uponIn] at h ⊢
    exact hQ _ _ _ (by simp) h
theorem solo_anyIn {m : Nat} (ha : acycB l = true) {Q1 : Exit → Act → World → Prop} (h1 : ∀ a w, Q1 .normal a w → wpFromIn n P l Q m a w) (h2 : ∀ e a w, e ≠ .normal → Q1 e a w → Q e a w) : ∀ (b : List Oper) (k : Nat) (a : Act) (w : World), (∀ j, j < b.length → l[k + j]? = b[j]?) → k + b.length = m → m ≤ l.length →
    (∀ i, k ≤ i → i < m → gateB l i (i + 1) = true) → wpListIn Fence.wide n P l.toArray Q1 b a w → wpFromIn n P l Q k a w := by
  intro b
  induction b with
  | nil =>
    intro k a w _ hk _ _ h
    have : k = m := by simpa using hk
    subst this
    exact h1 _ _ h
  | cons o r ih =>
    intro k a w hl hk hml hg h
    have ho : l[k]? = some o := by have := hl 0 (by simp); simpa using this
    have hkl : k < l.length := (List.getElem?_eq_some_iff.1 ho).1
    have hr : ∀ a w, wpListIn Fence.wide n P l.toArray Q1 r a w → wpFromIn n P l Q (k + 1) a w := fun a w h =>
      ih (k + 1) a w (fun j hj => by have := hl (j + 1) (by simp; omega); simpa [Nat.add_assoc, Nat.add_comm 1 j] using this) (by simp at hk; omega) hml (fun i h1 h2 => hg i (by omega) h2) h
    intro listed hs hlk
    have hun : ∀ i, i < l.length → listed.getD i true = false → k ≤ i := fun i hi h => by
      rw [getD_of_lt (by omega) true false, hlk i hi] at h
      simpa using h
    rw [show l.length - k = (l.length - (k + 1)) + 1 from by omega]
    refine ⟨fun hn => ?_, fun i hi => ?_⟩
    · obtain ⟨i, _, hir⟩ := not_ready_nil ha hs hkl (by rw [hlk k hkl]; simp)
      rw [hn] at hir; cases hir
    · obtain ⟨hiu, oi, hoi, hd⟩ := ready_spec hi
      have hil : i < l.length := (List.getElem?_eq_some_iff.1 hoi).1
      have hki := hun i hil hiu
      have hik : i = k := by
        apply Classical.byContradiction; intro hne
        have := waits_listed (closed_pre ha hs hlk) _ i k oi hoi hd (gate_spec (hg k (Nat.le_refl _) (by simp at hk; omega)) (by omega) hil (Nat.le_refl _) (by omega))
        rw [hlk k hkl] at this
        simp at this
      subst hik
      have hnext : ∀ a w, wpListIn Fence.wide n P l.toArray Q1 r a w → wpAnyIn Fence.wide n P .any l.toArray Q (l.length - (i + 1)) (listed.setIfInBounds i true) a w := fun a w h =>
        hr a w h _ (by simp [hs]) fun j hj => by
          have h1 := hlk j hj
          have hjs : j < listed.size := by omega
          simp [hjs] at h1
          simp [hjs, Array.getElem_setIfInBounds, h1]
          by_cases e : i = j
          · simp [e]
          · simp [e]; omega
      unfold wpOpIn
      have e2 : l.toArray[i]? = some o := by simp [ho]
      rw [e2]
      unfold wpListIn at h
      simp only
      split
      · rename_i hw
        rw [if_pos hw] at h
        exact Oper.wpIn_exit hnext h2 h
      · rename_i hw
        rw [if_neg hw] at h
        exact ⟨h.1, hnext _ _ h.2⟩
theorem from_listIn {k : Nat} (m : Nat) {blk : List Oper} {a : Act} {w : World} (hB : soloB l k m = true) (hb : (l.take m).drop k = blk)
    (h : ∀ Q' : Exit → Act → World → Prop, (∀ a w, wpFromIn n P l Q m a w → Q' .normal a w) → (∀ e a w, e ≠ .normal → Q e a w → Q' e a w) → wpListIn Fence.wide n P l.toArray Q' blk a w) : wpFromIn n P l Q k a w := by
  simp only [soloB, Bool.and_eq_true, decide_eq_true_eq] at hB
  obtain ⟨⟨⟨hkm, hml⟩, ha⟩, hg⟩ := hB
  refine solo_anyIn (m := m) (Q1 := fun e a w => (e = .normal → wpFromIn n P l Q m a w) ∧ (e ≠ .normal → Q e a w)) ha (fun a w h => h.1 rfl) (fun e a w he h => h.2 he) blk k a w (fun j hj => ?_) ?_ hml (fun i h1 h2 => ?_)
    (h _ (fun a w h => ⟨fun _ => h, fun h => absurd rfl h⟩) fun e a w he h => ⟨fun h1 => absurd h1 he, fun _ => h⟩)
  · rw [← hb] at hj ⊢
    simp at hj
    simp [List.getElem?_take]; omega
  · rw [← hb]; simp; omega
  · have := List.all_eq_true.1 hg (i - k) (List.mem_range.2 (by omega))
    rwa [show k + (i - k) = i from by omega] at this
theorem cut_anyIn {m : Nat} (hml : m ≤ l.length) (ha : acycB l = true) (hg : guardB l m = true) (hgt : gateB l 0 m = true) {R : Act → World → Prop} (h1 : ∀ a w, R a w → wpFromIn n P l Q m a w) :
    ∀ (f : Nat) (listed1 listed : Array Bool) (a : Act) (w : World), listed1.size = m → listed.size = l.length → (∀ j, j < m → listed1.getD j false = listed.getD j false) → (∀ j, m ≤ j → j < l.length → listed.getD j false = false) → Closed l listed →
      listed1.toList.count false = f → wpAny P .any (l.take m).toArray (fun e a w => e = .normal ∧ R a w) f listed1 a w → wpAnyIn Fence.wide n P .any l.toArray Q (f + (l.length - m)) listed a w := by
  intro f
  induction f with
  | zero =>
    intro listed1 listed a w hs1 hs hag hm hc hf h
    rw [Nat.zero_add]
    refine h1 a w h.2.2 listed hs fun j hj => ?_
    by_cases hjm : j < m
    · rw [← hag j hjm]
      simp only [hjm, decide_true]
      have hj1 : j < listed1.size := by omega
      rcases hl : listed1.getD j false with _ | _
      · have hmem : false ∈ listed1.toList := by
          simp [hj1] at hl
          rw [← hl]; simp
        have := List.count_pos_iff.2 hmem
        omega
      · rfl
    · rw [hm j (by omega) hj]; simp [hjm]
  | succ f ih =>
    intro listed1 listed a w hs1 hs hag hm hc hf h
    obtain ⟨x, hx, hxu⟩ : ∃ x, x < m ∧ listed1.getD x false = false := by
      have hpos : 0 < listed1.toList.count false := by omega
      have hmem := List.count_pos_iff.1 hpos
      obtain ⟨x, hx, he⟩ := List.getElem_of_mem hmem
      have hx' : x < listed1.size := by simpa using hx
      exact ⟨x, by omega, by simp [hx']; simpa using he⟩
    have hlu : listed.getD x false = false := by rw [← hag x hx]; exact hxu
    rw [show f + 1 + (l.length - m) = f + (l.length - m) + 1 from by omega]
    refine ⟨fun hr => ?_, fun i hi => ?_⟩
    · obtain ⟨i, _, hir⟩ := not_ready_nil ha hs (by omega) hlu
      rw [hr] at hir; cases hir
    · obtain ⟨hiu, o, ho, hd⟩ := ready_spec hi
      have hil : i < l.length := (List.getElem?_eq_some_iff.1 ho).1
      have him : i < m := by
        apply Classical.byContradiction; intro hh
        have := waits_listed hc _ i x o ho hd (gate_spec hgt (by omega) hil (Nat.zero_le _) hx)
        rw [this] at hlu; cases hlu
      have hi1 : i < listed1.size := by omega
      have hiu1 : listed1.getD i false = false := by rw [hag i him, getD_of_lt (by omega) false true]; exact hiu
      have hr1 : i ∈ Region.ready .any (l.take m).toArray listed1 := by
        refine mem_ready.2 ⟨by rw [getD_of_lt hi1 true false]; exact hiu1, o, by simp [him, ho], fun e he hb => ?_⟩
        have hlt := acyc_spec ha i o ho e he hb
        rw [hag e.on (by omega)]
        exact hd e he hb
      have h3 := h.2 i hr1
      have hnext : ∀ a' w', wpAny P .any (l.take m).toArray (fun e a w => e = .normal ∧ R a w) f (listed1.setIfInBounds i true) a' w' → wpAnyIn Fence.wide n P .any l.toArray Q (f + (l.length - m)) (listed.setIfInBounds i true) a' w' := by
        intro a' w' h'
        refine ih (listed1.setIfInBounds i true) (listed.setIfInBounds i true) a' w' (by simp [hs1]) (by simp [hs]) (fun j hj => ?_) (fun j hj hjl => ?_) (closed_set hs hc ho hd) ?_ h'
        · have h1 := hag j hj
          have hj1 : j < listed1.size := by omega
          have hj2 : j < listed.size := by omega
          simp [hj1, hj2] at h1
          simp [hj1, hj2, Array.getElem_setIfInBounds, h1]
        · have hj2 : j < listed.size := by omega
          have h1 := hm j hj hjl
          simp [hj2] at h1
          simp [hj2, Array.getElem_setIfInBounds, h1]
          omega
        · have : (listed1.setIfInBounds i true).toList = listed1.toList.set i true := by simp
          have h3 : listed1[i] = false := by simpa [hi1] using hiu1
          rw [this, List.count_set (by simpa using hi1)]
          have hcc : listed1.toList.count false = Array.count false listed1 := by simp
          simp [h3]
          omega
      unfold wpOp at h3
      unfold wpOpIn
      have e1 : (l.take m).toArray[i]? = some o := by simp [him, ho]
      have e2 : l.toArray[i]? = some o := by simp [ho]
      rw [e1] at h3
      rw [e2]
      simp only at h3 ⊢
      rw [wanted_take hg him ho] at h3
      split
      · rename_i hw
        rw [if_pos hw] at h3
        rcases h3 with h | ⟨h, a', w', hlet⟩
        · exact Oper.wp_in hnext h
        · exact absurd hlet.1 (by simp)
      · rename_i hw
        rw [if_neg hw] at h3
        exact ⟨fun _ _ => trivial, hnext _ _ h3⟩
/-- The first m operations by the law, one obligation for each; then the rest, fenced. -/
theorem from_lawIn {a0 : Act} {w0 : World} (m : Nat) {blk : List Oper} (E : Nat → Bool) (Base : (Nat → Bool) → World → Prop) (Fact : Nat → (Nat → Value) → World → Prop) (V : Nat → List Nat) (hB : phaseB l m = true) (hb : l.take m = blk)
    (hV : ∀ j s s' w, (∀ t, t ∈ V j → s' t = s t) → Fact j s w → Fact j s' w)
    (hap : FactsApart blk.toArray V = true) (hso : FactsSoundW blk.toArray a0.tmps.size = true) (h0 : Base (fun _ => false) w0)
    (hop : Each (OpFactW P (fun e a w => e = .normal ∧ wpFromIn n P l Q m a w) a0 blk E Base Fact) 0 blk)
    (hend : ∀ (L : Nat → Bool) (x : Nat → Value) (w : World), Base L w → (∀ i, i < blk.length → E i = true → Fact i x w) → wpFromIn n P l Q m (after blk a0 x) w) : wpFromIn n P l Q 0 a0 w0 := by
  have h := any_lawW E Base Fact V hV hap hso h0 hop fun L x w hx hF => ⟨rfl, hend L x w hx hF⟩
  subst hb
  simp only [phaseB, Bool.and_eq_true, decide_eq_true_eq] at hB
  obtain ⟨⟨⟨hml, ha⟩, hg⟩, hgt⟩ := hB
  intro listed hs hl
  have hsz : (l.take m).toArray.size = m := by simp; omega
  rw [hsz] at h
  have hun : ∀ j, j < l.length → listed.getD j false = false := fun j hj => by rw [hl j hj]; simp
  have := cut_anyIn (n := n) hml ha hg hgt (fun _ _ h => h) m (Array.replicate m false) listed a0 w0 (by simp) hs (fun j hj => by rw [hun j (by omega)]; simp [hj]) (fun j _ hj => hun j hj) (closed_pre (k := 0) ha hs hl) (by simp) h
  rwa [show m + (l.length - m) = l.length - 0 from by omega] at this
end
end Go.Proofs.YtnphdmiondccgaaDoor
