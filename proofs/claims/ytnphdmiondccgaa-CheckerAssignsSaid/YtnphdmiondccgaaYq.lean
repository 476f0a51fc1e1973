/- Plain laws of the assignment's search: what holds of its rows from step to step, whatever the costs. -/
import Derived.Test.YtnphdmiondccgaaYp
namespace Go.Proofs.Ytnphdmiondccgaa
open Go Go.RowKit
namespace Asg
abbrev far : Int := 1152921504606846976
abbrev g0 (l : List Int) (k : Nat) : Int := l.getD k 0
theorem g0_set (l : List Int) (k j : Nat) (x : Int) (hk : k < l.length) : g0 (l.set k x) j = if j = k then x else g0 l j := by
  unfold g0
  rw [List.getD_eq_getElem?_getD, List.getD_eq_getElem?_getD]
  by_cases h : j = k
  · subst h; rw [if_pos rfl, List.getElem?_set_self hk]; rfl
  · rw [if_neg h, List.getElem?_set_ne (fun e => h e.symm)]
theorem g0_same {l : List Int} {k : Nat} {x : Int} (hk : k < l.length) : g0 (l.set k x) k = x := by rw [g0_set _ _ _ _ hk, if_pos rfl]
theorem g0_other {l : List Int} {k j : Nat} {x : Int} (hk : k < l.length) (h : j ≠ k) : g0 (l.set k x) j = g0 l j := by rw [g0_set _ _ _ _ hk, if_neg h]
def bnd : Nat → Int | 0 => 0 | s + 1 => 3 * bnd s + Mc
def tri : Nat → Nat | 0 => 0 | i + 1 => tri i + i
theorem bnd_nonneg : ∀ s, 0 ≤ bnd s
  | 0 => by simp [bnd]
  | s + 1 => by have := bnd_nonneg s; unfold bnd Mc; omega
theorem bnd_small (s : Nat) (h : s ≤ 15) : bnd s ≤ 7174453000000000 := by
  have : ∀ s, s < 16 → bnd s ≤ 7174453000000000 := by decide
  exact this s (by omega)
theorem tri_small (i : Nat) (h : i ≤ 6) : tri i ≤ 15 := by
  have : ∀ i, i < 7 → tri i ≤ 15 := by decide
  exact this i (by omega)
theorem tri_le (i t : Nat) (h : i ≤ 5) (ht : t ≤ i) : tri i + t ≤ 15 := by
  have : ∀ i, i < 6 → tri i + i ≤ 15 := by decide
  have := this i (by omega)
  omega
/-- Each number behind the first that is not nought comes from one ahead of it (the list's head is the latest). -/
def Chd (y : List Int) : List Nat → Prop | [] => True | k :: D => (k = 0 ∨ ∃ j ∈ D, g0 y k = (j : Int)) ∧ Chd y D
theorem Chd.set {y : List Int} {k : Nat} {x : Int} (hk : k < y.length) : ∀ {D : List Nat}, Chd y D → k ∉ D → Chd (y.set k x) D
  | [], _, _ => trivial
  | j :: D, ⟨h1, h2⟩, hn => by
    rw [List.mem_cons, not_or] at hn
    refine ⟨?_, h2.set hk hn.2⟩
    rw [g0_other hk (fun e => hn.1 e.symm)]
    exact h1
/-- The way back ends at nought. -/
def Pth (m : Nat) (y : List Int) : Nat → Nat → Prop | 0, k => k = 0 | f + 1, k => k = 0 ∨ ∃ j : Nat, j ≤ m ∧ g0 y k = j ∧ Pth m y f j
theorem Pth.succ {m : Nat} {y : List Int} : ∀ {f k : Nat}, Pth m y f k → Pth m y (f + 1) k
  | 0, _, h => .inl h
  | _ + 1, _, .inl h => .inl h
  | _ + 1, _, .inr ⟨j, h1, h2, h3⟩ => .inr ⟨j, h1, h2, h3.succ⟩
theorem Chd.path {m : Nat} {y : List Int} : ∀ {D : List Nat}, Chd y D → (∀ k ∈ D, k ≤ m) → ∀ k ∈ D, Pth m y D.length k
  | [], _, _, k, hk => absurd hk (by simp)
  | j :: D, ⟨h1, h2⟩, hm, k, hk => by
    have ih := h2.path fun k hk => hm k (by simp [hk])
    rcases List.mem_cons.1 hk with rfl | hk
    · rcases h1 with h1 | ⟨j, hj, e⟩
      · exact .inl h1
      · exact .inr ⟨j, hm j (by simp [hj]), e, ih j hj⟩
    · exact (ih k hk).succ
/-- Ahead of a row's search. -/
structure OI (n m i : Nat) (u v o y : List Int) : Prop where
  lu : u.length = n + 1
  lv : v.length = m + 1
  lo : o.length = m + 1
  ly : y.length = m + 1
  or : ∀ k, 1 ≤ k → k ≤ m → 0 ≤ g0 o k ∧ g0 o k < i
  inj : ∀ k k', 1 ≤ k → k ≤ m → 1 ≤ k' → k' ≤ m → g0 o k = g0 o k' → g0 o k ≠ 0 → k = k'
  bu : ∀ r, -bnd (tri i) ≤ g0 u r ∧ g0 u r ≤ bnd (tri i)
  bv : ∀ r, -bnd (tri i) ≤ g0 v r ∧ g0 v r ≤ bnd (tri i)
/-- Within a row's search: D are the columns that are done, the latest first. -/
structure II (n m i at_ : Nat) (D : List Nat) (u v o y l : List Int) (d : List Bool) : Prop where
  lu : u.length = n + 1
  lv : v.length = m + 1
  lo : o.length = m + 1
  ly : y.length = m + 1
  ll : l.length = m + 1
  ld : d.length = m + 1
  o0 : g0 o 0 = i
  or : ∀ k, k ≤ m → 0 ≤ g0 o k ∧ g0 o k ≤ i
  inj : ∀ k k', k ≤ m → k' ≤ m → g0 o k = g0 o k' → g0 o k ≠ 0 → k = k'
  dd : ∀ k, k ≤ m → (d.getD k false = true ↔ k ∈ D)
  Dm : ∀ k ∈ D, k ≤ m ∧ g0 o k ≠ 0
  Dn : D.Nodup
  atm : at_ ≤ m
  atD : at_ ∉ D
  st : (D = [] ∧ at_ = 0 ∧ ∀ k, 1 ≤ k → k ≤ m → g0 l k = far) ∨ (0 ∈ D ∧ ∀ k, k ≤ m → k ∉ D → (∃ j ∈ D, g0 y k = (j : Int)) ∧ 0 ≤ g0 l k ∧ g0 l k ≤ far)
  ch : Chd y D
  bu : ∀ r, -bnd (tri i + D.length) ≤ g0 u r ∧ g0 u r ≤ bnd (tri i + D.length)
  bv : ∀ r, -bnd (tri i + D.length) ≤ g0 v r ∧ g0 v r ≤ bnd (tri i + D.length)
theorem getD_false (m k : Nat) : (List.replicate m false).getD k false = false := by
  rw [List.getD_eq_getElem?_getD, List.getElem?_replicate]; split <;> rfl
theorem g0_replicate {m k : Nat} {x : Int} (h : k < m) : g0 (List.replicate m x) k = x := by
  unfold g0
  rw [List.getD_eq_getElem?_getD, List.getElem?_replicate, if_pos h]; rfl
theorem OI.begin (n m : Nat) : OI n m 1 (List.replicate (n + 1) 0) (List.replicate (m + 1) 0) (List.replicate (m + 1) 0) (List.replicate (m + 1) 0) := by
  have h0 : ∀ a k, g0 (List.replicate a 0) k = 0 := fun a k => by
    unfold g0; rw [List.getD_eq_getElem?_getD, List.getElem?_replicate]; split <;> rfl
  refine ⟨by simp, by simp, by simp, by simp, fun k _ _ => by rw [h0]; omega, fun k k' _ _ _ _ _ h => absurd (h0 _ _) h, fun r => ?_, fun r => ?_⟩ <;> rw [h0] <;> simp [tri, bnd]
theorem OI.start {n m i : Nat} {u v o y : List Int} (h : OI n m i u v o y) (hi : 1 ≤ i) :
    II n m i 0 [] u v (o.set 0 i) y (List.replicate (m + 1) far) (List.replicate (m + 1) false) := by
  have h0 : 0 < o.length := by rw [h.lo]; omega
  have e0 : g0 (o.set 0 (i : Int)) 0 = i := g0_same h0
  have e1 : ∀ k, 1 ≤ k → g0 (o.set 0 (i : Int)) k = g0 o k := fun k hk => g0_other h0 (by omega)
  refine ⟨h.lu, h.lv, by rw [List.length_set, h.lo], h.ly, by simp, by simp, e0, fun k hk => ?_, fun k k' hk hk' e hne => ?_, fun k _ => by rw [getD_false]; simp, by simp, by simp, by omega, by simp, .inl ⟨rfl, rfl, fun k _ hk => g0_replicate (by omega)⟩, trivial, ?_, ?_⟩
  · by_cases hz : k = 0
    · subst hz; rw [e0]; omega
    · rw [e1 k (by omega)]; have := h.or k (by omega) hk; omega
  · by_cases hz : k = 0
    · subst hz
      by_cases hz' : k' = 0
      · exact hz'.symm
      · rw [e0, e1 k' (by omega)] at e
        have := h.or k' (by omega) hk'; omega
    · by_cases hz' : k' = 0
      · subst hz'
        rw [e0, e1 k (by omega)] at e
        have := h.or k (by omega) hk; omega
      · rw [e1 k (by omega), e1 k' (by omega)] at e
        rw [e1 k (by omega)] at hne
        exact h.inj k k' (by omega) hk (by omega) hk' e hne
  · simpa using h.bu
  · simpa using h.bv
theorem nodup_leN : ∀ (l A : List Nat), l.Nodup → (∀ x ∈ l, x ∈ A) → l.length ≤ A.length
  | [], _, _, _ => Nat.zero_le _
  | x :: l, A, hn, h => by
    have hx := h x (by simp)
    have hn' := List.nodup_cons.1 hn
    have := nodup_leN l (A.erase x) hn'.2 fun y hy => (List.mem_erase_of_ne (fun e => by subst e; exact hn'.1 hy)).2 (h y (by simp [hy]))
    rw [List.length_erase_of_mem hx] at this
    have := List.length_pos_of_mem hx
    simp only [List.length_cons]
    omega
/-- There are at most as many columns done as rows that were taken. -/
theorem II.few {n m i at_ : Nat} {D : List Nat} {u v o y l : List Int} {d : List Bool} (h : II n m i at_ D u v o y l d) (E : List Nat) (hE : E.Nodup) (hm : ∀ k ∈ E, k ≤ m ∧ g0 o k ≠ 0) : E.length ≤ i := by
  have hnd : (E.map fun k => (g0 o k).toNat - 1).Nodup := by
    unfold List.Nodup
    rw [List.pairwise_map]
    refine hE.imp_of_mem fun {a b} ha hb hab e => hab ?_
    have ha' := hm a ha
    have hb' := hm b hb
    have h1 := h.or a ha'.1
    have h2 := h.or b hb'.1
    exact h.inj a b ha'.1 hb'.1 (by omega) ha'.2
  have := nodup_leN _ (List.range i) hnd fun x hx => by
    obtain ⟨k, hk, rfl⟩ := List.mem_map.1 hx
    have h1 := hm k hk
    have h2 := h.or k h1.1
    rw [List.mem_range]
    omega
  simpa using this
/-- The columns are not all done. -/
theorem II.left {n m i at_ : Nat} {D : List Nat} {u v o y l : List Int} {d : List Bool} (h : II n m i at_ D u v o y l d) (hne : g0 o at_ ≠ 0) (him : i ≤ m) : ∃ k, 1 ≤ k ∧ k ≤ m ∧ k ∉ at_ :: D := by
  by_cases hc : ∃ k, 1 ≤ k ∧ k ≤ m ∧ k ∉ at_ :: D
  · exact hc
  · have h1 : ∀ k, k ≤ m → k ∈ at_ :: D := by
      intro k hk
      by_cases hz : k = 0
      · subst hz
        rcases h.st with ⟨-, e, -⟩ | ⟨e, -⟩
        · simp [e]
        · simp [e]
      · refine Classical.byContradiction fun hn => hc ⟨k, by omega, hk, hn⟩
    have h2 := nodup_leN (List.range (m + 1)) (at_ :: D) List.nodup_range fun x hx => h1 x (by rw [List.mem_range] at hx; omega)
    have h3 := h.few (at_ :: D) (List.nodup_cons.2 ⟨h.atD, h.Dn⟩) fun k hk => by
      rcases List.mem_cons.1 hk with rfl | hk
      · exact ⟨h.atm, hne⟩
      · exact h.Dm k hk
    rw [List.length_range] at h2
    omega
theorem II.cnt {n m i at_ : Nat} {D : List Nat} {u v o y l : List Int} {d : List Bool} (h : II n m i at_ D u v o y l d) (hne : g0 o at_ ≠ 0) : D.length + 1 ≤ i := by
  have h3 := h.few (at_ :: D) (List.nodup_cons.2 ⟨h.atD, h.Dn⟩) fun k hk => by
      rcases List.mem_cons.1 hk with rfl | hk
      · exact ⟨h.atm, hne⟩
      · exact h.Dm k hk
  simpa using h3
/-- While the columns are looked through for the nearest one. -/
structure SI (m : Nat) (D : List Nat) (X : Int) (k : Nat) (y l : List Int) (delta : Int) (next : Nat) : Prop where
  ly : y.length = m + 1
  ll : l.length = m + 1
  ch : Chd y D
  lo : ∀ k', 1 ≤ k' → k' < k → k' ≤ m → k' ∉ D → (∃ j ∈ D, g0 y k' = (j : Int)) ∧ -X ≤ g0 l k' ∧ g0 l k' ≤ X ∧ delta ≤ g0 l k'
  hi : ∀ k', 1 ≤ k' → k ≤ k' → k' ≤ m → k' ∉ D → g0 l k' = far ∨ ((∃ j ∈ D, g0 y k' = (j : Int)) ∧ 0 ≤ g0 l k' ∧ g0 l k' ≤ far)
  nx : (next = 0 ∧ delta = far ∧ ∀ k', 1 ≤ k' → k' < k → k' ∈ D) ∨ (1 ≤ next ∧ next < k ∧ next ≤ m ∧ next ∉ D ∧ delta = g0 l next)
theorem II.scan {n m i at_ : Nat} {D : List Nat} {u v o y l : List Int} {d : List Bool} (h : II n m i at_ D u v o y l d) (X : Int) : SI m (at_ :: D) X 1 y l far 0 := by
  refine ⟨h.ly, h.ll, ⟨?_, h.ch⟩, fun k' h1 h2 => by omega, fun k' h1 _ hm hn => ?_, .inl ⟨rfl, rfl, fun k' h1 h2 => by omega⟩⟩
  · rcases h.st with ⟨-, e, -⟩ | ⟨-, e⟩
    · exact .inl e
    · exact .inr (e _ h.atm h.atD).1
  · rw [List.mem_cons, not_or] at hn
    rcases h.st with ⟨-, -, e⟩ | ⟨-, e⟩
    · exact .inl (e k' h1 hm)
    · obtain ⟨⟨j, hj, e1⟩, e2⟩ := e k' hm hn.2
      exact .inr ⟨⟨j, by simp [hj], e1⟩, e2⟩
theorem SI.done {m : Nat} {D : List Nat} {X : Int} {k : Nat} {y l : List Int} {delta : Int} {next : Nat} (h : SI m D X k y l delta next) (hk : k ∈ D) : SI m D X (k + 1) y l delta next := by
  refine ⟨h.ly, h.ll, h.ch, fun k' h1 h2 h3 h4 => ?_, fun k' h1 h2 h3 h4 => h.hi k' h1 (by omega) h3 h4, ?_⟩
  · by_cases e : k' = k
    · subst e; exact absurd hk h4
    · exact h.lo k' h1 (by omega) h3 h4
  · rcases h.nx with ⟨e1, e2, e3⟩ | ⟨e1, e2, e3⟩
    · refine .inl ⟨e1, e2, fun k' h1 h2 => ?_⟩
      by_cases e : k' = k
      · subst e; exact hk
      · exact e3 k' h1 (by omega)
    · exact .inr ⟨e1, by omega, e3⟩
/-- A column is looked at: z is its way, c its cost (both as they are behind the first test). -/
theorem SI.step {m : Nat} {D : List Nat} {X : Int} {k : Nat} {y l y' l' : List Int} {delta delta' : Int} {next next' : Nat} (h : SI m D X k y l delta next) (hk1 : 1 ≤ k) (hkm : k ≤ m) (hk : k ∉ D)
    (hy : y'.length = m + 1) (hl : l'.length = m + 1) (hch : Chd y' D) (hyo : ∀ j, j ≠ k → g0 y' j = g0 y j) (hlo : ∀ j, j ≠ k → g0 l' j = g0 l j)
    (hyk : ∃ j ∈ D, g0 y' k = (j : Int)) (hlk : -X ≤ g0 l' k ∧ g0 l' k ≤ X) (hd : (delta ≤ g0 l' k ∧ delta < far ∧ delta' = delta ∧ next' = next) ∨ (g0 l' k < delta ∧ delta' = g0 l' k ∧ next' = k)) : SI m D X (k + 1) y' l' delta' next' := by
  have hdl : delta' ≤ delta ∧ delta' ≤ g0 l' k := by rcases hd with ⟨h1, -, rfl, rfl⟩ | ⟨h1, rfl, rfl⟩ <;> omega
  refine ⟨hy, hl, hch, fun k' h1 h2 h3 h4 => ?_, fun k' h1 h2 h3 h4 => ?_, ?_⟩
  · by_cases e : k' = k
    · subst e; exact ⟨hyk, hlk.1, hlk.2, hdl.2⟩
    · rw [hyo _ e, hlo _ e]
      obtain ⟨q1, q2, q3, q4⟩ := h.lo k' h1 (by omega) h3 h4
      exact ⟨q1, q2, q3, by omega⟩
  · have e : k' ≠ k := by omega
    rw [hyo _ e, hlo _ e]
    exact h.hi k' h1 (by omega) h3 h4
  · rcases hd with ⟨h1, h2, rfl, rfl⟩ | ⟨h1, rfl, rfl⟩
    · rcases h.nx with ⟨e1, e2, e3⟩ | ⟨e1, e2, e3, e4, e5⟩
      · omega
      · refine .inr ⟨e1, by omega, e3, e4, ?_⟩
        rw [hlo _ (by omega)]; exact e5
    · exact .inr ⟨hk1, by omega, hkm, hk, rfl⟩
/-- At the end there is a nearest column. -/
theorem SI.found {m : Nat} {D : List Nat} {X : Int} {y l : List Int} {delta : Int} {next : Nat} (h : SI m D X (m + 1) y l delta next) (hl : ∃ k, 1 ≤ k ∧ k ≤ m ∧ k ∉ D) :
    1 ≤ next ∧ next ≤ m ∧ next ∉ D ∧ delta = g0 l next ∧ -X ≤ delta ∧ delta ≤ X := by
  rcases h.nx with ⟨e1, e2, e3⟩ | ⟨e1, e2, e3, e4, e5⟩
  · obtain ⟨k, h1, h2, h3⟩ := hl
    exact absurd (e3 k h1 (by omega)) h3
  · obtain ⟨-, q1, q2, -⟩ := h.lo next e1 e2 e3 e4
    exact ⟨e1, e3, e4, e5, by omega, by omega⟩
/-- While the potentials are moved. -/
structure UI (n m : Nat) (D : List Nat) (o u0 v0 l0 : List Int) (delta : Int) (k : Nat) (u v l : List Int) : Prop where
  lu : u.length = n + 1
  lv : v.length = m + 1
  ll : l.length = m + 1
  uu : ∀ r, g0 u r = g0 u0 r ∨ (g0 u r = g0 u0 r + delta ∧ ∃ k' ∈ D, k' < k ∧ g0 o k' = (r : Int))
  vh : ∀ k', k ≤ k' → g0 v k' = g0 v0 k'
  vv : ∀ k', g0 v k' = g0 v0 k' ∨ g0 v k' = g0 v0 k' - delta
  lh : ∀ k', k ≤ k' → g0 l k' = g0 l0 k'
  lw : ∀ k', k' < k → k' ≤ m → k' ∉ D → g0 l k' = g0 l0 k' - delta
theorem UI.begin {n m : Nat} {D : List Nat} {o u v l : List Int} {delta : Int} (hu : u.length = n + 1) (hv : v.length = m + 1) (hl : l.length = m + 1) : UI n m D o u v l delta 0 u v l :=
  ⟨hu, hv, hl, fun _ => .inl rfl, fun _ _ => rfl, fun _ => .inl rfl, fun _ _ => rfl, fun _ h => by omega⟩
theorem UI.in_ {n m : Nat} {D : List Nat} {o u0 v0 l0 : List Int} {delta : Int} {k : Nat} {u v l : List Int} (h : UI n m D o u0 v0 l0 delta k u v l) (hk : k ∈ D) (hkm : k ≤ m) {r : Nat} (hr : g0 o k = (r : Int)) (hrn : r ≤ n)
    (hinj : ∀ k' ∈ D, g0 o k' = g0 o k → k' = k) :
    g0 u r = g0 u0 r ∧ g0 v k = g0 v0 k ∧ UI n m D o u0 v0 l0 delta (k + 1) (u.set r (g0 u r + delta)) (v.set k (g0 v k - delta)) l := by
  have h1 : g0 u r = g0 u0 r := by
    rcases h.uu r with e | ⟨-, k', hk', hlt, e⟩
    · exact e
    · have := hinj k' hk' (by omega); omega
  have h2 := h.vh k (Nat.le_refl _)
  have hul : r < u.length := by rw [h.lu]; omega
  have hvl : k < v.length := by rw [h.lv]; omega
  refine ⟨h1, h2, by rw [List.length_set, h.lu], by rw [List.length_set, h.lv], h.ll, fun r' => ?_, fun k' hk' => ?_, fun k' => ?_, fun k' hk' => h.lh k' (by omega), fun k' h1 h2 h3 => ?_⟩
  · by_cases e : r' = r
    · subst e
      rw [g0_same hul, h1]
      exact .inr ⟨rfl, k, hk, by omega, hr⟩
    · rw [g0_other hul e]
      rcases h.uu r' with q | ⟨q1, k', q2, q3, q4⟩
      · exact .inl q
      · exact .inr ⟨q1, k', q2, by omega, q4⟩
  · rw [g0_other hvl (by omega)]; exact h.vh k' (by omega)
  · by_cases e : k' = k
    · subst e; rw [g0_same hvl, h2]; exact .inr rfl
    · rw [g0_other hvl e]; exact h.vv k'
  · by_cases e : k' = k
    · subst e; exact absurd hk h3
    · exact h.lw k' (by omega) h2 h3
theorem UI.out {n m : Nat} {D : List Nat} {o u0 v0 l0 : List Int} {delta : Int} {k : Nat} {u v l : List Int} (h : UI n m D o u0 v0 l0 delta k u v l) (hk : k ∉ D) (hkm : k ≤ m) :
    g0 l k = g0 l0 k ∧ UI n m D o u0 v0 l0 delta (k + 1) u v (l.set k (g0 l k - delta)) := by
  have h2 := h.lh k (Nat.le_refl _)
  have hll : k < l.length := by rw [h.ll]; omega
  refine ⟨h2, h.lu, h.lv, by rw [List.length_set, h.ll], fun r' => ?_, fun k' hk' => h.vh k' (by omega), h.vv, fun k' hk' => ?_, fun k' h1 h3 h4 => ?_⟩
  · rcases h.uu r' with q | ⟨q1, k', q2, q3, q4⟩
    · exact .inl q
    · exact .inr ⟨q1, k', q2, by omega, q4⟩
  · rw [g0_other hll (by omega)]; exact h.lh k' (by omega)
  · by_cases e : k' = k
    · subst e; rw [g0_same hll, h2]
    · rw [g0_other hll e]; exact h.lw k' (by omega) h3 h4
/-- A step of a row's search. -/
theorem II.next {n m i at_ next : Nat} {D : List Nat} {u v o y l y' l' u1 v1 l1 : List Int} {d : List Bool} {delta : Int} (h : II n m i at_ D u v o y l d) (hi : i ≤ 5) (hne : g0 o at_ ≠ 0) (him : i ≤ m)
    (hs : SI m (at_ :: D) (Mc + 2 * bnd (tri i + D.length)) (m + 1) y' l' delta next) (hu : UI n m (at_ :: D) o u v l' delta (m + 1) u1 v1 l1) :
    II n m i next (at_ :: D) u1 v1 o y' l1 (d.set at_ true) := by
  obtain ⟨n1, n2, n3, n4, n5, n6⟩ := hs.found (h.left hne him)
  have hc := h.cnt hne
  have hB := bnd_small (tri i + D.length) (tri_le i _ hi (by omega))
  have hB0 := bnd_nonneg (tri i + D.length)
  have hdl : at_ < d.length := by rw [h.ld]; have := h.atm; omega
  have hB1 : bnd (tri i + (at_ :: D).length) = 3 * bnd (tri i + D.length) + Mc := rfl
  refine ⟨hu.lu, hu.lv, h.lo, hs.ly, hu.ll, by rw [List.length_set, h.ld], h.o0, h.or, h.inj, fun k hk => ?_, fun k hk => ?_, List.nodup_cons.2 ⟨h.atD, h.Dn⟩, n2, n3, .inr ⟨?_, fun k hk hn => ?_⟩, hs.ch, fun r => ?_, fun r => ?_⟩
  · rw [List.getD_eq_getElem?_getD]
    by_cases e : k = at_
    · subst e; rw [List.getElem?_set_self hdl]; simp
    · rw [List.getElem?_set_ne (fun q => e q.symm), ← List.getD_eq_getElem?_getD, h.dd k hk, List.mem_cons]
      simp [e]
  · rcases List.mem_cons.1 hk with rfl | hk
    · exact ⟨h.atm, hne⟩
    · exact h.Dm k hk
  · rcases h.st with ⟨-, e, -⟩ | ⟨e, -⟩
    · simp [e]
    · simp [e]
  · have hk1 : 1 ≤ k := by
      rcases Nat.eq_zero_or_pos k with e | e
      · subst e
        exfalso; apply hn
        rcases h.st with ⟨-, e, -⟩ | ⟨e, -⟩ <;> simp [e]
      · exact e
    obtain ⟨q1, q2, q3, q4⟩ := hs.lo k hk1 (by omega) hk hn
    have q5 := hu.lw k (by omega) hk hn
    refine ⟨q1, by omega, ?_⟩
    rw [q5]; unfold far Mc at *; omega
  · have := h.bu r
    rw [hB1]
    rcases hu.uu r with e | ⟨e, -⟩ <;> rw [e] <;> unfold Mc at * <;> omega
  · have := h.bv r
    rw [hB1]
    rcases hu.vv r with e | e <;> rw [e] <;> unfold Mc at * <;> omega
theorem II.mark {n m i at_ : Nat} {D : List Nat} {u v o y l : List Int} {d : List Bool} (h : II n m i at_ D u v o y l d) (k : Nat) (hk : k ≤ m) : (d.set at_ true).getD k false = true ↔ k ∈ at_ :: D := by
  have hdl : at_ < d.length := by rw [h.ld]; have := h.atm; omega
  rw [List.getD_eq_getElem?_getD]
  by_cases e : k = at_
  · subst e; rw [List.getElem?_set_self hdl]; simp
  · rw [List.getElem?_set_ne (fun q => e q.symm), ← List.getD_eq_getElem?_getD, h.dd k hk, List.mem_cons]
    simp [e]
theorem II.owned {n m i at_ : Nat} {D : List Nat} {u v o y l : List Int} {d : List Bool} (h : II n m i at_ D u v o y l d) (hne : g0 o at_ ≠ 0) : ∀ k ∈ at_ :: D, k ≤ m ∧ ∃ r : Nat, g0 o k = r ∧ 1 ≤ r ∧ r ≤ i := fun k hk => by
  have h1 : k ≤ m ∧ g0 o k ≠ 0 := by
    rcases List.mem_cons.1 hk with rfl | hk
    · exact ⟨h.atm, hne⟩
    · exact h.Dm k hk
  have h2 := h.or k h1.1
  exact ⟨h1.1, (g0 o k).toNat, by omega, by omega, by omega⟩
theorem II.inj1 {n m i at_ : Nat} {D : List Nat} {u v o y l : List Int} {d : List Bool} (h : II n m i at_ D u v o y l d) (hne : g0 o at_ ≠ 0) {k : Nat} (hk : k ∈ at_ :: D) : ∀ k' ∈ at_ :: D, g0 o k' = g0 o k → k' = k := fun k' hk' e => by
  obtain ⟨a1, r, a2, a3, -⟩ := h.owned hne k hk
  obtain ⟨b1, -⟩ := h.owned hne k' hk'
  exact h.inj k' k b1 a1 e (by omega)
/-- While the way back is taken. -/
structure AI (n m i at_ : Nat) (u v o y : List Int) : Prop where
  lu : u.length = n + 1
  lv : v.length = m + 1
  lo : o.length = m + 1
  ly : y.length = m + 1
  atm : at_ ≤ m
  or : ∀ k, k ≤ m → 0 ≤ g0 o k ∧ g0 o k ≤ i
  inj : ∀ k k', k ≤ m → k' ≤ m → k ≠ at_ → k' ≠ at_ → g0 o k = g0 o k' → g0 o k ≠ 0 → k = k'
  bu : ∀ r, -bnd (tri (i + 1)) ≤ g0 u r ∧ g0 u r ≤ bnd (tri (i + 1))
  bv : ∀ r, -bnd (tri (i + 1)) ≤ g0 v r ∧ g0 v r ≤ bnd (tri (i + 1))
theorem bnd_mono {s t : Nat} (h : s ≤ t) : bnd s ≤ bnd t := by
  induction h with
  | refl => exact Int.le_refl _
  | step h ih => rename_i t; have := bnd_nonneg t; rw [show bnd (t + 1) = 3 * bnd t + Mc from rfl]; unfold Mc; omega
theorem II.augment {n m i at_ : Nat} {D : List Nat} {u v o y l : List Int} {d : List Bool} (h : II n m i at_ D u v o y l d) : AI n m i at_ u v o y := by
  have hc := h.few D h.Dn h.Dm
  have hb := bnd_mono (s := tri i + D.length) (t := tri (i + 1)) (by show _ ≤ tri i + i; omega)
  exact ⟨h.lu, h.lv, h.lo, h.ly, h.atm, h.or, fun k k' h1 h2 _ _ => h.inj k k' h1 h2, fun r => by have := h.bu r; omega, fun r => by have := h.bv r; omega⟩
theorem II.path {n m i at_ : Nat} {D : List Nat} {u v o y l : List Int} {d : List Bool} (h : II n m i at_ D u v o y l d) : Pth m y (m + 1) at_ := by
  have hD : D.length ≤ m + 1 := by
    have := nodup_leN D (List.range (m + 1)) h.Dn fun x hx => by rw [List.mem_range]; have := (h.Dm x hx).1; omega
    simpa using this
  have hmore : ∀ t f k, Pth m y f k → Pth m y (f + t) k := fun t f k hp => by
    induction t with
    | zero => exact hp
    | succ t ih => exact ih.succ
  rcases h.st with ⟨-, e, -⟩ | ⟨-, e⟩
  · exact .inl e
  · obtain ⟨⟨j, hj, e1⟩, -⟩ := e _ h.atm h.atD
    have hp := h.ch.path (fun k hk => (h.Dm k hk).1) j hj
    have hpos := List.length_pos_of_mem hj
    have := hmore (m - D.length) _ _ hp
    by_cases hf : D.length ≤ m
    · rw [show D.length + (m - D.length) = m by omega] at this
      exact .inr ⟨j, (h.Dm j hj).1, e1, this⟩
    · -- all columns are done: so this one would be
      exfalso
      have h2 := nodup_leN (at_ :: D) (List.range (m + 1)) (List.nodup_cons.2 ⟨h.atD, h.Dn⟩) fun x hx => by
        rw [List.mem_range]
        rcases List.mem_cons.1 hx with rfl | hx
        · have := h.atm; omega
        · have := (h.Dm x hx).1; omega
      simp at h2
      omega
theorem AI.step {n m i at_ j : Nat} {u v o y : List Int} (h : AI n m i at_ u v o y) (hj : j ≤ m) : AI n m i j u v (o.set at_ (g0 o j)) y := by
  have hl : at_ < o.length := by rw [h.lo]; have := h.atm; omega
  refine ⟨h.lu, h.lv, by rw [List.length_set, h.lo], h.ly, hj, fun k hk => ?_, fun k k' hk hk' hn hn' e hne => ?_, h.bu, h.bv⟩
  · by_cases e : k = at_
    · subst e; rw [g0_same hl]; exact h.or j hj
    · rw [g0_other hl e]; exact h.or k hk
  · by_cases hja : j = at_
    · subst hja
      rw [g0_other hl hn, g0_other hl hn'] at e
      rw [g0_other hl hn] at hne
      exact h.inj k k' hk hk' hn hn' e hne
    · by_cases q : k = at_
      · subst q
        by_cases q' : k' = k
        · exact q'.symm
        · rw [g0_same hl, g0_other hl q'] at e
          rw [g0_same hl] at hne
          exact absurd (h.inj j k' hj hk' hja q' e hne) (fun e => hn' e.symm)
      · rw [g0_other hl q] at e hne
        by_cases q' : k' = at_
        · subst q'
          rw [g0_same hl] at e
          exact absurd (h.inj k j hk hj q hja e hne) hn
        · rw [g0_other hl q'] at e
          exact h.inj k k' hk hk' q q' e hne
theorem AI.end_ {n m i : Nat} {u v o y : List Int} (h : AI n m i 0 u v o y) : OI n m (i + 1) u v o y :=
  ⟨h.lu, h.lv, h.lo, h.ly, fun k _ hk => by have := h.or k hk; omega, fun k k' h1 h2 h3 h4 => h.inj k k' h2 h4 (by omega) (by omega), h.bu, h.bv⟩
end Asg
end Go.Proofs.Ytnphdmiondccgaa
