/- Walks over the reference of hitting: the order of lists. Walks over the reference of hitting: a list put into a sorted list. Walks over the reference of hitting: all irreducible lists, in order. -/
import Derived.Test.YtnpdoejjebgcpaaH6
import Derived.Test.YtnpdoejjebgcpaaHM
import Derived.Test.YtnpdoejjebgcpaaHZ
namespace Go.Proofs.Ytnpdoejjebgcpaa
open Go Go.RowKit
theorem lexLt_drop (a b : List Nat) (k : Nat) (ha : k < a.length) (hb : k < b.length) : Hit.lexLt (a.drop k) (b.drop k) = if a[k] ≠ b[k] then decide (a[k] < b[k]) else Hit.lexLt (a.drop (k + 1)) (b.drop (k + 1)) := by
  rw [List.drop_eq_getElem_cons ha, List.drop_eq_getElem_cons hb]
  simp only [Hit.lexLt]
theorem lexLt_end (a b : List Nat) : Hit.lexLt (a.drop a.length) b = false := by
  rw [List.drop_length]
  simp only [Hit.lexLt]
end Go.Proofs.Ytnpdoejjebgcpaa
namespace Go.Proofs.Ytnpdoejjebgcpaa
open Go Go.RowKit
theorem Reads.take {w : World} {B size n : Nat} {A : Option Addr} {xs : List Value} (h : Reads w B size A n xs) {k : Nat} (hk : k ≤ n) : Reads w B size A k (xs.take (k * size)) := by
  refine ⟨by rw [List.length_take, h.1]; exact Nat.min_eq_left (Nat.mul_le_mul_right _ hk), fun hn => ?_⟩
  obtain ⟨ad, rfl, hb, hc⟩ := h.2 (by omega)
  refine ⟨ad, rfl, hb, fun j u hu => hc j u ?_⟩
  rw [List.getElem?_take] at hu
  split at hu
  · exact hu
  · cases hu
theorem insertF_at : ∀ (L : List (List Nat)) (x : List Nat) (k : Nat), k ≤ L.length → (∀ i (hi : i < L.length), i < k → Hit.before L[i] x = true) → (∀ h : k < L.length, Hit.before L[k] x = false) → Hit.insertF L x = L.take k ++ x :: L.drop k := by
  intro L
  induction L with
  | nil => intro x k _ _ _; simp [Hit.insertF]
  | cons z L ih =>
    intro x k hk h1 h2
    rw [Hit.insertF_cons]
    cases k with
    | zero =>
      have := h2 (by simp)
      simp only [List.getElem_cons_zero] at this
      rw [this]; simp
    | succ k =>
      have h0 := h1 0 (by simp) (by omega)
      simp only [List.getElem_cons_zero] at h0
      rw [h0, if_pos rfl, ih x k (by simpa using hk) (fun i hi hik => h1 (i + 1) (by simp; exact hi) (by omega)) fun h => h2 (by simp; exact h)]
      simp
/-- Lists of numbers, as cells. -/
abbrev intsL (L : List (List Nat)) : List (List Int) := L.map Hit.ints
/-- Values that read as lists, one for one. -/
def Vals (F : Nat → Prop) (w : World) : List Value → List (List Int) → Prop
  | [], [] => True
  | u :: us, l :: L => SlI F w u l ∧ Vals F w us L
  | _, _ => False
section
variable {F G : Nat → Prop} {w w' : World}
theorem Vals.len : ∀ {us : List Value} {L : List (List Int)}, Vals F w us L → us.length = L.length
  | [], [], _ => rfl
  | _ :: us, _ :: L, h => by have := Vals.len (us := us) (L := L) h.2; simp [this]
  | [], _ :: _, h => h.elim
  | _ :: _, [], h => h.elim
theorem Vals.keep (ha : Agree F w w') (hF : ∀ b, F b → G b) : ∀ {us : List Value} {L : List (List Int)}, Vals F w us L → Vals G w' us L
  | [], [], _ => trivial
  | _ :: us, _ :: L, h => ⟨(h.1.keep ha).mono hF, Vals.keep ha hF (us := us) (L := L) h.2⟩
  | [], _ :: _, h => h.elim
  | _ :: _, [], h => h.elim
theorem Vals.append : ∀ {us vs : List Value} {L M : List (List Int)}, Vals F w us L → Vals F w vs M → Vals F w (us ++ vs) (L ++ M)
  | [], _, [], _, _, h => h
  | _ :: us, vs, _ :: L, M, h, k => ⟨h.1, Vals.append (us := us) (vs := vs) (L := L) (M := M) h.2 k⟩
  | [], _, _ :: _, _, h, _ => h.elim
  | _ :: _, _, [], _, h, _ => h.elim
theorem Vals.one {u : Value} {l : List Int} (h : SlI F w u l) : Vals F w [u] [l] := ⟨h, trivial⟩
theorem Vals.take : ∀ (k : Nat) {us : List Value} {L : List (List Int)}, Vals F w us L → Vals F w (us.take k) (L.take k)
  | 0, _, _, _ => trivial
  | _ + 1, [], [], _ => trivial
  | k + 1, _ :: us, _ :: L, h => ⟨h.1, Vals.take k (us := us) (L := L) h.2⟩
  | _ + 1, [], _ :: _, h => h.elim
  | _ + 1, _ :: _, [], h => h.elim
theorem Vals.drop : ∀ (k : Nat) {us : List Value} {L : List (List Int)}, Vals F w us L → Vals F w (us.drop k) (L.drop k)
  | 0, _, _, h => h
  | _ + 1, [], [], _ => trivial
  | k + 1, _ :: us, _ :: L, h => Vals.drop k (us := us) (L := L) h.2
  | _ + 1, [], _ :: _, h => h.elim
  | _ + 1, _ :: _, [], h => h.elim
theorem Vals.get : ∀ {us : List Value} {L : List (List Int)}, Vals F w us L → ∀ i (hi : i < L.length), ∃ u, us[i]? = some u ∧ SlI F w u L[i]
  | [], [], _, i, hi => absurd hi (by simp)
  | u :: us, l :: L, h, 0, hi => ⟨u, rfl, h.1⟩
  | _ :: us, _ :: L, h, i + 1, hi => Vals.get (us := us) (L := L) h.2 i (by simpa using hi)
  | [], _ :: _, h, _, _ => h.elim
  | _ :: _, [], h, _, _ => h.elim
theorem Vals.cell1 : ∀ {us : List Value} {L : List (List Int)}, Vals F w us L → ∀ u ∈ us, u.oneCell' = true
  | [], [], _, u, hu => absurd hu (by simp)
  | v :: us, _ :: L, h, u, hu => by
    rcases List.mem_cons.1 hu with e | e
    · obtain ⟨A, c, q, _⟩ := h.1
      rw [e, q]; rfl
    · exact Vals.cell1 (us := us) (L := L) h.2 u e
  | [], _ :: _, h, _, _ => h.elim
  | _ :: _, [], h, _, _ => h.elim
theorem flat_map1 (us : List Value) : (us.map fun u => [u]).flatten = us := by
  induction us with
  | nil => rfl
  | cons u us ih => simp only [List.map_cons, List.flatten_cons, ih]; rfl
/-- A row of slices of the call's own reads as lists. -/
theorem Vals.sl {base n c : Nat} {A : Option Addr} {us : List Value} {L : List (List Int)} (hv : Vals F w us L) (h : Own0 w base 26 1 A n c us) (hn : n = L.length) (hl : L.length ≤ 1000000)
    (hF : ∀ b, base ≤ b → b < w.heap.size → F b) : SlII F w (.slice A n c) L := by
  subst hn
  rcases h with ⟨h0, hc, _⟩ | ⟨h0, h⟩
  · subst hc
    have hl0 : L = [] := List.eq_nil_of_length_eq_zero h0
    subst hl0
    exact ⟨A, 0, rfl, by simp, by simp, fun i hi => absurd hi (by simp)⟩
  · refine Sl.of_own (cs := us.map fun u => [u]) h rfl (by omega) (flat_map1 us).symm (by simp [hv.len]) (fun i hi => ?_) fun b q1 q2 _ => hF b q1 q2
    obtain ⟨u, q1, q2⟩ := hv.get i hi
    exact ⟨[u], by rw [List.getElem?_map, q1]; rfl, rfl, u, rfl, q2⟩
end
theorem flat_one (cs : List (List Value)) (h : ∀ i (hi : i < cs.length), cs[i].length = 1) : ∃ us : List Value, cs = us.map (fun u => [u]) ∧ cs.flatten = us := by
  induction cs with
  | nil => exact ⟨[], rfl, rfl⟩
  | cons c cs ih =>
    obtain ⟨us, h1, h2⟩ := ih fun i hi => h (i + 1) (by simp; exact hi)
    have := h 0 (by simp)
    simp only [List.getElem_cons_zero] at this
    match c, this with
    | [u], _ => exact ⟨u :: us, by simp [h1], by simp [h2]⟩
theorem vals_of {F : Nat → Prop} {w : World} : ∀ (us : List Value) (L : List (List Int)), us.length = L.length → (∀ i (hi : i < L.length), ∃ u, us[i]? = some u ∧ SlI F w u L[i]) → Vals F w us L
  | [], [], _, _ => trivial
  | u :: us, l :: L, hl, h => by
    refine ⟨?_, vals_of us L (by simpa using hl) fun i hi => ?_⟩
    · obtain ⟨u', q1, q2⟩ := h 0 (by simp)
      simp only [List.getElem?_cons_zero, Option.some.injEq] at q1
      subst q1
      exact q2
    · obtain ⟨u', q1, q2⟩ := h (i + 1) (by simp; exact hi)
      exact ⟨u', by simpa using q1, q2⟩
  | [], _ :: _, hl, _ => by simp at hl
  | _ :: _, [], hl, _ => by simp at hl
/-- The element values of a slice of lists. -/
theorem SlII.vals {F : Nat → Prop} {w : World} {A : Option Addr} {n c B : Nat} {L : List (List Int)} (h : SlII F w (.slice A n c) L) (hF : ∀ b, F b → b < B) :
    ∃ us : List Value, Vals F w us L ∧ Reads w B 1 A n us := by
  obtain ⟨cs, h1, h2, h3⟩ := Sl.cells h hF
  obtain ⟨us, e1, e2⟩ := flat_one cs fun i hi => by
    obtain ⟨x, q1, q2, _⟩ := h2 i (by omega)
    rw [List.getElem?_eq_getElem hi] at q1
    injection q1 with q1
    rw [q1]; exact q2
  refine ⟨us, vals_of us L (by rw [← h1, e1]; simp) fun i hi => ?_, by rw [← e2]; exact h3⟩
  obtain ⟨x, q1, q2, u, q3, q4⟩ := h2 i hi
  subst q3
  rw [e1, List.getElem?_map] at q1
  cases hu : us[i]? with
  | none => rw [hu] at q1; cases q1
  | some v =>
    rw [hu] at q1
    simp only [Option.map_some, Option.some.injEq, List.cons.injEq, and_true] at q1
    subst q1
    exact ⟨_, rfl, q4⟩
section
variable {P : Program} {w : World} {ops : Array Oper} {rest : List Oper} {o : Oper} {a : Act} {Q : Exit → Act → World → Prop}
/-- 'xs = append(xs, ys...)', xs a slice of the call's own that is not empty. -/
theorem wpList_appM {t e : TypeId} {k bytes : Nat} (E : ElemN P t e k bytes) (hk : 0 < k) (hgd : o.guard = none) (s x : Operand) (ho : o.op = .call { callee := .builtin .append, args := #[s, x], argTypes := #[t, t] })
    {base : Nat} {A : Option Addr} {n c : Nat} {xs : List Value} (hown : Own0 w base e k A n c xs) (h0 : 0 < n) (hs : a.eval s = .slice A n c) (B : Nat) (A' : Option Addr) (m c' : Nat) (news : List Value) (hx : a.eval x = .slice A' m c') (hr : Reads w B k A' m news)
    (h1 : ∀ u ∈ news, u.oneCell' = true) (hn : n + m ≤ 1000000000) (hb : bytes ≤ 1000) (hbase : base ≤ w.heap.size)
    (h : ∀ A2 c2 w', Own0 w' base e k A2 (n + m) c2 (xs ++ news) → w.grownBy w' (Value.slice A n c).ownBlock → wpList P ops Q rest (a.put o.dst (.slice A2 (n + m) c2)) w') : wpList P ops Q (o :: rest) a w := by
  rcases hown with ⟨h2, _⟩ | ⟨_, hown⟩
  · omega
  obtain ⟨ht, i, z, hi, hz, hsz, hby, hzs⟩ := E
  have hmb : (n + m) * bytes ≤ 1000000000 * 1000 := Nat.mul_le_mul hn hb
  refine wpList_append_any w hgd s x t ho base e i z k bytes ht hi hz hsz hby hzs hk (.slice A n c) n xs hs hown B A' m c' news hx hr h1 (by unfold maxLen; omega) (by omega) hbase fun v' w' q1 q2 q3 => ?_
  obtain ⟨A2, c2, rfl⟩ := own_form q1
  exact h A2 c2 w' (.inr ⟨by omega, q1⟩) q2
end
theorem q_size {w w' : World} {n : Nat} {row : Option Nat} (h : (n = 0 ∧ Below w.heap.size w w') ∨ (0 < n ∧ w.grownBy w' row)) : w.heap.size ≤ w'.heap.size := by
  rcases h with ⟨_, h⟩ | ⟨_, h⟩
  · exact h.size
  · exact h.size
theorem own0_more {w : World} {base : Nat} {e : TypeId} {A : Option Addr} {n m c : Nat} {xs : List Value} (h : Own0 w base e 1 A n c xs) (hm : n = m) : Own0 w base e 1 A m c xs := by subst hm; exact h
end Go.Proofs.Ytnpdoejjebgcpaa
namespace Go.Proofs.Ytnpdoejjebgcpaa
open Go Go.RowKit
def stepA (ws : List Nat) (n : Nat) (r : List (List Nat) × Nat) (b : Nat) : List (List Nat) × Nat := if Hit.hit ws b then (if Hit.irr ws n b then Hit.insertF r.1 (Hit.members b) else r.1, r.2 + 1) else r
theorem allGo_snoc (ws : List Nat) (n : Nat) (b : Nat) : ∀ (l : List Nat) (r : List (List Nat) × Nat), Hit.allGo ws n (l ++ [b]) r = stepA ws n (Hit.allGo ws n l r) b
  | [], r => rfl
  | x :: l, r => by
    show Hit.allGo ws n (l ++ [b]) _ = _
    rw [allGo_snoc ws n b l]; rfl
/-- What has been found below b. -/
def toB (ws : List Nat) (n b : Nat) : List (List Nat) × Nat := Hit.allGo ws n (List.range b) ([], 0)
theorem toB_zero (ws : List Nat) (n : Nat) : toB ws n 0 = ([], 0) := rfl
theorem toB_nil (ws : List Nat) (n : Nat) (F : Nat → Prop) (w : World) : SlII F w (.slice none 0 0) (intsL (toB ws n 0).1) := by rw [toB_zero]; exact Sl.nil_
theorem toB_succ (ws : List Nat) (n b : Nat) : toB ws n (b + 1) = stepA ws n (toB ws n b) b := by
  unfold toB; rw [List.range_succ, allGo_snoc]
theorem toB_miss {ws : List Nat} {n b : Nat} (h : Hit.hit ws b = false) : toB ws n (b + 1) = toB ws n b := by rw [toB_succ]; unfold stepA; rw [h]; rfl
theorem toB_hit {ws : List Nat} {n b : Nat} (h : Hit.hit ws b = true) : (toB ws n (b + 1)).2 = (toB ws n b).2 + 1 := by rw [toB_succ]; unfold stepA; rw [h]; rfl
theorem toB_irr {ws : List Nat} {n b : Nat} (h : Hit.hit ws b = true) (hi : Hit.irr ws n b = true) : (toB ws n (b + 1)).1 = Hit.insertF (toB ws n b).1 (Hit.members b) := by rw [toB_succ]; unfold stepA; rw [h, hi]; rfl
theorem toB_red {ws : List Nat} {n b : Nat} (hi : Hit.irr ws n b = false) : (toB ws n (b + 1)).1 = (toB ws n b).1 := by
  rw [toB_succ]; unfold stepA
  cases h : Hit.hit ws b
  · rfl
  · rw [hi]; rfl
theorem insertF_len (L : List (List Nat)) (x : List Nat) : (Hit.insertF L x).length = L.length + 1 := by
  induction L with
  | nil => simp [Hit.insertF]
  | cons z L ih => rw [Hit.insertF_cons]; split <;> simp [ih]
theorem toB_len (ws : List Nat) (n : Nat) : ∀ b, (toB ws n b).1.length ≤ b ∧ (toB ws n b).2 ≤ b
  | 0 => ⟨Nat.le_refl 0, Nat.le_refl 0⟩
  | b + 1 => by
    obtain ⟨h1, h2⟩ := toB_len ws n b
    rw [toB_succ]; unfold stepA
    split
    · refine ⟨?_, by show (toB ws n b).2 + 1 ≤ b + 1; omega⟩
      show (if Hit.irr ws n b = true then Hit.insertF (toB ws n b).1 (Hit.members b) else (toB ws n b).1).length ≤ b + 1
      split
      · rw [insertF_len]; omega
      · omega
    · exact ⟨by omega, by omega⟩
/-- No number below i can be left out. -/
def irrTo (ws : List Nat) (b i : Nat) : Bool := (List.range i).all fun j => !(b.testBit j && Hit.hit ws (Hit.andn b (Hit.bit j)))
theorem irrTo_succ (ws : List Nat) (b i : Nat) : irrTo ws b (i + 1) = (irrTo ws b i && !(b.testBit i && Hit.hit ws (Hit.andn b (Hit.bit i)))) := by
  unfold irrTo; rw [List.range_succ, List.all_append]; simp
theorem irrTo_end (ws : List Nat) (n b : Nat) : irrTo ws b n = Hit.irr ws n b := rfl
end Go.Proofs.Ytnpdoejjebgcpaa
