/- Plain: the errors of lists and problems; right lists are the members of words. -/
import Derived.Test.YtiochodepgldpaaDoorHitG
namespace Go.Proofs.YtiochodepgldpaaDoor
namespace Hit
def ints (l : List Nat) : List Int := l.map fun x : Nat => (x : Int)
/-- The error of a list of numbers: 3 out of range, 6 not increasing. -/
def listGo (n : Int) : Option Int → List Int → Int
  | _, [] => 0
  | p, v :: r => if v < 0 ∨ v ≥ n then 3 else if (match p with | some q => decide (v ≤ q) | none => false) = true then 6 else listGo n (some v) r
def listF (n : Int) (l : List Int) : Int := listGo n none l
def setsGo (n : Int) : List (List Int) → Int
  | [] => 0
  | s :: r => if s = [] then 13 else if listF n s ≠ 0 then listF n s else setsGo n r
def checkF (n : Int) (ls : List (List Int)) : Int := if n < 0 ∨ n > 20 then 3 else if ls.length > 100 then 4 else setsGo n ls
theorem listGo_ok (n : Int) : ∀ (l : List Int) (p : Option Int), listGo n p l = 0 → (∀ q, p = some q → ∀ v ∈ l, q < v) ∧ ∃ ns : List Nat, l = ints ns ∧ Inc ns ∧ ∀ x ∈ ns, (x : Int) < n := by
  intro l
  induction l with
  | nil => intro p _; exact ⟨fun _ _ v hv => by simp at hv, [], rfl, trivial, by simp⟩
  | cons v r ih =>
    intro p h
    unfold listGo at h
    by_cases h1 : v < 0 ∨ v ≥ n
    · rw [if_pos h1] at h; cases h
    · rw [if_neg h1] at h
      have h2 : (∀ q, p = some q → q < v) ∧ listGo n (some v) r = 0 := by
        cases p with
        | none => exact ⟨fun q hq => (by cases hq), by simpa using h⟩
        | some q =>
          by_cases hq : v ≤ q
          · simp [hq] at h
          · simp [hq] at h
            exact ⟨fun q' hq' => by injection hq' with hq'; omega, h⟩
      obtain ⟨a, ns, rfl, hi, hn⟩ := ih (some v) h2.2
      have hv0 : 0 ≤ v := by omega
      obtain ⟨k, rfl⟩ := Int.eq_ofNat_of_zero_le hv0
      refine ⟨fun q hq u hu => ?_, k :: ns, rfl, ⟨fun y hy => ?_, hi⟩, fun x hx => ?_⟩
      · have hq2 := h2.1 q hq
        simp only [List.mem_cons] at hu
        rcases hu with rfl | hu
        · exact hq2
        · have := a k rfl u hu; omega
      · have := a k rfl (y : Int) (List.mem_map.2 ⟨y, hy, rfl⟩)
        omega
      · simp only [List.mem_cons] at hx
        rcases hx with rfl | hx
        · omega
        · exact hn x hx
theorem listF_ok {n : Int} {l : List Int} (h : listF n l = 0) : ∃ ns : List Nat, l = ints ns ∧ Inc ns ∧ ∀ x ∈ ns, (x : Int) < n := (listGo_ok n l none h).2
theorem listGo_of (n : Int) : ∀ (ns : List Nat) (p : Option Int), Inc ns → (∀ x ∈ ns, (x : Int) < n) → (∀ q, p = some q → ∀ x ∈ ns, q < (x : Int)) → listGo n p (ints ns) = 0 := by
  intro ns
  induction ns with
  | nil => intro p _ _ _; rfl
  | cons x ns ih =>
    intro p hi hn hp
    show listGo n p ((x : Int) :: ints ns) = 0
    unfold listGo
    rw [if_neg (by have := hn x (by simp); omega), if_neg]
    · exact ih _ hi.2 (fun y hy => hn y (by simp [hy])) fun q hq y hy => by injection hq with hq; have := hi.1 y hy; omega
    · cases p with
      | none => simp
      | some q => have := hp q rfl x (by simp); simp; omega
theorem listF_of {n : Nat} {ns : List Nat} (hi : Inc ns) (hn : ∀ x ∈ ns, x < n) : listF n (ints ns) = 0 := listGo_of n ns none hi (fun x hx => by have := hn x hx; omega) (fun q hq => by cases hq)
theorem members_lt {w n : Nat} (h : w < 2 ^ n) : ∀ x ∈ members w, x < n := fun x hx => by
  have hx2 := (mem_members.1 hx).2
  rcases Nat.lt_or_ge x n with hl | hl
  · exact hl
  · rw [test_of_lt h hl] at hx2; cases hx2
theorem setsGo_of {n : Nat} (hn : n ≤ 64) : ∀ (ws : List Nat), Good ws n → setsGo n (ws.map fun s => ints (members s)) = 0 := by
  intro ws
  induction ws with
  | nil => intro _; rfl
  | cons s ws ih =>
    intro h
    obtain ⟨h0, h1⟩ := h s (by simp)
    have hne : ints (members s) ≠ [] := fun e => by
      have h64 : s < 2 ^ 64 := Nat.lt_of_lt_of_le h1 (Nat.pow_le_pow_right (by decide) hn)
      have : members s = [] := List.map_eq_nil_iff.1 e
      have hw := word_members h64
      rw [this] at hw
      exact h0 hw.symm
    have hl := listF_of (inc_members s) (members_lt h1)
    simp only [List.map_cons, setsGo]
    rw [if_neg hne, hl, if_neg (by simp)]
    exact ih fun t ht => h t (by simp [ht])
/-- A problem that is given by words is right. -/
theorem checkF_of {n : Nat} (hn : n ≤ 20) {ws : List Nat} (hw : ws.length ≤ 100) (h : Good ws n) : checkF n (ws.map fun s => ints (members s)) = 0 := by
  unfold checkF
  rw [if_neg (by omega), if_neg (by simp; omega)]
  exact setsGo_of (by omega) ws h
theorem setsGo_ok (n : Nat) (hn : n ≤ 64) : ∀ (ls : List (List Int)), setsGo n ls = 0 → ∃ ws : List Nat, ls = (ws.map fun s => ints (members s)) ∧ Good ws n := by
  intro ls
  induction ls with
  | nil => intro _; exact ⟨[], rfl, fun s hs => by simp at hs⟩
  | cons l ls ih =>
    intro h
    unfold setsGo at h
    split at h
    · cases h
    · rename_i h1
      split at h
      · rename_i h2; exact absurd h h2
      · rename_i h2
        obtain ⟨ns, rfl, hi, hlt⟩ := listF_ok (by simpa using h2)
        obtain ⟨ws, rfl, hg⟩ := ih h
        have hlt' : ∀ x ∈ ns, x < n := fun x hx => by have := hlt x hx; omega
        refine ⟨word ns :: ws, ?_, fun s hs => ?_⟩
        · rw [List.map_cons, members_word hi fun x hx => by have := hlt' x hx; omega]
        · simp only [List.mem_cons] at hs
          rcases hs with rfl | hs
          · refine ⟨fun e => h1 ?_, word_lt hlt'⟩
            cases ns with
            | nil => rfl
            | cons x ns =>
              have := (zero_iff _).1 e x
              rw [word_test] at this
              simp at this
          · exact hg s hs
/-- A right problem is given by words. -/
theorem checkF_ok {n : Int} {ls : List (List Int)} (h : checkF n ls = 0) : ∃ (m : Nat) (ws : List Nat), n = m ∧ m ≤ 20 ∧ ls = (ws.map fun s => ints (members s)) ∧ ws.length ≤ 100 ∧ Good ws m := by
  unfold checkF at h
  split at h
  · cases h
  · rename_i h1
    split at h
    · cases h
    · rename_i h2
      have h0 : 0 ≤ n := by omega
      obtain ⟨m, rfl⟩ := Int.eq_ofNat_of_zero_le h0
      obtain ⟨ws, rfl, hg⟩ := setsGo_ok m (by omega) ls h
      exact ⟨m, ws, rfl, by omega, rfl, by simpa using h2, hg⟩
end Hit
end Go.Proofs.YtiochodepgldpaaDoor
