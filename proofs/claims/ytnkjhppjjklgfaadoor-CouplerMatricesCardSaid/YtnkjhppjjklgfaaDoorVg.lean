/- Plain: what CouplerMatrices gathers. -/
import Derived.Test.YtnkjhppjjklgfaaDoorVc
import Derived.Test.YtnkjhppjjklgfaaDoorKm
namespace Go.Proofs.YtnkjhppjjklgfaaDoor
open Go Go.RowKit Go.Shelf
namespace Cou
theorem keysF_snoc {d : Int} : ∀ {k : Int} {n : Nat}, keysF d k (n + 1) = keysF d k n ++ [(d, k + n)]
  | k, 0 => by simp [keysF]
  | k, n + 1 => by
    rw [keysF, keysF_snoc, keysF, List.cons_append, show k + 1 + (n : Int) = k + ((n + 1 : Nat) : Int) from by omega]
theorem ctsF_app : ∀ {l m : List (Int × Int)} {d : Nat}, ctsF d (l ++ m) = ctsF d l ++ ctsF (d + l.length) m
  | [], m, d => by simp [ctsF]
  | c :: r, m, d => by
    rw [List.cons_append, ctsF, ctsF_app, ctsF, List.append_assoc, List.length_cons, show d + 1 + r.length = d + (r.length + 1) from by omega]
/-- The contacts of the first divisions. -/
def preF (a : Ac) (i : Nat) : List Ct := ctsF 0 (a.divs.take i)
theorem preF_succ {a : Ac} {i : Nat} (hi : i < a.divs.length) : preF a (i + 1) = preF a i ++ keysF i a.divs[i].1 (a.divs[i].2 + 1 - a.divs[i].1).toNat := by
  unfold preF
  rw [List.take_add_one, List.getElem?_eq_getElem hi, ctsF_app, List.length_take, Nat.min_eq_left (Nat.le_of_lt hi)]
  simp [ctsF]
theorem preF_all {a : Ac} : preF a a.divs.length = ctsF 0 a.divs := by unfold preF; rw [List.take_length]
theorem filt_one {c : Ct} : ∀ {l : List Ct}, l.Nodup → l.filter (fun x => decide (x = c)) = if c ∈ l then [c] else []
  | [], _ => by simp
  | x :: l, h => by
    obtain ⟨h1, h2⟩ := List.nodup_cons.1 h
    have ih := filt_one (c := c) h2
    by_cases e : x = c
    · subst e
      rw [List.filter_cons_of_pos (by simp), ih, if_neg h1, if_pos (by simp)]
    · rw [List.filter_cons_of_neg (by simpa using e), ih]
      have : c ∈ x :: l ↔ c ∈ l := by simp [Ne.symm e]
      simp only [this]
/-- What a row of the matrix says after some keys. -/
def RowS (a : Ac) (i : Nat) (lo : Int) (m : Nat) (rb : List Bool) : Prop := ∀ d : Nat, rb.getD d false = true ↔ ∃ q : Int, lo ≤ q ∧ q < lo + m ∧ ∃ t, Hop a [((i : Int), q)] t ∧ t.1 = d
def RowT (rb0 : List Bool) (r : List Ct) (j : Nat) (rb : List Bool) : Prop := ∀ d : Nat, rb.getD d false = true ↔ rb0.getD d false = true ∨ ∃ t ∈ r.take j, t.1 = d
theorem RowS.start {a : Ac} {i : Nat} {lo : Int} {n : Nat} : RowS a i lo 0 (List.replicate n false) := fun d => by
  constructor
  · intro h
    rw [List.getD_eq_getElem?_getD, List.getElem?_replicate] at h
    split at h <;> cases h
  · rintro ⟨q, a1, a2, _⟩
    omega
theorem RowT.start {rb : List Bool} {r : List Ct} : RowT rb r 0 rb := fun d => by simp
theorem RowT.step {rb0 rb : List Bool} {r : List Ct} {j : Nat} (h : RowT rb0 r j rb) (hj : j < r.length) {x : Nat} (hx : r[j].1 = x) (hl : x < rb.length) : RowT rb0 r (j + 1) (rb.set x true) := fun d => by
  rw [List.take_add_one, List.getElem?_eq_getElem hj]
  by_cases e : d = x
  · subst e
    rw [List.getD_eq_getElem?_getD, List.getElem?_set_self hl]
    constructor
    · intro _
      exact .inr ⟨r[j], List.mem_append_right _ (by simp), hx⟩
    · intro _
      rfl
  · rw [List.getD_eq_getElem?_getD, List.getElem?_set_ne (by omega), ← List.getD_eq_getElem?_getD, h d]
    constructor
    · rintro (q | ⟨t, q1, q2⟩)
      · exact .inl q
      · exact .inr ⟨t, List.mem_append_left _ q1, q2⟩
    · rintro (q | ⟨t, q1, q2⟩)
      · exact .inl q
      · rcases List.mem_append.1 q1 with q | q
        · exact .inr ⟨t, q, q2⟩
        · have e2 : t = r[j] := by simpa using q
          subst e2
          omega
theorem RowS.step {a : Ac} {i : Nat} {lo : Int} {m : Nat} {rb rb' : List Bool} {r : List Ct} (h : RowS a i lo m rb) (hr : ∀ t, t ∈ r ↔ Hop a [((i : Int), lo + m)] t) (ht : RowT rb r r.length rb') : RowS a i lo (m + 1) rb' := fun d => by
  rw [ht d, h d, List.take_length]
  constructor
  · rintro (⟨q, a1, a2, a3⟩ | ⟨t, a1, a2⟩)
    · exact ⟨q, a1, by omega, a3⟩
    · exact ⟨lo + m, by omega, by omega, t, (hr t).1 a1, a2⟩
  · rintro ⟨q, a1, a2, t, a3, a4⟩
    rcases Int.lt_or_eq_of_le (show q ≤ lo + m by omega) with e | e
    · exact .inl ⟨q, a1, e, t, a3, a4⟩
    · subst e
      exact .inr ⟨t, (hr t).2 a3, a4⟩
end Cou
theorem matrow {a : Cou.Ac} {M : List (List Bool)} (h : MatOk a M) {i : Nat} (hi : i < a.divs.length) {rb : List Bool} {m : Nat} (hm : a.divs[i].1 + (m : Int) = a.divs[i].2 + 1 ∨ (m = 0 ∧ a.divs[i].2 < a.divs[i].1)) (hr : Cou.RowS a i a.divs[i].1 m rb) (d : Nat) : rb.getD d false = Cou.getM M i d := by
  have hq : ∀ q : Int, Cou.InA a ((i : Int), q) ↔ a.divs[i].1 ≤ q ∧ q ≤ a.divs[i].2 := fun q => by
    unfold Cou.InA Cou.inB
    dsimp only
    rw [Int.toNat_natCast, List.getD_eq_getElem?_getD, List.getElem?_eq_getElem hi, Option.getD_some]
    simp only [Bool.and_eq_true, decide_eq_true_eq]
    omega
  rw [Bool.eq_iff_iff, hr d, h.2.2 i d]
  constructor
  · rintro ⟨q, a1, a2, t, a3, a4⟩
    exact ⟨_, (hq q).2 ⟨a1, by omega⟩, rfl, t, a3, a4⟩
  · rintro ⟨⟨c1, c2⟩, a1, a2, t, a3, a4⟩
    dsimp only at a2
    subst a2
    have := (hq c2).1 a1
    exact ⟨c2, this.1, by omega, t, a3, a4⟩
theorem matlen {a : Cou.Ac} (hok : Cou.Ok a) {i m j : Nat} {d lo : Int} {r : List Cou.Ct} (hm : m ≤ 128) (hr : r.length ≤ 1024) (p q : Cou.Ct → Bool) : ((Cou.preF a i ++ Cou.keysF d lo m).filter p ++ (r.take j).filter q).length ≤ 100000 := by
  have h1 := List.length_filter_le p (Cou.preF a i ++ Cou.keysF d lo m)
  have h2 := List.length_filter_le q (r.take j)
  have h3 : (Cou.preF a i).length ≤ 128 * (a.divs.take i).length := Cou.ctsF_len fun c hc => hok.div c (List.mem_of_mem_take hc)
  have h4 : (a.divs.take i).length ≤ 8 := Nat.le_trans (by rw [List.length_take]; exact Nat.min_le_right _ _) hok.nd
  have h5 : (r.take j).length ≤ r.length := by rw [List.length_take]; exact Nat.min_le_right _ _
  rw [List.length_append, Cou.keysF_len] at h1
  rw [List.length_append]
  omega
theorem matcome {a : Cou.Ac} {c : Cou.Ct} {r : List Cou.Ct} (hs : Cou.Srt r) (hr : ∀ t, t ∈ r ↔ Cou.Hop a [c] t) : r.filter (fun x => decide (x = c)) = [c].filter (Cou.comesB a) := by
  rw [Cou.filt_one hs.nodup]
  by_cases h : c ∈ r
  · rw [if_pos h, List.filter_cons_of_pos (Cou.comesB_iff.2 ((hr c).1 h))]; rfl
  · rw [if_neg h, List.filter_cons_of_neg (fun e => h ((hr c).2 (Cou.comesB_iff.1 e)))]; rfl
/-- Where a matrix lies: its rows' cells. -/
theorem SlBB.rows {F : Nat → Prop} {w : World} {v : Value} {M : List (List Bool)} {n : Nat} (h : SlBB F w v M) (hl : M.length = n) (hr : ∀ r ∈ M, r.length = n) : ∃ A c, v = .slice A n c ∧ ∀ i, i < n → ∃ ad R cr, A = some ad ∧
    (∀ W, Below w.heap.size w W → W.cell? (ad.add i) = some (.slice R n cr)) ∧ ∀ j, j < n → ∃ ar, R = some ar ∧ ∀ W, Below w.heap.size w W → W.cell? (ar.add j) = some (.bool (Cou.getM M i j)) := by
  obtain ⟨A, c, hv, _, _, hat⟩ := h
  rw [hl] at hv
  refine ⟨A, c, hv, fun i hi => ?_⟩
  have hi' : i < M.length := by omega
  obtain ⟨ad, cs, q1, _, _, ⟨u, q4, R, cr, q6, _, _, q9⟩, q5⟩ := hat i hi'
  subst q4
  have hrl := hr M[i] (List.getElem_mem hi')
  rw [hrl] at q6
  have k0 := q5.f0 rfl
  rw [Nat.mul_one, q6] at k0
  refine ⟨ad, R, cr, q1, fun W hb => (hb.cell (p := ad.add i) (World.block_lt_of_cell? _ _ k0)).trans k0, fun j hj => ?_⟩
  obtain ⟨ar, cs2, p1, _, _, p4, p5⟩ := q9 j (by omega)
  subst p4
  have k1 := p5.f0 rfl
  rw [Nat.mul_one] at k1
  refine ⟨ar, p1, fun W hb => ((hb.cell (p := ar.add j) (World.block_lt_of_cell? _ _ k1)).trans k1).trans ?_⟩
  unfold Cou.getM
  rw [List.getD_eq_getElem?_getD (l := M), List.getElem?_eq_getElem hi', Option.getD_some, List.getD_eq_getElem?_getD, List.getElem?_eq_getElem (by omega), Option.getD_some]
end Go.Proofs.YtnkjhppjjklgfaaDoor
