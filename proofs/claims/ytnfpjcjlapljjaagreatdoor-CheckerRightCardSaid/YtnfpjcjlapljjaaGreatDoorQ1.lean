/- Plain: numbers in limbs of nine digits; decimal digits, parted. Plain: the product of numbers in limbs, row by row; words of limbs in memory. Plain: digits compared, powers by bits, the digits of limbs, pieces of digits. Walks over integer: trim. Walk over integer: times. Walk over integer: long. -/
import Derived.Test.YtnfpjcjlapljjaaGreatDoorBase
import Derived.Lib.ItoaLen
import Derived.Lib.ItoaNum
import Derived.Lib.Bytealg
import Derived.Lib.Strings
import Derived.Test.YtnfpjcjlapljjaaGreatDoorRows
import Derived.Test.YtnfpjcjlapljjaaGreatDoorRegion
import Derived.Deep.RegionHeld3
import Derived.BigQuiet
import Derived.BigGuardPart
import Derived.Deep.CutRange
import Derived.Deep.OwnRows
import Derived.Laws.BitsAllLaws
import Derived.WalkKit
import Derived.WalkSpells
import Derived.WalkLawsBesides
import Derived.StillTactics
import Derived.LoopTactic
import Derived.Deep.LoopGhost
import Derived.Outline
import Derived.Handy
import Derived.Shelf.Abstract
import Derived.Lib.ConvBytes
namespace Go.Proofs.YtnfpjcjlapljjaaGreatDoor
open Go Go.RowKit
namespace Big
/-- The base of limbs. -/
abbrev bs : Nat := 1000000000
/-- What limbs say, the lowest first; all less than the base; the limbs of a number. -/
def val : List Nat → Nat
  | [] => 0
  | x :: r => x + bs * val r
def ok (l : List Nat) : Prop := ∀ x ∈ l, x < bs
def lim (n : Nat) : List Nat := if h : n = 0 then [] else n % bs :: lim (n / bs)
termination_by n
decreasing_by exact Nat.div_lt_self (by omega) (by decide)
theorem lim_zero : lim 0 = [] := by rw [lim, dif_pos rfl]
theorem lim_pos {n : Nat} (h : n ≠ 0) : lim n = n % bs :: lim (n / bs) := by rw [lim, dif_neg h]
theorem val_lim (n : Nat) : val (lim n) = n := by
  induction n using Nat.strongRecOn with
  | ind n ih =>
    by_cases h : n = 0
    · subst h; rw [lim_zero]; rfl
    · rw [lim_pos h]
      show n % bs + bs * val (lim (n / bs)) = n
      rw [ih (n / bs) (Nat.div_lt_self (by omega) (by decide))]
      exact Nat.mod_add_div n bs
theorem lim_ok (n : Nat) : ok (lim n) := by
  induction n using Nat.strongRecOn with
  | ind n ih =>
    by_cases h : n = 0
    · subst h; rw [lim_zero]; intro x hx; simp at hx
    · rw [lim_pos h]
      intro x hx
      rcases List.mem_cons.1 hx with rfl | hx
      · exact Nat.mod_lt _ (by decide)
      · exact ih (n / bs) (Nat.div_lt_self (by omega) (by decide)) x hx
theorem ok_cons {x : Nat} {l : List Nat} : ok (x :: l) ↔ x < bs ∧ ok l := by
  unfold ok
  simp
theorem val_append (a b : List Nat) : val (a ++ b) = val a + bs ^ a.length * val b := by
  induction a with
  | nil => simp [val]
  | cons x r ih =>
    show x + bs * val (r ++ b) = x + bs * val r + bs ^ (r.length + 1) * val b
    rw [ih, Nat.mul_add, Nat.pow_succ, ← Nat.mul_assoc, Nat.add_assoc, Nat.mul_comm bs (bs ^ r.length)]
theorem val_snoc (a : List Nat) (x : Nat) : val (a ++ [x]) = val a + bs ^ a.length * x := by
  rw [val_append]
  rfl
theorem val_zeros (n : Nat) : val (List.replicate n 0) = 0 := by
  induction n with
  | zero => rfl
  | succ n ih =>
    show 0 + bs * val (List.replicate n 0) = 0
    rw [ih, Nat.mul_zero]
theorem ok_append {a b : List Nat} : ok (a ++ b) ↔ ok a ∧ ok b := by
  unfold ok
  simp only [List.mem_append]
  exact ⟨fun h => ⟨fun x hx => h x (.inl hx), fun x hx => h x (.inr hx)⟩, fun h x hx => hx.elim (h.1 x) (h.2 x)⟩
/-- Limbs without a zero at their end are those of what they say. -/
theorem lim_val : ∀ {l : List Nat}, ok l → (∀ x, l.getLast? = some x → x ≠ 0) → lim (val l) = l
  | [], _, _ => lim_zero
  | [x], h, h2 => by
    have hx := (ok_cons.1 h).1
    have hne := h2 x rfl
    show lim (x + bs * 0) = [x]
    rw [Nat.mul_zero, Nat.add_zero, lim_pos hne, Nat.mod_eq_of_lt hx, Nat.div_eq_of_lt hx, lim_zero]
  | x :: y :: r, h, h2 => by
    have ho := ok_cons.1 h
    have ih := lim_val (l := y :: r) ho.2 (fun z hz => h2 z (by rw [List.getLast?_cons_cons]; exact hz))
    have hpos : val (y :: r) ≠ 0 := fun e => by
      rw [e, lim_zero] at ih
      cases ih
    show lim (x + bs * val (y :: r)) = x :: y :: r
    have hne : x + bs * val (y :: r) ≠ 0 := by
      have : 0 < bs * val (y :: r) := Nat.mul_pos (by decide) (Nat.pos_of_ne_zero hpos)
      omega
    rw [lim_pos hne, Nat.add_mul_mod_self_left, Nat.mod_eq_of_lt ho.1, Nat.add_mul_div_left _ _ (by decide), Nat.div_eq_of_lt ho.1, Nat.zero_add, ih]
/-- Zeros at the end are left out. -/
def trimF (l : List Nat) (k : Nat) : Prop := k ≤ l.length ∧ l.drop k = List.replicate (l.length - k) 0
theorem trim_val {l : List Nat} {k : Nat} (h : trimF l k) : val (l.take k) = val l := by
  conv => rhs; rw [← List.take_append_drop k l, val_append, h.2, val_zeros, Nat.mul_zero, Nat.add_zero]
theorem trim_lim {l : List Nat} {k : Nat} (ho : ok l) (h : trimF l k) (hl : k = 0 ∨ ∃ x, l[k - 1]? = some x ∧ x ≠ 0) : l.take k = lim (val l) := by
  rw [← trim_val h, lim_val (fun x hx => ho x (List.mem_of_mem_take hx))]
  intro x hx
  rcases hl with rfl | ⟨y, hy, hne⟩
  · simp at hx
  · have hk : 0 < k := by
      rcases Nat.eq_zero_or_pos k with e | e
      · subst e; simp at hx
      · exact e
    rw [List.getLast?_eq_getElem?, List.length_take, Nat.min_eq_left h.1, List.getElem?_take_of_lt (by omega), hy] at hx
    injection hx with hx
    subst hx
    exact hne
theorem trim_step {l : List Nat} {k : Nat} (h : trimF l (k + 1)) (hz : l[k]? = some 0) : trimF l k := by
  have hk := h.1
  refine ⟨by omega, ?_⟩
  rw [List.drop_eq_getElem_cons (by omega), h.2]
  have e : l[k] = 0 := by
    rw [List.getElem?_eq_getElem (by omega)] at hz
    injection hz
  rw [e, show l.length - k = (l.length - (k + 1)) + 1 by omega, List.replicate_succ]
/-- What stands from a place on is the quotient. -/
theorem val_drop {l : List Nat} (h : ok l) (k : Nat) : val (l.drop k) = val l / bs ^ k := by
  induction k generalizing l with
  | zero => simp
  | succ k ih =>
    match l, h with
    | [], _ => simp [val]
    | x :: r, h =>
      have ho := ok_cons.1 h
      rw [List.drop_succ_cons, ih ho.2]
      show val r / bs ^ k = (x + bs * val r) / bs ^ (k + 1)
      rw [Nat.pow_succ, Nat.mul_comm (bs ^ k), ← Nat.div_div_eq_div_mul, Nat.add_mul_div_left _ _ (by decide), Nat.div_eq_of_lt ho.1, Nat.zero_add]
theorem lim_get {n k : Nat} {x : Nat} (h : (lim n)[k]? = some x) : x = n / bs ^ k % bs ∧ n / bs ^ (k + 1) * bs + x = n / bs ^ k := by
  have hk : k < (lim n).length := (List.getElem?_eq_some_iff.1 h).1
  have h1 := val_drop (lim_ok n) k
  have h2 := val_drop (lim_ok n) (k + 1)
  rw [val_lim] at h1 h2
  have hx : (lim n)[k] = x := (List.getElem?_eq_some_iff.1 h).2
  rw [List.drop_eq_getElem_cons hk, hx] at h1
  have h3 : val (x :: (lim n).drop (k + 1)) = x + bs * val ((lim n).drop (k + 1)) := rfl
  rw [h3, h2] at h1
  have hlt : x < bs := by rw [← hx]; exact lim_ok n _ (List.getElem_mem hk)
  refine ⟨?_, by rw [← h1, Nat.mul_comm, Nat.add_comm]⟩
  rw [← h1, Nat.add_mul_mod_self_left, Nat.mod_eq_of_lt hlt]
theorem lim_len_pos {n : Nat} (h : n ≠ 0) : 0 < (lim n).length := by
  rw [lim_pos h]
  simp
/-- Digits behind a number: k digits, with zeros ahead. -/
def pad : Nat → Nat → List UInt8
  | 0, _ => []
  | k + 1, r => pad k (r / 10) ++ [UInt8.ofNat (48 + r % 10)]
theorem dec_pad {q : Nat} (hq : q ≠ 0) : ∀ (k r : Nat), r < 10 ^ k → Lib.decDigits (q * 10 ^ k + r) = Lib.decDigits q ++ pad k r
  | 0, r, h => by
    obtain rfl : r = 0 := by simpa using h
    simp [pad]
  | k + 1, r, h => by
    have hp : 0 < 10 ^ k := Nat.pow_pos (by decide)
    have hbig : ¬ q * 10 ^ (k + 1) + r < 10 := by
      have : 1 * 10 ≤ q * 10 ^ (k + 1) := by
        rw [Nat.pow_succ]
        exact Nat.mul_le_mul (Nat.pos_of_ne_zero hq) (by omega)
      omega
    rw [Lib.decDigits, dif_neg hbig]
    have e1 : (q * 10 ^ (k + 1) + r) / 10 = q * 10 ^ k + r / 10 := by
      rw [Nat.pow_succ, ← Nat.mul_assoc, Nat.add_comm, Nat.add_mul_div_right _ _ (by decide), Nat.add_comm]
    have e2 : (q * 10 ^ (k + 1) + r) % 10 = r % 10 := by
      rw [Nat.pow_succ, ← Nat.mul_assoc, Nat.add_comm, Nat.add_mul_mod_self_right]
    rw [e1, e2, dec_pad hq k (r / 10) (by rw [Nat.pow_succ] at h; omega)]
    simp [pad]
theorem pad_zero (k : Nat) : pad k 0 = List.replicate k 48 := by
  induction k with
  | zero => rfl
  | succ k ih =>
    show pad k (0 / 10) ++ [UInt8.ofNat (48 + 0 % 10)] = _
    rw [Nat.zero_div, ih, List.replicate_succ']
    rfl
theorem pad_dec : ∀ (k r : Nat), r < 10 ^ k → 0 < k → pad k r = List.replicate (k - Lib.nDigits r) 48 ++ Lib.decDigits r
  | 0, _, _, h => absurd h (by omega)
  | k + 1, r, h, _ => by
    by_cases hr : r < 10
    · rw [Lib.decDigits, dif_pos hr, Lib.nDigits_small hr]
      show pad k (r / 10) ++ [UInt8.ofNat (48 + r % 10)] = _
      rw [Nat.div_eq_of_lt hr, Nat.mod_eq_of_lt hr, pad_zero]
      rfl
    · rw [Lib.decDigits, dif_neg hr, Lib.nDigits_big hr]
      have hk : 0 < k := by
        rcases Nat.eq_zero_or_pos k with e | e
        · subst e; simp at h; omega
        · exact e
      show pad k (r / 10) ++ [UInt8.ofNat (48 + r % 10)] = _
      rw [pad_dec k (r / 10) (by rw [Nat.pow_succ] at h; omega) hk, List.append_assoc, show k + 1 - (Lib.nDigits (r / 10) + 1) = k - Lib.nDigits (r / 10) by omega]
/-- What digits say. -/
def decV (l : List UInt8) : Nat := l.foldl (fun a c => 10 * a + (c.toNat - 48)) 0
theorem foldV (l : List UInt8) (a : Nat) : l.foldl (fun a c => 10 * a + (c.toNat - 48)) a = a * 10 ^ l.length + decV l := by
  unfold decV
  induction l generalizing a with
  | nil => simp
  | cons c r ih =>
    rw [List.foldl_cons, List.foldl_cons, ih, ih (10 * 0 + (c.toNat - 48)), List.length_cons, Nat.pow_succ, Nat.add_mul, Nat.mul_zero, Nat.zero_add, Nat.mul_comm 10 a, Nat.mul_assoc, Nat.mul_comm 10, Nat.add_assoc]
theorem decV_append (a b : List UInt8) : decV (a ++ b) = decV a * 10 ^ b.length + decV b := by
  conv => lhs; unfold decV
  rw [List.foldl_append, foldV b]
  rfl
theorem decV_dec (u : Nat) : decV (Lib.decDigits u) = u := by
  induction u using Nat.strongRecOn with
  | ind u ih =>
    rw [Lib.decDigits]
    by_cases h : u < 10
    · rw [dif_pos h]
      show 10 * 0 + ((UInt8.ofNat (48 + u)).toNat - 48) = u
      have : (UInt8.ofNat (48 + u)).toNat = 48 + u := by simp; omega
      omega
    · rw [dif_neg h, decV_append, ih (u / 10) (by omega)]
      show u / 10 * 10 ^ 1 + (10 * 0 + ((UInt8.ofNat (48 + u % 10)).toNat - 48)) = u
      have : (UInt8.ofNat (48 + u % 10)).toNat = 48 + u % 10 := by simp; omega
      omega
theorem dec_digit (u : Nat) : ∀ c ∈ Lib.decDigits u, 48 ≤ c.toNat ∧ c.toNat ≤ 57 := by
  induction u using Nat.strongRecOn with
  | ind u ih =>
    rw [Lib.decDigits]
    by_cases h : u < 10
    · rw [dif_pos h]
      intro c hc
      obtain rfl := List.mem_singleton.1 hc
      have : (UInt8.ofNat (48 + u)).toNat = 48 + u := by simp; omega
      omega
    · rw [dif_neg h]
      intro c hc
      rcases List.mem_append.1 hc with q | q
      · exact ih (u / 10) (by omega) c q
      · obtain rfl := List.mem_singleton.1 q
        have : (UInt8.ofNat (48 + u % 10)).toNat = 48 + u % 10 := by simp; omega
        omega
theorem decV_lt {l : List UInt8} (h : ∀ c ∈ l, 48 ≤ c.toNat ∧ c.toNat ≤ 57) : decV l < 10 ^ l.length := by
  have : ∀ (l : List UInt8), (∀ c ∈ l, 48 ≤ c.toNat ∧ c.toNat ≤ 57) → decV l < 10 ^ l.length := by
    intro l
    induction l with
    | nil => intro _; decide
    | cons c r ih =>
      intro h
      have h1 := h c (List.mem_cons_self)
      have h2 := ih fun x hx => h x (List.mem_cons_of_mem _ hx)
      rw [show c :: r = [c] ++ r from rfl, decV_append, List.length_append]
      have e : decV [c] = c.toNat - 48 := by
        show 10 * 0 + (c.toNat - 48) = _
        omega
      rw [e, show [c].length + r.length = r.length + 1 by simp; omega, Nat.pow_succ]
      have : (c.toNat - 48) * 10 ^ r.length ≤ 9 * 10 ^ r.length := Nat.mul_le_mul_right _ (by omega)
      omega
  exact this l h
end Big
end Go.Proofs.YtnfpjcjlapljjaaGreatDoor
namespace Go.Proofs.YtnfpjcjlapljjaaGreatDoor
open Go Go.RowKit
namespace Big
theorem val_set {l : List Nat} {j : Nat} (h : j < l.length) (y : Nat) : val (l.set j y) + l[j] * bs ^ j = val l + y * bs ^ j := by
  induction l generalizing j with
  | nil => simp at h
  | cons x r ih =>
    match j, h with
    | 0, _ =>
      show y + bs * val r + x * bs ^ 0 = x + bs * val r + y * bs ^ 0
      rw [Nat.pow_zero]
      omega
    | j + 1, h =>
      have hj : j < r.length := by simpa using h
      have := ih hj
      show x + bs * val (r.set j y) + r[j] * bs ^ (j + 1) = x + bs * val r + y * bs ^ (j + 1)
      have e1 : r[j] * bs ^ (j + 1) = bs * (r[j] * bs ^ j) := by rw [Nat.pow_succ, Nat.mul_comm bs (r[j] * bs ^ j), Nat.mul_assoc]
      have e2 : y * bs ^ (j + 1) = bs * (y * bs ^ j) := by rw [Nat.pow_succ, Nat.mul_comm bs (y * bs ^ j), Nat.mul_assoc]
      rw [e1, e2, Nat.add_assoc, ← Nat.mul_add, this, Nat.mul_add, Nat.add_assoc]
theorem ok_set {l : List Nat} (h : ok l) (j : Nat) {y : Nat} (hy : y < bs) : ok (l.set j y) := fun x hx => by
  rcases List.mem_or_eq_of_mem_set hx with q | rfl
  · exact h x q
  · exact hy
theorem ok_get {l : List Nat} (h : ok l) {j : Nat} (hj : j < l.length) : l[j] < bs := h _ (List.getElem_mem hj)
theorem val_take_next {l : List Nat} {k : Nat} (hk : k < l.length) : val (l.take (k + 1)) = val (l.take k) + bs ^ k * l[k] := by
  rw [List.take_add_one, List.getElem?_eq_getElem hk]
  show val (l.take k ++ [l[k]]) = _
  rw [val_snoc, List.length_take, Nat.min_eq_left (Nat.le_of_lt hk)]
/-- After k limbs of a row of a product. -/
structure TI (m n : List Nat) (i k : Nat) (out : List Nat) (carry : Nat) : Prop where
  len : out.length = m.length + n.length + 1
  ok : ok out
  cy : carry < bs
  eq : val out + carry * bs ^ (i + k) = val (m.take i) * val n + m.getD i 0 * bs ^ i * val (n.take k)
  zero : ∀ j, i + n.length ≤ j → j < out.length → out.getD j 0 = 0
/-- After some rows. -/
structure TO (m n : List Nat) (i : Nat) (out : List Nat) : Prop where
  len : out.length = m.length + n.length + 1
  ok : Big.ok out
  eq : val out = val (m.take i) * val n
  zero : ∀ j, i + n.length ≤ j → j < out.length → out.getD j 0 = 0
theorem getD_set (l : List Nat) (i j : Nat) (y : Nat) (hj : j < l.length) : (l.set i y).getD j 0 = if i = j then y else l.getD j 0 := by
  rw [List.getD_eq_getElem?_getD, List.getElem?_set, List.getD_eq_getElem?_getD]
  by_cases e : i = j
  · subst e
    simp [hj]
  · simp [e]
theorem getD_get {l : List Nat} {j : Nat} (h : j < l.length) : l.getD j 0 = l[j] := by
  rw [List.getD_eq_getElem?_getD, List.getElem?_eq_getElem h]
  rfl
theorem TO.start (m n : List Nat) : TO m n 0 (List.replicate (m.length + n.length + 1) 0) :=
  ⟨by simp, fun x hx => by rw [(List.mem_replicate.1 hx).2]; decide, by rw [val_zeros]; simp [val], fun j _ hj => by
    rw [getD_get hj, List.getElem_replicate]⟩
theorem TO.row {m n out : List Nat} {i : Nat} (h : TO m n i out) : TI m n i 0 out 0 :=
  ⟨h.len, h.ok, by decide, by rw [h.eq]; simp [val], h.zero⟩
theorem TI.step {m n out : List Nat} {i k carry x : Nat} (h : TI m n i k out carry) (hi : i < m.length) (hk : k < n.length) (hx : x = out.getD (i + k) 0 + m.getD i 0 * n.getD k 0 + carry) (hm : Big.ok m) (hn : Big.ok n) :
    TI m n i (k + 1) (out.set (i + k) (x % bs)) (x / bs) := by
  have hl := h.len
  have hj : i + k < out.length := by omega
  have h1 : out[i + k] < 1000000000 := ok_get h.ok hj
  have h2 : m[i] < 1000000000 := ok_get hm hi
  have h3 : n[k] < 1000000000 := ok_get hn hk
  have hc : carry < 1000000000 := h.cy
  rw [getD_get hj, getD_get hi, getD_get hk] at hx
  have hmul : m[i] * n[k] ≤ 999999999 * 999999999 := Nat.mul_le_mul (by omega) (by omega)
  refine ⟨by rw [List.length_set]; exact hl, ok_set h.ok _ (Nat.mod_lt _ (by decide)), ?_, ?_, fun j h4 h5 => ?_⟩
  · show x / 1000000000 < 1000000000
    omega
  · have e := val_set hj (x % bs)
    have e0 := h.eq
    rw [val_take_next hk]
    rw [getD_get hi] at e0 ⊢
    have e1 : x / bs * bs ^ (i + (k + 1)) = x / bs * bs * bs ^ (i + k) := by rw [← Nat.add_assoc, Nat.pow_succ, Nat.mul_assoc, Nat.mul_comm (bs ^ (i + k)) bs, ← Nat.mul_assoc]
    have e2 : m[i] * bs ^ i * (val (n.take k) + bs ^ k * n[k]) = m[i] * bs ^ i * val (n.take k) + m[i] * n[k] * bs ^ (i + k) := by
      rw [Nat.mul_add, Nat.pow_add, ← Nat.mul_assoc, Nat.mul_assoc m[i] (bs ^ i) (bs ^ k), Nat.mul_right_comm m[i] (bs ^ i * bs ^ k)]
    rw [e1, e2, ← Nat.add_assoc, ← e0]
    have e3 : x % bs * bs ^ (i + k) + x / bs * bs * bs ^ (i + k) = x * bs ^ (i + k) := by
      rw [← Nat.add_mul, Nat.mul_comm (x / bs), Nat.mod_add_div]
    have e4 : x * bs ^ (i + k) = out[i + k] * bs ^ (i + k) + m[i] * n[k] * bs ^ (i + k) + carry * bs ^ (i + k) := by rw [hx, Nat.add_mul, Nat.add_mul]
    omega
  · rw [List.length_set] at h5
    rw [getD_set _ _ _ _ h5, if_neg (by omega)]
    exact h.zero j h4 h5
theorem TI.finish {m n out : List Nat} {i carry : Nat} (h : TI m n i n.length out carry) (hi : i < m.length) : TO m n (i + 1) (out.set (i + n.length) (out.getD (i + n.length) 0 + carry)) := by
  have hl := h.len
  have hj : i + n.length < out.length := by omega
  have hz := h.zero (i + n.length) (by omega) hj
  rw [hz, Nat.zero_add]
  refine ⟨by rw [List.length_set]; exact hl, ok_set h.ok _ h.cy, ?_, fun j h4 h5 => ?_⟩
  · have e := val_set hj carry
    rw [getD_get hj] at hz
    rw [hz, Nat.zero_mul, Nat.add_zero] at e
    rw [e, h.eq, List.take_length, val_take_next hi, getD_get hi, Nat.add_mul, Nat.mul_comm (bs ^ i)]
  · rw [List.length_set] at h5
    rw [getD_set _ _ _ _ h5, if_neg (by omega)]
    exact h.zero j (by omega) h5
theorem TO.done {m n out : List Nat} (h : TO m n m.length out) : val out = val m * val n := by
  rw [h.eq, List.take_length]
end Big
/-- A cell that is a limb. -/
def UC (_ : World) (cs : List Value) (x : Nat) : Prop := cs = [.int .u64 (x : Int)]
abbrev SlU (F : Nat → Prop) (w : World) (v : Value) (l : List Nat) : Prop := Sl F 1 UC w v l
theorem SlU.open {F : Nat → Prop} {w : World} {v : Value} {l : List Nat} (h : SlU F w v l) : ∃ A c, v = .slice A l.length c ∧ l.length ≤ c ∧ l.length ≤ 140737488355328 ∧
    ∀ i (hi : i < l.length), ∃ ad, A = some ad ∧ F ad.block ∧ w.cell? (ad.add i) = some (.int .u64 (l[i] : Int)) := by
  obtain ⟨A, c, hv, hc, hl, hi⟩ := h
  refine ⟨A, c, hv, hc, hl, fun i hil => ?_⟩
  obtain ⟨ad, cs, hA, hF, hk, hr, hcell⟩ := hi i hil
  unfold UC at hr
  subst hr
  exact ⟨ad, hA, hF, by simpa using hcell.f0 rfl⟩
theorem SlU.keep {F : Nat → Prop} {w w' : World} {v : Value} {l : List Nat} (h : SlU F w v l) (ha : Agree F w w') : SlU F w' v l := Sl.keep h ha fun _ _ hr => hr
theorem SlU.intro {F : Nat → Prop} {w : World} {A : Option Addr} {c : Nat} {l : List Nat} (n : Nat) (hn : n = l.length) (hc : l.length ≤ c) (hl : l.length ≤ 140737488355328)
    (h : ∀ i (hi : i < l.length), ∃ ad, A = some ad ∧ F ad.block ∧ w.cell? (ad.add i) = some (.int .u64 (l[i] : Int))) : SlU F w (.slice A n c) l := by
  subst hn
  refine ⟨A, c, rfl, hc, hl, fun i hi => ?_⟩
  obtain ⟨ad, hA, hF, hcell⟩ := h i hi
  refine ⟨ad, [.int .u64 (l[i] : Int)], hA, hF, rfl, rfl, fun j u hu => ?_⟩
  cases j with
  | zero =>
    simp at hu
    subst hu
    rw [Nat.mul_one]
    simpa [Addr.add] using hcell
  | succ j => simp at hu
/-- x[:k]. -/
theorem SlU.to {F : Nat → Prop} {w : World} {A : Option Addr} {n c : Nat} {l : List Nat} (h : SlU F w (.slice A n c) l) {k : Nat} (hk : k ≤ n) : SlU F w (.slice A k c) (l.take k) := by
  obtain ⟨A', c', he, hc, hlen, hi⟩ := h.open
  cases he
  have hlt : (l.take k).length = k := by rw [List.length_take]; omega
  refine SlU.intro k hlt.symm (by rw [hlt]; omega) (by rw [hlt]; omega) fun i hil => ?_
  rw [hlt] at hil
  obtain ⟨ad, hA, hF, hcell⟩ := hi i (by omega)
  exact ⟨ad, hA, hF, by rw [hcell, List.getElem_take]⟩
/-- Block g is a row of limbs. -/
def RU (w : World) (g : Nat) (l : List Nat) : Prop := Blk w g 42 (l.map fun x : Nat => Value.int .u64 (x : Int)).toArray
section
variable {w w' : World} {g : Nat} {l : List Nat}
theorem RU.cell (h : RU w g l) {k : Nat} (hk : k < l.length) : w.cell? ⟨g, k, none⟩ = some (.int .u64 (l[k] : Int)) := by
  rw [Blk.cell h]
  simp [hk]
theorem RU.fro (h : RU w g l) (k : Nat) : w.frozen? ⟨g, k, none⟩ = false := Blk.frozen h k
theorem RU.lt (h : RU w g l) : g < w.heap.size := Blk.lt h
theorem RU.set (h : RU w g l) (k x : Nat) : RU (w.setCell ⟨g, k, none⟩ (.int .u64 (x : Int))) g (l.set k x) := by
  have := Blk.set_ h k (.int .u64 (x : Int))
  unfold RU
  rw [List.map_set]
  simpa using this
theorem RU.below (h : RU w g l) (hb : Below w.heap.size w w') : RU w' g l := Blk.below h hb h.lt
theorem RU.alloc (h : RU w g l) (o : Obj) : RU (w.alloc o) g l := Blk.alloc h o
theorem RU.made (w : World) (n : Nat) : RU (w.alloc (.cells (List.replicate n (Value.int .u64 0)).toArray 42)) w.heap.size (List.replicate n 0) := by
  have := Blk.new w 42 (List.replicate n (Value.int .u64 0)).toArray
  unfold RU
  rw [List.map_replicate]
  exact this
theorem RU.sl {F : Nat → Prop} (h : RU w g l) (hF : F g) {c : Nat} (hc : l.length ≤ c) (hl : l.length ≤ 140737488355328) : SlU F w (.slice (some ⟨g, 0, none⟩) l.length c) l := by
  refine SlU.intro _ rfl hc hl fun i hi => ⟨⟨g, 0, none⟩, rfl, hF, ?_⟩
  have := h.cell hi
  cases i with
  | zero => exact this
  | succ i => simpa [Addr.add] using this
end
end Go.Proofs.YtnfpjcjlapljjaaGreatDoor
namespace Go.Proofs.YtnfpjcjlapljjaaGreatDoor
open Go Go.RowKit
namespace Big
/-- The order of two numbers. -/
def cmp (a b : Nat) : Int := if a < b then -1 else if b < a then 1 else 0
theorem cmp_add (k a b : Nat) : cmp (k + a) (k + b) = cmp a b := by
  unfold cmp
  simp only [Nat.add_lt_add_iff_left]
theorem cmp_digits : ∀ (x y : List UInt8), x.length = y.length → (∀ c ∈ x, 48 ≤ c.toNat ∧ c.toNat ≤ 57) → (∀ c ∈ y, 48 ≤ c.toNat ∧ c.toNat ≤ 57) → Lib.compareBytes x y = cmp (decV x) (decV y)
  | [], [], _, _, _ => rfl
  | [], _ :: _, h, _, _ => by simp at h
  | _ :: _, [], h, _, _ => by simp at h
  | a :: x, b :: y, h, hx, hy => by
    have hl : x.length = y.length := by simpa using h
    have ih := cmp_digits x y hl (fun c hc => hx c (List.mem_cons_of_mem _ hc)) (fun c hc => hy c (List.mem_cons_of_mem _ hc))
    have ha := hx a List.mem_cons_self
    have hb := hy b List.mem_cons_self
    have lx := decV_lt (l := x) fun c hc => hx c (List.mem_cons_of_mem _ hc)
    have ly := decV_lt (l := y) fun c hc => hy c (List.mem_cons_of_mem _ hc)
    have ea : decV (a :: x) = (a.toNat - 48) * 10 ^ x.length + decV x := by
      rw [show a :: x = [a] ++ x from rfl, decV_append]
      show (10 * 0 + (a.toNat - 48)) * _ + _ = _
      rw [Nat.mul_zero, Nat.zero_add]
    have eb : decV (b :: y) = (b.toNat - 48) * 10 ^ x.length + decV y := by
      rw [show b :: y = [b] ++ y from rfl, decV_append, hl]
      show (10 * 0 + (b.toNat - 48)) * _ + _ = _
      rw [Nat.mul_zero, Nat.zero_add]
    rw [← hl] at ly
    rw [ea, eb]
    unfold Lib.compareBytes
    have hlt : (a < b) ↔ a.toNat < b.toNat := UInt8.lt_iff_toNat_lt
    have hgt : (b < a) ↔ b.toNat < a.toNat := UInt8.lt_iff_toNat_lt
    by_cases h1 : a < b
    · rw [if_pos h1]
      have h2 := hlt.1 h1
      have : (a.toNat - 48 + 1) * 10 ^ x.length ≤ (b.toNat - 48) * 10 ^ x.length := Nat.mul_le_mul_right _ (by omega)
      rw [Nat.add_mul, Nat.one_mul] at this
      unfold cmp
      rw [if_pos (by omega)]
    · rw [if_neg h1]
      by_cases h2 : b < a
      · rw [if_pos h2]
        have h3 := hgt.1 h2
        have : (b.toNat - 48 + 1) * 10 ^ x.length ≤ (a.toNat - 48) * 10 ^ x.length := Nat.mul_le_mul_right _ (by omega)
        rw [Nat.add_mul, Nat.one_mul] at this
        unfold cmp
        rw [if_neg (by omega), if_pos (by omega)]
      · rw [if_neg h2, ih]
        have e : a.toNat = b.toNat := by
          have h3 : ¬ a.toNat < b.toNat := fun q => h1 (hlt.2 q)
          have h4 : ¬ b.toNat < a.toNat := fun q => h2 (hgt.2 q)
          omega
        rw [e, cmp_add]
theorem nDigits_lt {u : Nat} (k : Nat) (hk : 0 < k) : Lib.nDigits u ≤ k ↔ u < 10 ^ k := by
  induction k generalizing u with
  | zero => omega
  | succ k ih =>
    by_cases h : u < 10
    · rw [Lib.nDigits_small h]
      have : 1 ≤ 10 ^ k := Nat.pow_pos (by decide)
      rw [Nat.pow_succ]
      omega
    · rw [Lib.nDigits_big h]
      rcases Nat.eq_zero_or_pos k with rfl | hk0
      · have := Lib.nDigits_pos (u / 10)
        simp
        omega
      · have := ih (u := u / 10) hk0
        rw [Nat.pow_succ]
        omega
/-- Numbers are compared as their digits: the longer, or else by bytes. -/
theorem cmp_dec (a b : Nat) : cmp a b = if Lib.nDigits a < Lib.nDigits b then -1 else if Lib.nDigits b < Lib.nDigits a then 1 else Lib.compareBytes (Lib.decDigits a) (Lib.decDigits b) := by
  have pa := Lib.nDigits_pos a
  have pb := Lib.nDigits_pos b
  by_cases h1 : Lib.nDigits a < Lib.nDigits b
  · rw [if_pos h1]
    have h2 := (nDigits_lt (u := a) (Lib.nDigits a) pa).1 (Nat.le_refl _)
    have h3 : ¬ b < 10 ^ Lib.nDigits a := fun q => by
      have := (nDigits_lt (u := b) (Lib.nDigits a) pa).2 q
      omega
    unfold cmp
    rw [if_pos (by omega)]
  · rw [if_neg h1]
    by_cases h4 : Lib.nDigits b < Lib.nDigits a
    · rw [if_pos h4]
      have h2 := (nDigits_lt (u := b) (Lib.nDigits b) pb).1 (Nat.le_refl _)
      have h3 : ¬ a < 10 ^ Lib.nDigits b := fun q => by
        have := (nDigits_lt (u := a) (Lib.nDigits b) pb).2 q
        omega
      unfold cmp
      rw [if_neg (by omega), if_pos (by omega)]
    · rw [if_neg h4, cmp_digits _ _ (by rw [Lib.decDigits_length, Lib.decDigits_length]; omega) (dec_digit a) (dec_digit b), decV_dec, decV_dec]
/-- The digits that the limbs from one on say. -/
theorem dec_limb {n k x : Nat} (h : (lim n)[k]? = some x) (hq : n / bs ^ (k + 1) ≠ 0) : Lib.decDigits (n / bs ^ k) = Lib.decDigits (n / bs ^ (k + 1)) ++ (List.replicate (9 - Lib.nDigits x) 48 ++ Lib.decDigits x) := by
  obtain ⟨h1, h2⟩ := lim_get h
  have hx : x < 10 ^ 9 := by rw [h1]; exact Nat.mod_lt _ (by decide)
  rw [← h2, ← pad_dec 9 x hx (by decide)]
  exact dec_pad hq 9 x hx
theorem lim_last (n : Nat) : ∀ x, (lim n).getLast? = some x → x ≠ 0 := by
  induction n using Nat.strongRecOn with
  | ind n ih =>
    intro x hx
    by_cases h : n = 0
    · subst h; rw [lim_zero] at hx; simp at hx
    · rw [lim_pos h] at hx
      by_cases h2 : n / bs = 0
      · rw [h2, lim_zero] at hx
        have : n % bs = x := by simpa using hx
        have h3 : n < bs := (Nat.div_eq_zero_iff_lt (by decide)).1 h2
        rw [Nat.mod_eq_of_lt h3] at this
        omega
      · rw [lim_pos h2, List.getLast?_cons_cons, ← lim_pos h2] at hx
        exact ih (n / bs) (Nat.div_lt_self (by omega) (by decide)) x hx
theorem lim_len_iff {n k : Nat} : k < (lim n).length ↔ n / bs ^ k ≠ 0 := by
  have h := val_drop (lim_ok n) k
  rw [val_lim] at h
  rw [← h]
  constructor
  · intro hk e
    have hd : (lim n).drop k ≠ [] := fun q => by
      have := congrArg List.length q
      rw [List.length_drop] at this
      simp at this
      omega
    have h2 := lim_val (l := (lim n).drop k) (fun x hx => lim_ok n x (List.mem_of_mem_drop hx)) (fun x hx => by
      rw [List.getLast?_drop, if_neg (by omega)] at hx
      exact lim_last n x hx)
    rw [e, lim_zero] at h2
    exact hd h2.symm
  · intro h2
    apply Classical.byContradiction
    intro hk
    rw [List.drop_of_length_le (by omega)] at h2
    exact h2 rfl
end Big
end Go.Proofs.YtnfpjcjlapljjaaGreatDoor
namespace Go.Proofs.YtnfpjcjlapljjaaGreatDoor
open Go Go.RowKit Go.Shelf
theorem size_mag (w : World) : (sizeOf (Tryz.prog.elem 166)).run Tryz.prog w = .ok 1 w := by kernel_rfl
theorem run_mto (w : World) (A : Option Addr) (n c k : Nat) (i : Int) (hi : i = (k : Int)) (hk : k ≤ n) (hc : n ≤ c) : (Instr.slice 166 (.slice A n c) none (some (.int .i64 i)) none).run Tryz.prog w = .ok (.slice A k c) w := by
  subst hi
  rw [run_slice_h w 166 A n c (by kernel_rfl) .i64 k (by omega) (by omega), size_mag]
  show Result.ok (sliced A 0 k c 1) w = _
  unfold sliced
  cases A with
  | none => simp
  | some a =>
    simp
    intro _
    rfl
set_option maxRecDepth 100000 in
set_option maxHeartbeats 2000000 in
theorem trim_any (F : Nat → Prop) (v : Value) (l : List Nat) (hok : Big.ok l) (w : World) (hv : SlU F w v l) : Calls Tryz.prog 88 #[v] w fun e w' => (∃ v', e = .returned v' ∧ SlU F w v' (Big.lim (Big.val l))) ∧ w' = w := by
  obtain ⟨A, c, rfl, hc, hlen, hat⟩ := hv.open
  obtain ⟨n, hn⟩ : ∃ n, l.length = n := ⟨_, rfl⟩
  have HV := Lib.hid hv
  have HAT := Lib.hid hat
  have HOK := Lib.hid hok
  have HN := Lib.hid hn
  rw [hn] at HV hc hlen ⊢
  clear hv hat hok hn
  go_enter Tryz.func88, Tryz.ntmps88
  go_upto_region 1 with fail
  go_loopg [0] (n + 1) (fun gg s0 wr => ∃ k : Nat, k ≤ n ∧ k ≤ gg ∧ s0 = .slice A k c ∧ Aside (Big.trimF l k) ∧ wr = w)
  case atStart => exact ⟨n, by omega, by omega, rfl, (show Big.trimF l n from ⟨by rw [HN.out]; omega, by rw [← HN.out]; simp⟩), rfl⟩
  case round =>
    obtain ⟨k, hk, hgg, rfl, HT, rfl⟩ := hrel
    replace HT : Hid (Big.trimF l k) := Lib.hid HT
    by_cases h0 : k = 0
    · subst h0
      go_wp2_with fail
      go_ret
      refine ⟨⟨_, rfl, ?_⟩, rfl⟩
      have h := HV.out.to (k := 0) (by omega)
      rw [Big.trim_lim HOK.out HT.out (.inl rfl)] at h
      exact h
    · obtain ⟨j, rfl⟩ : ∃ j, k = j + 1 := ⟨k - 1, by omega⟩
      have hj : j < l.length := by rw [HN.out]; omega
      obtain ⟨ad, rfl, -, hcell⟩ := HAT.out j hj
      obtain ⟨x, hx⟩ : ∃ x, l[j] = x := ⟨_, rfl⟩
      rw [hx] at hcell
      have hpos : (0 : Int) < (j : Int) + 1 := by omega
      have hs : ∀ W, (Instr.slice 166 (.slice (some ad) (j + 1) c) none (some (.int .i64 (j : Int))) none).run Tryz.prog W = .ok (.slice (some ad) j c) W := fun W => run_mto W (some ad) (j + 1) c j _ rfl (by omega) (by omega)
      have HX := Lib.hid hx
      by_cases hx0 : x = 0
      · subst hx0
        go_wp2_with fail
        go_roundg j
        case measure => omega
        case rel => exact ⟨j, by omega, by omega, rfl, (show Big.trimF l j from Big.trim_step HT.out (by rw [List.getElem?_eq_getElem hj, HX.out])), rfl⟩
      · have hxI : ¬ (x : Int) = 0 := by omega
        go_wp2_with fail
        go_ret
        refine ⟨⟨_, rfl, ?_⟩, rfl⟩
        have h := HV.out.to (k := j + 1) (by omega)
        rw [Big.trim_lim HOK.out HT.out (.inr ⟨x, by rw [Nat.add_sub_cancel, List.getElem?_eq_getElem hj, HX.out], hx0⟩)] at h
        exact h
end Go.Proofs.YtnfpjcjlapljjaaGreatDoor
namespace Go.Proofs.YtnfpjcjlapljjaaGreatDoor
open Go Go.RowKit Go.Shelf
theorem run_mkU (W : World) (L : Nat) (i : Int) (hi : i = (L : Int)) (hL : L ≤ 1000000) : (Instr.makeSlice 166 (.int .i64 i) (.int .i64 i)).run Tryz.prog W = .ok (.slice (some ⟨W.heap.size, 0, none⟩) L L) (W.alloc (.cells (Array.replicate L (Value.int .u64 0)) 42)) := by
  subst hi
  exact run_make1 (P := Tryz.prog) (t := 166) (e := 42) (z := .int .u64 0) (bytes := 8) Tryz.underlying166 (by kernel_rfl) rfl _ L rfl (by omega) (by decide) W
set_option maxRecDepth 100000 in
set_option maxHeartbeats 4000000 in
theorem times_any (F G : Nat → Prop) (v1 v2 : Value) (m n : List Nat) (hm : Big.ok m) (hn : Big.ok n) (hm2 : m.length ≤ 100000) (hn2 : n.length ≤ 100000) (w : World) (hF : ∀ b, F b → b < w.heap.size) (hG : ∀ b, G b → b < w.heap.size) (hv1 : SlU F w v1 m) (hv2 : SlU G w v2 n) :
    Calls Tryz.prog 73 #[v1, v2] w fun e w' => (∃ v', e = .returned v' ∧ SlU (fun b => w.heap.size ≤ b ∧ b < w'.heap.size) w' v' (Big.lim (Big.val m * Big.val n))) ∧ Below w.heap.size w w' := by
  obtain ⟨A1, c1, rfl, hc1, hlen1, hat1⟩ := hv1.open
  obtain ⟨A2, c2, rfl, hc2, hlen2, hat2⟩ := hv2.open
  have HAT1 := Lib.hid hat1
  have HAT2 := Lib.hid hat2
  have HF := Lib.hid hF
  have HG := Lib.hid hG
  have HM := Lib.hid hm
  have HN := Lib.hid hn
  obtain ⟨g, hg⟩ : ∃ g, w.heap.size = g := ⟨_, rfl⟩
  obtain ⟨w1, hw1⟩ : ∃ w1 : World, w.alloc (.cells (Array.replicate (m.length + n.length + 1) (Value.int .u64 0)) 42) = w1 := ⟨_, rfl⟩
  have HR1 := Lib.hid (show RU w1 g (List.replicate (m.length + n.length + 1) 0) by rw [← hw1, ← hg]; exact RU.made w _)
  have HB1 := Lib.hid (show Below w.heap.size w w1 by rw [← hw1]; exact Ba (B0 w) _)
  have HT0 := Lib.hid (Big.TO.start m n)
  obtain ⟨a, ha⟩ : ∃ a, m.length = a := ⟨_, rfl⟩
  obtain ⟨b, hb⟩ : ∃ b, n.length = b := ⟨_, rfl⟩
  have HLA := Lib.hid ha
  have HLB := Lib.hid hb
  rw [ha] at hc1 hlen1 hm2 hw1 HR1 HT0 ⊢
  rw [hb] at hc2 hlen2 hn2 hw1 HR1 HT0 ⊢
  obtain ⟨L, hL⟩ : ∃ L, a + b + 1 = L := ⟨_, rfl⟩
  rw [hL] at hw1 HR1 HT0
  have hmk : ∀ W, (Instr.makeSlice 166 (.int .i64 ((a : Int) + (b : Int) + 1)) (.int .i64 ((a : Int) + (b : Int) + 1))).run Tryz.prog W = .ok (.slice (some ⟨W.heap.size, 0, none⟩) L L) (W.alloc (.cells (Array.replicate L (Value.int .u64 0)) 42)) := fun W => run_mkU W L _ (by omega) (by omega)
  have HL := Lib.hid hL
  have HW1 := Lib.hid hw1
  have HGG := Lib.hid hg
  have hLI : (L : Int) = (a : Int) + b + 1 := by omega
  have HLI := Lib.hid hLI
  clear hat1 hat2 hF hG hm hn ha hb hL hw1 hg hv1 hv2 hLI
  go_enter Tryz.func73, Tryz.ntmps73
  go_upto_region 3 with fail
  rw [HW1.out, HGG.out]
  go_loopg [21] (a + 1) (fun gg s21 wr => ∃ i : Nat, i ≤ a ∧ a - i ≤ gg ∧ s21 = .int .i64 i ∧ Aside (∃ out, Big.TO m n i out ∧ RU wr g out) ∧ Aside (Below w.heap.size w wr))
  case atStart => exact ⟨0, by omega, by omega, rfl, ⟨_, HT0.out, HR1.out⟩, HB1.out⟩
  case round =>
    clear HR1 HB1 HT0 hmk
    obtain ⟨i, hi, hgg, rfl, HO, HB⟩ := hrel
    replace HO : Hid (∃ out, Big.TO m n i out ∧ RU wr g out) := Lib.hid HO
    replace HB : Hid (Below w.heap.size w wr) := Lib.hid HB
    obtain ⟨wo, rfl⟩ : ∃ wo : World, wo = wr := ⟨_, rfl⟩
    by_cases hlt : i < a
    · have hltI : (i : Int) < a := by omega
      have him : i < m.length := by rw [HLA.out]; exact hlt
      obtain ⟨ad1, rfl, hf1, hcell1⟩ := HAT1.out i him
      have p1 : wo.cell? (ad1.add i) = some (.int .u64 (m[i] : Int)) := (HB.out.cell (p := ad1.add i) (by rw [block_of_add]; exact HF.out _ hf1)).trans hcell1
      obtain ⟨x, hx⟩ : ∃ x, m[i] = x := ⟨_, rfl⟩
      rw [hx] at p1
      have HX := Lib.hid hx
      have hxl : x < 1000000000 := by rw [← hx]; exact HM.out _ (List.getElem_mem him)
      clear hcell1 hf1 hx
      go_upto_region 7 with fail
      go_loopg [8, 28] (b + 1) (fun gg s8 s28 wr => ∃ k carry : Nat, k ≤ b ∧ b - k ≤ gg ∧ s28 = .int .i64 k ∧ s8 = .int .u64 carry ∧ carry < 1000000000 ∧ Aside (∃ out, Big.TI m n i k out carry ∧ RU wr g out) ∧ Aside (Below w.heap.size w wr))
      case atStart =>
        obtain ⟨out, q1, q2⟩ := HO.out
        exact ⟨0, 0, by omega, by omega, rfl, rfl, by omega, ⟨out, q1.row, q2⟩, HB.out⟩
      case round =>
        clear HO HB p1
        obtain ⟨k, carry, hk, hgk, rfl, rfl, hcy, HO, HB⟩ := hrel
        replace HO : Hid (∃ out, Big.TI m n i k out carry ∧ RU wr g out) := Lib.hid HO
        replace HB : Hid (Below w.heap.size w wr) := Lib.hid HB
        obtain ⟨wo, rfl⟩ : ∃ wo : World, wo = wr := ⟨_, rfl⟩
        by_cases hkt : k < b
        · have hktI : (k : Int) < b := by omega
          have hkn : k < n.length := by rw [HLB.out]; exact hkt
          obtain ⟨ad2, rfl, hf2, hcell2⟩ := HAT2.out k hkn
          have p2 : wo.cell? (ad2.add k) = some (.int .u64 (n[k] : Int)) := (HB.out.cell (p := ad2.add k) (by rw [block_of_add]; exact HG.out _ hf2)).trans hcell2
          obtain ⟨y, hy⟩ : ∃ y, n[k] = y := ⟨_, rfl⟩
          rw [hy] at p2
          have HY := Lib.hid hy
          have hyl : y < 1000000000 := by rw [← hy]; exact HN.out _ (List.getElem_mem hkn)
          obtain ⟨out, hti, hru⟩ := HO.out
          have hol : out.length = L := by rw [hti.len, HLA.out, HLB.out, HL.out]
          have hj : i + k < out.length := by rw [hol, ← HL.out]; omega
          have p3 := hru.cell hj
          have f3 := hru.fro (i + k)
          obtain ⟨z, hz⟩ : ∃ z, out[i + k] = z := ⟨_, rfl⟩
          rw [hz] at p3
          have hzl : z < 1000000000 := by rw [← hz]; exact hti.ok _ (List.getElem_mem hj)
          have hxy : x * y ≤ 999999998000000001 := Nat.mul_le_mul (show x ≤ 999999999 by omega) (show y ≤ 999999999 by omega)
          have hxyI : (x : Int) * (y : Int) ≤ 999999998000000001 := by
            have := Int.ofNat_le.2 hxy
            rw [Int.natCast_mul] at this
            exact this
          have hxy0 : (0 : Int) ≤ (x : Int) * (y : Int) := Int.mul_nonneg (by omega) (by omega)
          have hjI : (i : Int) + k < L := by rw [HLI.out]; omega
          have HTI := Lib.hid hti
          have HRU := Lib.hid hru
          have HZ := Lib.hid hz
          clear hti hru hz hol hcell2 hf2 hy
          go_upto_region 10 with fail
          obtain ⟨t, ht⟩ : ∃ t : Nat, z + x * y + carry = t := ⟨_, rfl⟩
          have htI : (z : Int) + (x : Int) * (y : Int) + (carry : Int) = (t : Int) := by
            have := congrArg (fun q : Nat => (q : Int)) ht
            simpa [Int.natCast_add, Int.natCast_mul] using this
          rw [htI]
          have htl : t < 1000000000 * 1000000000 := by omega
          have HTT := Lib.hid ht
          have hst := HTI.out.step him hkn (x := t) (by rw [Big.getD_get hj, Big.getD_get him, Big.getD_get hkn, HX.out, HY.out, HZ.out]; exact HTT.out.symm) HM.out HN.out
          have HST := Lib.hid hst
          clear ht htI hxy hxyI hxy0 p2 hst
          go_wp2_with fail
          go_roundg (b - (k + 1))
          case measure => omega
          case rel => exact ⟨k + 1, t / 1000000000, by omega, by omega, by go_num, rfl, HST.out.cy, ⟨_, HST.out, HRU.out.set (i + k) (t % 1000000000)⟩, HB.out.setCell (p := ⟨g, i + k, none⟩) (Nat.le_of_eq HGG.out) _⟩
        · obtain rfl : k = b := by omega
          have hktI : ¬ (k : Int) < k := by omega
          obtain ⟨out, hti, hru⟩ := HO.out
          rw [← HLB.out] at hti
          have hfi := hti.finish him
          have hol : out.length = L := by rw [hti.len, HLA.out, HLB.out, HL.out]
          have hj : i + k < out.length := by rw [hol, ← HL.out]; omega
          have hz0 : out[i + k] = 0 := by
            have := hti.zero (i + k) (by rw [HLB.out]; omega) hj
            rwa [Big.getD_get hj] at this
          have p3 := hru.cell hj
          have f3 := hru.fro (i + k)
          rw [hz0] at p3
          rw [HLB.out, Big.getD_get hj, hz0, Nat.zero_add] at hfi
          have hjI : (i : Int) + k < L := by rw [HLI.out]; omega
          have HFI := Lib.hid hfi
          have HRU := Lib.hid hru
          clear hti hru hfi hol hz0
          go_wp2_with fail
          go_roundg (a - (i + 1))
          case measure => omega
          case rel => exact ⟨i + 1, by omega, by omega, by go_num, ⟨_, HFI.out, HRU.out.set (i + k) carry⟩, HB.out.setCell (p := ⟨g, i + k, none⟩) (Nat.le_of_eq HGG.out) _⟩
    · obtain rfl : i = a := by omega
      have hltI : ¬ (i : Int) < i := by omega
      obtain ⟨out, hto, hru⟩ := HO.out
      rw [← HLA.out] at hto
      have hol : out.length = L := by rw [hto.len, HLA.out, HLB.out, HL.out]
      have hTR := trim_any (fun b' => b' = g) (.slice (some ⟨g, 0, none⟩) L L) out hto.ok wo (by rw [← hol]; exact hru.sl (F := fun b' => b' = g) rfl (Nat.le_refl _) (by rw [hol, ← HL.out]; omega))
      rw [hto.done] at hTR
      have HTR := Lib.hid hTR
      have HGL := Lib.hid hru.lt
      clear hto hru hTR hol
      go_wp2_with (go_at_call 88; (with_reducible refine (HTR.out.mono ?_)); rintro e w9 ⟨⟨v9, rfl, hv9⟩, rfl⟩; have HV9 := Lib.hid hv9; clear hv9)
      go_ret
      refine ⟨⟨_, rfl, Sl.mono HV9.out fun b' q => ?_⟩, HB.out⟩
      subst q
      exact ⟨Nat.le_of_eq HGG.out, HGL.out⟩
end Go.Proofs.YtnfpjcjlapljjaaGreatDoor
namespace Go.Proofs.YtnfpjcjlapljjaaGreatDoor
open Go Go.RowKit Go.Shelf
theorem infoMg : (Tryz.prog.info? 42).map (fun i => (i.zero, i.size, i.bytes)) = some (some (.int .u64 0), 1, 8) := by kernel_rfl
theorem elemMg : ElemN Tryz.prog 166 42 1 8 := ⟨Tryz.underlying166, by
  obtain ⟨i, hi, hz, hs, hb⟩ := info_parts infoMg
  exact ⟨i, _, hi, hz, hs, hb, rfl⟩⟩
theorem conv_bytes (w : World) (s : ByteArray) : (convert 9 132 (.string s)).run Tryz.prog w = .ok (.slice (some ⟨w.heap.size, 0, none⟩) s.size (grownCap w s.size 0 5)) (Lib.bytesWorld w 5 s) :=
  Lib.run_convert_string_bytes w _ _ _ s Tryz.underlying9 Tryz.underlying132 Tryz.underlying5
theorem below_bw (w : World) (e : TypeId) (t : ByteArray) : Below w.heap.size w (Lib.bytesWorld w e t) :=
  ⟨rfl, rfl, rfl, by rw [Lib.bytesWorld_size]; omega, fun k hk => Lib.bytesWorld_at_old w e t k hk⟩
namespace Big
def digs (l : List UInt8) : Prop := ∀ c ∈ l, 48 ≤ c.toNat ∧ c.toNat ≤ 57
theorem decV_take_next {l : List UInt8} {k : Nat} (hk : k < l.length) : decV (l.take (k + 1)) = 10 * decV (l.take k) + (l[k].toNat - 48) := by
  rw [List.take_add_one, List.getElem?_eq_getElem hk]
  show decV (l.take k ++ [l[k]]) = _
  rw [decV_append]
  show decV (l.take k) * 10 ^ 1 + (10 * 0 + (l[k].toNat - 48)) = _
  omega
/-- One limb more. -/
theorem chunk {D : List UInt8} {l : List Nat} {h : Nat} (hD : digs D) (hl : D.length = h + 9 * l.length) (hv : val l = decV (D.drop h)) (ho : ok l) :
    val (l ++ [decV ((D.drop (h - 9)).take (h - (h - 9)))]) = decV (D.drop (h - 9)) ∧ ok (l ++ [decV ((D.drop (h - 9)).take (h - (h - 9)))]) := by
  have hd : digs ((D.drop (h - 9)).take (h - (h - 9))) := fun c hc => hD c (List.mem_of_mem_drop (List.mem_of_mem_take hc))
  have hlen : ((D.drop (h - 9)).take (h - (h - 9))).length = h - (h - 9) := by rw [List.length_take, List.length_drop]; omega
  have hlt := decV_lt hd
  rw [hlen] at hlt
  have h9 : 10 ^ (h - (h - 9)) ≤ 10 ^ 9 := Nat.pow_le_pow_right (by decide) (by omega)
  refine ⟨?_, ok_append.2 ⟨ho, fun x hx => ?_⟩⟩
  · rw [val_snoc, hv]
    have e : D.drop (h - 9) = (D.drop (h - 9)).take (h - (h - 9)) ++ D.drop h := by
      conv => lhs; rw [← List.take_append_drop (h - (h - 9)) (D.drop (h - 9))]
      rw [List.drop_drop]
      congr 2
      omega
    conv => rhs; rw [e, decV_append]
    rw [List.length_drop, show D.length - h = 9 * l.length by omega, Nat.pow_mul, Nat.mul_comm, Nat.add_comm]
  · obtain rfl := List.mem_singleton.1 hx
    exact Nat.lt_of_lt_of_le hlt h9
end Big
theorem run_sub (w : World) (s : ByteArray) (i j : Int) (lo hi : Nat) (h1 : i = (lo : Int)) (h2 : j = (hi : Int)) (h3 : lo ≤ hi) (h4 : hi ≤ s.size) : (Instr.slice 9 (.string s) (some (.int .i64 i)) (some (.int .i64 j)) none).run Tryz.prog w = .ok (.string (s.extract lo hi)) w := by
  subst h1 h2
  have ht : Tryz.prog.underlying 9 = some .string := Tryz.underlying9
  simp [Instr.slice, run_underlying ht, Instr.sliceBounds, run_sliceBound, sliced, h3, h4, go_sem]
theorem extract_list (s : ByteArray) (lo hi : Nat) : (s.extract lo hi).data.toList = (s.data.toList.drop lo).take (hi - lo) := by
  rw [ByteArray.data_extract, Array.toList_extract, List.extract_eq_take_drop]
set_option maxRecDepth 100000 in
set_option maxHeartbeats 4000000 in
theorem long_any (s : ByteArray) (hD : Big.digs s.data.toList) (hs : s.size ≤ 100000) (w : World) :
    Calls Tryz.prog 82 #[.string s] w fun e w' => (∃ v', e = .returned v' ∧ SlU (fun b => w.heap.size ≤ b ∧ b < w'.heap.size) w' v' (Big.lim (Big.decV s.data.toList))) ∧ Below w.heap.size w w' := by
  obtain ⟨D, hDD⟩ : ∃ D, s.data.toList = D := ⟨_, rfl⟩
  have HDD := Lib.hid hDD
  obtain ⟨L, hL⟩ : ∃ L, s.size = L := ⟨_, rfl⟩
  have hDL : D.length = L := by rw [← hDD, ← hL, Array.length_toList]; rfl
  rw [hDD] at hD ⊢
  have HD := Lib.hid hD
  have HDL := Lib.hid hDL
  have HL := Lib.hid hL
  rw [hL] at hs
  obtain ⟨B, hB⟩ : ∃ B, w.heap.size = B := ⟨_, rfl⟩
  have HB0 := Lib.hid hB
  have hcv := fun W x => conv_bytes W x
  clear hDD hD hDL hL hB
  go_enter Tryz.func82, Tryz.ntmps82
  have hsz : s.size = L := HL.out
  go_upto_region 3 with fail
  go_loopg [3, 4] (L + 10) (fun gg s3 s4 wr => ∃ (l : List Nat) (x : Int), s4 = .int .i64 x ∧ x = (L : Int) - 9 * (l.length : Int) ∧ -9 < x ∧ x < gg - 9 ∧ Aside (OwnL B 42 1 UC wr s3 l) ∧ Aside (Big.ok l) ∧ Aside (Big.val l = Big.decV (D.drop (L - 9 * l.length))) ∧ Aside (Below w.heap.size w wr))
  case atStart => exact ⟨[], L, rfl, by simp, by omega, by omega, (show OwnL _ _ _ _ _ _ _ from OwnL.nil), (show Big.ok [] from fun x hx => by simp at hx), by rw [List.drop_of_length_le (by rw [HDL.out]; simp)]; rfl, (show Below _ _ _ from B0 w)⟩
  case round =>
    obtain ⟨l, x, rfl, hx, hx1, hx2, HO, HOK, HV, HB⟩ := hrel
    replace HO : Hid (OwnL B 42 1 UC wr u3 l) := Lib.hid HO
    replace HOK : Hid (Big.ok l) := Lib.hid HOK
    replace HV : Hid (Big.val l = Big.decV (D.drop (L - 9 * l.length))) := Lib.hid HV
    replace HB : Hid (Below w.heap.size w wr) := Lib.hid HB
    obtain ⟨wo, rfl⟩ : ∃ wo : World, wo = wr := ⟨_, rfl⟩
    obtain ⟨ga, rfl⟩ : ∃ ga : Nat, ga = gk := ⟨_, rfl⟩
    by_cases hx0 : 0 < x
    · obtain ⟨h, rfl⟩ : ∃ h : Nat, x = h := ⟨x.toNat, by omega⟩
      obtain ⟨len, hlen⟩ : ∃ n, l.length = n := ⟨_, rfl⟩
      rw [hlen] at hx
      have hh : L - 9 * len = h := by omega
      have hLh : L = h + 9 * len := by omega
      rw [hlen, hh] at HV
      obtain ⟨lo, hlo⟩ : ∃ lo, h - 9 = lo := ⟨_, rfl⟩
      have hck := Big.chunk HD.out (by rw [HDL.out, hlen]; exact hLh) HV.out HOK.out
      rw [hlo] at hck
      have hsl : ∀ W, (Instr.slice 9 (.string s) (some (.int .i64 (lo : Int))) (some (.int .i64 (h : Int))) none).run Tryz.prog W = .ok (.string (s.extract lo h)) W := fun W => run_sub W s _ _ lo h rfl rfl (by omega) (by rw [HL.out]; omega)
      have hmxr : ∀ (ts : Array TypeId) (t : TypeId) W, (Builtin.max_ ts t #[.int .i64 ((h : Int) - 9), .int .i64 0]).run Tryz.prog W = .ok (.int .i64 (lo : Int)) W := fun ts t W => by
        rw [run_max_int2]
        congr 2
        split <;> omega
      obtain ⟨s2, hs2⟩ : ∃ s2, s.extract lo h = s2 := ⟨_, rfl⟩
      have hs2l : s2.data.toList = (D.drop lo).take (h - lo) := by rw [← hs2, extract_list, HDD.out]
      obtain ⟨n, hn⟩ : ∃ n, s2.size = n := ⟨_, rfl⟩
      have hsn : n = h - lo := by
        rw [← hn, show s2.size = s2.data.toList.length by rw [Array.length_toList]; rfl, hs2l, List.length_take, List.length_drop, HDL.out]
        omega
      rw [hs2] at hsl
      obtain ⟨ck, hckk⟩ : ∃ ck, (D.drop lo).take (h - lo) = ck := ⟨_, rfl⟩
      rw [hckk] at hck hs2l
      have hckl : ck.length = n := by rw [← hckk, List.length_take, List.length_drop, HDL.out]; omega
      have hckd : Big.digs ck := fun c hc => HD.out c (by rw [← hckk] at hc; exact List.mem_of_mem_drop (List.mem_of_mem_take hc))
      have hcv2 := hcv wo s2
      obtain ⟨cp, hcp⟩ : ∃ cp, grownCap wo s2.size 0 5 = cp := ⟨_, rfl⟩
      rw [hcp, hn] at hcv2
      have HCK := Lib.hid hck
      have HCKL := Lib.hid hckl
      have HCKD := Lib.hid hckd
      have HS2L := Lib.hid hs2l
      have HNN := Lib.hid hn
      have HLEN := Lib.hid hlen
      have HHH := Lib.hid hh
      have HLO := Lib.hid hlo
      have HHX := Lib.hid hx
      have HLH := Lib.hid hLh
      have HSN := Lib.hid hsn
      have hn9 : n ≤ 9 := by omega
      have hhL : h ≤ L := by omega
      clear hlen hh hlo hck hs2 hs2l hckl hckk hckd hcv hcp hn hx hLh hsn
      go_upto_region 7 with fail
      obtain ⟨w2, hw2⟩ : ∃ w2, Lib.bytesWorld wo 5 s2 = w2 := ⟨_, rfl⟩
      have hcell : ∀ k (hk : k < ck.length), w2.cell? ⟨wo.heap.size, k, none⟩ = some (.int .u8 (ck[k].toNat : Int)) := fun k hk => by
        rw [← hw2, Lib.bytesWorld_cell wo 5 s2 k (by rw [HNN.out, ← HCKL.out]; exact hk), HS2L.out]
        congr 3
        rw [List.getD_eq_getElem?_getD, List.getElem?_eq_getElem hk]
        rfl
      have hb2 : Below wo.heap.size wo w2 := by rw [← hw2]; exact below_bw wo _ s2
      have HCE := Lib.hid hcell
      have HB2 := Lib.hid hb2
      rw [hw2]
      clear hw2 hcell hb2 hcv2 hsl hmxr
      go_loopg [5, 22] (n + 1) (fun gg s5 s22 wr => ∃ k : Nat, k ≤ n ∧ n - k ≤ gg ∧ s22 = .int .i64 k ∧ s5 = .int .u64 (Big.decV (ck.take k) : Nat) ∧ wr = w2)
      case atStart => exact ⟨0, by omega, by omega, rfl, rfl, rfl⟩
      case round =>
        obtain ⟨k, hk, hgk, rfl, rfl, rfl⟩ := hrel
        obtain ⟨w2, rfl⟩ : ∃ w2 : World, w2 = wr := ⟨_, rfl⟩
        obtain ⟨lv, hlv⟩ : ∃ lv, Big.decV (ck.take k) = lv := ⟨_, rfl⟩
        have hdt : Big.digs (ck.take k) := fun c hc => HCKD.out c (List.mem_of_mem_take hc)
        have hlvl := Big.decV_lt hdt
        rw [hlv, List.length_take, HCKL.out, Nat.min_eq_left hk] at hlvl
        have hp9 : 10 ^ k ≤ 10 ^ 9 := Nat.pow_le_pow_right (by decide) (by omega)
        have hlv9 : lv < 1000000000 := Nat.lt_of_lt_of_le hlvl hp9
        rw [hlv]
        by_cases hkt : k < n
        · have hktI : (k : Int) < n := by omega
          have hkc : k < ck.length := by rw [HCKL.out]; exact hkt
          have p1 := HCE.out k hkc
          have hd := HCKD.out ck[k] (List.getElem_mem hkc)
          have hnx := Big.decV_take_next hkc
          rw [hlv] at hnx
          obtain ⟨cb, hcb⟩ : ∃ cb, ck[k].toNat = cb := ⟨_, rfl⟩
          rw [hcb] at p1 hd hnx
          have HNX := Lib.hid hnx
          have hd1 : (48 : Int) ≤ cb := by omega
          have hd2 : (cb : Int) ≤ 57 := by omega
          have hlvI : (lv : Int) < 1000000000 := by omega
          clear hlv hdt hlvl hp9 hnx hcb hd
          go_wp2_with fail
          go_roundg (n - (k + 1))
          case measure => omega
          case rel => exact ⟨k + 1, by omega, by omega, by go_num, by rw [HNX.out]; congr 1; omega, rfl⟩
        · obtain rfl : k = n := by omega
          have hktI : ¬ (k : Int) < k := by omega
          have htk : ck.take k = ck := List.take_of_length_le (by rw [HCKL.out]; exact Nat.le_refl _)
          rw [htk] at hlv
          have hO2 : OwnL B 42 1 UC w2 u3 l := HO.out.keep (R' := UC) rfl (fun _ hx => hx.kept (only_of_below HB2.out none) (by cases u3.ownBlock with
            | none => exact .inl rfl
            | some g => exact .inr fun e => by cases e)) fun _ _ h => h
          have HO2 := Lib.hid hO2
          obtain ⟨cs, q1, q2, q3⟩ := id hO2
          rw [HLEN.out] at q3
          have HQ1 := Lib.hid q1
          have HQ2 := Lib.hid q2
          have HQ3 := Lib.hid q3
          have HLV := Lib.hid hlv
          have hlenb : len ≤ 100000 := by have := HLH.out; omega
          have hBs : B ≤ w2.heap.size := by have := HB.out.size; have := HB2.out.size; have := HB0.out; omega
          clear hlv hdt hlvl hp9 htk q1 q2 q3 hO2
          go_wp2_with (at_builtin; refine wpList_appS elemMg (by omega) rfl _ _ rfl B _ len _ rfl (HQ3.out.alloc _) ⟨_, 0, none⟩ 1 [.int .u64 (lv : Int)] rfl rfl (Flds.new _ _ _) (by simp [Value.oneCell']) (by omega) (by omega) (by simp; omega) ?_; intro g cap w8 hown8 hg8 hgg; have HO8 := Lib.hid hown8; have HG8 := Lib.hid hg8; clear hown8 hg8 hgg)
          go_roundg (ga - 9)
          case measure => omega
          case rel =>
            have hck := HCK.out
            rw [HLV.out] at hck
            refine ⟨l ++ [lv], _, rfl, ?_, ?_, ?_, ?_, hck.2, ?_, ?_⟩
            · rw [List.length_append, HLEN.out]; have := HHX.out; simp; omega
            · omega
            · omega
            · exact OwnL.snoc HQ1.out HQ2.out rfl rfl (fun _ _ h => h) (by rw [HLEN.out]; exact HO8.out)
            · show Big.val _ = _
              rw [hck.1, List.length_append, HLEN.out]
              congr 2
              have := HHH.out
              have := HLO.out
              simp
              omega
            · exact (Ba (Bt HB.out HB2.out) _).grown HG8.out (by simp; have := HB.out.size; have := HB2.out.size; omega) fun b' e => by have := (HO.out.lt b' e).1; have := HB0.out; omega
    · have hx0I : ¬ 0 < x := hx0
      have hl0 : L - 9 * l.length = 0 := by omega
      rw [hl0, List.drop_zero] at HV
      have hll : l.length ≤ 140737488355328 := by omega
      obtain ⟨A3, c3, hv3, -⟩ := HO.out.sl (F := fun b' => B ≤ b' ∧ b' < wo.heap.size) hll (fun b' h1 h2 _ => ⟨h1, h2⟩)
      have hTR := trim_any (fun b' => B ≤ b' ∧ b' < wo.heap.size) u3 l HOK.out wo (HO.out.sl hll (fun b' h1 h2 _ => ⟨h1, h2⟩))
      rw [HV.out] at hTR
      have HTR := Lib.hid hTR
      clear hTR hv3 hx hl0
      go_wp2_with (go_at_call 88; (with_reducible refine (HTR.out.mono ?_)); rintro e w9 ⟨⟨v9, rfl, hv9⟩, rfl⟩; have HV9 := Lib.hid hv9; clear hv9)
      go_ret
      exact ⟨⟨_, rfl, Sl.mono HV9.out fun b' q => ⟨by rw [HB0.out]; exact q.1, q.2⟩⟩, HB.out⟩
end Go.Proofs.YtnfpjcjlapljjaaGreatDoor
