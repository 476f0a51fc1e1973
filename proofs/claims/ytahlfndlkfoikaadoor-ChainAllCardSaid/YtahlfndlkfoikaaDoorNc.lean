/- Plain: sets of notes as words of 128 bits. Walks over noteset: isNote, with, Union, Without, Within, Has. Walks over noteset: Has, Of. -/
import Derived.Test.YtahlfndlkfoikaaDoorCovP
import Derived.Test.YtahlfndlkfoikaaDoorKa
import Derived.Laws.StructEq
namespace Go.Proofs.YtahlfndlkfoikaaDoor
open Go Go.RowKit
namespace Nt
def lo (x : Nat) : Nat := x % 2 ^ 64
def hi (x : Nat) : Nat := x >>> 64
theorem lo_test (x i : Nat) : (lo x).testBit i = (decide (i < 64) && x.testBit i) := by unfold lo; rw [Nat.testBit_mod_two_pow]
theorem hi_test (x i : Nat) : (hi x).testBit i = x.testBit (64 + i) := by unfold hi; rw [Nat.testBit_shiftRight]
theorem lo_lt (x : Nat) : lo x < 2 ^ 64 := Nat.mod_lt _ (by decide)
theorem hi_lt {x : Nat} (h : x < 2 ^ 128) : hi x < 2 ^ 64 := by unfold hi; rw [Nat.shiftRight_eq_div_pow]; omega
theorem ext2 {x y : Nat} (h1 : lo x = lo y) (h2 : hi x = hi y) : x = y := Nat.eq_of_testBit_eq fun i => by
  by_cases hi' : i < 64
  · have := congrArg (fun z => z.testBit i) h1
    simpa [lo_test, hi'] using this
  · have := congrArg (fun z => z.testBit (i - 64)) h2
    simp only [hi_test] at this
    rwa [show 64 + (i - 64) = i by omega] at this
theorem lo_or (x y : Nat) : lo (x ||| y) = lo x ||| lo y := Nat.eq_of_testBit_eq fun i => by simp [lo_test, Nat.testBit_or, Bool.and_or_distrib_left]
theorem hi_or (x y : Nat) : hi (x ||| y) = hi x ||| hi y := Nat.eq_of_testBit_eq fun i => by simp [hi_test, Nat.testBit_or]
theorem lo_andn (x y : Nat) : lo (Hit.andn x y) = Hit.andn (lo x) (lo y) := Nat.eq_of_testBit_eq fun i => by
  simp only [lo_test, Hit.andn_test]
  cases decide (i < 64) <;> simp
theorem hi_andn (x y : Nat) : hi (Hit.andn x y) = Hit.andn (hi x) (hi y) := Nat.eq_of_testBit_eq fun i => by simp [hi_test, Hit.andn_test]
theorem lo_bit {n : Nat} (h : n < 64) : lo (Hit.bit n) = Hit.bit n := Nat.eq_of_testBit_eq fun i => by
  rw [lo_test, Hit.bit_test]
  by_cases e : n = i
  · subst e; simp [h]
  · simp [e]
theorem hi_bit {n : Nat} (h : n < 64) : hi (Hit.bit n) = 0 := Nat.eq_of_testBit_eq fun i => by
  rw [hi_test, Hit.bit_test]; simp; omega
theorem lo_bit' {n : Nat} (h : 64 ≤ n) : lo (Hit.bit n) = 0 := Nat.eq_of_testBit_eq fun i => by
  rw [lo_test, Hit.bit_test]; simp; omega
theorem hi_bit' {n : Nat} (h : 64 ≤ n) : hi (Hit.bit n) = Hit.bit (n - 64) := Nat.eq_of_testBit_eq fun i => by
  rw [hi_test, Hit.bit_test, Hit.bit_test]
  exact decide_eq_decide.2 (by omega)
theorem lo_zero : lo 0 = 0 := rfl
theorem hi_zero : hi 0 = 0 := rfl
theorem zero_iff {x : Nat} : x = 0 ↔ lo x = 0 ∧ hi x = 0 := ⟨fun h => by subst h; exact ⟨rfl, rfl⟩, fun h => ext2 h.1 h.2⟩
theorem or_bit_lt {x n : Nat} (hx : x < 2 ^ 128) (hn : n < 128) : x ||| Hit.bit n < 2 ^ 128 := Nat.or_lt_two_pow hx (Hit.bit_lt hn)
/-- Is it a note? -/
def noteB (n : Int) : Bool := decide (0 ≤ n) && decide (n ≤ 127)
/-- Has the set the note? -/
def hasB (x : Nat) (n : Int) : Bool := noteB n && x.testBit n.toNat
/-- The set of a list of notes. -/
def setF : List Int → Nat → Nat
  | [], x => x
  | n :: l, x => setF l (x ||| Hit.bit n.toNat)
theorem setF_lt : ∀ {l : List Int} {x : Nat}, (∀ n ∈ l, noteB n = true) → x < 2 ^ 128 → setF l x < 2 ^ 128
  | [], _, _, hx => hx
  | n :: l, x, h, hx => by
    have h1 := h n (by simp)
    unfold noteB at h1
    simp at h1
    show setF l (x ||| Hit.bit n.toNat) < _
    exact setF_lt (l := l) (fun m hm => h m (List.mem_cons_of_mem _ hm)) (or_bit_lt hx (by omega))
theorem setF_test : ∀ {l : List Int} {x i : Nat}, (∀ n ∈ l, noteB n = true) → ((setF l x).testBit i = true ↔ x.testBit i = true ∨ (i : Int) ∈ l)
  | [], x, i, _ => by simp [setF]
  | n :: l, x, i, h => by
    have h1 := h n (by simp)
    unfold noteB at h1
    simp at h1
    unfold setF
    rw [setF_test (fun m hm => h m (List.mem_cons_of_mem _ hm)), Nat.testBit_or, Hit.bit_test, List.mem_cons]
    simp only [Bool.or_eq_true, decide_eq_true_eq]
    constructor
    · rintro ((h2 | h2) | h2)
      · exact .inl h2
      · exact .inr (.inl (by omega))
      · exact .inr (.inr h2)
    · rintro (h2 | h2 | h2)
      · exact .inl (.inl h2)
      · exact .inl (.inr (by omega))
      · exact .inr h2
theorem setF_take {l : List Int} {x k : Nat} (h : k < l.length) : setF (l.take (k + 1)) x = setF (l.take k) x ||| Hit.bit l[k].toNat := by
  have : ∀ (l : List Int) (x : Nat) (k : Nat) (h : k < l.length), setF (l.take (k + 1)) x = setF (l.take k) x ||| Hit.bit l[k].toNat := by
    intro l
    induction l with
    | nil => intro x k h; simp at h
    | cons n l ih =>
      intro x k h
      cases k with
      | zero => simp [setF]
      | succ k =>
        simp only [List.take_succ_cons, setF, List.getElem_cons_succ]
        exact ih _ k (by simpa using h)
  exact this l x k h
end Nt
end Go.Proofs.YtahlfndlkfoikaaDoor
namespace Go.Proofs.YtahlfndlkfoikaaDoor
open Go Go.RowKit
/-- A set of notes as a value. -/
def ntV (x : Nat) : Value := .agg #[.int .u64 ((Nt.lo x : Nat) : Int), .int .u64 ((Nt.hi x : Nat) : Int)]
theorem isNote_any (n : Int) (w : World) : Calls Tryd.prog 42 #[.int .i64 n] w fun e w' => e = .returned (.bool (Nt.noteB n)) ∧ w = w' := by
  by_cases h0 : 0 ≤ n
  · have d0 : decide (0 ≤ n) = true := decide_eq_true h0
    have HZ : Hid (Nt.noteB n = decide (n ≤ 127)) := Lib.hid (by unfold Nt.noteB; rw [d0, Bool.true_and])
    clear h0
    go_enter Tryd.func42, Tryd.ntmps42
    go_wp2
    go_ret
    exact ⟨by rw [HZ.out]; rfl, rfl⟩
  · have d0 : decide (0 ≤ n) = false := decide_eq_false h0
    have HZ : Hid (Nt.noteB n = false) := Lib.hid (by unfold Nt.noteB; rw [d0, Bool.false_and])
    clear h0
    go_enter Tryd.func42, Tryd.ntmps42
    go_wp2
    go_ret
    exact ⟨by rw [HZ.out]; rfl, rfl⟩
end Go.Proofs.YtahlfndlkfoikaaDoor
namespace Go.Proofs.YtahlfndlkfoikaaDoor
open Go Go.RowKit
theorem Nt.andn_bit (n x : Nat) : decide (Hit.andn (Hit.bit n) x = 0) = x.testBit n := by
  cases h : x.testBit n with
  | true =>
    refine decide_eq_true (Nat.eq_of_testBit_eq fun i => ?_)
    rw [Hit.andn_test, Hit.bit_test, Nat.zero_testBit]
    by_cases e : n = i
    · subst e; simp [h]
    · simp [e]
  | false =>
    refine decide_eq_false fun e => ?_
    have := congrArg (fun z => z.testBit n) e
    simp only [Hit.andn_test, Hit.bit_test, Nat.zero_testBit, h] at this
    simp at this
/-- What Of answers. -/
def ofR (l : List Int) : Nat × Int := if l.all Nt.noteB then (Nt.setF l 0, 0) else (0, 3)
def ofV (r : Nat × Int) : Value := .tuple #[ntV r.1, .int .i64 r.2]
theorem two_set {W : World} {g : Nat} {t : TypeId} {u v : Value} (h : Blk W g t #[u, v]) (a b : Value) : Blk ((W.setCell ⟨g, 0, none⟩ a).setCell ⟨g, 1, none⟩ b) g t #[a, b] := by
  have := (h.set_ 0 a).set_ 1 b
  simpa using this
end Go.Proofs.YtahlfndlkfoikaaDoor
