/- Plain: sets of notes as words of 128 bits. Walks over noteset: isNote, with, Union, Without, Within, Has. Walks over noteset: Has, Of. -/
import Derived.Test.YtnphdmiondccgaaDoorCovP
import Derived.Test.YtnphdmiondccgaaDoorKa
import Derived.Laws.StructEq
namespace Go.Proofs.YtnphdmiondccgaaDoor
open Go Go.RowKit
namespace Nt
def lo (x : Nat) : Nat := x % 2 ^ 64
def hi (x : Nat) : Nat := x >>> 64
theorem lo_test (x i : Nat) : (lo x).testBit i = (decide (i < 64) && x.testBit i) := by unfold lo; rw [Nat.testBit_mod_two_pow]
theorem hi_test (x i : Nat) : (hi x).testBit i = x.testBit (64 + i) := by unfold hi; rw [Nat.testBit_shiftRight]
theorem lo_lt (x : Nat) : lo x < 2 ^ 64 := Nat.mod_lt _ (by decide)
theorem hi_lt {x : Nat} (h : x < 2 ^ 128) : hi x < 2 ^ 64 := by unfold hi; rw [Nat.shiftRight_eq_div_pow]; omega
theorem ext2 {x y : Nat} (h1 : lo x = lo y) (h2 : hi x = hi y) : x = y := Nat.eq_of_testBit_eq fun i => by
  by_cases hi' : i < 64
  · have := congrArg (fun z => z.testBit i) h1
    simpa [lo_test, hi'] using this
  · have := congrArg (fun z => z.testBit (i - 64)) h2
    simp only [hi_test] at this
    rwa [show 64 + (i - 64) = i by omega] at this
theorem lo_or (x y : Nat) : lo (x ||| y) = lo x ||| lo y := Nat.eq_of_testBit_eq fun i => by simp [lo_test, Nat.testBit_or, Bool.and_or_distrib_left]
theorem hi_or (x y : Nat) : hi (x ||| y) = hi x ||| hi y := Nat.eq_of_testBit_eq fun i => by simp [hi_test, Nat.testBit_or]
theorem lo_andn (x y : Nat) : lo (Hit.andn x y) = Hit.andn (lo x) (lo y) := Nat.eq_of_testBit_eq fun i => by
  simp only [lo_test, Hit.andn_test]
  cases decide (i < 64) <;> simp
theorem hi_andn (x y : Nat) : hi (Hit.andn x y) = Hit.andn (hi x) (hi y) := Nat.eq_of_testBit_eq fun i => by simp [hi_test, Hit.andn_test]
theorem lo_bit {n : Nat} (h : n < 64) : lo (Hit.bit n) = Hit.bit n := Nat.eq_of_testBit_eq fun i => by
  rw [lo_test, Hit.bit_test]
  by_cases e : n = i
  · subst e; simp [h]
  · simp [e]
theorem hi_bit {n : Nat} (h : n < 64) : hi (Hit.bit n) = 0 := Nat.eq_of_testBit_eq fun i => by
  rw [hi_test, Hit.bit_test]; simp; omega
theorem lo_bit' {n : Nat} (h : 64 ≤ n) : lo (Hit.bit n) = 0 := Nat.eq_of_testBit_eq fun i => by
  rw [lo_test, Hit.bit_test]; simp; omega
theorem hi_bit' {n : Nat} (h : 64 ≤ n) : hi (Hit.bit n) = Hit.bit (n - 64) := Nat.eq_of_testBit_eq fun i => by
  rw [hi_test, Hit.bit_test, Hit.bit_test]
  exact decide_eq_decide.2 (by omega)
theorem lo_zero : lo 0 = 0 := rfl
theorem hi_zero : hi 0 = 0 := rfl
theorem zero_iff {x : Nat} : x = 0 ↔ lo x = 0 ∧ hi x = 0 := ⟨fun h => by subst h; exact ⟨rfl, rfl⟩, fun h => ext2 h.1 h.2⟩
theorem or_bit_lt {x n : Nat} (hx : x < 2 ^ 128) (hn : n < 128) : x ||| Hit.bit n < 2 ^ 128 := Nat.or_lt_two_pow hx (Hit.bit_lt hn)
/-- Is it a note? -/
def noteB (n : Int) : Bool := decide (0 ≤ n) && decide (n ≤ 127)
/-- Has the set the note? -/
def hasB (x : Nat) (n : Int) : Bool := noteB n && x.testBit n.toNat
/-- The set of a list of notes. -/
def setF : List Int → Nat → Nat
  | [], x => x
  | n :: l, x => setF l (x ||| Hit.bit n.toNat)
theorem setF_lt : ∀ {l : List Int} {x : Nat}, (∀ n ∈ l, noteB n = true) → x < 2 ^ 128 → setF l x < 2 ^ 128
  | [], _, _, hx => hx
  | n :: l, x, h, hx => by
    have h1 := h n (by simp)
    unfold noteB at h1
    simp at h1
    show setF l (x ||| Hit.bit n.toNat) < _
    exact setF_lt (l := l) (fun m hm => h m (List.mem_cons_of_mem _ hm)) (or_bit_lt hx (by omega))
theorem setF_test : ∀ {l : List Int} {x i : Nat}, (∀ n ∈ l, noteB n = true) → ((setF l x).testBit i = true ↔ x.testBit i = true ∨ (i : Int) ∈ l)
  | [], x, i, _ => by simp [setF]
  | n :: l, x, i, h => by
    have h1 := h n (by simp)
    unfold noteB at h1
    simp at h1
    unfold setF
    rw [setF_test (fun m hm => h m (List.mem_cons_of_mem _ hm)), Nat.testBit_or, Hit.bit_test, List.mem_cons]
    simp only [Bool.or_eq_true, decide_eq_true_eq]
    constructor
    · rintro ((h2 | h2) | h2)
      · exact .inl h2
      · exact .inr (.inl (by omega))
      · exact .inr (.inr h2)
    · rintro (h2 | h2 | h2)
      · exact .inl (.inl h2)
      · exact .inl (.inr (by omega))
      · exact .inr h2
theorem setF_take {l : List Int} {x k : Nat} (h : k < l.length) : setF (l.take (k + 1)) x = setF (l.take k) x ||| Hit.bit l[k].toNat := by
  have : ∀ (l : List Int) (x : Nat) (k : Nat) (h : k < l.length), setF (l.take (k + 1)) x = setF (l.take k) x ||| Hit.bit l[k].toNat := by
    intro l
    induction l with
    | nil => intro x k h; simp at h
    | cons n l ih =>
      intro x k h
      cases k with
      | zero => simp [setF]
      | succ k =>
        simp only [List.take_succ_cons, setF, List.getElem_cons_succ]
        exact ih _ k (by simpa using h)
  exact this l x k h
end Nt
end Go.Proofs.YtnphdmiondccgaaDoor
namespace Go.Proofs.YtnphdmiondccgaaDoor
open Go Go.RowKit
/-- A set of notes as a value. -/
def ntV (x : Nat) : Value := .agg #[.int .u64 ((Nt.lo x : Nat) : Int), .int .u64 ((Nt.hi x : Nat) : Int)]
set_option maxHeartbeats 1000000 in
theorem with_any (x n : Nat) (hx : x < 2 ^ 128) (hn : n < 128) (w : World) : Calls Tryd.prog 59 #[ntV x, .int .i64 n] w fun e w' => e = .returned (ntV (x ||| Hit.bit n)) ∧ Below w.heap.size w w' := by
  have hl := Nt.lo_lt x
  have hh := Nt.hi_lt hx
  unfold ntV
  by_cases h : n < 64
  · have e1 : Nt.lo (x ||| Hit.bit n) = Nt.lo x ||| Hit.bit n := by rw [Nt.lo_or, Nt.lo_bit h]
    have e2 : Nt.hi (x ||| Hit.bit n) = Nt.hi x := by rw [Nt.hi_or, Nt.hi_bit h, Nat.or_zero]
    rw [e1, e2]
    have hb : Hit.bit n < 2 ^ 64 := Hit.bit_lt h
    have hor := Hit.u64_or (Nt.lo x) (Hit.bit n) hl hb
    have hsh := Hit.two_u64w n h
    have hm : min n 64 = n := by omega
    have d1 : decide ((n : Int) < 64) = true := decide_eq_true (by omega)
    clear e1 e2 hl hh hx hb
    generalize Hit.bit n = bn at *
    generalize Nt.lo x = a at *
    generalize Nt.hi x = b at *
    generalize a ||| bn = r at *
    obtain ⟨w1, hw1⟩ : ∃ w1 : World, (w.alloc (.cells #[.int .u64 (a : Int), .int .u64 (b : Int)] 87)).alloc (.cells #[.int .u64 0, .int .u64 0] 87) = w1 := ⟨_, rfl⟩
    have k0 : Blk w1 w.heap.size 87 #[.int .u64 (a : Int), .int .u64 (b : Int)] := by rw [← hw1]; exact (Blk.new _ _ _).alloc _
    have k1 : Blk w1 (w.heap.size + 1) 87 #[.int .u64 0, .int .u64 0] := by
      have := Blk.new (w.alloc (.cells #[.int .u64 (a : Int), .int .u64 (b : Int)] 87)) 87 #[.int .u64 0, .int .u64 0]
      rw [hw1] at this
      simpa using this
    have B1 : Below w.heap.size w w1 := by rw [← hw1]; exact Ba (Ba (B0 w) _) _
    have f0 := k0.frozen
    have g0 := k0.cell 0
    have g1 := k0.cell 1
    simp only [List.getElem?_toArray, List.getElem?_cons_zero, List.getElem?_cons_succ] at g0 g1
    have K0 := Lib.hid k0
    have K1 := Lib.hid k1
    have HB1 := Lib.hid B1
    have HW1 := Lib.hid hw1
    clear k0 k1 B1 hw1
    go_enter Tryd.func59, Tryd.ntmps59
    go_upto_region 1 with fail
    rw [HW1.out]
    go_wp2_with fail
    go_region
    all_goals
      obtain ⟨w2, hw2⟩ : ∃ w2 : World, (w1.setCell ⟨w.heap.size, 0, none⟩ (.int .u64 (r : Int))).drew = w2 := ⟨_, rfl⟩
      have k2 : Blk w2 w.heap.size 87 #[.int .u64 (r : Int), .int .u64 (b : Int)] := by rw [← hw2]; exact (K0.out.set_ 0 _).drew
      have k3 : Blk w2 (w.heap.size + 1) 87 #[.int .u64 0, .int .u64 0] := by rw [← hw2]; exact (K1.out.far (by simp) _).drew
      have B2 : Below w.heap.size w w2 := by rw [← hw2]; exact (Bs HB1.out _ (Nat.le_refl _)).drew
      rw [hw2]
      clear hw2 f0 g0 g1
      have g0 := k2.cell 0
      have g1 := k2.cell 1
      have f3 := k3.frozen
      have r0 := k3.cell 0
      have r1 := k3.cell 1
      simp only [List.getElem?_toArray, List.getElem?_cons_zero, List.getElem?_cons_succ] at g0 g1 r0 r1
      have K3 := Lib.hid k3
      have HB2 := Lib.hid B2
      clear k2 k3 B2
      go_wp2_with fail
      refine bodyPost_ret (v := .agg #[.int .u64 (r : Int), .int .u64 (b : Int)]) ?_ rfl ⟨rfl, Bs (Bs HB2.out _ (by simp)) _ (by simp)⟩
      have KF := (K3.out.set_ 0 (.int .u64 (r : Int))).set_ 1 (.int .u64 (b : Int))
      have m0 := KF.cell 0
      have m1 := KF.cell 1
      simp at m0 m1
      clear KF K3 HB2 K0 K1 HB1 HW1
      simp [results, Tryd.results59, go_sem, m0, m1]
  · have h' : 64 ≤ n := by omega
    have e1 : Nt.lo (x ||| Hit.bit n) = Nt.lo x := by rw [Nt.lo_or, Nt.lo_bit' h', Nat.or_zero]
    have e2 : Nt.hi (x ||| Hit.bit n) = Nt.hi x ||| Hit.bit (n - 64) := by rw [Nt.hi_or, Nt.hi_bit' h']
    rw [e1, e2]
    obtain ⟨m, hmn⟩ : ∃ m, n - 64 = m := ⟨_, rfl⟩
    have hm64 : m < 64 := by omega
    have hI : (n : Int) - 64 = m := by omega
    rw [hmn]
    have hb : Hit.bit m < 2 ^ 64 := Hit.bit_lt hm64
    have hor := Hit.u64_or (Nt.hi x) (Hit.bit m) hh hb
    have hsh := Hit.two_u64w m hm64
    have hm : min m 64 = m := by omega
    have d1 : decide ((n : Int) < 64) = false := decide_eq_false (by omega)
    have hwr : IntKind.i64.wrap ((n : Int) - 64) = (m : Int) := by rw [hI]; simp [IntKind.wrap, IntKind.bits, IntKind.signed]; omega
    clear e1 e2 hl hh hx hb hI hmn
    generalize Hit.bit m = bn at *
    generalize Nt.lo x = a at *
    generalize Nt.hi x = b at *
    generalize b ||| bn = r at *
    obtain ⟨w1, hw1⟩ : ∃ w1 : World, (w.alloc (.cells #[.int .u64 (a : Int), .int .u64 (b : Int)] 87)).alloc (.cells #[.int .u64 0, .int .u64 0] 87) = w1 := ⟨_, rfl⟩
    have k0 : Blk w1 w.heap.size 87 #[.int .u64 (a : Int), .int .u64 (b : Int)] := by rw [← hw1]; exact (Blk.new _ _ _).alloc _
    have k1 : Blk w1 (w.heap.size + 1) 87 #[.int .u64 0, .int .u64 0] := by
      have := Blk.new (w.alloc (.cells #[.int .u64 (a : Int), .int .u64 (b : Int)] 87)) 87 #[.int .u64 0, .int .u64 0]
      rw [hw1] at this
      simpa using this
    have B1 : Below w.heap.size w w1 := by rw [← hw1]; exact Ba (Ba (B0 w) _) _
    have f0 := k0.frozen
    have g0 := k0.cell 0
    have g1 := k0.cell 1
    simp only [List.getElem?_toArray, List.getElem?_cons_zero, List.getElem?_cons_succ] at g0 g1
    have K0 := Lib.hid k0
    have K1 := Lib.hid k1
    have HB1 := Lib.hid B1
    have HW1 := Lib.hid hw1
    clear k0 k1 B1 hw1
    go_enter Tryd.func59, Tryd.ntmps59
    go_upto_region 1 with fail
    rw [HW1.out]
    go_wp2_with fail
    go_region
    all_goals
      obtain ⟨w2, hw2⟩ : ∃ w2 : World, (w1.setCell ⟨w.heap.size, 1, none⟩ (.int .u64 (r : Int))).drew = w2 := ⟨_, rfl⟩
      have k2 : Blk w2 w.heap.size 87 #[.int .u64 (a : Int), .int .u64 (r : Int)] := by rw [← hw2]; exact (K0.out.set_ 1 _).drew
      have k3 : Blk w2 (w.heap.size + 1) 87 #[.int .u64 0, .int .u64 0] := by rw [← hw2]; exact (K1.out.far (by simp) _).drew
      have B2 : Below w.heap.size w w2 := by rw [← hw2]; exact (Bs HB1.out _ (Nat.le_refl _)).drew
      rw [hw2]
      clear hw2 f0 g0 g1
      have g0 := k2.cell 0
      have g1 := k2.cell 1
      have f3 := k3.frozen
      have r0 := k3.cell 0
      have r1 := k3.cell 1
      simp only [List.getElem?_toArray, List.getElem?_cons_zero, List.getElem?_cons_succ] at g0 g1 r0 r1
      have K3 := Lib.hid k3
      have HB2 := Lib.hid B2
      clear k2 k3 B2
      go_wp2_with fail
      refine bodyPost_ret (v := .agg #[.int .u64 (a : Int), .int .u64 (r : Int)]) ?_ rfl ⟨rfl, Bs (Bs HB2.out _ (by simp)) _ (by simp)⟩
      have KF := (K3.out.set_ 0 (.int .u64 (a : Int))).set_ 1 (.int .u64 (r : Int))
      have m0 := KF.cell 0
      have m1 := KF.cell 1
      simp at m0 m1
      clear KF K3 HB2 K0 K1 HB1 HW1
      simp [results, Tryd.results59, go_sem, m0, m1]
set_option maxHeartbeats 1000000 in
theorem union_any (x y : Nat) (hx : x < 2 ^ 128) (hy : y < 2 ^ 128) (w : World) : Calls Tryd.prog 64 #[ntV x, ntV y] w fun e w' => e = .returned (ntV (Nat.lor x y)) ∧ Below w.heap.size w w' := by
  have ho1 := Hit.u64_or (Nt.lo x) (Nt.lo y) (Nt.lo_lt x) (Nt.lo_lt y)
  have ho2 := Hit.u64_or (Nt.hi x) (Nt.hi y) (Nt.hi_lt hx) (Nt.hi_lt hy)
  have e1 : Nt.lo (Nat.lor x y) = Nat.lor (Nt.lo x) (Nt.lo y) := Nt.lo_or x y
  have e2 : Nt.hi (Nat.lor x y) = Nat.lor (Nt.hi x) (Nt.hi y) := Nt.hi_or x y
  unfold ntV
  rw [e1, e2]
  clear e1 e2 hx hy
  change bits _ _ _ _ = ((Nat.lor (Nt.lo x) (Nt.lo y) : Nat) : Int) at ho1
  change bits _ _ _ _ = ((Nat.lor (Nt.hi x) (Nt.hi y) : Nat) : Int) at ho2
  generalize Nat.lor (Nt.lo x) (Nt.lo y) = r1 at *
  generalize Nat.lor (Nt.hi x) (Nt.hi y) = r2 at *
  generalize Nt.lo x = a at *
  generalize Nt.hi x = b at *
  generalize Nt.lo y = c at *
  generalize Nt.hi y = d at *
  obtain ⟨w1, hw1⟩ : ∃ w1 : World, ((w.alloc (.cells #[.int .u64 (a : Int), .int .u64 (b : Int)] 87)).alloc (.cells #[.int .u64 (c : Int), .int .u64 (d : Int)] 87)).alloc (.cells #[.int .u64 0, .int .u64 0] 87) = w1 := ⟨_, rfl⟩
  have g0 : w1.cell? ⟨w.heap.size, 0, none⟩ = some (.int .u64 (a : Int)) := by rw [← hw1]; simp [go_sem]
  have g1 : w1.cell? ⟨w.heap.size, 1, none⟩ = some (.int .u64 (b : Int)) := by rw [← hw1]; simp [go_sem]
  have g2 : w1.cell? ⟨w.heap.size + 1, 0, none⟩ = some (.int .u64 (c : Int)) := by rw [← hw1]; simp [go_sem]
  have g3 : w1.cell? ⟨w.heap.size + 1, 1, none⟩ = some (.int .u64 (d : Int)) := by rw [← hw1]; simp [go_sem]
  have k1 : Blk w1 (w.heap.size + 1 + 1) 87 #[.int .u64 0, .int .u64 0] := by
    have := Blk.new ((w.alloc (.cells #[.int .u64 (a : Int), .int .u64 (b : Int)] 87)).alloc (.cells #[.int .u64 (c : Int), .int .u64 (d : Int)] 87)) 87 #[.int .u64 0, .int .u64 0]
    rw [hw1] at this
    simpa using this
  have B1 : Below w.heap.size w w1 := by rw [← hw1]; exact Ba (Ba (Ba (B0 w) _) _) _
  have f3 := k1.frozen
  have q0 := k1.cell 0
  have q1 := k1.cell 1
  simp only [List.getElem?_toArray, List.getElem?_cons_zero, List.getElem?_cons_succ] at q0 q1
  have K1 := Lib.hid k1
  have HB1 := Lib.hid B1
  have HW1 := Lib.hid hw1
  clear k1 B1 hw1
  go_enter Tryd.func64, Tryd.ntmps64
  go_upto_region 1 with fail
  rw [HW1.out]
  go_wp2_with fail
  refine bodyPost_ret (v := .agg #[.int .u64 (r1 : Int), .int .u64 (r2 : Int)]) ?_ rfl ⟨rfl, Bs (Bs HB1.out _ (by simp; omega)) _ (by simp; omega)⟩
  have KF := (K1.out.set_ 0 (.int .u64 (r1 : Int))).set_ 1 (.int .u64 (r2 : Int))
  have m0 := KF.cell 0
  have m1 := KF.cell 1
  simp at m0 m1
  clear KF HB1 K1 HW1
  simp [results, Tryd.results64, go_sem, m0, m1]
set_option maxHeartbeats 1000000 in
theorem without_any (x y : Nat) (hx : x < 2 ^ 128) (hy : y < 2 ^ 128) (w : World) : Calls Tryd.prog 60 #[ntV x, ntV y] w fun e w' => e = .returned (ntV (Hit.andn x y)) ∧ Below w.heap.size w w' := by
  have ho1 := Hit.u64_andn (Nt.lo x) (Nt.lo y) (Nt.lo_lt x) (Nt.lo_lt y)
  have ho2 := Hit.u64_andn (Nt.hi x) (Nt.hi y) (Nt.hi_lt hx) (Nt.hi_lt hy)
  have e1 : Nt.lo (Hit.andn x y) = Hit.andn (Nt.lo x) (Nt.lo y) := Nt.lo_andn x y
  have e2 : Nt.hi (Hit.andn x y) = Hit.andn (Nt.hi x) (Nt.hi y) := Nt.hi_andn x y
  unfold ntV
  rw [e1, e2]
  clear e1 e2 hx hy
  change bits _ _ _ _ = ((Hit.andn (Nt.lo x) (Nt.lo y) : Nat) : Int) at ho1
  change bits _ _ _ _ = ((Hit.andn (Nt.hi x) (Nt.hi y) : Nat) : Int) at ho2
  generalize Hit.andn (Nt.lo x) (Nt.lo y) = r1 at *
  generalize Hit.andn (Nt.hi x) (Nt.hi y) = r2 at *
  generalize Nt.lo x = a at *
  generalize Nt.hi x = b at *
  generalize Nt.lo y = c at *
  generalize Nt.hi y = d at *
  obtain ⟨w1, hw1⟩ : ∃ w1 : World, ((w.alloc (.cells #[.int .u64 (a : Int), .int .u64 (b : Int)] 87)).alloc (.cells #[.int .u64 (c : Int), .int .u64 (d : Int)] 87)).alloc (.cells #[.int .u64 0, .int .u64 0] 87) = w1 := ⟨_, rfl⟩
  have g0 : w1.cell? ⟨w.heap.size, 0, none⟩ = some (.int .u64 (a : Int)) := by rw [← hw1]; simp [go_sem]
  have g1 : w1.cell? ⟨w.heap.size, 1, none⟩ = some (.int .u64 (b : Int)) := by rw [← hw1]; simp [go_sem]
  have g2 : w1.cell? ⟨w.heap.size + 1, 0, none⟩ = some (.int .u64 (c : Int)) := by rw [← hw1]; simp [go_sem]
  have g3 : w1.cell? ⟨w.heap.size + 1, 1, none⟩ = some (.int .u64 (d : Int)) := by rw [← hw1]; simp [go_sem]
  have k1 : Blk w1 (w.heap.size + 1 + 1) 87 #[.int .u64 0, .int .u64 0] := by
    have := Blk.new ((w.alloc (.cells #[.int .u64 (a : Int), .int .u64 (b : Int)] 87)).alloc (.cells #[.int .u64 (c : Int), .int .u64 (d : Int)] 87)) 87 #[.int .u64 0, .int .u64 0]
    rw [hw1] at this
    simpa using this
  have B1 : Below w.heap.size w w1 := by rw [← hw1]; exact Ba (Ba (Ba (B0 w) _) _) _
  have f3 := k1.frozen
  have q0 := k1.cell 0
  have q1 := k1.cell 1
  simp only [List.getElem?_toArray, List.getElem?_cons_zero, List.getElem?_cons_succ] at q0 q1
  have K1 := Lib.hid k1
  have HB1 := Lib.hid B1
  have HW1 := Lib.hid hw1
  clear k1 B1 hw1
  go_enter Tryd.func60, Tryd.ntmps60
  go_upto_region 1 with fail
  rw [HW1.out]
  go_wp2_with fail
  refine bodyPost_ret (v := .agg #[.int .u64 (r1 : Int), .int .u64 (r2 : Int)]) ?_ rfl ⟨rfl, Bs (Bs HB1.out _ (by simp; omega)) _ (by simp; omega)⟩
  have KF := (K1.out.set_ 0 (.int .u64 (r1 : Int))).set_ 1 (.int .u64 (r2 : Int))
  have m0 := KF.cell 0
  have m1 := KF.cell 1
  simp at m0 m1
  clear KF HB1 K1 HW1
  simp [results, Tryd.results60, go_sem, m0, m1]
theorem zeroNt (w : World) : (zeroValue 87).run Tryd.prog w = .ok (.agg #[.int .u64 0, .int .u64 0]) w := by kernel_rfl
theorem ntWithin_any (x y : Nat) (hx : x < 2 ^ 128) (hy : y < 2 ^ 128) (w : World) : Calls Tryd.prog 23 #[ntV x, ntV y] w fun e w' => e = .returned (.bool (decide (Hit.andn x y = 0))) ∧ Below w.heap.size w w' := by
  have hW := fun W => without_any x y hx hy W
  have HZ : Hid (decide (Hit.andn x y = 0) = (decide (Nt.lo (Hit.andn x y) = 0) && decide (Nt.hi (Hit.andn x y) = 0))) := Lib.hid (by rw [← Bool.decide_and]; exact decide_eq_decide.2 Nt.zero_iff)
  unfold ntV at *
  generalize Nt.lo (Hit.andn x y) = r1 at *
  generalize Nt.hi (Hit.andn x y) = r2 at *
  have HW := Lib.hid hW
  clear hW hx hy
  have hcs : (((r1 : Int) == 0) = true ∧ ((r2 : Int) == 0) = true ∧ r1 = 0 ∧ r2 = 0) ∨ (((r1 : Int) == 0) = false ∧ r1 ≠ 0) ∨ (((r1 : Int) == 0) = true ∧ ((r2 : Int) == 0) = false ∧ r1 = 0 ∧ r2 ≠ 0) := by
    simp only [beq_iff_eq, beq_eq_false_iff_ne]; omega
  rcases hcs with ⟨d1, d2, e1, e2⟩ | ⟨d1, e1⟩ | ⟨d1, d2, e1, e2⟩
  · have HQ : Hid ((decide (r1 = 0) && decide (r2 = 0)) = true) := Lib.hid (by simp [e1, e2])
    clear e1 e2
    go_enter Tryd.func23, Tryd.ntmps23
    go_wp2_with (go_at_call 60; (with_reducible refine ((HW.out _).mono ?_)); rintro e w2 ⟨rfl, hb2⟩; have HB2 := Lib.hid hb2; clear hb2)
    go_ret
    exact ⟨by rw [HZ.out, HQ.out]; rfl, Bt (Ba (Ba (B0 w) _) _) HB2.out⟩
  · have HQ : Hid ((decide (r1 = 0) && decide (r2 = 0)) = false) := Lib.hid (by simp [e1])
    clear e1
    go_enter Tryd.func23, Tryd.ntmps23
    go_wp2_with (go_at_call 60; (with_reducible refine ((HW.out _).mono ?_)); rintro e w2 ⟨rfl, hb2⟩; have HB2 := Lib.hid hb2; clear hb2)
    go_ret
    exact ⟨by rw [HZ.out, HQ.out]; rfl, Bt (Ba (Ba (B0 w) _) _) HB2.out⟩
  · have HQ : Hid ((decide (r1 = 0) && decide (r2 = 0)) = false) := Lib.hid (by simp [e1, e2])
    clear e1 e2
    go_enter Tryd.func23, Tryd.ntmps23
    go_wp2_with (go_at_call 60; (with_reducible refine ((HW.out _).mono ?_)); rintro e w2 ⟨rfl, hb2⟩; have HB2 := Lib.hid hb2; clear hb2)
    go_ret
    exact ⟨by rw [HZ.out, HQ.out]; rfl, Bt (Ba (Ba (B0 w) _) _) HB2.out⟩
end Go.Proofs.YtnphdmiondccgaaDoor
namespace Go.Proofs.YtnphdmiondccgaaDoor
open Go Go.RowKit
theorem Nt.andn_bit (n x : Nat) : decide (Hit.andn (Hit.bit n) x = 0) = x.testBit n := by
  cases h : x.testBit n with
  | true =>
    refine decide_eq_true (Nat.eq_of_testBit_eq fun i => ?_)
    rw [Hit.andn_test, Hit.bit_test, Nat.zero_testBit]
    by_cases e : n = i
    · subst e; simp [h]
    · simp [e]
  | false =>
    refine decide_eq_false fun e => ?_
    have := congrArg (fun z => z.testBit n) e
    simp only [Hit.andn_test, Hit.bit_test, Nat.zero_testBit, h] at this
    simp at this
theorem with_zero (n : Nat) (hn : n < 128) (w : World) : Calls Tryd.prog 59 #[.agg #[.int .u64 0, .int .u64 0], .int .i64 n] w fun e w' => e = .returned (ntV (Hit.bit n)) ∧ Below w.heap.size w w' := by
  have := with_any 0 n (by decide) hn w
  rw [Nat.zero_or] at this
  exact this
/-- What Of answers. -/
def ofR (l : List Int) : Nat × Int := if l.all Nt.noteB then (Nt.setF l 0, 0) else (0, 3)
def ofV (r : Nat × Int) : Value := .tuple #[ntV r.1, .int .i64 r.2]
theorem two_set {W : World} {g : Nat} {t : TypeId} {u v : Value} (h : Blk W g t #[u, v]) (a b : Value) : Blk ((W.setCell ⟨g, 0, none⟩ a).setCell ⟨g, 1, none⟩ b) g t #[a, b] := by
  have := (h.set_ 0 a).set_ 1 b
  simpa using this
end Go.Proofs.YtnphdmiondccgaaDoor
