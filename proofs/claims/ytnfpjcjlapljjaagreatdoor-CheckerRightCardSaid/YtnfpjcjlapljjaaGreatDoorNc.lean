/- Plain: sets of notes as words of 128 bits. Walks over noteset: isNote, with, Union, Without, Within, Has. Walks over noteset: Has, Of. -/
import Derived.Test.YtnfpjcjlapljjaaGreatDoorCovP
import Derived.Test.YtnfpjcjlapljjaaGreatDoorKa
import Derived.Laws.StructEq
namespace Go.Proofs.YtnfpjcjlapljjaaGreatDoor
open Go Go.RowKit
namespace Nt
def lo (x : Nat) : Nat := x % 2 ^ 64
def hi (x : Nat) : Nat := x >>> 64
theorem lo_test (x i : Nat) : (lo x).testBit i = (decide (i < 64) && x.testBit i) := by unfold lo; rw [Nat.testBit_mod_two_pow]
theorem hi_test (x i : Nat) : (hi x).testBit i = x.testBit (64 + i) := by unfold hi; rw [Nat.testBit_shiftRight]
theorem lo_lt (x : Nat) : lo x < 2 ^ 64 := Nat.mod_lt _ (by decide)
theorem hi_lt {x : Nat} (h : x < 2 ^ 128) : hi x < 2 ^ 64 := by unfold hi; rw [Nat.shiftRight_eq_div_pow]; omega
theorem ext2 {x y : Nat} (h1 : lo x = lo y) (h2 : hi x = hi y) : x = y := Nat.eq_of_testBit_eq fun i => by
  by_cases hi' : i < 64
  · have := congrArg (fun z => z.testBit i) h1
    simpa [lo_test, hi'] using this
  · have := congrArg (fun z => z.testBit (i - 64)) h2
    simp only [hi_test] at this
    rwa [show 64 + (i - 64) = i by omega] at this
theorem lo_or (x y : Nat) : lo (x ||| y) = lo x ||| lo y := Nat.eq_of_testBit_eq fun i => by simp [lo_test, Nat.testBit_or, Bool.and_or_distrib_left]
theorem hi_or (x y : Nat) : hi (x ||| y) = hi x ||| hi y := Nat.eq_of_testBit_eq fun i => by simp [hi_test, Nat.testBit_or]
theorem lo_andn (x y : Nat) : lo (Hit.andn x y) = Hit.andn (lo x) (lo y) := Nat.eq_of_testBit_eq fun i => by
  simp only [lo_test, Hit.andn_test]
  cases decide (i < 64) <;> simp
theorem hi_andn (x y : Nat) : hi (Hit.andn x y) = Hit.andn (hi x) (hi y) := Nat.eq_of_testBit_eq fun i => by simp [hi_test, Hit.andn_test]
theorem lo_bit {n : Nat} (h : n < 64) : lo (Hit.bit n) = Hit.bit n := Nat.eq_of_testBit_eq fun i => by
  rw [lo_test, Hit.bit_test]
  by_cases e : n = i
  · subst e; simp [h]
  · simp [e]
theorem hi_bit {n : Nat} (h : n < 64) : hi (Hit.bit n) = 0 := Nat.eq_of_testBit_eq fun i => by
  rw [hi_test, Hit.bit_test]; simp; omega
theorem lo_bit' {n : Nat} (h : 64 ≤ n) : lo (Hit.bit n) = 0 := Nat.eq_of_testBit_eq fun i => by
  rw [lo_test, Hit.bit_test]; simp; omega
theorem hi_bit' {n : Nat} (h : 64 ≤ n) : hi (Hit.bit n) = Hit.bit (n - 64) := Nat.eq_of_testBit_eq fun i => by
  rw [hi_test, Hit.bit_test, Hit.bit_test]
  exact decide_eq_decide.2 (by omega)
theorem zero_iff {x : Nat} : x = 0 ↔ lo x = 0 ∧ hi x = 0 := ⟨fun h => by subst h; exact ⟨rfl, rfl⟩, fun h => ext2 h.1 h.2⟩
theorem or_bit_lt {x n : Nat} (hx : x < 2 ^ 128) (hn : n < 128) : x ||| Hit.bit n < 2 ^ 128 := Nat.or_lt_two_pow hx (Hit.bit_lt hn)
/-- Is it a note? -/
def noteB (n : Int) : Bool := decide (0 ≤ n) && decide (n ≤ 127)
/-- Has the set the note? -/
def hasB (x : Nat) (n : Int) : Bool := noteB n && x.testBit n.toNat
/-- The set of a list of notes. -/
def setF : List Int → Nat → Nat
  | [], x => x
  | n :: l, x => setF l (x ||| Hit.bit n.toNat)
theorem setF_lt : ∀ {l : List Int} {x : Nat}, (∀ n ∈ l, noteB n = true) → x < 2 ^ 128 → setF l x < 2 ^ 128
  | [], _, _, hx => hx
  | n :: l, x, h, hx => by
    have h1 := h n (by simp)
    unfold noteB at h1
    simp at h1
    show setF l (x ||| Hit.bit n.toNat) < _
    exact setF_lt (l := l) (fun m hm => h m (List.mem_cons_of_mem _ hm)) (or_bit_lt hx (by omega))
theorem setF_take {l : List Int} {x k : Nat} (h : k < l.length) : setF (l.take (k + 1)) x = setF (l.take k) x ||| Hit.bit l[k].toNat := by
  have : ∀ (l : List Int) (x : Nat) (k : Nat) (h : k < l.length), setF (l.take (k + 1)) x = setF (l.take k) x ||| Hit.bit l[k].toNat := by
    intro l
    induction l with
    | nil => intro x k h; simp at h
    | cons n l ih =>
      intro x k h
      cases k with
      | zero => simp [setF]
      | succ k =>
        simp only [List.take_succ_cons, setF, List.getElem_cons_succ]
        exact ih _ k (by simpa using h)
  exact this l x k h
end Nt
end Go.Proofs.YtnfpjcjlapljjaaGreatDoor
namespace Go.Proofs.YtnfpjcjlapljjaaGreatDoor
open Go Go.RowKit
/-- A set of notes as a value. -/
def ntV (x : Nat) : Value := .agg #[.int .u64 ((Nt.lo x : Nat) : Int), .int .u64 ((Nt.hi x : Nat) : Int)]
theorem isNote_any (n : Int) (w : World) : Calls Tryz.prog 44 #[.int .i64 n] w fun e w' => e = .returned (.bool (Nt.noteB n)) ∧ w = w' := by
  by_cases h0 : 0 ≤ n
  · have d0 : decide (0 ≤ n) = true := decide_eq_true h0
    have HZ : Hid (Nt.noteB n = decide (n ≤ 127)) := Lib.hid (by unfold Nt.noteB; rw [d0, Bool.true_and])
    clear h0
    go_enter Tryz.func44, Tryz.ntmps44
    go_wp2
    go_ret
    exact ⟨by rw [HZ.out]; rfl, rfl⟩
  · have d0 : decide (0 ≤ n) = false := decide_eq_false h0
    have HZ : Hid (Nt.noteB n = false) := Lib.hid (by unfold Nt.noteB; rw [d0, Bool.false_and])
    clear h0
    go_enter Tryz.func44, Tryz.ntmps44
    go_wp2
    go_ret
    exact ⟨by rw [HZ.out]; rfl, rfl⟩
set_option maxHeartbeats 1000000 in
theorem with_any (x n : Nat) (hx : x < 2 ^ 128) (hn : n < 128) (w : World) : Calls Tryz.prog 46 #[ntV x, .int .i64 n] w fun e w' => e = .returned (ntV (x ||| Hit.bit n)) ∧ Below w.heap.size w w' := by
  have hl := Nt.lo_lt x
  have hh := Nt.hi_lt hx
  unfold ntV
  by_cases h : n < 64
  · have e1 : Nt.lo (x ||| Hit.bit n) = Nt.lo x ||| Hit.bit n := by rw [Nt.lo_or, Nt.lo_bit h]
    have e2 : Nt.hi (x ||| Hit.bit n) = Nt.hi x := by rw [Nt.hi_or, Nt.hi_bit h, Nat.or_zero]
    rw [e1, e2]
    have hb : Hit.bit n < 2 ^ 64 := Hit.bit_lt h
    have hor := Hit.u64_or (Nt.lo x) (Hit.bit n) hl hb
    have hsh := Hit.two_u64w n h
    have hm : min n 64 = n := by omega
    have d1 : decide ((n : Int) < 64) = true := decide_eq_true (by omega)
    clear e1 e2 hl hh hx hb
    generalize Hit.bit n = bn at *
    generalize Nt.lo x = a at *
    generalize Nt.hi x = b at *
    generalize a ||| bn = r at *
    obtain ⟨w1, hw1⟩ : ∃ w1 : World, (w.alloc (.cells #[.int .u64 (a : Int), .int .u64 (b : Int)] 97)).alloc (.cells #[.int .u64 0, .int .u64 0] 97) = w1 := ⟨_, rfl⟩
    have k0 : Blk w1 w.heap.size 97 #[.int .u64 (a : Int), .int .u64 (b : Int)] := by rw [← hw1]; exact (Blk.new _ _ _).alloc _
    have k1 : Blk w1 (w.heap.size + 1) 97 #[.int .u64 0, .int .u64 0] := by
      have := Blk.new (w.alloc (.cells #[.int .u64 (a : Int), .int .u64 (b : Int)] 97)) 97 #[.int .u64 0, .int .u64 0]
      rw [hw1] at this
      simpa using this
    have B1 : Below w.heap.size w w1 := by rw [← hw1]; exact Ba (Ba (B0 w) _) _
    have f0 := k0.frozen
    have g0 := k0.cell 0
    have g1 := k0.cell 1
    simp only [List.getElem?_toArray, List.getElem?_cons_zero, List.getElem?_cons_succ] at g0 g1
    have K0 := Lib.hid k0
    have K1 := Lib.hid k1
    have HB1 := Lib.hid B1
    have HW1 := Lib.hid hw1
    clear k0 k1 B1 hw1
    go_enter Tryz.func46, Tryz.ntmps46
    go_upto_region 1 with fail
    rw [HW1.out]
    go_wp2_with fail
    go_region
    all_goals
      obtain ⟨w2, hw2⟩ : ∃ w2 : World, (w1.setCell ⟨w.heap.size, 0, none⟩ (.int .u64 (r : Int))).drew = w2 := ⟨_, rfl⟩
      have k2 : Blk w2 w.heap.size 97 #[.int .u64 (r : Int), .int .u64 (b : Int)] := by rw [← hw2]; exact (K0.out.set_ 0 _).drew
      have k3 : Blk w2 (w.heap.size + 1) 97 #[.int .u64 0, .int .u64 0] := by rw [← hw2]; exact (K1.out.far (by simp) _).drew
      have B2 : Below w.heap.size w w2 := by rw [← hw2]; exact (Bs HB1.out _ (Nat.le_refl _)).drew
      rw [hw2]
      clear hw2 f0 g0 g1
      have g0 := k2.cell 0
      have g1 := k2.cell 1
      have f3 := k3.frozen
      have r0 := k3.cell 0
      have r1 := k3.cell 1
      simp only [List.getElem?_toArray, List.getElem?_cons_zero, List.getElem?_cons_succ] at g0 g1 r0 r1
      have K3 := Lib.hid k3
      have HB2 := Lib.hid B2
      clear k2 k3 B2
      go_wp2_with fail
      refine bodyPost_ret (v := .agg #[.int .u64 (r : Int), .int .u64 (b : Int)]) ?_ rfl ⟨rfl, Bs (Bs HB2.out _ (by simp)) _ (by simp)⟩
      have KF := (K3.out.set_ 0 (.int .u64 (r : Int))).set_ 1 (.int .u64 (b : Int))
      have m0 := KF.cell 0
      have m1 := KF.cell 1
      simp at m0 m1
      clear KF K3 HB2 K0 K1 HB1 HW1
      simp [results, Tryz.results46, go_sem, m0, m1]
  · have h' : 64 ≤ n := by omega
    have e1 : Nt.lo (x ||| Hit.bit n) = Nt.lo x := by rw [Nt.lo_or, Nt.lo_bit' h', Nat.or_zero]
    have e2 : Nt.hi (x ||| Hit.bit n) = Nt.hi x ||| Hit.bit (n - 64) := by rw [Nt.hi_or, Nt.hi_bit' h']
    rw [e1, e2]
    obtain ⟨m, hmn⟩ : ∃ m, n - 64 = m := ⟨_, rfl⟩
    have hm64 : m < 64 := by omega
    have hI : (n : Int) - 64 = m := by omega
    rw [hmn]
    have hb : Hit.bit m < 2 ^ 64 := Hit.bit_lt hm64
    have hor := Hit.u64_or (Nt.hi x) (Hit.bit m) hh hb
    have hsh := Hit.two_u64w m hm64
    have hm : min m 64 = m := by omega
    have d1 : decide ((n : Int) < 64) = false := decide_eq_false (by omega)
    have hwr : IntKind.i64.wrap ((n : Int) - 64) = (m : Int) := by rw [hI]; simp [IntKind.wrap, IntKind.bits, IntKind.signed]; omega
    clear e1 e2 hl hh hx hb hI hmn
    generalize Hit.bit m = bn at *
    generalize Nt.lo x = a at *
    generalize Nt.hi x = b at *
    generalize b ||| bn = r at *
    obtain ⟨w1, hw1⟩ : ∃ w1 : World, (w.alloc (.cells #[.int .u64 (a : Int), .int .u64 (b : Int)] 97)).alloc (.cells #[.int .u64 0, .int .u64 0] 97) = w1 := ⟨_, rfl⟩
    have k0 : Blk w1 w.heap.size 97 #[.int .u64 (a : Int), .int .u64 (b : Int)] := by rw [← hw1]; exact (Blk.new _ _ _).alloc _
    have k1 : Blk w1 (w.heap.size + 1) 97 #[.int .u64 0, .int .u64 0] := by
      have := Blk.new (w.alloc (.cells #[.int .u64 (a : Int), .int .u64 (b : Int)] 97)) 97 #[.int .u64 0, .int .u64 0]
      rw [hw1] at this
      simpa using this
    have B1 : Below w.heap.size w w1 := by rw [← hw1]; exact Ba (Ba (B0 w) _) _
    have f0 := k0.frozen
    have g0 := k0.cell 0
    have g1 := k0.cell 1
    simp only [List.getElem?_toArray, List.getElem?_cons_zero, List.getElem?_cons_succ] at g0 g1
    have K0 := Lib.hid k0
    have K1 := Lib.hid k1
    have HB1 := Lib.hid B1
    have HW1 := Lib.hid hw1
    clear k0 k1 B1 hw1
    go_enter Tryz.func46, Tryz.ntmps46
    go_upto_region 1 with fail
    rw [HW1.out]
    go_wp2_with fail
    go_region
    all_goals
      obtain ⟨w2, hw2⟩ : ∃ w2 : World, (w1.setCell ⟨w.heap.size, 1, none⟩ (.int .u64 (r : Int))).drew = w2 := ⟨_, rfl⟩
      have k2 : Blk w2 w.heap.size 97 #[.int .u64 (a : Int), .int .u64 (r : Int)] := by rw [← hw2]; exact (K0.out.set_ 1 _).drew
      have k3 : Blk w2 (w.heap.size + 1) 97 #[.int .u64 0, .int .u64 0] := by rw [← hw2]; exact (K1.out.far (by simp) _).drew
      have B2 : Below w.heap.size w w2 := by rw [← hw2]; exact (Bs HB1.out _ (Nat.le_refl _)).drew
      rw [hw2]
      clear hw2 f0 g0 g1
      have g0 := k2.cell 0
      have g1 := k2.cell 1
      have f3 := k3.frozen
      have r0 := k3.cell 0
      have r1 := k3.cell 1
      simp only [List.getElem?_toArray, List.getElem?_cons_zero, List.getElem?_cons_succ] at g0 g1 r0 r1
      have K3 := Lib.hid k3
      have HB2 := Lib.hid B2
      clear k2 k3 B2
      go_wp2_with fail
      refine bodyPost_ret (v := .agg #[.int .u64 (a : Int), .int .u64 (r : Int)]) ?_ rfl ⟨rfl, Bs (Bs HB2.out _ (by simp)) _ (by simp)⟩
      have KF := (K3.out.set_ 0 (.int .u64 (a : Int))).set_ 1 (.int .u64 (r : Int))
      have m0 := KF.cell 0
      have m1 := KF.cell 1
      simp at m0 m1
      clear KF K3 HB2 K0 K1 HB1 HW1
      simp [results, Tryz.results46, go_sem, m0, m1]
set_option maxHeartbeats 1000000 in
theorem without_any (x y : Nat) (hx : x < 2 ^ 128) (hy : y < 2 ^ 128) (w : World) : Calls Tryz.prog 59 #[ntV x, ntV y] w fun e w' => e = .returned (ntV (Hit.andn x y)) ∧ Below w.heap.size w w' := by
  have ho1 := Hit.u64_andn (Nt.lo x) (Nt.lo y) (Nt.lo_lt x) (Nt.lo_lt y)
  have ho2 := Hit.u64_andn (Nt.hi x) (Nt.hi y) (Nt.hi_lt hx) (Nt.hi_lt hy)
  have e1 : Nt.lo (Hit.andn x y) = Hit.andn (Nt.lo x) (Nt.lo y) := Nt.lo_andn x y
  have e2 : Nt.hi (Hit.andn x y) = Hit.andn (Nt.hi x) (Nt.hi y) := Nt.hi_andn x y
  unfold ntV
  rw [e1, e2]
  clear e1 e2 hx hy
  change bits _ _ _ _ = ((Hit.andn (Nt.lo x) (Nt.lo y) : Nat) : Int) at ho1
  change bits _ _ _ _ = ((Hit.andn (Nt.hi x) (Nt.hi y) : Nat) : Int) at ho2
  generalize Hit.andn (Nt.lo x) (Nt.lo y) = r1 at *
  generalize Hit.andn (Nt.hi x) (Nt.hi y) = r2 at *
  generalize Nt.lo x = a at *
  generalize Nt.hi x = b at *
  generalize Nt.lo y = c at *
  generalize Nt.hi y = d at *
  obtain ⟨w1, hw1⟩ : ∃ w1 : World, ((w.alloc (.cells #[.int .u64 (a : Int), .int .u64 (b : Int)] 97)).alloc (.cells #[.int .u64 (c : Int), .int .u64 (d : Int)] 97)).alloc (.cells #[.int .u64 0, .int .u64 0] 97) = w1 := ⟨_, rfl⟩
  have g0 : w1.cell? ⟨w.heap.size, 0, none⟩ = some (.int .u64 (a : Int)) := by rw [← hw1]; simp [go_sem]
  have g1 : w1.cell? ⟨w.heap.size, 1, none⟩ = some (.int .u64 (b : Int)) := by rw [← hw1]; simp [go_sem]
  have g2 : w1.cell? ⟨w.heap.size + 1, 0, none⟩ = some (.int .u64 (c : Int)) := by rw [← hw1]; simp [go_sem]
  have g3 : w1.cell? ⟨w.heap.size + 1, 1, none⟩ = some (.int .u64 (d : Int)) := by rw [← hw1]; simp [go_sem]
  have k1 : Blk w1 (w.heap.size + 1 + 1) 97 #[.int .u64 0, .int .u64 0] := by
    have := Blk.new ((w.alloc (.cells #[.int .u64 (a : Int), .int .u64 (b : Int)] 97)).alloc (.cells #[.int .u64 (c : Int), .int .u64 (d : Int)] 97)) 97 #[.int .u64 0, .int .u64 0]
    rw [hw1] at this
    simpa using this
  have B1 : Below w.heap.size w w1 := by rw [← hw1]; exact Ba (Ba (Ba (B0 w) _) _) _
  have f3 := k1.frozen
  have q0 := k1.cell 0
  have q1 := k1.cell 1
  simp only [List.getElem?_toArray, List.getElem?_cons_zero, List.getElem?_cons_succ] at q0 q1
  have K1 := Lib.hid k1
  have HB1 := Lib.hid B1
  have HW1 := Lib.hid hw1
  clear k1 B1 hw1
  go_enter Tryz.func59, Tryz.ntmps59
  go_upto_region 1 with fail
  rw [HW1.out]
  go_wp2_with fail
  refine bodyPost_ret (v := .agg #[.int .u64 (r1 : Int), .int .u64 (r2 : Int)]) ?_ rfl ⟨rfl, Bs (Bs HB1.out _ (by simp; omega)) _ (by simp; omega)⟩
  have KF := (K1.out.set_ 0 (.int .u64 (r1 : Int))).set_ 1 (.int .u64 (r2 : Int))
  have m0 := KF.cell 0
  have m1 := KF.cell 1
  simp at m0 m1
  clear KF HB1 K1 HW1
  simp [results, Tryz.results59, go_sem, m0, m1]
theorem ntWithin_any (x y : Nat) (hx : x < 2 ^ 128) (hy : y < 2 ^ 128) (w : World) : Calls Tryz.prog 45 #[ntV x, ntV y] w fun e w' => e = .returned (.bool (decide (Hit.andn x y = 0))) ∧ Below w.heap.size w w' := by
  have hW := fun W => without_any x y hx hy W
  have HZ : Hid (decide (Hit.andn x y = 0) = (decide (Nt.lo (Hit.andn x y) = 0) && decide (Nt.hi (Hit.andn x y) = 0))) := Lib.hid (by rw [← Bool.decide_and]; exact decide_eq_decide.2 Nt.zero_iff)
  unfold ntV at *
  generalize Nt.lo (Hit.andn x y) = r1 at *
  generalize Nt.hi (Hit.andn x y) = r2 at *
  have HW := Lib.hid hW
  clear hW hx hy
  have hcs : (((r1 : Int) == 0) = true ∧ ((r2 : Int) == 0) = true ∧ r1 = 0 ∧ r2 = 0) ∨ (((r1 : Int) == 0) = false ∧ r1 ≠ 0) ∨ (((r1 : Int) == 0) = true ∧ ((r2 : Int) == 0) = false ∧ r1 = 0 ∧ r2 ≠ 0) := by
    simp only [beq_iff_eq, beq_eq_false_iff_ne]; omega
  rcases hcs with ⟨d1, d2, e1, e2⟩ | ⟨d1, e1⟩ | ⟨d1, d2, e1, e2⟩
  · have HQ : Hid ((decide (r1 = 0) && decide (r2 = 0)) = true) := Lib.hid (by simp [e1, e2])
    clear e1 e2
    go_enter Tryz.func45, Tryz.ntmps45
    go_wp2_with (go_at_call 59; (with_reducible refine ((HW.out _).mono ?_)); rintro e w2 ⟨rfl, hb2⟩; have HB2 := Lib.hid hb2; clear hb2)
    go_ret
    exact ⟨by rw [HZ.out, HQ.out]; rfl, Bt (Ba (Ba (B0 w) _) _) HB2.out⟩
  · have HQ : Hid ((decide (r1 = 0) && decide (r2 = 0)) = false) := Lib.hid (by simp [e1])
    clear e1
    go_enter Tryz.func45, Tryz.ntmps45
    go_wp2_with (go_at_call 59; (with_reducible refine ((HW.out _).mono ?_)); rintro e w2 ⟨rfl, hb2⟩; have HB2 := Lib.hid hb2; clear hb2)
    go_ret
    exact ⟨by rw [HZ.out, HQ.out]; rfl, Bt (Ba (Ba (B0 w) _) _) HB2.out⟩
  · have HQ : Hid ((decide (r1 = 0) && decide (r2 = 0)) = false) := Lib.hid (by simp [e1, e2])
    clear e1 e2
    go_enter Tryz.func45, Tryz.ntmps45
    go_wp2_with (go_at_call 59; (with_reducible refine ((HW.out _).mono ?_)); rintro e w2 ⟨rfl, hb2⟩; have HB2 := Lib.hid hb2; clear hb2)
    go_ret
    exact ⟨by rw [HZ.out, HQ.out]; rfl, Bt (Ba (Ba (B0 w) _) _) HB2.out⟩
end Go.Proofs.YtnfpjcjlapljjaaGreatDoor
namespace Go.Proofs.YtnfpjcjlapljjaaGreatDoor
open Go Go.RowKit
theorem Nt.andn_bit (n x : Nat) : decide (Hit.andn (Hit.bit n) x = 0) = x.testBit n := by
  cases h : x.testBit n with
  | true =>
    refine decide_eq_true (Nat.eq_of_testBit_eq fun i => ?_)
    rw [Hit.andn_test, Hit.bit_test, Nat.zero_testBit]
    by_cases e : n = i
    · subst e; simp [h]
    · simp [e]
  | false =>
    refine decide_eq_false fun e => ?_
    have := congrArg (fun z => z.testBit n) e
    simp only [Hit.andn_test, Hit.bit_test, Nat.zero_testBit, h] at this
    simp at this
theorem with_zero (n : Nat) (hn : n < 128) (w : World) : Calls Tryz.prog 46 #[.agg #[.int .u64 0, .int .u64 0], .int .i64 n] w fun e w' => e = .returned (ntV (Hit.bit n)) ∧ Below w.heap.size w w' := by
  have := with_any 0 n (by decide) hn w
  rw [Nat.zero_or] at this
  exact this
set_option maxHeartbeats 1000000 in
theorem has_any (x : Nat) (hx : x < 2 ^ 128) (n : Int) (w : World) : Calls Tryz.prog 20 #[ntV x, .int .i64 n] w fun e w' => e = .returned (.bool (Nt.hasB x n)) ∧ Below w.heap.size w w' := by
  have hI := fun W => isNote_any n W
  cases hn : Nt.noteB n with
  | false =>
    have HZ : Hid (Nt.hasB x n = false) := Lib.hid (by unfold Nt.hasB; rw [hn, Bool.false_and])
    rw [hn] at hI
    have HI := Lib.hid hI
    clear hI hn
    unfold ntV
    generalize Nt.lo x = a at *
    generalize Nt.hi x = b at *
    go_enter Tryz.func20, Tryz.ntmps20
    go_wp2_with (go_at_call 44; (with_reducible refine ((HI.out _).mono ?_)); rintro e w2 ⟨rfl, rfl⟩)
    go_ret
    exact ⟨by rw [HZ.out]; rfl, Ba (B0 w) _⟩
  | true =>
    have hb := hn
    unfold Nt.noteB at hb
    simp at hb
    obtain ⟨k, rfl⟩ : ∃ k : Nat, n = k := ⟨n.toNat, by omega⟩
    have HZ : Hid (Nt.hasB x k = decide (Hit.andn (Hit.bit k) x = 0)) := Lib.hid (by unfold Nt.hasB; rw [hn, Bool.true_and, Nt.andn_bit, Int.toNat_natCast])
    rw [hn] at hI
    have HI := Lib.hid hI
    have hk : k < 128 := by omega
    have HWI := Lib.hid (fun W => with_zero k hk W)
    have HWN := Lib.hid (fun W => ntWithin_any (Hit.bit k) x (Hit.bit_lt hk) hx W)
    clear hI hn hb hx hk
    unfold ntV at *
    generalize Nt.lo (Hit.bit k) = c at *
    generalize Nt.hi (Hit.bit k) = d at *
    generalize decide (Hit.andn (Hit.bit k) x = 0) = r at *
    generalize Nt.lo x = a at *
    generalize Nt.hi x = b at *
    obtain ⟨w1, hw1⟩ : ∃ w1 : World, w.alloc (.cells #[.int .u64 (a : Int), .int .u64 (b : Int)] 97) = w1 := ⟨_, rfl⟩
    have g0 : w1.cell? ⟨w.heap.size, 0, none⟩ = some (.int .u64 (a : Int)) := by rw [← hw1]; simp [go_sem]
    have g1 : w1.cell? ⟨w.heap.size, 1, none⟩ = some (.int .u64 (b : Int)) := by rw [← hw1]; simp [go_sem]
    have l1 : w.heap.size < w1.heap.size := by rw [← hw1]; simp
    have HB1 := Lib.hid (show Below w.heap.size w w1 from by rw [← hw1]; exact Ba (B0 w) _)
    have HW1 := Lib.hid hw1
    clear hw1
    go_enter Tryz.func20, Tryz.ntmps20
    go_upto_region 1 with fail
    rw [HW1.out]
    go_upto_region 3 with (go_at_call 44; (with_reducible refine ((HI.out _).mono ?_)); rintro e w2 ⟨rfl, rfl⟩)
    go_region_with (first
      | (go_at_call 46; (with_reducible refine ((HWI.out _).mono ?_)); rintro e w2 ⟨rfl, hb2⟩; have p0 := (Bc hb2 l1).trans g0; have p1 := (Bc hb2 l1).trans g1; have HB2 := Lib.hid (Bt (B0 w1).drew hb2); clear hb2)
      | (go_at_call 45; (with_reducible refine ((HWN.out _).mono ?_)); rintro e w3 ⟨rfl, hb3⟩; have HB3 := Lib.hid hb3; clear hb3))
    all_goals
      go_wp2_with fail
      go_ret
      exact ⟨by rw [HZ.out]; rfl, Bt HB1.out (Bt HB2.out HB3.out)⟩
/-- What Of answers. -/
def ofR (l : List Int) : Nat × Int := if l.all Nt.noteB then (Nt.setF l 0, 0) else (0, 3)
def ofV (r : Nat × Int) : Value := .tuple #[ntV r.1, .int .i64 r.2]
theorem two_set {W : World} {g : Nat} {t : TypeId} {u v : Value} (h : Blk W g t #[u, v]) (a b : Value) : Blk ((W.setCell ⟨g, 0, none⟩ a).setCell ⟨g, 1, none⟩ b) g t #[a, b] := by
  have := (h.set_ 0 a).set_ 1 b
  simpa using this
set_option maxHeartbeats 1000000 in
theorem of_any (v : Value) (l : List Int) (w : World) (F : Nat → Prop) (hF : ∀ b, F b → b < w.heap.size) (h : SlI F w v l) (hl : l.length ≤ 1000000) :
    Calls Tryz.prog 43 #[v] w fun e w' => e = .returned (ofV (ofR l)) ∧ Below w.heap.size w w' := by
  obtain ⟨A, c, rfl, hnc, _, hat⟩ := h.open
  obtain ⟨n, hn⟩ : ∃ n, l.length = n := ⟨_, rfl⟩
  rw [hn] at hnc hl ⊢
  have HN := Lib.hid hn
  have HAT := Lib.hid hat
  have hnI : (n : Int) ≤ 9223372036854775807 := by omega
  obtain ⟨w1, hw1⟩ : ∃ w1 : World, (w.alloc (.cells #[.int .u64 0, .int .u64 0] 97)).alloc (.cells #[.int .u64 0, .int .u64 0] 97) = w1 := ⟨_, rfl⟩
  obtain ⟨rb, hrb⟩ : ∃ rb, w.heap.size = rb := ⟨_, rfl⟩
  have k0 : Blk w1 rb 97 #[.int .u64 0, .int .u64 0] := by rw [← hw1, ← hrb]; exact (Blk.new _ _ _).alloc _
  have k1 : Blk w1 (rb + 1) 97 #[.int .u64 0, .int .u64 0] := by
    have := Blk.new (w.alloc (.cells #[.int .u64 0, .int .u64 0] 97)) 97 #[.int .u64 0, .int .u64 0]
    rw [hw1] at this
    simpa [hrb] using this
  have B1 : Below w.heap.size w w1 := by rw [← hw1]; exact Ba (Ba (B0 w) _) _
  have K0 := Lib.hid k0
  have K1 := Lib.hid k1
  have HB1 := Lib.hid B1
  have HW1 := Lib.hid hw1
  have HRB := Lib.hid hrb
  clear h hat hn k0 k1 B1 hw1 hrb
  go_enter Tryz.func43, Tryz.ntmps43
  go_upto_region 2 with fail
  rw [HW1.out, HRB.out]
  go_wp2_with fail
  go_loopw [9] (fun p wr => ∃ k : Nat, k ≤ n ∧ p = .int .i64 k ∧ Aside (∀ m ∈ l.take k, Nt.noteB m = true) ∧ Aside (Blk wr rb 97 #[.int .u64 0, .int .u64 0]) ∧ Aside (Blk wr (rb + 1) 97 #[.int .u64 ((Nt.lo (Nt.setF (l.take k) 0) : Nat) : Int), .int .u64 ((Nt.hi (Nt.setF (l.take k) 0) : Nat) : Int)]) ∧ Aside (Below w.heap.size w wr)) (fun p _ => n - (intOf p).toNat)
  case atStart => exact ⟨0, Nat.zero_le _, rfl, (fun m hm => by simp at hm), K0.out, (show Blk w1 (rb + 1) 97 #[.int .u64 ((Nt.lo (Nt.setF (l.take 0) 0) : Nat) : Int), .int .u64 ((Nt.hi (Nt.setF (l.take 0) 0) : Nat) : Int)] from by simp only [List.take_zero, Nt.setF]; exact K1.out), HB1.out⟩
  case round =>
    obtain ⟨k, hk, rfl, hT, hR, hS, hB⟩ := hrel
    replace hT : ∀ m ∈ l.take k, Nt.noteB m = true := hT
    replace hB : Below w.heap.size w wr := hB
    replace hR : Blk wr rb 97 #[.int .u64 0, .int .u64 0] := hR
    have hlt := Nt.setF_lt hT (show 0 < 2 ^ 128 by decide)
    obtain ⟨z, hz⟩ : ∃ z, Nt.setF (l.take k) 0 = z := ⟨_, rfl⟩
    rw [hz] at hS hlt
    replace hS : Blk wr (rb + 1) 97 #[.int .u64 ((Nt.lo z : Nat) : Int), .int .u64 ((Nt.hi z : Nat) : Int)] := hS
    have HT := Lib.hid hT
    have HZ := Lib.hid hz
    have g0 := hS.cell 0
    have g1 := hS.cell 1
    have r0 := hR.cell 0
    have r1 := hR.cell 1
    have fr := hR.frozen
    have fs := hS.frozen
    simp only [List.getElem?_toArray, List.getElem?_cons_zero, List.getElem?_cons_succ] at g0 g1 r0 r1
    have HR := Lib.hid hR
    have HS := Lib.hid hS
    have HB := Lib.hid hB
    clear hT hz hR hS
    by_cases hkn : k < n
    · have hkl : k < l.length := by rw [HN.out]; exact hkn
      obtain ⟨ad, rfl, hf, hc⟩ := HAT.out k hkl
      have hknI : (k : Int) < n := by omega
      have q0 := (hB.cell (p := ad.add k) (by rw [block_of_add]; exact hF _ hf)).trans hc
      have hI := fun W => isNote_any l[k] W
      have hst := Nt.setF_take (x := 0) hkl
      have htk : l.take (k + 1) = l.take k ++ [l[k]] := by rw [List.take_add_one, List.getElem?_eq_getElem hkl]; rfl
      have hall : l.all Nt.noteB = true → Nt.noteB l[k] = true := fun h => List.all_eq_true.1 h _ (List.getElem_mem hkl)
      rw [HZ.out] at hst
      have HST := Lib.hid hst
      have HTK := Lib.hid htk
      have HALL := Lib.hid hall
      clear hB hst htk hall hc hf
      generalize l[k] = m at *
      clear hkl
      cases hm : Nt.noteB m with
      | false =>
        have HO : Hid (ofR l = (0, 3)) := Lib.hid (by
          unfold ofR
          rw [if_neg]
          intro h
          rw [HALL.out h] at hm
          cases hm)
        rw [hm] at hI
        have HI := Lib.hid hI
        clear hI hm hlt
        go_wp2_with (go_at_call 44; (with_reducible refine ((HI.out _).mono ?_)); rintro e w2 ⟨rfl, rfl⟩)
        refine bodyPost_ret (v := .tuple #[.agg #[.int .u64 0, .int .u64 0], .int .i64 3]) ?_ rfl ⟨by rw [HO.out]; rfl, Bs (Bs HB.out _ (Nat.le_of_eq HRB.out)) _ (Nat.le_of_eq HRB.out)⟩
        have KF := two_set HR.out (.int .u64 0) (.int .u64 0)
        have m0 := KF.cell 0
        have m1 := KF.cell 1
        simp only [List.getElem?_toArray, List.getElem?_cons_zero, List.getElem?_cons_succ] at m0 m1
        clear KF HR HS HB HO HT
        simp [results, Tryz.results43, go_sem, m0, m1]
      | true =>
        rw [hm] at hI
        have HI := Lib.hid hI
        have hb := hm
        unfold Nt.noteB at hb
        simp at hb
        obtain ⟨mn, rfl⟩ : ∃ mn : Nat, m = mn := ⟨m.toNat, by omega⟩
        have HWI := Lib.hid (fun W => with_any z mn hlt (by omega) W)
        have HM := Lib.hid hm
        clear hI hm hlt hb
        unfold ntV at HWI
        go_wp2_with (first
          | (go_at_call 44; (with_reducible refine ((HI.out _).mono ?_)); rintro e w2 ⟨rfl, rfl⟩)
          | (go_at_call 46; (with_reducible refine ((HWI.out _).mono ?_)); rintro e w3 ⟨rfl, hb3⟩; have HB3 := Lib.hid hb3; have S3 := HS.out.below hb3 HS.out.lt; have fs3 := S3.frozen; have s0 := S3.cell 0; have s1 := S3.cell 1; simp only [List.getElem?_toArray, List.getElem?_cons_zero, List.getElem?_cons_succ] at s0 s1; have HS3 := Lib.hid S3; clear hb3 S3))
        go_roundw
        case rel =>
          refine ⟨k + 1, by omega, by go_num, ?_, ?_, ?_, ?_⟩
          · show ∀ q ∈ l.take (k + 1), Nt.noteB q = true
            rw [HTK.out]
            intro q hq
            rcases List.mem_append.1 hq with hq | hq
            · exact HT.out q hq
            · simp only [List.mem_singleton] at hq; subst hq; exact HM.out
          · exact ((HR.out.below HB3.out HR.out.lt).far (by simp) _).far (by simp) _
          · show Blk _ (rb + 1) _ _
            rw [HST.out, Int.toNat_natCast]
            exact two_set HS3.out _ _
          · exact Bs (Bs (Bt HB.out HB3.out) _ (by have := HRB.out; simp; omega)) _ (by have := HRB.out; simp; omega)
        case measure => simp [intOf]; omega
    · obtain rfl : k = n := by omega
      have HO : Hid (ofR l = (z, 0)) := Lib.hid (by
        have h1 : l.take k = l := List.take_of_length_le (by rw [HN.out]; omega)
        have h2 := HT.out
        have h3 := HZ.out
        rw [h1] at h2 h3
        unfold ofR
        rw [if_pos (List.all_eq_true.2 h2), h3])
      clear hB hlt
      go_wp2
      refine bodyPost_ret (v := .tuple #[.agg #[.int .u64 ((Nt.lo z : Nat) : Int), .int .u64 ((Nt.hi z : Nat) : Int)], .int .i64 0]) ?_ rfl ⟨by rw [HO.out]; rfl, Bs (Bs HB.out _ (Nat.le_of_eq HRB.out)) _ (Nat.le_of_eq HRB.out)⟩
      have KF := two_set HR.out (.int .u64 ((Nt.lo z : Nat) : Int)) (.int .u64 ((Nt.hi z : Nat) : Int))
      have m0 := KF.cell 0
      have m1 := KF.cell 1
      simp only [List.getElem?_toArray, List.getElem?_cons_zero, List.getElem?_cons_succ] at m0 m1
      clear KF HR HS HB HO HT
      simp [results, Tryz.results43, go_sem, m0, m1]
end Go.Proofs.YtnfpjcjlapljjaaGreatDoor
