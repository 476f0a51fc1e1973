/- Walks over slices at ints: Repeat of one number, Grow, Concat of two. -/
import Derived.Test.YtnphdmiondccgaaYa
import Derived.Test.YtnphdmiondccgaaSm
import Derived.Test.YtnphdmiondccgaaW1
import Derived.Lib.SliceRun
import Derived.Laws.IdiomCopy
import Derived.Deep.CutRange
namespace Go.Proofs.Ytnphdmiondccgaa
open Go Go.RowKit Go.Shelf
theorem bitsMul_any (n : Nat) (hn : n ≤ 1000000) (w : World) : Calls Try.prog 31 #[.int .u64 1, .int .u64 n] w fun e w' => e = .returned (.tuple #[.int .u64 0, .int .u64 n]) ∧ w' = w := by
  have h := Any.bits_Mul Try.lays212 1 n (by omega) (by omega) w
  have h1 : 1 * n / 18446744073709551616 = 0 := by omega
  have h2 : 1 * n % 18446744073709551616 = n := by omega
  rw [h1, h2] at h
  exact h
theorem infoIn : (Try.prog.info? 3).map (fun i => (i.zero, i.size, i.bytes)) = some (some (.int .i64 0), 1, 8) := by kernel_rfl
theorem infoBo : (Try.prog.info? 4).map (fun i => (i.zero, i.size, i.bytes)) = some (some (.bool false), 1, 1) := by kernel_rfl
theorem run_copy_in (w : World) (ty : TypeId) (b o dLen dCap : Nat) (a : Addr) (sLen sCap m : Nat) (cs : List Value) (hm : Nat.min sLen dLen = m) (hn : cs.length = m)
    (hsrc : ∀ j v, cs[j]? = some v → w.cell? (a.add j) = some v) (hc : ∀ j, j < cs.length → (w.cell? ⟨b, o + j, none⟩).isSome = true) (hf : ∀ j, j < cs.length → w.frozen? ⟨b, o + j, none⟩ = false) (h1 : ∀ v ∈ cs, v.oneCell' = true) :
    (Builtin.copy_ #[26, 26] ty #[.slice (some ⟨b, o, none⟩) dLen dCap, .slice (some a) sLen sCap]).run Try.prog w = .ok (.int .i64 m) (w.setCells b o cs) := by
  have hl := run_loadCells_list (P := Try.prog) w a cs hsrc
  have hst := run_storeCells_cells (P := Try.prog) b o cs 0 w (by simpa using hc) (by simpa using hf) h1
  obtain ⟨i, hq, _, hi, _⟩ := info_parts infoIn
  rw [hn] at hl
  have hu : Try.prog.underlying 26 = some (.slice 3) := Try.underlying26
  simp [Builtin.copy_, run_underlying hu, Builtin.lenOf, Builtin.firstCells, sizeOf, typeInfo, hq, hi, hm, hl, hst]
  rfl
theorem run_copy_in0 (w : World) (ty : TypeId) (d a : Option Addr) (dLen dCap sLen sCap : Nat) (hm : Nat.min sLen dLen = 0) :
    (Builtin.copy_ #[26, 26] ty #[.slice d dLen dCap, .slice a sLen sCap]).run Try.prog w = .ok (.int .i64 0) w := by
  have hl : ∀ (x : Addr), (loadCells x 0).run Try.prog w = .ok #[] w := fun x => by simpa using run_loadCells_list (P := Try.prog) w x [] (by simp)
  obtain ⟨i, hq, _, hi, _⟩ := info_parts infoIn
  have hu : Try.prog.underlying 26 = some (.slice 3) := Try.underlying26
  cases d <;> cases a <;> simp [Builtin.copy_, run_underlying hu, Builtin.lenOf, Builtin.firstCells, sizeOf, typeInfo, hq, hm, storeCells, hl] <;> rfl
/-- make([]int, n), make([]bool, n). -/
theorem hmkIn (n : Nat) (hn : n ≤ 1000000) (W : World) : (Instr.makeSlice 26 (.int .i64 (n : Int)) (.int .i64 (n : Int))).run Try.prog W = .ok (.slice (some ⟨W.heap.size, 0, none⟩) n n) (W.alloc (.cells (List.replicate n (Value.int .i64 0)).toArray 3)) :=
  run_make1 Try.underlying26 infoIn rfl _ n rfl (by omega) (by omega) W
theorem hmkBo (n : Nat) (hn : n ≤ 1000000) (W : World) : (Instr.makeSlice 66 (.int .i64 (n : Int)) (.int .i64 (n : Int))).run Try.prog W = .ok (.slice (some ⟨W.heap.size, 0, none⟩) n n) (W.alloc (.cells (List.replicate n (Value.bool false)).toArray 4)) :=
  run_make1 Try.underlying66 infoBo rfl _ n rfl (by omega) (by omega) W
theorem setCells_grown (g : Nat) : ∀ (vs : List Value) (o : Nat) (a w : World), a.grownBy w (some g) → a.grownBy (w.setCells g o vs) (some g)
  | [], _, _, _, h => h
  | v :: r, o, a, _, h => setCells_grown g r (o + 1) a _ (only_setCell h (.inl rfl) v)
/-- The first m of a row of n numbers are x. -/
structure RepSt (w W : World) (g n m : Nat) (x : Int) : Prop where
  old : w.heap.size ≤ g
  bel : Below w.heap.size w W
  row : W.rowIs g 3 n (fun j => .int .i64 (if j < m then x else 0))
theorem RepSt.put {w W : World} {g n m q : Nat} {x : Int} (h : RepSt w W g n m x) : RepSt w (W.setCells g m (List.replicate q (Value.int .i64 x))) g n (m + q) x := by
  refine ⟨h.old, h.bel.grown (setCells_grown g _ _ W W (World.grownBy.refl W _)) h.bel.size (fun k e => by injection e with e; have := h.old; omega), ?_⟩
  refine (Go.rowIs_setCells _ _ _ _ h.row).congr fun j _ => ?_
  rw [List.length_replicate]
  by_cases h1 : m ≤ j ∧ j < m + q
  · rw [if_pos h1, if_pos h1.2, List.getElem?_replicate, if_pos (by omega)]; rfl
  · rw [if_neg h1]
    by_cases h2 : j < m
    · rw [if_pos h2, if_pos (by omega)]
    · rw [if_neg h2, if_neg (by omega)]
theorem RepSt.drew {w W : World} {g n m : Nat} {x : Int} (h : RepSt w W g n m x) : RepSt w W.drew g n m x := ⟨h.old, h.bel.drew, h.row⟩
theorem RepSt.src {w W : World} {g n m : Nat} {x : Int} (h : RepSt w W g n m x) (q : Nat) (hq : q ≤ m) (hm : m ≤ n) : ∀ j v, (List.replicate q (Value.int .i64 x))[j]? = some v → W.cell? ((⟨g, 0, none⟩ : Addr).add j) = some v := fun j v hv => by
  rw [List.getElem?_replicate] at hv
  split at hv
  · injection hv with hv
    rw [addr0, h.row.cell (by omega), if_pos (by omega), hv]
  · cases hv
theorem RepSt.ri {w W : World} {g n : Nat} {x : Int} (h : RepSt w W g n n x) : RI W g (List.replicate n x) := by
  unfold RI
  rw [List.length_replicate]
  refine h.row.congr fun j hj => ?_
  rw [if_pos hj, Asg.g0_replicate hj]
set_option maxRecDepth 100000 in
set_option maxHeartbeats 2000000 in
/-- slices.Repeat([]int{x}, n) -/
theorem repeat_any (n : Nat) (hn : n ≤ 100000) (h0 : 0 < n) (x : Int) (g : Nat) (w : World) (hB : Blk w g 3 #[.int .i64 x]) :
    Calls Try.prog 24 #[.slice (some ⟨g, 0, none⟩) 1 1, .int .i64 n] w fun e w' => e = .returned (.slice (some ⟨w.heap.size, 0, none⟩) n n) ∧ RI w' w.heap.size (List.replicate n x) ∧ Below w.heap.size w w' := by
  have HM := Lib.hid (fun W => bitsMul_any n (by omega) W)
  have hmk := hmkIn n (by omega)
  have d0 : decide ((n : Int) < 0) = false := decide_eq_false (by omega)
  have d1 : decide ((9223372036854775807 : Int) < (n : Int)) = false := decide_eq_false (by omega)
  have v1 : IntKind.u64.wrap (n : Int) = n := by rw [IntKind.wrap_u64]; omega
  have v2 : IntKind.i64.wrap (n : Int) = n := IntWalk.i64_in _ (by omega)
  obtain ⟨w2, hw2⟩ : ∃ w2 : World, w.alloc (.cells (List.replicate n (Value.int .i64 0)).toArray 3) = w2 := ⟨_, rfl⟩
  obtain ⟨g2, hg2⟩ : ∃ g2, w.heap.size = g2 := ⟨_, rfl⟩
  have K2 : RI w2 g2 (List.replicate n 0) := by rw [← hw2, ← hg2]; exact RI.made _ _ _
  have B2 : Below w.heap.size w w2 := by rw [← hw2]; exact Ba (B0 w) _
  have hmk2 := hmk w
  rw [hw2, hg2] at hmk2
  have hst : RepSt w w2 g2 n 0 x := ⟨by omega, B2, by
    have h := K2
    unfold RI at h
    rw [List.length_replicate] at h
    exact h.congr fun j hj => by rw [Asg.g0_replicate hj]; simp⟩
  have hst1 := hst.put (q := 1)
  have hall : ∀ (W : World) (m : Nat) (h : RepSt w W g2 n m x) (o : Nat) (q : Nat), o + q ≤ n → ∀ j, j < (List.replicate q (Value.int .i64 x)).length → (W.cell? ⟨g2, o + j, none⟩).isSome = true := fun W m h o q hq j hj => by
    rw [List.length_replicate] at hj
    rw [h.row.cell (by omega)]; rfl
  have hone : ∀ q, ∀ v ∈ List.replicate q (Value.int .i64 x), v.oneCell' = true := fun q v hv => by rw [List.mem_replicate] at hv; rw [hv.2]; rfl
  have hcp1 : ∀ ty, (Builtin.copy_ #[26, 26] ty #[.slice (some ⟨g2, 0, none⟩) n n, .slice (some ⟨g, 0, none⟩) 1 1]).run Try.prog w2 = .ok (.int .i64 1) (w2.setCells g2 0 (List.replicate 1 (Value.int .i64 x))) := fun ty =>
    run_copy_in w2 ty g2 0 n n ⟨g, 0, none⟩ 1 1 1 _ (by show min 1 n = 1; omega) (by simp) (fun j v hv => by
      have hb := hB.below B2 hB.lt
      rw [addr0, hb.cell]
      cases j with
      | zero => simpa using hv
      | succ j => simp at hv) (hall _ _ hst 0 1 (by omega)) (fun j _ => hst.row.frozen _) (hone 1)
  rw [Nat.zero_add] at hst1
  obtain ⟨w3, hw3⟩ : ∃ w3 : World, w2.setCells g2 0 (List.replicate 1 (Value.int .i64 x)) = w3 := ⟨_, rfl⟩
  have hst1' : RepSt w w3 g2 n 1 x := by rw [← hw3]; exact hst1
  rw [hw3] at hcp1
  have HST := Lib.hid hst1'
  have HALL := Lib.hid hall
  have HG2 := Lib.hid hg2
  clear hmk hw2 hg2 K2 B2 hB hst hst1 hst1' hw3 hall
  go_enter Try.func24, Try.ntmps24
  go_wp2_with (go_at_call 31; (with_reducible refine ((HM.out _).mono ?_)); rintro e w' ⟨rfl, hw'⟩; rw [hw']; clear hw')
  clear hmk2 hcp1
  go_loopg [8] n (fun gg s8 wr => ∃ m : Nat, 1 ≤ m ∧ m ≤ n ∧ n - m ≤ gg ∧ s8 = .int .i64 m ∧ Aside (RepSt w wr g2 n m x))
  case atStart => exact ⟨1, by omega, by omega, by omega, rfl, HST.out⟩
  case round =>
    obtain ⟨m, hm1, hm2, hgg, rfl, HS⟩ := hrel
    replace HS : Hid (RepSt w wr g2 n m x) := Lib.hid HS
    by_cases hlt : m < n
    · have hltI : (m : Int) < n := by omega
      obtain ⟨q, hq⟩ : ∃ q, Nat.min m (n - m) = q := ⟨_, rfl⟩
      have hq1 : 1 ≤ q ∧ m + q ≤ n ∧ q ≤ m := by
        have : Nat.min m (n - m) = min m (n - m) := rfl
        omega
      have hcp : ∀ ty, (Builtin.copy_ #[26, 26] ty #[.slice (some ⟨g2, m, none⟩) (n - m) (n - m), .slice (some ⟨g2, 0, none⟩) m n]).run Try.prog wr.drew = .ok (.int .i64 q) (wr.drew.setCells g2 m (List.replicate q (Value.int .i64 x))) := fun ty =>
        run_copy_in wr.drew ty g2 m (n - m) (n - m) ⟨g2, 0, none⟩ m n q _ hq (by simp) (HS.out.drew.src q hq1.2.2 hm2) (HALL.out _ _ HS.out.drew m q hq1.2.1) (fun j _ => HS.out.drew.row.frozen _) (hone q)
      obtain ⟨mq, hmq⟩ : ∃ mq, m + q = mq := ⟨_, rfl⟩
      have e1 : (m : Int) + q = mq := by omega
      clear hq
      go_upto_region 9 with fail
      go_region
      all_goals
        go_wp2
        go_roundg (n - mq)
        case measure => omega
        case rel => exact ⟨mq, by omega, by omega, by omega, by go_num, (show Aside _ from by show RepSt _ _ _ _ _ _; rw [← hmq]; exact (HS.out.drew).put)⟩
    · obtain rfl : m = n := by omega
      go_wp2
      go_ret
      exact ⟨by rw [HG2.out]; rfl, by rw [HG2.out]; exact HS.out.ri, HS.out.bel⟩
end Go.Proofs.Ytnphdmiondccgaa
