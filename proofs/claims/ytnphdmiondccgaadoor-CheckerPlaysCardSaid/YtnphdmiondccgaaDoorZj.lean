/- The iterator of span.divisions. -/
import Derived.Test.YtnphdmiondccgaaDoorZi
import Derived.Test.YtnphdmiondccgaaDoorRegIn
namespace Go.Proofs.YtnphdmiondccgaaDoor
open Go Go.RowKit Go.Shelf
attribute [local go_sem] Oper.semAt_some
open Pop
/-- The left parts of the divisions that two hands can hold; whether there is one. -/
def divG (hn hs : Int) (l : List Int) (k : Nat) : Bool := oneF hn hs (l.take k) && oneF hn hs (l.drop k)
def divF (hn hs : Int) (l : List Int) : List Nat := (List.range (l.length + 1)).filter (divG hn hs l)
def twoF (hn hs : Int) (l : List Int) : Bool := (List.range (l.length + 1)).any (divG hn hs l)
theorem range_filter_step (p : Nat → Bool) (k : Nat) : (List.range (k + 1)).filter p = (List.range k).filter p ++ (if p k = true then [k] else []) := by
  rw [List.range_succ, List.filter_append]
  by_cases h : p k = true <;> simp [h]
theorem range_filter_prefix (p : Nat → Bool) {k m : Nat} (h : k ≤ m) : (List.range k).filter p <+: (List.range m).filter p := by
  obtain ⟨d, rfl⟩ : ∃ d, m = k + d := ⟨m - k, by omega⟩
  rw [List.range_add, List.filter_append]
  exact List.prefix_append _ _
-- what holds behind each operation
/-- What holds behind each operation of a drawn region. -/
def FDA (hn hs fn fs : Int) (A : Option Addr) (m c k : Nat) (V1 : Value) (j : Nat) (s : Nat → Value) (_w : World) : Prop :=
  match j with
  | 0 => s 11 = .agg #[.int .i64 hn, .int .i64 hs, .int .i64 fn, .int .i64 fs]
  | 1 => s 12 = .slice A m c
  | 2 => s 13 = .int .i64 (k : Int)
  | 3 => s 14 = V1
  | 4 => s 15 = .bool false
  | 5 => s 16 = .bool false
  | 6 => True
  | 7 => True
  | 8 => True
  | 9 => True
  | 10 => True
  | 11 => s 22 = .bool false
  | 12 => s 23 = .bool false
  | 13 => True
  | 14 => True
  | 15 => True
  | 16 => True
  | 17 => s 28 = .bool false
  | _ => True
def VDA (j : Nat) : List Nat := match j with
  | 0 => [11] | 1 => [12] | 2 => [13] | 3 => [14] | 4 => [15] | 5 => [16] | 6 => [17] | 7 => [18] | 8 => [19] | 9 => [20] | 10 => [21] | 11 => [22] | 12 => [23] | 13 => [24] | 14 => [25] | 15 => [26] | 16 => [27] | 17 => [28] | _ => []
def EDA (j : Nat) : Bool := j == 17
theorem FDA_V (hn hs fn fs : Int) (A : Option Addr) (m c k : Nat) (V1 : Value) (j : Nat) (s s' : Nat → Value) (w : World) (h : ∀ t, t ∈ VDA j → s' t = s t) (hF : FDA hn hs fn fs A m c k V1 j s w) : FDA hn hs fn fs A m c k V1 j s' w := by
  match j with
  | 0 => unfold FDA at hF ⊢; simp only at hF ⊢; rw [h 11 (by simp [VDA])]; exact hF
  | 1 => unfold FDA at hF ⊢; simp only at hF ⊢; rw [h 12 (by simp [VDA])]; exact hF
  | 2 => unfold FDA at hF ⊢; simp only at hF ⊢; rw [h 13 (by simp [VDA])]; exact hF
  | 3 => unfold FDA at hF ⊢; simp only at hF ⊢; rw [h 14 (by simp [VDA])]; exact hF
  | 4 => unfold FDA at hF ⊢; simp only at hF ⊢; rw [h 15 (by simp [VDA])]; exact hF
  | 5 => unfold FDA at hF ⊢; simp only at hF ⊢; rw [h 16 (by simp [VDA])]; exact hF
  | 6 => exact hF
  | 7 => exact hF
  | 8 => exact hF
  | 9 => exact hF
  | 10 => exact hF
  | 11 => unfold FDA at hF ⊢; simp only at hF ⊢; rw [h 22 (by simp [VDA])]; exact hF
  | 12 => unfold FDA at hF ⊢; simp only at hF ⊢; rw [h 23 (by simp [VDA])]; exact hF
  | 13 => exact hF
  | 14 => exact hF
  | 15 => exact hF
  | 16 => exact hF
  | 17 => unfold FDA at hF ⊢; simp only at hF ⊢; rw [h 28 (by simp [VDA])]; exact hF
  | _ + 18 => trivial
theorem FDA_below (hn hs fn fs : Int) (A : Option Addr) (m c k : Nat) (V1 : Value) (j : Nat) (s : Nat → Value) (w w' : World) (_hb : Below w.heap.size w w') (hF : FDA hn hs fn fs A m c k V1 j s w) : FDA hn hs fn fs A m c k V1 j s w' := by
  match j with
  | 0 => exact hF
  | 1 => exact hF
  | 2 => exact hF
  | 3 => exact hF
  | 4 => exact hF
  | 5 => exact hF
  | 6 => exact hF
  | 7 => exact hF
  | 8 => exact hF
  | 9 => exact hF
  | 10 => exact hF
  | 11 => exact hF
  | 12 => exact hF
  | 13 => exact hF
  | 14 => exact hF
  | 15 => exact hF
  | 16 => exact hF
  | 17 => exact hF
  | _ + 18 => trivial
-- what holds behind each operation
/-- What holds behind each operation of a drawn region. -/
def FDB (hn hs fn fs : Int) (A : Option Addr) (m c k : Nat) (V1 V2 : Value) (j : Nat) (s : Nat → Value) (_w : World) : Prop :=
  match j with
  | 0 => s 11 = .agg #[.int .i64 hn, .int .i64 hs, .int .i64 fn, .int .i64 fs]
  | 1 => s 12 = .slice A m c
  | 2 => s 13 = .int .i64 (k : Int)
  | 3 => s 14 = V1
  | 4 => s 15 = .bool true
  | 5 => s 16 = .bool true
  | 6 => s 17 = .agg #[.int .i64 hn, .int .i64 hs, .int .i64 fn, .int .i64 fs]
  | 7 => s 18 = .slice A m c
  | 8 => s 19 = .int .i64 (k : Int)
  | 9 => s 20 = V2
  | 10 => s 21 = .bool false
  | 11 => s 22 = .bool false
  | 12 => s 23 = .bool false
  | 13 => True
  | 14 => True
  | 15 => True
  | 16 => True
  | 17 => s 28 = .bool false
  | _ => True
def VDB (j : Nat) : List Nat := match j with
  | 0 => [11] | 1 => [12] | 2 => [13] | 3 => [14] | 4 => [15] | 5 => [16] | 6 => [17] | 7 => [18] | 8 => [19] | 9 => [20] | 10 => [21] | 11 => [22] | 12 => [23] | 13 => [24] | 14 => [25] | 15 => [26] | 16 => [27] | 17 => [28] | _ => []
def EDB (j : Nat) : Bool := j == 17
theorem FDB_V (hn hs fn fs : Int) (A : Option Addr) (m c k : Nat) (V1 V2 : Value) (j : Nat) (s s' : Nat → Value) (w : World) (h : ∀ t, t ∈ VDB j → s' t = s t) (hF : FDB hn hs fn fs A m c k V1 V2 j s w) : FDB hn hs fn fs A m c k V1 V2 j s' w := by
  match j with
  | 0 => unfold FDB at hF ⊢; simp only at hF ⊢; rw [h 11 (by simp [VDB])]; exact hF
  | 1 => unfold FDB at hF ⊢; simp only at hF ⊢; rw [h 12 (by simp [VDB])]; exact hF
  | 2 => unfold FDB at hF ⊢; simp only at hF ⊢; rw [h 13 (by simp [VDB])]; exact hF
  | 3 => unfold FDB at hF ⊢; simp only at hF ⊢; rw [h 14 (by simp [VDB])]; exact hF
  | 4 => unfold FDB at hF ⊢; simp only at hF ⊢; rw [h 15 (by simp [VDB])]; exact hF
  | 5 => unfold FDB at hF ⊢; simp only at hF ⊢; rw [h 16 (by simp [VDB])]; exact hF
  | 6 => unfold FDB at hF ⊢; simp only at hF ⊢; rw [h 17 (by simp [VDB])]; exact hF
  | 7 => unfold FDB at hF ⊢; simp only at hF ⊢; rw [h 18 (by simp [VDB])]; exact hF
  | 8 => unfold FDB at hF ⊢; simp only at hF ⊢; rw [h 19 (by simp [VDB])]; exact hF
  | 9 => unfold FDB at hF ⊢; simp only at hF ⊢; rw [h 20 (by simp [VDB])]; exact hF
  | 10 => unfold FDB at hF ⊢; simp only at hF ⊢; rw [h 21 (by simp [VDB])]; exact hF
  | 11 => unfold FDB at hF ⊢; simp only at hF ⊢; rw [h 22 (by simp [VDB])]; exact hF
  | 12 => unfold FDB at hF ⊢; simp only at hF ⊢; rw [h 23 (by simp [VDB])]; exact hF
  | 13 => exact hF
  | 14 => exact hF
  | 15 => exact hF
  | 16 => exact hF
  | 17 => unfold FDB at hF ⊢; simp only at hF ⊢; rw [h 28 (by simp [VDB])]; exact hF
  | _ + 18 => trivial
theorem FDB_below (hn hs fn fs : Int) (A : Option Addr) (m c k : Nat) (V1 V2 : Value) (j : Nat) (s : Nat → Value) (w w' : World) (_hb : Below w.heap.size w w') (hF : FDB hn hs fn fs A m c k V1 V2 j s w) : FDB hn hs fn fs A m c k V1 V2 j s w' := by
  match j with
  | 0 => exact hF
  | 1 => exact hF
  | 2 => exact hF
  | 3 => exact hF
  | 4 => exact hF
  | 5 => exact hF
  | 6 => exact hF
  | 7 => exact hF
  | 8 => exact hF
  | 9 => exact hF
  | 10 => exact hF
  | 11 => exact hF
  | 12 => exact hF
  | 13 => exact hF
  | 14 => exact hF
  | 15 => exact hF
  | 16 => exact hF
  | 17 => exact hF
  | _ + 18 => trivial
-- what holds behind each operation
/-- What holds behind each operation of a drawn region. -/
def FDG (hn hs fn fs : Int) (A : Option Addr) (m c k yl : Nat) (V1 V2 : Value) (j : Nat) (s : Nat → Value) (_w : World) : Prop :=
  match j with
  | 0 => s 11 = .agg #[.int .i64 hn, .int .i64 hs, .int .i64 fn, .int .i64 fs]
  | 1 => s 12 = .slice A m c
  | 2 => s 13 = .int .i64 (k : Int)
  | 3 => s 14 = V1
  | 4 => s 15 = .bool true
  | 5 => s 16 = .bool true
  | 6 => s 17 = .agg #[.int .i64 hn, .int .i64 hs, .int .i64 fn, .int .i64 fs]
  | 7 => s 18 = .slice A m c
  | 8 => s 19 = .int .i64 (k : Int)
  | 9 => s 20 = V2
  | 10 => s 21 = .bool true
  | 11 => s 22 = .bool true
  | 12 => s 23 = .bool true
  | 13 => s 24 = .func (.yield yl) #[] #[]
  | 14 => s 25 = .int .i64 (k : Int)
  | _ => True
def VDG (j : Nat) : List Nat := match j with
  | 0 => [11] | 1 => [12] | 2 => [13] | 3 => [14] | 4 => [15] | 5 => [16] | 6 => [17] | 7 => [18] | 8 => [19] | 9 => [20] | 10 => [21] | 11 => [22] | 12 => [23] | 13 => [24] | 14 => [25] | _ => []
def EDG (j : Nat) : Bool := j == 12 || j == 13 || j == 14
theorem FDG_V (hn hs fn fs : Int) (A : Option Addr) (m c k yl : Nat) (V1 V2 : Value) (j : Nat) (s s' : Nat → Value) (w : World) (h : ∀ t, t ∈ VDG j → s' t = s t) (hF : FDG hn hs fn fs A m c k yl V1 V2 j s w) : FDG hn hs fn fs A m c k yl V1 V2 j s' w := by
  match j with
  | 0 => unfold FDG at hF ⊢; simp only at hF ⊢; rw [h 11 (by simp [VDG])]; exact hF
  | 1 => unfold FDG at hF ⊢; simp only at hF ⊢; rw [h 12 (by simp [VDG])]; exact hF
  | 2 => unfold FDG at hF ⊢; simp only at hF ⊢; rw [h 13 (by simp [VDG])]; exact hF
  | 3 => unfold FDG at hF ⊢; simp only at hF ⊢; rw [h 14 (by simp [VDG])]; exact hF
  | 4 => unfold FDG at hF ⊢; simp only at hF ⊢; rw [h 15 (by simp [VDG])]; exact hF
  | 5 => unfold FDG at hF ⊢; simp only at hF ⊢; rw [h 16 (by simp [VDG])]; exact hF
  | 6 => unfold FDG at hF ⊢; simp only at hF ⊢; rw [h 17 (by simp [VDG])]; exact hF
  | 7 => unfold FDG at hF ⊢; simp only at hF ⊢; rw [h 18 (by simp [VDG])]; exact hF
  | 8 => unfold FDG at hF ⊢; simp only at hF ⊢; rw [h 19 (by simp [VDG])]; exact hF
  | 9 => unfold FDG at hF ⊢; simp only at hF ⊢; rw [h 20 (by simp [VDG])]; exact hF
  | 10 => unfold FDG at hF ⊢; simp only at hF ⊢; rw [h 21 (by simp [VDG])]; exact hF
  | 11 => unfold FDG at hF ⊢; simp only at hF ⊢; rw [h 22 (by simp [VDG])]; exact hF
  | 12 => unfold FDG at hF ⊢; simp only at hF ⊢; rw [h 23 (by simp [VDG])]; exact hF
  | 13 => unfold FDG at hF ⊢; simp only at hF ⊢; rw [h 24 (by simp [VDG])]; exact hF
  | 14 => unfold FDG at hF ⊢; simp only at hF ⊢; rw [h 25 (by simp [VDG])]; exact hF
  | _ + 15 => trivial
theorem FDG_below (hn hs fn fs : Int) (A : Option Addr) (m c k yl : Nat) (V1 V2 : Value) (j : Nat) (s : Nat → Value) (w w' : World) (_hb : Below w.heap.size w w') (hF : FDG hn hs fn fs A m c k yl V1 V2 j s w) : FDG hn hs fn fs A m c k yl V1 V2 j s w' := by
  match j with
  | 0 => exact hF
  | 1 => exact hF
  | 2 => exact hF
  | 3 => exact hF
  | 4 => exact hF
  | 5 => exact hF
  | 6 => exact hF
  | 7 => exact hF
  | 8 => exact hF
  | 9 => exact hF
  | 10 => exact hF
  | 11 => exact hF
  | 12 => exact hF
  | 13 => exact hF
  | 14 => exact hF
  | _ + 15 => trivial
set_option maxRecDepth 100000 in
set_option maxHeartbeats 2000000 in
theorem div1_in (hn hs fn fs : Int) (l : List Int) (hsm : Sm l) (v : Value) (F0 : Nat → Prop) (n : Nat) (hn1 : 1 ≤ n) (yl B1 B2 n₀ : Nat) (J Jx : List Nat → World → Prop)
    (hJ : ∀ pre W1 W2, Below W1.heap.size W1 W2 → n₀ ≤ W1.heap.size → J pre W1 → J pre W2)
    (hY : ∀ pre (k : Nat) W, J pre W → pre.length < 1000000000000000 → YieldAt Fence.wide (n - 1) Tryd.prog yl #[.int .i64 (k : Int)] W fun e W' =>
      (e = .returned (.bool true) ∧ J (pre ++ [k]) W' ∧ Below n₀ W W') ∨ (e = .returned (.bool false) ∧ Jx (pre ++ [k]) W'))
    (W : World) (hB1 : B1 < n₀) (hB2 : B2 < n₀) (hF0 : ∀ b, F0 b → b < n₀) (hn0 : n₀ ≤ W.heap.size) (hv : SlI F0 W v l) (hc1 : W.cell? ⟨B1, 0, none⟩ = some v)
    (hc2 : ∀ i u, (#[Value.int .i64 hn, .int .i64 hs, .int .i64 fn, .int .i64 fs])[i]? = some u → W.cell? ⟨B2, i, none⟩ = some u) (h0 : J [] W) :
    CallsIn Fence.wide n Tryd.prog 83 #[.func (.yield yl) #[] #[], .pointer (some ⟨B1, 0, none⟩), .pointer (some ⟨B2, 0, none⟩)] W fun e W' => (∃ v, e = .returned v) ∧
      ((∃ ys : List Nat, ys = divF hn hs l ∧ J ys W') ∨ (∃ pre : List Nat, pre <+: divF hn hs l ∧ Jx pre W')) := by
  obtain ⟨A, c, rfl, hc, hlen, -⟩ := hv.open
  obtain ⟨m, hm⟩ : ∃ m, l.length = m := ⟨_, rfl⟩
  have HV := Lib.hid hv
  have HM := Lib.hid hm
  rw [hm] at hc1 hc hlen HV
  have HC1 := Lib.hid hc1
  have HC2 := Lib.hid hc2
  have HJ := Lib.hid hJ
  have HF0 := Lib.hid hF0
  have e1 : IntKind.i64.wrap ((m : Int) + 1) = (m + 1 : Nat) := by rw [IntWalk.i64_in _ (by omega)]; omega
  clear hv hc2 hJ hF0 hm
  refine callsIn_of_wp Tryd.func83 rfl trivial ?_ rfl
  simp only [Tryd.ntmps83, List.size_toArray, List.length_cons, List.length_nil, Nat.reduceAdd, Nat.reduceSub, Array.replicate_succ, Array.replicate_zero, List.push_toArray, List.append_toArray, List.nil_append, List.cons_append]
  gi_wp2
  clear hc1
  gi_loopw [8] (fun p wr => ∃ k : Nat, p = .int .i64 k ∧ k ≤ m + 1 ∧ J ((List.range k).filter (divG hn hs l)) wr ∧ Below n₀ W wr)
    (fun p _ => m + 1 - (intOf p).toNat)
  case atStart => exact ⟨0, rfl, by omega, h0, Below.refl _ _⟩
  case round =>
    obtain ⟨k, rfl, hk, hJs, hB⟩ := hrel
    by_cases hlt : k < m + 1
    · have hltI : (k : Int) < (m + 1 : Nat) := by omega
      obtain ⟨r1, hr1⟩ : ∃ r, oneF hn hs (l.take k) = r := ⟨_, rfl⟩
      obtain ⟨r2, hr2⟩ : ∃ r, oneF hn hs (l.drop k) = r := ⟨_, rfl⟩
      have HBr := Lib.hid hB
      have hkm : k ≤ m := by omega
      have hsr := hB.size
      have hs1 : ∀ w, (Instr.slice 32 (.slice A m c) none (some (.int .i64 (k : Int))) none).run Tryd.prog w = .ok (sliced A 0 k c 1) w := fun w => run_to w A m c k hkm hc
      have hs2 : ∀ w, (Instr.slice 32 (.slice A m c) (some (.int .i64 (k : Int))) none none).run Tryd.prog w = .ok (sliced A k m c 1) w := fun w => run_from w A m c k hkm
      have hv1 := HV.out.to hkm
      have hv2 := HV.out.from_ hkm
      have ho1 := fun W2 (hb : Below wr.heap.size wr W2) => one_any hn hs fn fs F0 _ (l.take k) W2 (fun b h => Nat.lt_of_lt_of_le (HF0.out b h) (Nat.le_trans hn0 (Nat.le_trans (Nat.le_trans (HBr.out.size) (Nat.le_refl _)) hb.size))) ((hv1.keep (Agree.below hB HF0.out)).keep (Agree.below hb fun b h => Nat.lt_of_lt_of_le (HF0.out b h) (Nat.le_trans hn0 hsr))) (hsm.take k)
      have ho2 := fun W2 (hb : Below wr.heap.size wr W2) => one_any hn hs fn fs F0 _ (l.drop k) W2 (fun b h => Nat.lt_of_lt_of_le (HF0.out b h) (Nat.le_trans hn0 (Nat.le_trans (Nat.le_trans (HBr.out.size) (Nat.le_refl _)) hb.size))) ((hv2.keep (Agree.below hB HF0.out)).keep (Agree.below hb fun b h => Nat.lt_of_lt_of_le (HF0.out b h) (Nat.le_trans hn0 hsr))) (hsm.drop k)
      obtain ⟨V1, hV1⟩ : ∃ V, sliced A 0 k c 1 = V := ⟨_, rfl⟩
      obtain ⟨V2, hV2⟩ : ∃ V, sliced A k m c 1 = V := ⟨_, rfl⟩
      rw [hV1] at ho1
      rw [hV2] at ho2
      simp only [hV1] at hs1
      simp only [hV2] at hs2
      rw [hr1] at ho1
      rw [hr2] at ho2
      unfold plV at ho1 ho2
      have HO1 := Lib.hid ho1
      have HO2 := Lib.hid ho2
      have HP := Lib.hid (fun W2 (hb : Below wr.heap.size wr W2) => (show W2.cell? ⟨B2, 0, none⟩ = some (.int .i64 hn) ∧ W2.cell? ⟨B2, 1, none⟩ = some (.int .i64 hs) ∧ W2.cell? ⟨B2, 2, none⟩ = some (.int .i64 fn) ∧ W2.cell? ⟨B2, 3, none⟩ = some (.int .i64 fs) from
        ⟨(Bc hb (by omega)).trans ((hB.cell (p := ⟨B2, 0, none⟩) hB2).trans (HC2.out 0 _ rfl)), (Bc hb (by omega)).trans ((hB.cell (p := ⟨B2, 1, none⟩) hB2).trans (HC2.out 1 _ rfl)), (Bc hb (by omega)).trans ((hB.cell (p := ⟨B2, 2, none⟩) hB2).trans (HC2.out 2 _ rfl)), (Bc hb (by omega)).trans ((hB.cell (p := ⟨B2, 3, none⟩) hB2).trans (HC2.out 3 _ rfl))⟩))
      have HLV := Lib.hid (fun W2 (hb : Below wr.heap.size wr W2) => (show W2.cell? ⟨B1, 0, none⟩ = some (.slice A m c) from (Bc hb (by omega)).trans ((hB.cell (p := ⟨B1, 0, none⟩) hB1).trans HC1.out)))
      have hstep := range_filter_step (divG hn hs l) k
      have hgd : divG hn hs l k = (r1 && r2) := by unfold divG; rw [hr1, hr2]
      rw [hgd] at hstep
      have hJW := fun W2 (hb : Below wr.heap.size wr W2) => HJ.out _ wr W2 hb (by omega) hJs
      have hBB : ∀ (L : Nat → Bool) (i : Nat) (w w' : World), Below w.heap.size w w' → Below wr.heap.size wr w → Below wr.heap.size wr w' := fun _ _ _ _ h1 h2 => Bt h2 h1
      have HST := Lib.hid hstep
      have HJW := Lib.hid hJW
      clear hv1 hv2 ho1 ho2 hV1 hV2 hr1 hr2 hgd hstep hJW
      gi_wp2
      refine region_blocksIn (by kernel_rfl) ?_
      cases r1 with
      | false =>
        refine from_lawIn 18 EDA (fun _ W2 => Below wr.heap.size wr W2) (FDA hn hs fn fs A m c k V1) VDA (by kernel_rfl) rfl (FDA_V _ _ _ _ _ _ _ _ _) (by kernel_rfl) (by kernel_rfl) ((B0 wr).drew) ⟨?_, ?_, ?_, ?_, ?_, ?_, ?_, ?_, ?_, ?_, ?_, ?_, ?_, ?_, ?_, ?_, ?_, ?_, trivial⟩ ?_
        · refine OpFactW.value rfl (FDA_below _ _ _ _ _ _ _ _ _) hBB fun L a w2 hl hf D hb => ?_
          have h0 : sl a 2 = .pointer (some ⟨B2, 0, none⟩) := hf 2 (by kernel_rfl)
          have es := HP.out w2 hb
          refine ⟨.agg #[.int .i64 hn, .int .i64 hs, .int .i64 fn, .int .i64 fs], w2, ?_, B0 _, fun s _ h => h 11 rfl⟩
          unfold sl at h0
          simp at h0
          simp [go_sem, h0, es]
        · refine OpFactW.value rfl (FDA_below _ _ _ _ _ _ _ _ _) hBB fun L a w2 hl hf D hb => ?_
          have h0 : sl a 1 = .pointer (some ⟨B1, 0, none⟩) := hf 1 (by kernel_rfl)
          have es := HLV.out w2 hb
          refine ⟨.slice A m c, w2, ?_, B0 _, fun s _ h => h 12 rfl⟩
          unfold sl at h0
          simp at h0
          simp [go_sem, h0, es]
        · refine OpFactW.value rfl (FDA_below _ _ _ _ _ _ _ _ _) hBB fun L a w2 hl hf D hb => ?_
          have h0 : sl a 4 = .int .i64 (k : Int) := hf 4 (by kernel_rfl)
          refine ⟨.int .i64 (k : Int), w2, ?_, B0 _, fun s _ h => h 13 rfl⟩
          unfold sl at h0
          simp [go_sem, h0]
        · refine OpFactW.value rfl (FDA_below _ _ _ _ _ _ _ _ _) hBB fun L a w2 hl hf D hb => ?_
          have h1 : sl a 12 = .slice A m c := D 1 (by kernel_rfl)
          have h2 : sl a 13 = .int .i64 (k : Int) := D 2 (by kernel_rfl)
          refine ⟨V1, w2, ?_, B0 _, fun s _ h => h 14 rfl⟩
          unfold sl at h1 h2
          simp at h1 h2
          simp [go_sem, h1, h2, hs1]
        · refine OpFactW.call rfl (FDA_below _ _ _ _ _ _ _ _ _) hBB fun L a w2 hl hf D hb => ?_
          have h1 : sl a 11 = .agg #[.int .i64 hn, .int .i64 hs, .int .i64 fn, .int .i64 fs] := D 0 (by kernel_rfl)
          have h2 : sl a 14 = V1 := D 3 (by kernel_rfl)
          refine ⟨28, #[.agg #[.int .i64 hn, .int .i64 hs, .int .i64 fn, .int .i64 fs], V1], ?_, (HO1.out w2 hb).mono ?_⟩
          · unfold sl at h1 h2
            simp at h1 h2
            simp [go_sem, h1, h2]
          · rintro e w' ⟨rfl, hb3⟩
            exact ⟨_, rfl, hb3, fun s _ h => h 15 rfl⟩
        · refine OpFactW.value rfl (FDA_below _ _ _ _ _ _ _ _ _) hBB fun L a w2 hl hf D hb => ?_
          have h1 : sl a 15 = .bool false := D 4 (by kernel_rfl)
          refine ⟨.bool false, w2, ?_, B0 _, fun s _ h => h 16 rfl⟩
          unfold sl at h1
          simp at h1
          simp [go_sem, h1]
        · refine OpFactW.off (g := 5) (d := 16) (c := false) rfl rfl (by simp) (by decide) (fun _ _ _ h => h) (fun s w h => h) (by kernel_rfl) (fun s w => trivial)
        · refine OpFactW.off (g := 5) (d := 16) (c := false) rfl rfl (by simp) (by decide) (fun _ _ _ h => h) (fun s w h => h) (by kernel_rfl) (fun s w => trivial)
        · refine OpFactW.off (g := 5) (d := 16) (c := false) rfl rfl (by simp) (by decide) (fun _ _ _ h => h) (fun s w h => h) (by kernel_rfl) (fun s w => trivial)
        · refine OpFactW.off (g := 5) (d := 16) (c := false) rfl rfl (by simp) (by decide) (fun _ _ _ h => h) (fun s w h => h) (by kernel_rfl) (fun s w => trivial)
        · refine OpFactW.off (g := 5) (d := 16) (c := false) rfl rfl (by simp) (by decide) (fun _ _ _ h => h) (fun s w h => h) (by kernel_rfl) (fun s w => trivial)
        · refine OpFactW.value rfl (FDA_below _ _ _ _ _ _ _ _ _) hBB fun L a w2 hl hf D hb => ?_
          have h1 : sl a 16 = .bool false := D 5 (by kernel_rfl)
          refine ⟨.bool false, w2, ?_, B0 _, fun s _ h => h 22 rfl⟩
          unfold sl at h1
          simp at h1
          simp [go_sem, h1]
        · refine OpFactW.value rfl (FDA_below _ _ _ _ _ _ _ _ _) hBB fun L a w2 hl hf D hb => ?_
          have h1 : sl a 22 = .bool false := D 11 (by kernel_rfl)
          refine ⟨.bool false, w2, ?_, B0 _, fun s _ h => h 23 rfl⟩
          unfold sl at h1
          simp at h1
          simp [go_sem, h1]
        · refine OpFactW.off (g := 12) (d := 23) (c := false) rfl rfl (by simp) (by decide) (fun _ _ _ h => h) (fun s w h => h) (by kernel_rfl) (fun s w => trivial)
        · refine OpFactW.off (g := 12) (d := 23) (c := false) rfl rfl (by simp) (by decide) (fun _ _ _ h => h) (fun s w h => h) (by kernel_rfl) (fun s w => trivial)
        · refine OpFactW.off (g := 12) (d := 23) (c := false) rfl rfl (by simp) (by decide) (fun _ _ _ h => h) (fun s w h => h) (by kernel_rfl) (fun s w => trivial)
        · refine OpFactW.off (g := 12) (d := 23) (c := false) rfl rfl (by simp) (by decide) (fun _ _ _ h => h) (fun s w h => h) (by kernel_rfl) (fun s w => trivial)
        · refine OpFactW.value rfl (FDA_below _ _ _ _ _ _ _ _ _) hBB fun L a w2 hl hf D hb => ?_
          have h1 : sl a 23 = .bool false := D 12 (by kernel_rfl)
          refine ⟨.bool false, w2, ?_, B0 _, fun s _ h => h 28 rfl⟩
          unfold sl at h1
          simp at h1
          simp [go_sem, h1]
        intro L9 y9 w9 hb9 hF9
        have h28 : y9 28 = .bool false := hF9 17 (by decide) rfl
        clear hF9
        rw [aft18 (d0 := 11) (d1 := 12) (d2 := 13) (d3 := 14) (d4 := 15) (d5 := 16) (d6 := 17) (d7 := 18) (d8 := 19) (d9 := 20) (d10 := 21) (d11 := 22) (d12 := 23) (d13 := 24) (d14 := 25) (d15 := 26) (d16 := 27) (d17 := 28) (by kernel_rfl) rfl]
        rw [h28]
        simp only [List.set_cons_succ, List.set_cons_zero]
        refine from_endIn rfl ?_
        have HN := Lib.hid (HJW.out w9 hb9)
        gi_wp2
        go_roundw
        case rel => exact ⟨k + 1, by go_num, by omega, by rw [HST.out]; simpa using HN.out, HBr.out.trans (hb9.mono (Nat.le_trans hn0 hsr))⟩
        case measure => simp [intOf]; omega
      | true =>
        cases r2 with
        | false =>
          refine from_lawIn 18 EDB (fun _ W2 => Below wr.heap.size wr W2) (FDB hn hs fn fs A m c k V1 V2) VDB (by kernel_rfl) rfl (FDB_V _ _ _ _ _ _ _ _ _ _) (by kernel_rfl) (by kernel_rfl) ((B0 wr).drew) ⟨?_, ?_, ?_, ?_, ?_, ?_, ?_, ?_, ?_, ?_, ?_, ?_, ?_, ?_, ?_, ?_, ?_, ?_, trivial⟩ ?_
          · refine OpFactW.value rfl (FDB_below _ _ _ _ _ _ _ _ _ _) hBB fun L a w2 hl hf D hb => ?_
            have h0 : sl a 2 = .pointer (some ⟨B2, 0, none⟩) := hf 2 (by kernel_rfl)
            have es := HP.out w2 hb
            refine ⟨.agg #[.int .i64 hn, .int .i64 hs, .int .i64 fn, .int .i64 fs], w2, ?_, B0 _, fun s _ h => h 11 rfl⟩
            unfold sl at h0
            simp at h0
            simp [go_sem, h0, es]
          · refine OpFactW.value rfl (FDB_below _ _ _ _ _ _ _ _ _ _) hBB fun L a w2 hl hf D hb => ?_
            have h0 : sl a 1 = .pointer (some ⟨B1, 0, none⟩) := hf 1 (by kernel_rfl)
            have es := HLV.out w2 hb
            refine ⟨.slice A m c, w2, ?_, B0 _, fun s _ h => h 12 rfl⟩
            unfold sl at h0
            simp at h0
            simp [go_sem, h0, es]
          · refine OpFactW.value rfl (FDB_below _ _ _ _ _ _ _ _ _ _) hBB fun L a w2 hl hf D hb => ?_
            have h0 : sl a 4 = .int .i64 (k : Int) := hf 4 (by kernel_rfl)
            refine ⟨.int .i64 (k : Int), w2, ?_, B0 _, fun s _ h => h 13 rfl⟩
            unfold sl at h0
            simp [go_sem, h0]
          · refine OpFactW.value rfl (FDB_below _ _ _ _ _ _ _ _ _ _) hBB fun L a w2 hl hf D hb => ?_
            have h1 : sl a 12 = .slice A m c := D 1 (by kernel_rfl)
            have h2 : sl a 13 = .int .i64 (k : Int) := D 2 (by kernel_rfl)
            refine ⟨V1, w2, ?_, B0 _, fun s _ h => h 14 rfl⟩
            unfold sl at h1 h2
            simp at h1 h2
            simp [go_sem, h1, h2, hs1]
          · refine OpFactW.call rfl (FDB_below _ _ _ _ _ _ _ _ _ _) hBB fun L a w2 hl hf D hb => ?_
            have h1 : sl a 11 = .agg #[.int .i64 hn, .int .i64 hs, .int .i64 fn, .int .i64 fs] := D 0 (by kernel_rfl)
            have h2 : sl a 14 = V1 := D 3 (by kernel_rfl)
            refine ⟨28, #[.agg #[.int .i64 hn, .int .i64 hs, .int .i64 fn, .int .i64 fs], V1], ?_, (HO1.out w2 hb).mono ?_⟩
            · unfold sl at h1 h2
              simp at h1 h2
              simp [go_sem, h1, h2]
            · rintro e w' ⟨rfl, hb3⟩
              exact ⟨_, rfl, hb3, fun s _ h => h 15 rfl⟩
          · refine OpFactW.value rfl (FDB_below _ _ _ _ _ _ _ _ _ _) hBB fun L a w2 hl hf D hb => ?_
            have h1 : sl a 15 = .bool true := D 4 (by kernel_rfl)
            refine ⟨.bool true, w2, ?_, B0 _, fun s _ h => h 16 rfl⟩
            unfold sl at h1
            simp at h1
            simp [go_sem, h1]
          · refine OpFactW.on (g := 5) (d := 16) rfl rfl (fun s w h => h) (by kernel_rfl) fun L a w2 hl hf D hb => OpFactW.wp_value (L := L) (FDB_below _ _ _ _ _ _ _ _ _ _) hBB hb ?_
            have h0 : sl a 2 = .pointer (some ⟨B2, 0, none⟩) := hf 2 (by kernel_rfl)
            have es := HP.out w2 hb
            refine ⟨.agg #[.int .i64 hn, .int .i64 hs, .int .i64 fn, .int .i64 fs], w2, ?_, B0 _, fun s _ h => h 17 rfl⟩
            unfold sl at h0
            simp at h0
            simp [go_sem, h0, es]
          · refine OpFactW.on (g := 5) (d := 16) rfl rfl (fun s w h => h) (by kernel_rfl) fun L a w2 hl hf D hb => OpFactW.wp_value (L := L) (FDB_below _ _ _ _ _ _ _ _ _ _) hBB hb ?_
            have h0 : sl a 1 = .pointer (some ⟨B1, 0, none⟩) := hf 1 (by kernel_rfl)
            have es := HLV.out w2 hb
            refine ⟨.slice A m c, w2, ?_, B0 _, fun s _ h => h 18 rfl⟩
            unfold sl at h0
            simp at h0
            simp [go_sem, h0, es]
          · refine OpFactW.on (g := 5) (d := 16) rfl rfl (fun s w h => h) (by kernel_rfl) fun L a w2 hl hf D hb => OpFactW.wp_value (L := L) (FDB_below _ _ _ _ _ _ _ _ _ _) hBB hb ?_
            have h0 : sl a 4 = .int .i64 (k : Int) := hf 4 (by kernel_rfl)
            refine ⟨.int .i64 (k : Int), w2, ?_, B0 _, fun s _ h => h 19 rfl⟩
            unfold sl at h0
            simp [go_sem, h0]
          · refine OpFactW.on (g := 5) (d := 16) rfl rfl (fun s w h => h) (by kernel_rfl) fun L a w2 hl hf D hb => OpFactW.wp_value (L := L) (FDB_below _ _ _ _ _ _ _ _ _ _) hBB hb ?_
            have h1 : sl a 18 = .slice A m c := D 7 (by kernel_rfl)
            have h2 : sl a 19 = .int .i64 (k : Int) := D 8 (by kernel_rfl)
            refine ⟨V2, w2, ?_, B0 _, fun s _ h => h 20 rfl⟩
            unfold sl at h1 h2
            simp at h1 h2
            simp [go_sem, h1, h2, hs2]
          · refine OpFactW.on (g := 5) (d := 16) rfl rfl (fun s w h => h) (by kernel_rfl) fun L a w2 hl hf D hb => OpFactW.wp_call (L := L) (FDB_below _ _ _ _ _ _ _ _ _ _) hBB hb ?_
            have h1 : sl a 17 = .agg #[.int .i64 hn, .int .i64 hs, .int .i64 fn, .int .i64 fs] := D 6 (by kernel_rfl)
            have h2 : sl a 20 = V2 := D 9 (by kernel_rfl)
            refine ⟨28, #[.agg #[.int .i64 hn, .int .i64 hs, .int .i64 fn, .int .i64 fs], V2], ?_, (HO2.out w2 hb).mono ?_⟩
            · unfold sl at h1 h2
              simp at h1 h2
              simp [go_sem, h1, h2]
            · rintro e w' ⟨rfl, hb3⟩
              exact ⟨_, rfl, hb3, fun s _ h => h 21 rfl⟩
          · refine OpFactW.value rfl (FDB_below _ _ _ _ _ _ _ _ _ _) hBB fun L a w2 hl hf D hb => ?_
            have h1 : sl a 16 = .bool true := D 5 (by kernel_rfl)
            have h2 : sl a 21 = .bool false := D 10 (by kernel_rfl)
            refine ⟨.bool false, w2, ?_, B0 _, fun s _ h => h 22 rfl⟩
            unfold sl at h1 h2
            simp at h1 h2
            simp [go_sem, h1, h2]
          · refine OpFactW.value rfl (FDB_below _ _ _ _ _ _ _ _ _ _) hBB fun L a w2 hl hf D hb => ?_
            have h1 : sl a 22 = .bool false := D 11 (by kernel_rfl)
            refine ⟨.bool false, w2, ?_, B0 _, fun s _ h => h 23 rfl⟩
            unfold sl at h1
            simp at h1
            simp [go_sem, h1]
          · refine OpFactW.off (g := 12) (d := 23) (c := false) rfl rfl (by simp) (by decide) (fun _ _ _ h => h) (fun s w h => h) (by kernel_rfl) (fun s w => trivial)
          · refine OpFactW.off (g := 12) (d := 23) (c := false) rfl rfl (by simp) (by decide) (fun _ _ _ h => h) (fun s w h => h) (by kernel_rfl) (fun s w => trivial)
          · refine OpFactW.off (g := 12) (d := 23) (c := false) rfl rfl (by simp) (by decide) (fun _ _ _ h => h) (fun s w h => h) (by kernel_rfl) (fun s w => trivial)
          · refine OpFactW.off (g := 12) (d := 23) (c := false) rfl rfl (by simp) (by decide) (fun _ _ _ h => h) (fun s w h => h) (by kernel_rfl) (fun s w => trivial)
          · refine OpFactW.value rfl (FDB_below _ _ _ _ _ _ _ _ _ _) hBB fun L a w2 hl hf D hb => ?_
            have h1 : sl a 23 = .bool false := D 12 (by kernel_rfl)
            refine ⟨.bool false, w2, ?_, B0 _, fun s _ h => h 28 rfl⟩
            unfold sl at h1
            simp at h1
            simp [go_sem, h1]
          intro L9 y9 w9 hb9 hF9
          have h28 : y9 28 = .bool false := hF9 17 (by decide) rfl
          clear hF9
          rw [aft18 (d0 := 11) (d1 := 12) (d2 := 13) (d3 := 14) (d4 := 15) (d5 := 16) (d6 := 17) (d7 := 18) (d8 := 19) (d9 := 20) (d10 := 21) (d11 := 22) (d12 := 23) (d13 := 24) (d14 := 25) (d15 := 26) (d16 := 27) (d17 := 28) (by kernel_rfl) rfl]
          rw [h28]
          simp only [List.set_cons_succ, List.set_cons_zero]
          refine from_endIn rfl ?_
          have HN := Lib.hid (HJW.out w9 hb9)
          gi_wp2
          go_roundw
          case rel => exact ⟨k + 1, by go_num, by omega, by rw [HST.out]; simpa using HN.out, HBr.out.trans (hb9.mono (Nat.le_trans hn0 hsr))⟩
          case measure => simp [intOf]; omega
        | true =>
          refine from_lawIn 15 EDG (fun _ W2 => Below wr.heap.size wr W2) (FDG hn hs fn fs A m c k yl V1 V2) VDG (by kernel_rfl) rfl (FDG_V _ _ _ _ _ _ _ _ _ _ _) (by kernel_rfl) (by kernel_rfl) ((B0 wr).drew) ⟨?_, ?_, ?_, ?_, ?_, ?_, ?_, ?_, ?_, ?_, ?_, ?_, ?_, ?_, ?_, trivial⟩ ?_
          · refine OpFactW.value rfl (FDG_below _ _ _ _ _ _ _ _ _ _ _) hBB fun L a w2 hl hf D hb => ?_
            have h0 : sl a 2 = .pointer (some ⟨B2, 0, none⟩) := hf 2 (by kernel_rfl)
            have es := HP.out w2 hb
            refine ⟨.agg #[.int .i64 hn, .int .i64 hs, .int .i64 fn, .int .i64 fs], w2, ?_, B0 _, fun s _ h => h 11 rfl⟩
            unfold sl at h0
            simp at h0
            simp [go_sem, h0, es]
          · refine OpFactW.value rfl (FDG_below _ _ _ _ _ _ _ _ _ _ _) hBB fun L a w2 hl hf D hb => ?_
            have h0 : sl a 1 = .pointer (some ⟨B1, 0, none⟩) := hf 1 (by kernel_rfl)
            have es := HLV.out w2 hb
            refine ⟨.slice A m c, w2, ?_, B0 _, fun s _ h => h 12 rfl⟩
            unfold sl at h0
            simp at h0
            simp [go_sem, h0, es]
          · refine OpFactW.value rfl (FDG_below _ _ _ _ _ _ _ _ _ _ _) hBB fun L a w2 hl hf D hb => ?_
            have h0 : sl a 4 = .int .i64 (k : Int) := hf 4 (by kernel_rfl)
            refine ⟨.int .i64 (k : Int), w2, ?_, B0 _, fun s _ h => h 13 rfl⟩
            unfold sl at h0
            simp [go_sem, h0]
          · refine OpFactW.value rfl (FDG_below _ _ _ _ _ _ _ _ _ _ _) hBB fun L a w2 hl hf D hb => ?_
            have h1 : sl a 12 = .slice A m c := D 1 (by kernel_rfl)
            have h2 : sl a 13 = .int .i64 (k : Int) := D 2 (by kernel_rfl)
            refine ⟨V1, w2, ?_, B0 _, fun s _ h => h 14 rfl⟩
            unfold sl at h1 h2
            simp at h1 h2
            simp [go_sem, h1, h2, hs1]
          · refine OpFactW.call rfl (FDG_below _ _ _ _ _ _ _ _ _ _ _) hBB fun L a w2 hl hf D hb => ?_
            have h1 : sl a 11 = .agg #[.int .i64 hn, .int .i64 hs, .int .i64 fn, .int .i64 fs] := D 0 (by kernel_rfl)
            have h2 : sl a 14 = V1 := D 3 (by kernel_rfl)
            refine ⟨28, #[.agg #[.int .i64 hn, .int .i64 hs, .int .i64 fn, .int .i64 fs], V1], ?_, (HO1.out w2 hb).mono ?_⟩
            · unfold sl at h1 h2
              simp at h1 h2
              simp [go_sem, h1, h2]
            · rintro e w' ⟨rfl, hb3⟩
              exact ⟨_, rfl, hb3, fun s _ h => h 15 rfl⟩
          · refine OpFactW.value rfl (FDG_below _ _ _ _ _ _ _ _ _ _ _) hBB fun L a w2 hl hf D hb => ?_
            have h1 : sl a 15 = .bool true := D 4 (by kernel_rfl)
            refine ⟨.bool true, w2, ?_, B0 _, fun s _ h => h 16 rfl⟩
            unfold sl at h1
            simp at h1
            simp [go_sem, h1]
          · refine OpFactW.on (g := 5) (d := 16) rfl rfl (fun s w h => h) (by kernel_rfl) fun L a w2 hl hf D hb => OpFactW.wp_value (L := L) (FDG_below _ _ _ _ _ _ _ _ _ _ _) hBB hb ?_
            have h0 : sl a 2 = .pointer (some ⟨B2, 0, none⟩) := hf 2 (by kernel_rfl)
            have es := HP.out w2 hb
            refine ⟨.agg #[.int .i64 hn, .int .i64 hs, .int .i64 fn, .int .i64 fs], w2, ?_, B0 _, fun s _ h => h 17 rfl⟩
            unfold sl at h0
            simp at h0
            simp [go_sem, h0, es]
          · refine OpFactW.on (g := 5) (d := 16) rfl rfl (fun s w h => h) (by kernel_rfl) fun L a w2 hl hf D hb => OpFactW.wp_value (L := L) (FDG_below _ _ _ _ _ _ _ _ _ _ _) hBB hb ?_
            have h0 : sl a 1 = .pointer (some ⟨B1, 0, none⟩) := hf 1 (by kernel_rfl)
            have es := HLV.out w2 hb
            refine ⟨.slice A m c, w2, ?_, B0 _, fun s _ h => h 18 rfl⟩
            unfold sl at h0
            simp at h0
            simp [go_sem, h0, es]
          · refine OpFactW.on (g := 5) (d := 16) rfl rfl (fun s w h => h) (by kernel_rfl) fun L a w2 hl hf D hb => OpFactW.wp_value (L := L) (FDG_below _ _ _ _ _ _ _ _ _ _ _) hBB hb ?_
            have h0 : sl a 4 = .int .i64 (k : Int) := hf 4 (by kernel_rfl)
            refine ⟨.int .i64 (k : Int), w2, ?_, B0 _, fun s _ h => h 19 rfl⟩
            unfold sl at h0
            simp [go_sem, h0]
          · refine OpFactW.on (g := 5) (d := 16) rfl rfl (fun s w h => h) (by kernel_rfl) fun L a w2 hl hf D hb => OpFactW.wp_value (L := L) (FDG_below _ _ _ _ _ _ _ _ _ _ _) hBB hb ?_
            have h1 : sl a 18 = .slice A m c := D 7 (by kernel_rfl)
            have h2 : sl a 19 = .int .i64 (k : Int) := D 8 (by kernel_rfl)
            refine ⟨V2, w2, ?_, B0 _, fun s _ h => h 20 rfl⟩
            unfold sl at h1 h2
            simp at h1 h2
            simp [go_sem, h1, h2, hs2]
          · refine OpFactW.on (g := 5) (d := 16) rfl rfl (fun s w h => h) (by kernel_rfl) fun L a w2 hl hf D hb => OpFactW.wp_call (L := L) (FDG_below _ _ _ _ _ _ _ _ _ _ _) hBB hb ?_
            have h1 : sl a 17 = .agg #[.int .i64 hn, .int .i64 hs, .int .i64 fn, .int .i64 fs] := D 6 (by kernel_rfl)
            have h2 : sl a 20 = V2 := D 9 (by kernel_rfl)
            refine ⟨28, #[.agg #[.int .i64 hn, .int .i64 hs, .int .i64 fn, .int .i64 fs], V2], ?_, (HO2.out w2 hb).mono ?_⟩
            · unfold sl at h1 h2
              simp at h1 h2
              simp [go_sem, h1, h2]
            · rintro e w' ⟨rfl, hb3⟩
              exact ⟨_, rfl, hb3, fun s _ h => h 21 rfl⟩
          · refine OpFactW.value rfl (FDG_below _ _ _ _ _ _ _ _ _ _ _) hBB fun L a w2 hl hf D hb => ?_
            have h1 : sl a 16 = .bool true := D 5 (by kernel_rfl)
            have h2 : sl a 21 = .bool true := D 10 (by kernel_rfl)
            refine ⟨.bool true, w2, ?_, B0 _, fun s _ h => h 22 rfl⟩
            unfold sl at h1 h2
            simp at h1 h2
            simp [go_sem, h1, h2]
          · refine OpFactW.value rfl (FDG_below _ _ _ _ _ _ _ _ _ _ _) hBB fun L a w2 hl hf D hb => ?_
            have h1 : sl a 22 = .bool true := D 11 (by kernel_rfl)
            refine ⟨.bool true, w2, ?_, B0 _, fun s _ h => h 23 rfl⟩
            unfold sl at h1
            simp at h1
            simp [go_sem, h1]
          · refine OpFactW.on (g := 12) (d := 23) rfl rfl (fun s w h => h) (by kernel_rfl) fun L a w2 hl hf D hb => OpFactW.wp_value (L := L) (FDG_below _ _ _ _ _ _ _ _ _ _ _) hBB hb ?_
            have h0 : sl a 0 = .func (.yield yl) #[] #[] := hf 0 (by kernel_rfl)
            refine ⟨.func (.yield yl) #[] #[], w2, ?_, B0 _, fun s _ h => h 24 rfl⟩
            unfold sl at h0
            simp [go_sem, h0]
          · refine OpFactW.on (g := 12) (d := 23) rfl rfl (fun s w h => h) (by kernel_rfl) fun L a w2 hl hf D hb => OpFactW.wp_value (L := L) (FDG_below _ _ _ _ _ _ _ _ _ _ _) hBB hb ?_
            have h0 : sl a 4 = .int .i64 (k : Int) := hf 4 (by kernel_rfl)
            refine ⟨.int .i64 (k : Int), w2, ?_, B0 _, fun s _ h => h 25 rfl⟩
            unfold sl at h0
            simp [go_sem, h0]
          intro L9 y9 w9 hb9 hF9
          have h23 : y9 23 = .bool true := hF9 12 (by decide) rfl
          have h24 : y9 24 = .func (.yield yl) #[] #[] := hF9 13 (by decide) rfl
          have h25 : y9 25 = .int .i64 (k : Int) := hF9 14 (by decide) rfl
          clear hF9
          rw [aft15 (d0 := 11) (d1 := 12) (d2 := 13) (d3 := 14) (d4 := 15) (d5 := 16) (d6 := 17) (d7 := 18) (d8 := 19) (d9 := 20) (d10 := 21) (d11 := 22) (d12 := 23) (d13 := 24) (d14 := 25) (by kernel_rfl) rfl]
          rw [h23, h24, h25]
          simp only [List.set_cons_succ, List.set_cons_zero]
          obtain ⟨yfn, ytmps, yassign, ybody, hy, hR⟩ := hY _ k w9 (HJW.out w9 hb9) (by
            refine Nat.lt_of_le_of_lt (List.length_filter_le _ _) ?_
            rw [List.length_range]
            omega)
          refine from_listIn 18 (by kernel_rfl) rfl fun Q' hQ' hE' => ?_
          have HST' := HST.out
          have HBN := Lib.hid (HBr.out.trans (hb9.mono (Nat.le_trans hn0 hsr)))
          gi_wp2
          refine hR.mono ?_
          rintro e W3 (⟨rfl, hJ3, hk3⟩ | ⟨rfl, hJx3⟩)
          · gi_wp2
            refine hQ' _ _ (from_endIn rfl ?_)
            gi_wp2
            go_roundw
            case rel => exact ⟨k + 1, by go_num, by omega, by rw [HST']; exact hJ3, HBN.out.trans hk3⟩
            case measure => simp [intOf]; omega
          · gi_wp2
            refine hQ' _ _ (from_endIn rfl ?_)
            gi_wp2
            refine bodyPost_ret (results_none rfl _ _ _) rfl ?_
            refine ⟨⟨_, rfl⟩, .inr ⟨_, ?_, hJx3⟩⟩
            have e : (List.range k).filter (divG hn hs l) ++ [k] = (List.range (k + 1)).filter (divG hn hs l) := HST'.symm
            rw [e]
            unfold divF
            rw [HM.out]
            exact range_filter_prefix _ (by omega)
    · obtain rfl : k = m + 1 := by omega
      gi_wp2
      go_end0
      exact ⟨⟨_, rfl⟩, .inl ⟨_, rfl, by unfold divF; rw [HM.out]; exact hJs⟩⟩
end Go.Proofs.YtnphdmiondccgaaDoor
