/- Walks over checker: has, members, compass (out of the texts of Plays). -/
import Derived.Test.YtnfpjcjlapljjaaGreatDoorDf
import Derived.Test.YtnfpjcjlapljjaaGreatDoorW1
import Derived.Test.YtnfpjcjlapljjaaGreatDoorRegW
namespace Pop
end Pop
namespace Go.Proofs.YtnfpjcjlapljjaaGreatDoor
open Go Go.RowKit Go.Shelf
def memI (x : Nat) : List Int := (Nt.mem x).map fun i : Nat => (i : Int)
theorem range_filter_step (p : Nat → Bool) (k : Nat) : (List.range (k + 1)).filter p = (List.range k).filter p ++ (if p k = true then [k] else []) := by
  rw [List.range_succ, List.filter_append]
  by_cases h : p k = true <;> simp [h]
theorem mem_eq (x : Nat) : Nt.mem x = (List.range 128).filter fun i => x.testBit i := by
  unfold Nt.mem Hit.members
  rw [show (128 : Nat) = 64 + 64 from rfl, List.range_add, List.filter_append, List.filter_map]
  congr 1
  · refine List.filter_congr fun i hi => ?_
    rw [Nt.lo_test]
    simp [List.mem_range.1 hi]
theorem SlI.later {w w' : World} {v : Value} {l : List Int} (h : SlI (fun b => b < w.heap.size) w v l) (hb : Below w.heap.size w w') : SlI (fun b => b < w'.heap.size) w' v l :=
  Sl.mono (SlI.keep h (Agree.below hb fun _ h => h)) fun _ h => Nat.lt_of_lt_of_le h hb.size
def rdI (w : World) (v : Value) (l : List Int) : Prop := SlI (fun b => b < w.heap.size) w v l
theorem bit_of (v p : Nat) : ((((v >>> p) &&& 1 : Nat) : Int) == 1) = v.testBit p := by
  rw [Nat.testBit_eq_decide_div_mod_eq, Nat.and_one_is_mod, Nat.shiftRight_eq_div_pow]
  by_cases h : v / 2 ^ p % 2 = 1
  · rw [h]; rfl
  · have : v / 2 ^ p % 2 = 0 := by omega
    rw [this]; rfl
theorem shr_of (v p : Nat) (h : p ≤ 64) : ((v : Nat) : Int) / 2 ^ p = ((v >>> p : Nat) : Int) := by
  have := Hit.shr_nat v p 64 h
  rw [Nat.min_eq_left h, Int.fdiv_eq_ediv_of_nonneg _ (Int.pow_nonneg (by decide))] at this
  exact this
set_option maxRecDepth 100000 in
set_option maxHeartbeats 1000000 in
theorem chas_any (x : Nat) (hx : x < 2 ^ 128) (i : Nat) (hi : i < 128) (w : World) :
    Calls Tryz.prog 31 #[ntV x, .int .i64 i] w fun e w' => e = .returned (.bool (x.testBit i)) ∧ Below w.heap.size w w' := by
  have hlo := Nt.lo_lt x
  have hhi := Nt.hi_lt hx
  unfold ntV
  by_cases h64 : i < 64
  · have h64I : (i : Int) < 64 := by omega
    have hb : x.testBit i = (Nt.lo x).testBit i := by rw [Nt.lo_test]; simp [h64]
    rw [hb]
    obtain ⟨d, hd⟩ : ∃ d, Nt.lo x = d := ⟨_, rfl⟩
    obtain ⟨c, hc⟩ : ∃ d, Nt.hi x = d := ⟨_, rfl⟩
    rw [hd] at hlo ⊢
    rw [hc]
    have h3 : ((i : Nat) : Int) % 18446744073709551616 = i := by omega
    have h4 : min i 64 = i := by omega
    have hsh := shr_of d i (by omega)
    have hle : d >>> i ≤ d := by rw [Nat.shiftRight_eq_div_pow]; exact Nat.div_le_self _ _
    have hand : bits .and .u64 ((d >>> i : Nat) : Int) 1 = ((d >>> i &&& 1 : Nat) : Int) := Hit.u64_and (d >>> i) 1 (by omega) (by omega)
    have hbit := bit_of d i
    generalize d >>> i &&& 1 = vb at *
    generalize d >>> i = vs at *
    have HB : Hid (((vb : Int) == 1) = d.testBit i) := Lib.hid hbit
    clear hle hbit hb hd hc hlo hhi hx
    go_enter Tryz.func31, Tryz.ntmps31
    go_wp2
    go_ret
    exact ⟨by first | rfl | (rw [HB.out]; rfl), Ba (B0 w) _⟩
  · obtain ⟨j, rfl⟩ : ∃ j, i = 64 + j := ⟨i - 64, by omega⟩
    have hb : x.testBit (64 + j) = (Nt.hi x).testBit j := (Nt.hi_test x j).symm
    rw [hb]
    obtain ⟨d, hd⟩ : ∃ d, Nt.hi x = d := ⟨_, rfl⟩
    obtain ⟨c, hc⟩ : ∃ d, Nt.lo x = d := ⟨_, rfl⟩
    rw [hd] at hhi ⊢
    rw [hc]
    obtain ⟨i, hi'⟩ : ∃ i : Nat, 64 + j = i := ⟨_, rfl⟩
    rw [hi'] at hi ⊢
    have hsub : IntKind.i64.wrap ((i : Int) - 64) = j := by rw [IntWalk.i64_in _ (by omega)]; omega
    have hn64 : ¬ (i : Int) < 64 := by omega
    have h3 : ((j : Nat) : Int) % 18446744073709551616 = j := by omega
    have h4 : min j 64 = j := by omega
    have hsh := shr_of d j (by omega)
    have hle : d >>> j ≤ d := by rw [Nat.shiftRight_eq_div_pow]; exact Nat.div_le_self _ _
    have hand : bits .and .u64 ((d >>> j : Nat) : Int) 1 = ((d >>> j &&& 1 : Nat) : Int) := Hit.u64_and (d >>> j) 1 (by omega) (by omega)
    have hbit := bit_of d j
    generalize d >>> j &&& 1 = vb at *
    generalize d >>> j = vs at *
    have HB : Hid (((vb : Int) == 1) = d.testBit j) := Lib.hid hbit
    clear hle hbit hb hd hc hlo hhi hx hi'
    go_enter Tryz.func31, Tryz.ntmps31
    go_wp2
    go_ret
    exact ⟨by first | rfl | (rw [HB.out]; rfl), Ba (B0 w) _⟩
/-- The notes below k. -/
def memK (x k : Nat) : List Int := ((List.range k).filter fun i => x.testBit i).map fun i : Nat => (i : Int)
theorem memK_128 (x : Nat) : memK x 128 = memI x := by unfold memK memI; rw [mem_eq]
theorem memK_step (x k : Nat) : memK x (k + 1) = memK x k ++ (if x.testBit k = true then [(k : Int)] else []) := by
  unfold memK
  rw [range_filter_step, List.map_append]
  by_cases h : x.testBit k = true <;> simp [h]
theorem memK_len (x k : Nat) : (memK x k).length ≤ k := by
  unfold memK
  rw [List.length_map]
  exact Nat.le_trans (List.length_filter_le _ _) (by simp)
theorem OwnL.onB {base : Nat} {e : TypeId} {w w' : World} {v : Value} {l : List Int} (h : OwnL base e 1 IntC w v l) (hb : Below w.heap.size w w') : OwnL base e 1 IntC w' v l :=
  h.keep (R' := IntC) rfl (fun _ hx => hx.kept (only_of_below hb none) (by cases v.ownBlock with
    | none => exact .inl rfl
    | some g => exact .inr fun e => by cases e)) fun _ _ h => h
set_option maxRecDepth 100000 in
set_option maxHeartbeats 2000000 in
theorem cmembers_any (x : Nat) (hx : x < 2 ^ 128) (w : World) : Calls Tryz.prog 28 #[ntV x] w fun e w' => ∃ v, e = .returned v ∧ SlI (fun b => w.heap.size ≤ b ∧ b < w'.heap.size) w' v (memI x) ∧ Below w.heap.size w w' := by
  have HCH := Lib.hid (fun i hi W => chas_any x hx i hi W)
  unfold ntV at *
  obtain ⟨xl, hxl⟩ : ∃ y, Nt.lo x = y := ⟨_, rfl⟩
  obtain ⟨xh, hxh⟩ : ∃ y, Nt.hi x = y := ⟨_, rfl⟩
  rw [hxl, hxh] at HCH ⊢
  clear hxl hxh
  obtain ⟨w1, hw1⟩ : ∃ w1 : World, w.alloc (.cells #[.int .u64 (xl : Int), .int .u64 (xh : Int)] 97) = w1 := ⟨_, rfl⟩
  obtain ⟨b, hb⟩ : ∃ b, w.heap.size = b := ⟨_, rfl⟩
  have HC1 := Lib.hid (show Blk w1 b 97 #[.int .u64 (xl : Int), .int .u64 (xh : Int)] by rw [← hw1, ← hb]; exact Blk.new _ _ _)
  have HB1 := Lib.hid (show Below w.heap.size w w1 by rw [← hw1]; exact Ba (B0 w) _)
  have HW1 := Lib.hid hw1
  have HBB := Lib.hid hb
  clear hw1 hb
  go_enter Tryz.func28, Tryz.ntmps28
  go_upto_region 1 with fail
  rw [HW1.out, HBB.out]
  clear HW1
  go_wp2_with fail
  go_loopg [3, 4] 130 (fun gg s3 s4 wr => ∃ k : Nat, k ≤ 128 ∧ 128 - k ≤ gg ∧ s4 = .int .i64 k ∧ Aside (OwnL b 3 1 IntC wr s3 (memK x k)) ∧ Aside (Blk wr b 97 #[.int .u64 (xl : Int), .int .u64 (xh : Int)]) ∧ Aside (Below w.heap.size w wr))
  case atStart => exact ⟨0, by omega, by omega, rfl, (show OwnL _ _ _ _ _ _ _ from OwnL.nil), HC1.out, HB1.out⟩
  case round =>
    clear HC1 HB1
    obtain ⟨k, hk, hgg, rfl, HO, HC, HB⟩ := hrel
    replace HO : Hid (OwnL b 3 1 IntC wr u3 (memK x k)) := Lib.hid HO
    replace HC : Hid (Blk wr b 97 #[.int .u64 (xl : Int), .int .u64 (xh : Int)]) := Lib.hid HC
    replace HB : Hid (Below w.heap.size w wr) := Lib.hid HB
    obtain ⟨wo, rfl⟩ : ∃ wo : World, wo = wr := ⟨_, rfl⟩
    have c0 := HC.out.cell 0
    have c1 := HC.out.cell 1
    simp only [List.getElem?_toArray, List.getElem?_cons_zero, List.getElem?_cons_succ] at c0 c1
    by_cases hlt : k < 128
    · have hle : (k : Int) ≤ 127 := by omega
      have hst := memK_step x k
      have hln := memK_len x k
      have HH := Lib.hid (fun W => HCH.out k hlt W)
      cases ht : x.testBit k with
      | false =>
        rw [ht] at hst HH
        have HST := Lib.hid (show memK x (k + 1) = memK x k by simpa using hst)
        clear hst hln ht
        go_wp2_with (go_at_call 31; (with_reducible refine ((HH.out _).mono ?_)); rintro e w4 ⟨rfl, hb4⟩; have E0 := Lib.hid (OwnL.onB HO.out hb4); have E1 := Lib.hid (HC.out.below hb4 HC.out.lt); have E2 := Lib.hid (Bt HB.out hb4); clear hb4 c0 c1)
        go_roundg (128 - (k + 1))
        case measure => omega
        case rel => exact ⟨k + 1, by omega, by omega, by go_num, by rw [HST.out]; exact E0.out, E1.out, E2.out⟩
      | true =>
        rw [ht] at hst HH
        have HST := Lib.hid (show memK x (k + 1) = memK x k ++ [(k : Int)] by simpa using hst)
        obtain ⟨m, hm⟩ : ∃ m, (memK x k).length = m := ⟨_, rfl⟩
        have HM := Lib.hid hm
        rw [hm] at hln
        clear hst ht hm
        go_upto_region 6 with (go_at_call 31; (with_reducible refine ((HH.out _).mono ?_)); rintro e w4 ⟨rfl, hb4⟩; have E0 := Lib.hid (OwnL.onB HO.out hb4); have E1 := Lib.hid (HC.out.below hb4 HC.out.lt); have E2 := Lib.hid (Bt HB.out hb4); clear hb4 c0 c1)
        obtain ⟨cs, q1, q2, q3⟩ := id E0.out
        rw [HM.out] at q3
        have HQ1 := Lib.hid q1
        have HQ2 := Lib.hid q2
        have HQ3 := Lib.hid q3
        have HL := Lib.hid E0.out.lt
        have hbs : b < w4.heap.size := E1.out.lt
        clear q1 q2 q3
        go_wp2_with (at_builtin; refine wpList_appS elemIn (by omega) rfl _ _ rfl b _ m _ rfl (HQ3.out.alloc _) ⟨w4.heap.size, 0, none⟩ 1 [.int .i64 (k : Int)] rfl rfl (Flds.new w4 _ _) (by simp [Value.oneCell']) (by omega) (by omega) (by simp; omega) ?_; intro g cap w8 hown8 hg8 hgg; have HO8 := Lib.hid hown8; have HG8 := Lib.hid hg8; clear hown8 hg8 hgg)
        go_roundg (128 - (k + 1))
        case measure => omega
        case rel =>
          refine ⟨k + 1, by omega, by omega, by go_num, ?_, ((E1.out.alloc _).grown HG8.out fun e => own_ne HQ3.out E1.out (by decide) e.symm), (Ba E2.out _).grown HG8.out (by simp; have := E2.out.size; omega) fun b' e => by have := (HL.out b' e).1; have := HBB.out; omega⟩
          show OwnL _ _ _ _ _ _ _
          rw [HST.out]
          exact OwnL.snoc HQ1.out HQ2.out rfl rfl (fun _ _ h => h) (by rw [HM.out]; exact HO8.out)
    · obtain rfl : k = 128 := by omega
      have h128 := memK_128 x
      rw [h128] at HO
      have hln := memK_len x 128
      rw [h128] at hln
      clear h128 c0 c1
      go_wp2_with fail
      go_ret
      exact ⟨_, rfl, HO.out.sl (by omega) (fun b' h1 h2 _ => ⟨by have := HBB.out; omega, h2⟩), HB.out⟩
/-- What compass answers. -/
def compB (lo hi : Int) (x : Nat) : Bool := decide (0 ≤ lo) && decide (hi ≤ 127) && decide (lo ≤ hi) && withinB lo hi (memI x)
/-- What holds behind each operation of a drawn region. -/
def FC1 (b : Nat) (lo hi : Int) (xl xh : Nat) (M : List Int) (R : Bool) (j : Nat) (s : Nat → Value) (w : World) : Prop :=
  match j with
  | 0 => s 5 = .pointer (some ⟨b, 0, none⟩)
  | 1 => s 6 = .int .i64 lo
  | 2 => s 7 = .bool true
  | 3 => s 8 = .bool true
  | 4 => s 9 = .pointer (some ⟨b, 1, none⟩)
  | 5 => s 10 = .int .i64 hi
  | 6 => s 11 = .bool true
  | 7 => s 12 = .bool true
  | 8 => s 13 = .bool true
  | 9 => s 14 = .pointer (some ⟨b, 0, none⟩)
  | 10 => s 15 = .int .i64 lo
  | 11 => s 16 = .pointer (some ⟨b, 1, none⟩)
  | 12 => s 17 = .int .i64 hi
  | 13 => s 18 = .bool true
  | 14 => s 19 = .bool true
  | 15 => s 20 = .bool true
  | 16 => s 21 = .pointer (some ⟨b, 0, none⟩)
  | 17 => s 22 = .int .i64 lo
  | 18 => s 23 = .pointer (some ⟨b, 1, none⟩)
  | 19 => s 24 = .int .i64 hi
  | 20 => s 25 = .agg #[.int .u64 (xl : Int), .int .u64 (xh : Int)]
  | 21 => rdI w (s 26) M
  | 22 => s 27 = .bool R
  | 23 => s 28 = .bool R
  | 24 => s 4 = .bool R
  | _ => True
def VC1 (j : Nat) : List Nat := match j with
  | 0 => [5] | 1 => [6] | 2 => [7] | 3 => [8] | 4 => [9] | 5 => [10] | 6 => [11] | 7 => [12] | 8 => [13] | 9 => [14] | 10 => [15] | 11 => [16] | 12 => [17] | 13 => [18] | 14 => [19] | 15 => [20] | 16 => [21] | 17 => [22] | 18 => [23] | 19 => [24] | 20 => [25] | 21 => [26] | 22 => [27] | 23 => [28] | 24 => [4] | _ => []
def EC1 (j : Nat) : Bool := j == 24
theorem FC1_V (b : Nat) (lo hi : Int) (xl xh : Nat) (M : List Int) (R : Bool) (j : Nat) (s s' : Nat → Value) (w : World) (h : ∀ t, t ∈ VC1 j → s' t = s t) (hF : FC1 b lo hi xl xh M R j s w) : FC1 b lo hi xl xh M R j s' w := by
  match j with
  | 0 => unfold FC1 at hF ⊢; simp only at hF ⊢; rw [h 5 (by simp [VC1])]; exact hF
  | 1 => unfold FC1 at hF ⊢; simp only at hF ⊢; rw [h 6 (by simp [VC1])]; exact hF
  | 2 => unfold FC1 at hF ⊢; simp only at hF ⊢; rw [h 7 (by simp [VC1])]; exact hF
  | 3 => unfold FC1 at hF ⊢; simp only at hF ⊢; rw [h 8 (by simp [VC1])]; exact hF
  | 4 => unfold FC1 at hF ⊢; simp only at hF ⊢; rw [h 9 (by simp [VC1])]; exact hF
  | 5 => unfold FC1 at hF ⊢; simp only at hF ⊢; rw [h 10 (by simp [VC1])]; exact hF
  | 6 => unfold FC1 at hF ⊢; simp only at hF ⊢; rw [h 11 (by simp [VC1])]; exact hF
  | 7 => unfold FC1 at hF ⊢; simp only at hF ⊢; rw [h 12 (by simp [VC1])]; exact hF
  | 8 => unfold FC1 at hF ⊢; simp only at hF ⊢; rw [h 13 (by simp [VC1])]; exact hF
  | 9 => unfold FC1 at hF ⊢; simp only at hF ⊢; rw [h 14 (by simp [VC1])]; exact hF
  | 10 => unfold FC1 at hF ⊢; simp only at hF ⊢; rw [h 15 (by simp [VC1])]; exact hF
  | 11 => unfold FC1 at hF ⊢; simp only at hF ⊢; rw [h 16 (by simp [VC1])]; exact hF
  | 12 => unfold FC1 at hF ⊢; simp only at hF ⊢; rw [h 17 (by simp [VC1])]; exact hF
  | 13 => unfold FC1 at hF ⊢; simp only at hF ⊢; rw [h 18 (by simp [VC1])]; exact hF
  | 14 => unfold FC1 at hF ⊢; simp only at hF ⊢; rw [h 19 (by simp [VC1])]; exact hF
  | 15 => unfold FC1 at hF ⊢; simp only at hF ⊢; rw [h 20 (by simp [VC1])]; exact hF
  | 16 => unfold FC1 at hF ⊢; simp only at hF ⊢; rw [h 21 (by simp [VC1])]; exact hF
  | 17 => unfold FC1 at hF ⊢; simp only at hF ⊢; rw [h 22 (by simp [VC1])]; exact hF
  | 18 => unfold FC1 at hF ⊢; simp only at hF ⊢; rw [h 23 (by simp [VC1])]; exact hF
  | 19 => unfold FC1 at hF ⊢; simp only at hF ⊢; rw [h 24 (by simp [VC1])]; exact hF
  | 20 => unfold FC1 at hF ⊢; simp only at hF ⊢; rw [h 25 (by simp [VC1])]; exact hF
  | 21 => unfold FC1 at hF ⊢; simp only at hF ⊢; rw [h 26 (by simp [VC1])]; exact hF
  | 22 => unfold FC1 at hF ⊢; simp only at hF ⊢; rw [h 27 (by simp [VC1])]; exact hF
  | 23 => unfold FC1 at hF ⊢; simp only at hF ⊢; rw [h 28 (by simp [VC1])]; exact hF
  | 24 => unfold FC1 at hF ⊢; simp only at hF ⊢; rw [h 4 (by simp [VC1])]; exact hF
  | _ + 25 => trivial
theorem FC1_below (b : Nat) (lo hi : Int) (xl xh : Nat) (M : List Int) (R : Bool) (j : Nat) (s : Nat → Value) (w w' : World) (hb : Below w.heap.size w w') (hF : FC1 b lo hi xl xh M R j s w) : FC1 b lo hi xl xh M R j s w' := by
  match j with
  | 0 => exact hF
  | 1 => exact hF
  | 2 => exact hF
  | 3 => exact hF
  | 4 => exact hF
  | 5 => exact hF
  | 6 => exact hF
  | 7 => exact hF
  | 8 => exact hF
  | 9 => exact hF
  | 10 => exact hF
  | 11 => exact hF
  | 12 => exact hF
  | 13 => exact hF
  | 14 => exact hF
  | 15 => exact hF
  | 16 => exact hF
  | 17 => exact hF
  | 18 => exact hF
  | 19 => exact hF
  | 20 => exact hF
  | 21 => exact SlI.later hF hb
  | 22 => exact hF
  | 23 => exact hF
  | 24 => exact hF
  | _ + 25 => trivial
set_option maxRecDepth 100000 in
set_option maxHeartbeats 2000000 in
theorem ccompass_any (lo hi : Int) (x : Nat) (hx : x < 2 ^ 128) (w : World) : Calls Tryz.prog 22 #[.agg #[.int .i64 lo, .int .i64 hi], ntV x] w fun e w' => e = .returned (.bool (compB lo hi x)) ∧ Below w.heap.size w w' := by
  have hme := fun W => cmembers_any x hx W
  have hwi := fun W v (h : SlI (fun b => b < W.heap.size) W v (memI x)) => within_any lo hi v (memI x) W (fun b => b < W.heap.size) (fun _ h => h) h
  obtain ⟨r, hr⟩ : ∃ r, compB lo hi x = r := ⟨_, rfl⟩
  rw [hr]
  unfold compB at hr
  obtain ⟨R, hR⟩ : ∃ R, withinB lo hi (memI x) = R := ⟨_, rfl⟩
  rw [hR] at hr hwi
  obtain ⟨M, hM⟩ : ∃ M, memI x = M := ⟨_, rfl⟩
  rw [hM] at hme hwi
  clear hR hM
  unfold ntV at *
  obtain ⟨xl, hxl⟩ : ∃ y, Nt.lo x = y := ⟨_, rfl⟩
  obtain ⟨xh, hxh⟩ : ∃ y, Nt.hi x = y := ⟨_, rfl⟩
  rw [hxl, hxh] at hme ⊢
  clear hxl hxh
  have HME := Lib.hid hme
  have HWI := Lib.hid hwi
  obtain ⟨w1, hw1⟩ : ∃ w1 : World, (w.alloc (.cells #[.int .i64 lo, .int .i64 hi] 77)).alloc (.cells #[.int .u64 (xl : Int), .int .u64 (xh : Int)] 97) = w1 := ⟨_, rfl⟩
  obtain ⟨b, hb⟩ : ∃ b, w.heap.size = b := ⟨_, rfl⟩
  have C1 : Blk w1 b 77 #[.int .i64 lo, .int .i64 hi] := by rw [← hw1, ← hb]; exact (Blk.new _ _ _).alloc _
  have C2 : Blk w1 (b + 1) 97 #[.int .u64 (xl : Int), .int .u64 (xh : Int)] := by
    rw [← hw1, ← hb]
    have h := Blk.new (w.alloc (.cells #[.int .i64 lo, .int .i64 hi] 77)) 97 #[.int .u64 (xl : Int), .int .u64 (xh : Int)]
    rw [World.size_alloc] at h
    exact h
  have B1 : Below w.heap.size w w1 := by rw [← hw1]; exact Ba (Ba (B0 w) _) _
  have q0 := C1.cell 0
  have q1 := C1.cell 1
  have q2 := C2.cell 0
  have q3 := C2.cell 1
  simp only [List.getElem?_toArray, List.getElem?_cons_zero, List.getElem?_cons_succ] at q0 q1 q2 q3
  have HW1 := Lib.hid hw1
  have HBB := Lib.hid hb
  have HB := Lib.hid B1
  have HSC := Lib.hid (fun W (hb : Below w1.heap.size w1 W) => (show W.cell? ⟨b, 0, none⟩ = some (.int .i64 lo) ∧ W.cell? ⟨b, 1, none⟩ = some (.int .i64 hi) from ⟨(Bc hb C1.lt).trans q0, (Bc hb C1.lt).trans q1⟩))
  have HSU := Lib.hid (fun W (hb : Below w1.heap.size w1 W) => (show W.cell? ⟨b + 1, 0, none⟩ = some (.int .u64 (xl : Int)) ∧ W.cell? ⟨b + 1, 1, none⟩ = some (.int .u64 (xh : Int)) from ⟨(Bc hb C2.lt).trans q2, (Bc hb C2.lt).trans q3⟩))
  have HQ := Lib.hid (fun q : Cls54 w1 => (show q.w.cell? ⟨b, 0, none⟩ = some (.int .i64 lo) ∧ q.w.cell? ⟨b, 1, none⟩ = some (.int .i64 hi) from HSC.out q.w q.b))
  clear hw1 hb B1 C1 C2 q0 q1 q2 q3 hme hwi hx
  by_cases h : 0 ≤ lo ∧ hi ≤ 127 ∧ lo ≤ hi
  · obtain ⟨h1, h2, h3⟩ := h
    obtain rfl : R = r := by simpa [h1, h2, h3] using hr
    have hBB : ∀ (L : Nat → Bool) (i : Nat) (w w' : World), Below w.heap.size w w' → Below w1.heap.size w1 w → Below w1.heap.size w1 w' := fun _ _ _ _ h1 h2 => Bt h2 h1
    clear hr HQ
    go_enter Tryz.func22, Tryz.ntmps22
    go_upto_region 1 with fail
    rw [HW1.out, HBB.out]
    refine region_blocks (by kernel_rfl) ?_
    refine from_lawW 25 EC1 (fun _ W => Below w1.heap.size w1 W) (FC1 b lo hi xl xh M R) VC1 (by kernel_rfl) rfl (FC1_V _ _ _ _ _ _ _) (by kernel_rfl) (by kernel_rfl) ((B0 w1).drew) ⟨?_, ?_, ?_, ?_, ?_, ?_, ?_, ?_, ?_, ?_, ?_, ?_, ?_, ?_, ?_, ?_, ?_, ?_, ?_, ?_, ?_, ?_, ?_, ?_, ?_, trivial⟩ ?_
    · refine OpFactW.value rfl (FC1_below _ _ _ _ _ _ _) hBB fun L a w2 hl hf D hb => ?_
      have h0 : sl a 2 = .pointer (some ⟨b, 0, none⟩) := hf 2 (by kernel_rfl)
      refine ⟨.pointer (some ⟨b, 0, none⟩), w2, ?_, B0 _, fun s _ h => h 5 rfl⟩
      unfold sl at h0
      simp at h0
      simp [go_sem, h0]
    · refine OpFactW.value rfl (FC1_below _ _ _ _ _ _ _) hBB fun L a w2 hl hf D hb => ?_
      have h0 : sl a 5 = .pointer (some ⟨b, 0, none⟩) := D 0 (by kernel_rfl)
      have es := HSC.out w2 hb
      refine ⟨.int .i64 lo, w2, ?_, B0 _, fun s _ h => h 6 rfl⟩
      unfold sl at h0
      simp at h0
      simp [go_sem, h0, es]
    · refine OpFactW.value rfl (FC1_below _ _ _ _ _ _ _) hBB fun L a w2 hl hf D hb => ?_
      have h11 : sl a 6 = .int .i64 lo := D 1 (by kernel_rfl)
      refine ⟨.bool true, w2, ?_, B0 _, fun s _ h => h 7 rfl⟩
      unfold sl at h11
      simp at h11
      simp [go_sem, h11, h1]
    · refine OpFactW.value rfl (FC1_below _ _ _ _ _ _ _) hBB fun L a w2 hl hf D hb => ?_
      have h11 : sl a 7 = .bool true := D 2 (by kernel_rfl)
      refine ⟨.bool true, w2, ?_, B0 _, fun s _ h => h 8 rfl⟩
      unfold sl at h11
      simp at h11
      simp [go_sem, h11]
    · refine OpFactW.on (g := 3) (d := 8) rfl rfl (fun s w h => h) (by kernel_rfl) fun L a w2 hl hf D hb => OpFactW.wp_value (L := L) (FC1_below _ _ _ _ _ _ _) hBB hb ?_
      have h0 : sl a 2 = .pointer (some ⟨b, 0, none⟩) := hf 2 (by kernel_rfl)
      refine ⟨.pointer (some ⟨b, 1, none⟩), w2, ?_, B0 _, fun s _ h => h 9 rfl⟩
      unfold sl at h0
      simp at h0
      simp [go_sem, h0]
    · refine OpFactW.on (g := 3) (d := 8) rfl rfl (fun s w h => h) (by kernel_rfl) fun L a w2 hl hf D hb => OpFactW.wp_value (L := L) (FC1_below _ _ _ _ _ _ _) hBB hb ?_
      have h0 : sl a 9 = .pointer (some ⟨b, 1, none⟩) := D 4 (by kernel_rfl)
      have es := HSC.out w2 hb
      refine ⟨.int .i64 hi, w2, ?_, B0 _, fun s _ h => h 10 rfl⟩
      unfold sl at h0
      simp at h0
      simp [go_sem, h0, es]
    · refine OpFactW.on (g := 3) (d := 8) rfl rfl (fun s w h => h) (by kernel_rfl) fun L a w2 hl hf D hb => OpFactW.wp_value (L := L) (FC1_below _ _ _ _ _ _ _) hBB hb ?_
      have h11 : sl a 10 = .int .i64 hi := D 5 (by kernel_rfl)
      refine ⟨.bool true, w2, ?_, B0 _, fun s _ h => h 11 rfl⟩
      unfold sl at h11
      simp at h11
      simp [go_sem, h11, h2]
    · refine OpFactW.value rfl (FC1_below _ _ _ _ _ _ _) hBB fun L a w2 hl hf D hb => ?_
      have h11 : sl a 8 = .bool true := D 3 (by kernel_rfl)
      have h12 : sl a 11 = .bool true := D 6 (by kernel_rfl)
      refine ⟨.bool true, w2, ?_, B0 _, fun s _ h => h 12 rfl⟩
      unfold sl at h11 h12
      simp at h11 h12
      simp [go_sem, h11, h12]
    · refine OpFactW.value rfl (FC1_below _ _ _ _ _ _ _) hBB fun L a w2 hl hf D hb => ?_
      have h11 : sl a 12 = .bool true := D 7 (by kernel_rfl)
      refine ⟨.bool true, w2, ?_, B0 _, fun s _ h => h 13 rfl⟩
      unfold sl at h11
      simp at h11
      simp [go_sem, h11]
    · refine OpFactW.on (g := 8) (d := 13) rfl rfl (fun s w h => h) (by kernel_rfl) fun L a w2 hl hf D hb => OpFactW.wp_value (L := L) (FC1_below _ _ _ _ _ _ _) hBB hb ?_
      have h0 : sl a 2 = .pointer (some ⟨b, 0, none⟩) := hf 2 (by kernel_rfl)
      refine ⟨.pointer (some ⟨b, 0, none⟩), w2, ?_, B0 _, fun s _ h => h 14 rfl⟩
      unfold sl at h0
      simp at h0
      simp [go_sem, h0]
    · refine OpFactW.on (g := 8) (d := 13) rfl rfl (fun s w h => h) (by kernel_rfl) fun L a w2 hl hf D hb => OpFactW.wp_value (L := L) (FC1_below _ _ _ _ _ _ _) hBB hb ?_
      have h0 : sl a 14 = .pointer (some ⟨b, 0, none⟩) := D 9 (by kernel_rfl)
      have es := HSC.out w2 hb
      refine ⟨.int .i64 lo, w2, ?_, B0 _, fun s _ h => h 15 rfl⟩
      unfold sl at h0
      simp at h0
      simp [go_sem, h0, es]
    · refine OpFactW.on (g := 8) (d := 13) rfl rfl (fun s w h => h) (by kernel_rfl) fun L a w2 hl hf D hb => OpFactW.wp_value (L := L) (FC1_below _ _ _ _ _ _ _) hBB hb ?_
      have h0 : sl a 2 = .pointer (some ⟨b, 0, none⟩) := hf 2 (by kernel_rfl)
      refine ⟨.pointer (some ⟨b, 1, none⟩), w2, ?_, B0 _, fun s _ h => h 16 rfl⟩
      unfold sl at h0
      simp at h0
      simp [go_sem, h0]
    · refine OpFactW.on (g := 8) (d := 13) rfl rfl (fun s w h => h) (by kernel_rfl) fun L a w2 hl hf D hb => OpFactW.wp_value (L := L) (FC1_below _ _ _ _ _ _ _) hBB hb ?_
      have h0 : sl a 16 = .pointer (some ⟨b, 1, none⟩) := D 11 (by kernel_rfl)
      have es := HSC.out w2 hb
      refine ⟨.int .i64 hi, w2, ?_, B0 _, fun s _ h => h 17 rfl⟩
      unfold sl at h0
      simp at h0
      simp [go_sem, h0, es]
    · refine OpFactW.on (g := 8) (d := 13) rfl rfl (fun s w h => h) (by kernel_rfl) fun L a w2 hl hf D hb => OpFactW.wp_value (L := L) (FC1_below _ _ _ _ _ _ _) hBB hb ?_
      have h11 : sl a 15 = .int .i64 lo := D 10 (by kernel_rfl)
      have h12 : sl a 17 = .int .i64 hi := D 12 (by kernel_rfl)
      refine ⟨.bool true, w2, ?_, B0 _, fun s _ h => h 18 rfl⟩
      unfold sl at h11 h12
      simp at h11 h12
      simp [go_sem, h11, h12, h3]
    · refine OpFactW.value rfl (FC1_below _ _ _ _ _ _ _) hBB fun L a w2 hl hf D hb => ?_
      have h11 : sl a 13 = .bool true := D 8 (by kernel_rfl)
      have h12 : sl a 18 = .bool true := D 13 (by kernel_rfl)
      refine ⟨.bool true, w2, ?_, B0 _, fun s _ h => h 19 rfl⟩
      unfold sl at h11 h12
      simp at h11 h12
      simp [go_sem, h11, h12]
    · refine OpFactW.value rfl (FC1_below _ _ _ _ _ _ _) hBB fun L a w2 hl hf D hb => ?_
      have h11 : sl a 19 = .bool true := D 14 (by kernel_rfl)
      refine ⟨.bool true, w2, ?_, B0 _, fun s _ h => h 20 rfl⟩
      unfold sl at h11
      simp at h11
      simp [go_sem, h11]
    · refine OpFactW.on (g := 15) (d := 20) rfl rfl (fun s w h => h) (by kernel_rfl) fun L a w2 hl hf D hb => OpFactW.wp_value (L := L) (FC1_below _ _ _ _ _ _ _) hBB hb ?_
      have h0 : sl a 2 = .pointer (some ⟨b, 0, none⟩) := hf 2 (by kernel_rfl)
      refine ⟨.pointer (some ⟨b, 0, none⟩), w2, ?_, B0 _, fun s _ h => h 21 rfl⟩
      unfold sl at h0
      simp at h0
      simp [go_sem, h0]
    · refine OpFactW.on (g := 15) (d := 20) rfl rfl (fun s w h => h) (by kernel_rfl) fun L a w2 hl hf D hb => OpFactW.wp_value (L := L) (FC1_below _ _ _ _ _ _ _) hBB hb ?_
      have h0 : sl a 21 = .pointer (some ⟨b, 0, none⟩) := D 16 (by kernel_rfl)
      have es := HSC.out w2 hb
      refine ⟨.int .i64 lo, w2, ?_, B0 _, fun s _ h => h 22 rfl⟩
      unfold sl at h0
      simp at h0
      simp [go_sem, h0, es]
    · refine OpFactW.on (g := 15) (d := 20) rfl rfl (fun s w h => h) (by kernel_rfl) fun L a w2 hl hf D hb => OpFactW.wp_value (L := L) (FC1_below _ _ _ _ _ _ _) hBB hb ?_
      have h0 : sl a 2 = .pointer (some ⟨b, 0, none⟩) := hf 2 (by kernel_rfl)
      refine ⟨.pointer (some ⟨b, 1, none⟩), w2, ?_, B0 _, fun s _ h => h 23 rfl⟩
      unfold sl at h0
      simp at h0
      simp [go_sem, h0]
    · refine OpFactW.on (g := 15) (d := 20) rfl rfl (fun s w h => h) (by kernel_rfl) fun L a w2 hl hf D hb => OpFactW.wp_value (L := L) (FC1_below _ _ _ _ _ _ _) hBB hb ?_
      have h0 : sl a 23 = .pointer (some ⟨b, 1, none⟩) := D 18 (by kernel_rfl)
      have es := HSC.out w2 hb
      refine ⟨.int .i64 hi, w2, ?_, B0 _, fun s _ h => h 24 rfl⟩
      unfold sl at h0
      simp at h0
      simp [go_sem, h0, es]
    · refine OpFactW.on (g := 15) (d := 20) rfl rfl (fun s w h => h) (by kernel_rfl) fun L a w2 hl hf D hb => OpFactW.wp_value (L := L) (FC1_below _ _ _ _ _ _ _) hBB hb ?_
      have h0 : sl a 3 = .pointer (some ⟨b + 1, 0, none⟩) := hf 3 (by kernel_rfl)
      have es := HSU.out w2 hb
      refine ⟨.agg #[.int .u64 (xl : Int), .int .u64 (xh : Int)], w2, ?_, B0 _, fun s _ h => h 25 rfl⟩
      unfold sl at h0
      simp at h0
      simp [go_sem, h0, es]
    · refine OpFactW.on (g := 15) (d := 20) rfl rfl (fun s w h => h) (by kernel_rfl) fun L a w2 hl hf D hb => OpFactW.wp_call (L := L) (FC1_below _ _ _ _ _ _ _) hBB hb ?_
      have h11 : sl a 25 = .agg #[.int .u64 (xl : Int), .int .u64 (xh : Int)] := D 20 (by kernel_rfl)
      refine ⟨28, #[.agg #[.int .u64 (xl : Int), .int .u64 (xh : Int)]], ?_, (HME.out w2).mono ?_⟩
      · unfold sl at h11
        simp at h11
        simp [go_sem, h11]
      · rintro e w' ⟨v, rfl, hs, hb3⟩
        refine ⟨_, rfl, hb3, fun s _ h => ?_⟩
        have e26 := h 26 rfl
        show rdI _ (s 26) _
        rw [e26]
        exact Sl.mono hs fun b q => q.2
    · refine OpFactW.on (g := 15) (d := 20) rfl rfl (fun s w h => h) (by kernel_rfl) fun L a w2 hl hf D hb => OpFactW.wp_call (L := L) (FC1_below _ _ _ _ _ _ _) hBB hb ?_
      have h11 : sl a 22 = .int .i64 lo := D 17 (by kernel_rfl)
      have h12 : sl a 24 = .int .i64 hi := D 19 (by kernel_rfl)
      have h13 : rdI w2 (sl a 26) M := D 21 (by kernel_rfl)
      obtain ⟨vv, hv⟩ : ∃ vv, sl a 26 = vv := ⟨_, rfl⟩
      rw [hv] at h13
      refine ⟨21, #[.int .i64 lo, .int .i64 hi, vv], ?_, (HWI.out w2 vv h13).mono ?_⟩
      · unfold sl at h11 h12 hv
        simp at h11 h12 hv
        simp [go_sem, h11, h12, hv]
      · rintro e w' ⟨rfl, hb3⟩
        exact ⟨_, rfl, hb3, fun s _ h => h 27 rfl⟩
    · refine OpFactW.value rfl (FC1_below _ _ _ _ _ _ _) hBB fun L a w2 hl hf D hb => ?_
      have h11 : sl a 20 = .bool true := D 15 (by kernel_rfl)
      have h12 : sl a 27 = .bool R := D 22 (by kernel_rfl)
      refine ⟨.bool R, w2, ?_, B0 _, fun s _ h => h 28 rfl⟩
      unfold sl at h11 h12
      simp at h11 h12
      simp [go_sem, h11, h12]
    · refine OpFactW.value rfl (FC1_below _ _ _ _ _ _ _) hBB fun L a w2 hl hf D hb => ?_
      have h11 : sl a 28 = .bool R := D 23 (by kernel_rfl)
      refine ⟨.bool R, w2, ?_, B0 _, fun s _ h => h 4 rfl⟩
      unfold sl at h11
      simp at h11
      simp [go_sem, h11]
    intro L9 y9 w9 hb9 hF9
    have h4 : y9 4 = .bool R := hF9 24 (by decide) rfl
    clear hF9
    rw [aft25 (d0 := 5) (d1 := 6) (d2 := 7) (d3 := 8) (d4 := 9) (d5 := 10) (d6 := 11) (d7 := 12) (d8 := 13) (d9 := 14) (d10 := 15) (d11 := 16) (d12 := 17) (d13 := 18) (d14 := 19) (d15 := 20) (d16 := 21) (d17 := 22) (d18 := 23) (d19 := 24) (d20 := 25) (d21 := 26) (d22 := 27) (d23 := 28) (d24 := 4) (by kernel_rfl) rfl]
    rw [h4]
    simp only [List.set_cons_succ, List.set_cons_zero]
    refine from_end rfl ?_
    go_wp2_with fail
    go_ret
    exact ⟨rfl, Bt HB.out hb9⟩
  · obtain rfl : r = false := by
      rw [← hr]
      by_cases h1 : 0 ≤ lo <;> by_cases h2 : hi ≤ 127 <;> by_cases h3 : lo ≤ hi <;> simp [h1, h2, h3] at h ⊢
    have k0 : ∀ q : Cls54 w1, q.w.cell? ⟨b, 0, none⟩ = some (.int .i64 lo) := fun q => (HQ.out q).1
    have k1 : ∀ q : Cls54 w1, q.w.cell? ⟨b, 1, none⟩ = some (.int .i64 hi) := fun q => (HQ.out q).2
    clear hr HSC HSU HME HWI
    by_cases h1 : 0 ≤ lo
    · by_cases h2 : hi ≤ 127
      · have h3 : ¬ lo ≤ hi := fun h3 => h ⟨h1, h2, h3⟩
        clear h
        go_enter Tryz.func22, Tryz.ntmps22
        go_upto_region 1 with fail
        rw [HW1.out, HBB.out]
        refine wp_region_class54_lit (C := fun w' => ∃ q : Cls54 w1, w' = q.w) (by kernel_rfl) (by kernel_rfl) ⟨Cls54.mk' (B0 w1).drew, rfl⟩ ?_
        repeat (any_goals (first | go_big_quiet_step (fail) | quiet_step (fail)))
        refine wpQuiet_nil ?_
        rintro _ ⟨q, rfl⟩
        have B2 := Lib.hid (Bt HB.out q.b)
        clear k0 k1 HQ
        generalize q.w = w5 at *
        go_wp2_with fail
        go_ret
        exact ⟨rfl, B2.out⟩
      · clear h
        go_enter Tryz.func22, Tryz.ntmps22
        go_upto_region 1 with fail
        rw [HW1.out, HBB.out]
        refine wp_region_class54_lit (C := fun w' => ∃ q : Cls54 w1, w' = q.w) (by kernel_rfl) (by kernel_rfl) ⟨Cls54.mk' (B0 w1).drew, rfl⟩ ?_
        repeat (any_goals (first | go_big_quiet_step (fail) | quiet_step (fail)))
        refine wpQuiet_nil ?_
        rintro _ ⟨q, rfl⟩
        have B2 := Lib.hid (Bt HB.out q.b)
        clear k0 k1 HQ
        generalize q.w = w5 at *
        go_wp2_with fail
        go_ret
        exact ⟨rfl, B2.out⟩
    · clear h
      go_enter Tryz.func22, Tryz.ntmps22
      go_upto_region 1 with fail
      rw [HW1.out, HBB.out]
      refine wp_region_class54_lit (C := fun w' => ∃ q : Cls54 w1, w' = q.w) (by kernel_rfl) (by kernel_rfl) ⟨Cls54.mk' (B0 w1).drew, rfl⟩ ?_
      repeat (any_goals (first | go_big_quiet_step (fail) | quiet_step (fail)))
      refine wpQuiet_nil ?_
      rintro _ ⟨q, rfl⟩
      have B2 := Lib.hid (Bt HB.out q.b)
      clear k0 k1 HQ
      generalize q.w = w5 at *
      go_wp2_with fail
      go_ret
      exact ⟨rfl, B2.out⟩
end Go.Proofs.YtnfpjcjlapljjaaGreatDoor
