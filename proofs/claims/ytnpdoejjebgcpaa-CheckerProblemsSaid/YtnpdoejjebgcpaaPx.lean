/- Walks over covering: bounds. Walks over covering: bounds. -/
import Derived.Test.YtnpdoejjebgcpaaPu
import Derived.Test.YtnpdoejjebgcpaaHZ
import Derived.Deep.RegionHeld3
namespace Go.Proofs.Ytnpdoejjebgcpaa
open Go Go.RowKit
namespace Hit
/-- A weight that may stand at element i. -/
def okW (ws : List Nat) (taken : Nat) (weights : List Int) (i : Nat) : Bool := decide (0 ≤ weights.getD i 0) && decide (weights.getD i 0 ≤ 1000000) && !(decide (0 < weights.getD i 0) && (unionW ws taken).testBit i)
/-- A set whose weights are within its cost, if it is free. -/
def okS (ws : List Nat) (cs : List Int) (taken out : Nat) (weights : List Int) (i : Nat) : Bool := !(!(taken ||| out).testBit i && decide (cs.getD i 0 < weighF weights (ws.getD i 0)))
theorem all_weights (l : List Int) (p : Int → Bool) : (l.all fun w => p w) = (List.range l.length).all fun i => p (l.getD i 0) := by
  rw [Bool.eq_iff_iff, List.all_eq_true, List.all_eq_true]
  constructor
  · intro h i hi
    have hi' := List.mem_range.1 hi
    rw [List.getD_eq_getElem?_getD, List.getElem?_eq_getElem hi']
    exact h _ (List.getElem_mem hi')
  · intro h x hx
    obtain ⟨i, hi, rfl⟩ := List.getElem_of_mem hx
    have := h i (List.mem_range.2 hi)
    rwa [List.getD_eq_getElem?_getD, List.getElem?_eq_getElem hi] at this
theorem bound_cut (ws : List Nat) (cs : List Int) (n : Nat) (least : Int) (taken out : Nat) (cost : Int) (x : TNode) (hl : x.weights.length = n) :
    boundF ws cs n least taken out cost x = ((List.range n).all (okW ws taken x.weights) && ((List.range ws.length).all (okS ws cs taken out x.weights) && (decide (x.bound = cost + sumI x.weights) && decide (cost + sumI x.weights ≥ least)))) := by
  unfold boundF
  rw [decide_eq_true hl, Bool.true_and, all_weights x.weights fun w => decide (0 ≤ w) && decide (w ≤ 1000000), hl]
  have h1 : (List.range n).all (okW ws taken x.weights) = (((List.range n).all fun i => decide (0 ≤ x.weights.getD i 0) && decide (x.weights.getD i 0 ≤ 1000000)) && (List.range n).all fun i => !(decide (0 < x.weights.getD i 0) && (unionW ws taken).testBit i)) := by
    rw [Bool.eq_iff_iff, Bool.and_eq_true, List.all_eq_true, List.all_eq_true, List.all_eq_true]
    constructor
    · intro h
      exact ⟨fun i hi => by have := h i hi; unfold okW at this; rw [Bool.and_eq_true] at this; exact this.1, fun i hi => by have := h i hi; unfold okW at this; rw [Bool.and_eq_true] at this; exact this.2⟩
    · rintro ⟨h, h'⟩ i hi
      unfold okW
      rw [Bool.and_eq_true]
      exact ⟨h i hi, h' i hi⟩
  rw [h1]
  simp only [Bool.and_assoc]
  rfl
theorem all_stop {p : Nat → Bool} {n k : Nat} (hk : k < n) (h : p k = false) : (List.range n).all p = false := by
  rw [Bool.eq_false_iff]
  intro h'
  rw [List.all_eq_true.1 h' k (List.mem_range.2 hk)] at h
  cases h
theorem all_done {p : Nat → Bool} {n : Nat} (h : ∀ k, k < n → p k = true) : (List.range n).all p = true := List.all_eq_true.2 fun k hk => h k (List.mem_range.1 hk)
theorem sumI_snoc (l : List Int) (x : Int) : sumI (l ++ [x]) = sumI l + x := by
  induction l with
  | nil => simp [sumI]
  | cons a l ih => rw [List.cons_append, sumI, ih, sumI]; omega
theorem sumI_take (l : List Int) (k : Nat) (hk : k < l.length) : sumI (l.take (k + 1)) = sumI (l.take k) + l[k] := by
  rw [List.take_succ_eq_append_getElem hk, sumI_snoc]
theorem sumI_bd {ws : List Nat} {taken : Nat} {l : List Int} (k : Nat) (hk : k ≤ l.length) (h : ∀ j, j < k → okW ws taken l j = true) : 0 ≤ sumI (l.take k) ∧ sumI (l.take k) ≤ 1000000 * k := by
  induction k with
  | zero => simp [sumI]
  | succ k ih =>
    have h1 := ih (by omega) fun j hj => h j (by omega)
    have h2 := h k (by omega)
    rw [sumI_take l k (by omega)]
    unfold okW at h2
    rw [List.getD_eq_getElem?_getD, List.getElem?_eq_getElem (show k < l.length by omega)] at h2
    simp at h2
    omega
end Hit
end Go.Proofs.Ytnpdoejjebgcpaa
namespace Go.Proofs.Ytnpdoejjebgcpaa
open Go Go.RowKit
theorem Cov.union_lt {n : Nat} {ws : List Nat} {cs : List Int} (h : Cov n ws cs) (sel : Nat) : Hit.unionW ws sel < 2 ^ n := Nat.lt_pow_two_of_testBit _ fun i hi => by
  rw [Hit.unionW_test, Bool.eq_false_iff]
  intro h'
  obtain ⟨k, _, q⟩ := List.any_eq_true.1 h'
  rw [Bool.and_eq_true] at q
  have := Nat.testBit_lt_two_pow (Nat.lt_of_lt_of_le (h.getW k) (Nat.pow_le_pow_right (n := 2) (by decide) hi))
  rw [this] at q
  cases q.2
/-- The search object, so far as bounds reads it. -/
structure SrchAt (sb n : Nat) (vs : Value) (least : Int) (w : World) : Prop where
  lt : sb < w.heap.size
  c0 : w.cell? ⟨sb, 0, none⟩ = some (.int .i64 n)
  c1 : w.cell? ⟨sb, 1, none⟩ = some vs
  c3 : w.cell? ⟨sb, 3, none⟩ = some (.int .i64 least)
theorem SrchAt.below {sb n : Nat} {vs : Value} {least : Int} {w w' : World} (h : SrchAt sb n vs least w) (hb : Below w.heap.size w w') : SrchAt sb n vs least w' :=
  ⟨Nat.lt_of_lt_of_le h.lt hb.size, (Bc hb h.lt).trans h.c0, (Bc hb h.lt).trans h.c1, (Bc hb h.lt).trans h.c3⟩
theorem bit_zero (v p : Nat) : ((((v >>> p) &&& 1 : Nat) : Int) == 0) = !v.testBit p := by
  have h := bit_of v p
  have h2 : v >>> p &&& 1 = 0 ∨ v >>> p &&& 1 = 1 := by rw [Nat.and_one_is_mod]; omega
  rcases h2 with h2 | h2
  · rw [h2] at h ⊢; rw [← h]; rfl
  · rw [h2] at h ⊢; rw [← h]; rfl
set_option maxRecDepth 100000 in
set_option maxHeartbeats 4000000 in
theorem boundsV_any (sb n : Nat) (vs vw : Value) (least : Int) (ws : List Nat) (cs : List Int) (hcov : Cov n ws cs) (taken out : Nat) (hto : taken < 2 ^ 63) (hoo : out < 2 ^ 63) (cost : Int) (hc0 : 0 ≤ cost) (hc1 : cost ≤ 1000000000) (pk ys no_ bd : Int) (weights : List Int) (hwl : weights.length ≤ 1000000)
    (w : World) (F G : Nat → Prop) (hF : ∀ b, F b → b < w.heap.size) (hG : ∀ b, G b → b < w.heap.size) (hS : SrchAt sb n vs least w) (hr : SlS F w vs (covL ws cs)) (hl : SlI G w vw weights) :
    Calls Try.prog 62 #[.pointer (some ⟨sb, 0, none⟩), .agg #[.int .u64 taken, .int .u64 out, .int .u64 (Hit.unionW ws taken : Nat), .int .i64 cost], .agg #[.int .i64 pk, .int .i64 ys, .int .i64 no_, .int .i64 bd, vw]] w
      fun e w' => e = .returned (.bool (Hit.boundF ws cs n least taken out cost ⟨pk, ys, no_, bd, weights⟩)) ∧ Below w.heap.size w w' := by
  have hr0 := hr
  have hl0 := hl
  obtain ⟨As, c1, rfl, hat⟩ := hr.openC hcov.eq
  obtain ⟨Aw, c2, rfl, _, _, haw⟩ := hl.open
  have hle := hcov.le
  have hwlen := hcov.len
  have huw : Hit.unionW ws taken < 2 ^ 63 := Nat.lt_of_lt_of_le (hcov.union_lt taken) (Nat.pow_le_pow_right (by decide) (by omega))
  have HCOV := Lib.hid hcov
  have HR0 := Lib.hid hr0
  have HL0 := Lib.hid hl0
  have HS := Lib.hid hS
  clear hr hl hr0 hl0 hcov hS
  go_enter Try.func62, Try.ntmps62
  go_upto_region 1 with fail
  obtain ⟨w1, hw1⟩ : ∃ w1 : World, (w.alloc (.cells #[.int .u64 taken, .int .u64 out, .int .u64 (Hit.unionW ws taken : Nat), .int .i64 cost] 130)).alloc (.cells #[.int .i64 pk, .int .i64 ys, .int .i64 no_, .int .i64 bd, .slice Aw weights.length c2] 42) = w1 := ⟨_, rfl⟩
  have a0 : w1.cell? ⟨w.heap.size, 0, none⟩ = some (.int .u64 taken) := by rw [← hw1]; simp [go_sem]
  have a1 : w1.cell? ⟨w.heap.size, 1, none⟩ = some (.int .u64 out) := by rw [← hw1]; simp [go_sem]
  have a2 : w1.cell? ⟨w.heap.size, 2, none⟩ = some (.int .u64 (Hit.unionW ws taken : Nat)) := by rw [← hw1]; simp [go_sem]
  have a3 : w1.cell? ⟨w.heap.size, 3, none⟩ = some (.int .i64 cost) := by rw [← hw1]; simp [go_sem]
  have b3 : w1.cell? ⟨w.heap.size + 1, 3, none⟩ = some (.int .i64 bd) := by rw [← hw1]; simp [go_sem]
  have b4 : w1.cell? ⟨w.heap.size + 1, 4, none⟩ = some (.slice Aw weights.length c2) := by rw [← hw1]; simp [go_sem]
  have s1 : w.heap.size + 1 < w1.heap.size := by rw [← hw1]; simp
  have B1 : Below w.heap.size w w1 := by rw [← hw1]; exact Ba (Ba (B0 w) _) _
  rw [hw1]
  clear hw1
  have hS1 := HS.out.below B1
  have e0 := hS1.c0
  have e1 := hS1.c1
  have e3 := hS1.c3
  have HB1 := Lib.hid B1
  have HS1 := Lib.hid hS1
  clear B1 hS1 HS
  obtain ⟨uw, huw2⟩ : ∃ uw, Hit.unionW ws taken = uw := ⟨_, rfl⟩
  rw [huw2] at a2 huw ⊢
  by_cases hlen : weights.length = n
  · have hne : ((weights.length : Int) != n) = false := by rw [hlen]; simp
    have hbc := Hit.bound_cut ws cs n least taken out cost ⟨pk, ys, no_, bd, weights⟩ hlen
    have HBC := Lib.hid hbc
    clear hbc
    go_wp2_with fail
    go_region
    obtain ⟨w2, hw2⟩ : ∃ w2, w1.drew = w2 := ⟨_, rfl⟩
    replace a0 : w2.cell? ⟨w.heap.size, 0, none⟩ = some (.int .u64 taken) := by rw [← hw2]; exact a0
    replace a1 : w2.cell? ⟨w.heap.size, 1, none⟩ = some (.int .u64 out) := by rw [← hw2]; exact a1
    replace a2 : w2.cell? ⟨w.heap.size, 2, none⟩ = some (.int .u64 uw) := by rw [← hw2]; exact a2
    replace a3 : w2.cell? ⟨w.heap.size, 3, none⟩ = some (.int .i64 cost) := by rw [← hw2]; exact a3
    replace b3 : w2.cell? ⟨w.heap.size + 1, 3, none⟩ = some (.int .i64 bd) := by rw [← hw2]; exact b3
    replace b4 : w2.cell? ⟨w.heap.size + 1, 4, none⟩ = some (.slice Aw weights.length c2) := by rw [← hw2]; exact b4
    replace e1 : w2.cell? ⟨sb, 1, none⟩ = some (.slice As ws.length c1) := by rw [← hw2]; exact e1
    replace e3 : w2.cell? ⟨sb, 3, none⟩ = some (.int .i64 least) := by rw [← hw2]; exact e3
    have HB2 : Hid (Below w.heap.size w w2) := Lib.hid (by rw [← hw2]; exact HB1.out.drew)
    have l2 : w.heap.size + 1 < w2.heap.size := by rw [← hw2]; exact s1
    have lsb : sb < w2.heap.size := by rw [← hw2]; exact HS1.out.lt
    rw [hw2]
    clear hw2 HB1 HS1 s1 e0 hne
    go_wp2_with fail
    go_loopg [7, 26] n (fun gg s7 s26 wr => ∃ k : Nat, k ≤ n ∧ n - k ≤ gg ∧ s26 = .int .i64 k ∧ s7 = .int .i64 (cost + Hit.sumI (weights.take k)) ∧ Aside (∀ j, j < k → Hit.okW ws taken weights j = true) ∧ wr = w2)
    case atStart => exact ⟨0, by omega, by omega, rfl, by simp [Hit.sumI], fun j hj => absurd hj (by omega), rfl⟩
    case round =>
      obtain ⟨k, hk, hg, rfl, rfl, HOK, rfl⟩ := hrel
      by_cases hlt : k < n
      · have hki : decide ((k : Int) < weights.length) = true := decide_eq_true (by omega)
        have hkI : (k : Int) < weights.length := by omega
        obtain ⟨ad, rfl, hf, hcw⟩ := haw k (by omega)
        have hcw' := (HB2.out.cell (p := ad.add k) (by rw [block_of_add]; exact hG _ hf)).trans hcw
        have hkw : k < weights.length := by omega
        have hgd : weights.getD k 0 = weights[k] := by rw [List.getD_eq_getElem?_getD, List.getElem?_eq_getElem hkw]; rfl
        have hst := Hit.sumI_take weights k hkw
        have hbd := Hit.sumI_bd k (by omega) HOK.out
        have hok : Hit.okW ws taken weights k = (decide (0 ≤ weights[k]) && decide (weights[k] ≤ 1000000) && !(decide (0 < weights[k]) && (Hit.unionW ws taken).testBit k)) := by unfold Hit.okW; rw [hgd]
        have hsucc : Hit.okW ws taken weights k = true → ∀ j, j < k + 1 → Hit.okW ws taken weights j = true := fun h j hj => by
          by_cases e : j = k
          · subst e; exact h
          · exact HOK.out j (by omega)
        have hstop : Hit.okW ws taken weights k = false → Hit.boundF ws cs n least taken out cost ⟨pk, ys, no_, bd, weights⟩ = false := fun h => by
          rw [HBC.out, Hit.all_stop hlt h]; rfl
        rw [huw2] at hok
        have hsh := shr_of uw k (by omega)
        have hle2 : uw >>> k ≤ uw := by rw [Nat.shiftRight_eq_div_pow]; exact Nat.div_le_self _ _
        have hand : bits .and .u64 ((uw >>> k : Nat) : Int) 1 = ((uw >>> k &&& 1 : Nat) : Int) := Hit.u64_and (uw >>> k) 1 (by omega) (by omega)
        have hbit := bit_of uw k
        have h4 : min k 64 = k := by omega
        have HST := Lib.hid hst
        have HSU := Lib.hid hsucc
        have HSP := Lib.hid hstop
        generalize uw >>> k &&& 1 = vb1 at *
        generalize uw >>> k = vs1 at *
        generalize uw.testBit k = bt at *
        generalize Hit.sumI (weights.take k) = acc at *
        generalize weights[k] = u at *
        clear hgd hst hsucc hstop hle2 hcw
        by_cases hu0 : u < 0
        · have d1 : decide (u < 0) = true := decide_eq_true hu0
          have HZ := Lib.hid (HSP.out (by rw [hok, decide_eq_false (show ¬ 0 ≤ u by omega)]; rfl))
          clear hok hat haw
          go_wp2
          go_ret
          exact ⟨by rw [HZ.out]; rfl, HB2.out⟩
        · have d1 : decide (u < 0) = false := decide_eq_false hu0
          by_cases hu1 : 1000000 < u
          · have d2 : decide (1000000 < u) = true := decide_eq_true hu1
            have HZ := Lib.hid (HSP.out (by rw [hok, decide_eq_false (show ¬ u ≤ 1000000 by omega)]; simp))
            clear hok hat haw
            go_wp2
            go_ret
            exact ⟨by rw [HZ.out]; rfl, HB2.out⟩
          · have d2 : decide (1000000 < u) = false := decide_eq_false hu1
            by_cases hu2 : 0 < u
            · have d3 : decide (0 < u) = true := decide_eq_true hu2
              cases bt with
              | true =>
                have HZ := Lib.hid (HSP.out (by rw [hok, d3]; simp))
                clear hok hat haw
                go_wp2
                go_ret
                exact ⟨by rw [HZ.out]; rfl, HB2.out⟩
              | false =>
                have HN := Lib.hid (HSU.out (by rw [hok, decide_eq_true (show 0 ≤ u by omega), decide_eq_true (show u ≤ 1000000 by omega)]; simp))
                clear hok hat haw
                go_wp2
                go_roundg (n - (k + 1))
                case measure => omega
                case rel => exact ⟨k + 1, by omega, by omega, by go_num, by rw [HST.out]; go_num, HN.out, rfl⟩
            · have d3 : decide (0 < u) = false := decide_eq_false hu2
              have HN := Lib.hid (HSU.out (by rw [hok, d3, decide_eq_true (show 0 ≤ u by omega), decide_eq_true (show u ≤ 1000000 by omega)]; rfl))
              clear hok hat haw
              go_wp2
              go_roundg (n - (k + 1))
              case measure => omega
              case rel => exact ⟨k + 1, by omega, by omega, by go_num, by rw [HST.out]; go_num, HN.out, rfl⟩
      · have hki : decide ((k : Int) < weights.length) = false := decide_eq_false (by omega)
        obtain rfl : k = n := by omega
        have hfst : (List.range k).all (Hit.okW ws taken weights) = true := Hit.all_done HOK.out
        rw [show weights.take k = weights by rw [List.take_of_length_le (by omega)]]
        have hbT := Hit.sumI_bd k (by omega) HOK.out
        rw [show weights.take k = weights by rw [List.take_of_length_le (by omega)]] at hbT
        have hwt : ∀ x ∈ weights, 0 ≤ x ∧ x ≤ 1000000 := fun x hx => by
          obtain ⟨i, hi, rfl⟩ := List.getElem_of_mem hx
          have h2 := HOK.out i (by omega)
          unfold Hit.okW at h2
          rw [List.getD_eq_getElem?_getD, List.getElem?_eq_getElem hi] at h2
          simp at h2
          omega
        have HWT := Lib.hid hwt
        have hfin : (List.range ws.length).all (Hit.okS ws cs taken out weights) = true → Hit.boundF ws cs k least taken out cost ⟨pk, ys, no_, bd, weights⟩ = (decide (bd = cost + Hit.sumI weights) && decide (cost + Hit.sumI weights ≥ least)) := fun h => by rw [HBC.out, hfst, h]; rfl
        have hstp : (List.range ws.length).all (Hit.okS ws cs taken out weights) = false → Hit.boundF ws cs k least taken out cost ⟨pk, ys, no_, bd, weights⟩ = false := fun h => by rw [HBC.out, hfst, h]; rfl
        have HFIN := Lib.hid hfin
        have HSTP := Lib.hid hstp
        clear hfst hwt hfin hstp HBC HOK hki haw hg
        generalize cost + Hit.sumI weights = T at *
        go_wp2_with fail
        go_loopg [59] ws.length (fun gg s59 wx => ∃ j : Nat, j ≤ ws.length ∧ ws.length - j ≤ gg ∧ s59 = .int .i64 j ∧ Aside (∀ i, i < j → Hit.okS ws cs taken out weights i = true) ∧ Aside (Below wr.heap.size wr wx))
        case atStart => exact ⟨0, by omega, by omega, rfl, fun i hi => absurd hi (by omega), B0 wr⟩
        case round =>
          obtain ⟨j, hj, hg, rfl, HOJ, HBj⟩ := hrel
          by_cases hlt : j < ws.length
          · have hji : decide ((j : Int) < ws.length) = true := decide_eq_true (by omega)
            have hjI : (j : Int) < ws.length := by omega
            obtain ⟨ad, vw, rfl, hf, hu, hfd⟩ := hat j hlt
            have hBx := Bt HB2.out HBj.out
            have hfd' := hfd.keep (Agree.below hBx hF) (by rw [block_of_add]; exact hf)
            obtain ⟨Au, cu, rfl, hx1⟩ := id hu.open
            clear hx1
            have q0 := hfd'.f0 rfl
            have q1 := hfd'.f1 rfl
            have hsucc : Hit.okS ws cs taken out weights j = true → ∀ i, i < j + 1 → Hit.okS ws cs taken out weights i = true := fun h i hi => by
              by_cases e : i = j
              · subst e; exact h
              · exact HOJ.out i (by omega)
            have hstop : Hit.okS ws cs taken out weights j = false → Hit.boundF ws cs k least taken out cost ⟨pk, ys, no_, bd, weights⟩ = false := fun h => HSTP.out (Hit.all_stop hlt h)
            have hok : Hit.okS ws cs taken out weights j = !(!(taken ||| out).testBit j && decide (cs.getD j 0 < weighL weights (Hit.members (ws.getD j 0)))) := by rw [weighL_eq]; rfl
            have hml : ∀ x ∈ Hit.members (ws.getD j 0), x < weights.length := fun x hx => by rw [hlen]; exact Hit.members_lt (HCOV.out.getW j) x hx
            have hmn : (Hit.members (ws.getD j 0)).length ≤ 1000 := Nat.le_trans (List.length_filter_le _ _) (by simp)
            have hWG : ∀ W, Below w.heap.size w W → Calls Try.prog 75 #[.agg #[.slice Au (Hit.ints (Hit.members (ws.getD j 0))).length cu, .int .i64 (cs.getD j 0)], .slice Aw weights.length c2] W fun e w' => e = .returned (.int .i64 (weighL weights (Hit.members (ws.getD j 0)))) ∧ Below W.heap.size W w' := fun W hW =>
              weighV_any _ _ _ (Hit.members (ws.getD j 0)) weights HWT.out hml hmn W F G (fun b hb => Nat.lt_of_lt_of_le (hF b hb) hW.size) (fun b hb => Nat.lt_of_lt_of_le (hG b hb) hW.size) (SlI.keep hu (Agree.below hW hF)) (SlI.keep HL0.out (Agree.below hW hG))
            have hor := Hit.u64_or taken out (by omega) (by omega)
            have hto2 : taken ||| out < 2 ^ 63 := Nat.or_lt_two_pow hto hoo
            have HWG := Lib.hid hWG
            have HSU := Lib.hid hsucc
            have HSP := Lib.hid hstop
            have hs3 := (Bc HBj.out l2).trans b4
            have hs0 := (Bc HBj.out (Nat.lt_of_succ_lt l2)).trans a0
            have hs1 := (Bc HBj.out (Nat.lt_of_succ_lt l2)).trans a1
            have lx : w.heap.size + 1 < wr.heap.size := Nat.lt_of_lt_of_le l2 HBj.out.size
            have HBX := Lib.hid (Bt HB2.out HBj.out)
            clear hat hfd hfd' hu hml hmn hWG hsucc hstop
            generalize (Hit.ints (Hit.members (ws.getD j 0))).length = lu at *
            generalize weighL weights (Hit.members (ws.getD j 0)) = wl at *
            generalize cs.getD j 0 = ck at *
            generalize taken ||| out = v at *
            have hsh := shr_of v j (by omega)
            have hle2 : v >>> j ≤ v := by rw [Nat.shiftRight_eq_div_pow]; exact Nat.div_le_self _ _
            have hand : bits .and .u64 ((v >>> j : Nat) : Int) 1 = ((v >>> j &&& 1 : Nat) : Int) := Hit.u64_and (v >>> j) 1 (by omega) (by omega)
            have hbit := bit_zero v j
            have h4 : min j 64 = j := by omega
            generalize v >>> j &&& 1 = vb1 at *
            generalize v >>> j = vs1 at *
            generalize v.testBit j = bt at *
            clear hle2
            go_upto_region 14 with fail
            have n0 : (wr.alloc (.cells #[.slice Au lu cu, .int .i64 ck] 40)).cell? ⟨wr.heap.size, 0, none⟩ = some (.slice Au lu cu) := by simp [go_sem]
            have n1 : (wr.alloc (.cells #[.slice Au lu cu, .int .i64 ck] 40)).cell? ⟨wr.heap.size, 1, none⟩ = some (.int .i64 ck) := by simp [go_sem]
            have m0 := (Bc (Ba (B0 wr) (.cells #[.slice Au lu cu, .int .i64 ck] 40)) (Nat.lt_of_succ_lt lx)).trans hs0
            have m1 := (Bc (Ba (B0 wr) (.cells #[.slice Au lu cu, .int .i64 ck] 40)) (Nat.lt_of_succ_lt lx)).trans hs1
            have m4 := (Bc (Ba (B0 wr) (.cells #[.slice Au lu cu, .int .i64 ck] 40)) lx).trans hs3
            have HBW := Lib.hid (Ba (B0 wr) (.cells #[.slice Au lu cu, .int .i64 ck] 40))
            have HBV := Lib.hid (Ba HBX.out (.cells #[.slice Au lu cu, .int .i64 ck] 40))
            have l5 : wr.heap.size < (wr.alloc (.cells #[.slice Au lu cu, .int .i64 ck] 40)).heap.size := by simp
            generalize (wr.alloc (.cells #[.slice Au lu cu, .int .i64 ck] 40)) = w5 at *
            obtain ⟨tb, htb⟩ : ∃ tb, wr.heap.size = tb := ⟨_, rfl⟩
            rw [htb] at n0 n1 l5 ⊢
            clear hs0 hs1 hs3 q0 q1
            cases bt with
            | true =>
              have HN := Lib.hid (HSU.out (by rw [hok]; rfl))
              clear hok HSP
              go_region
              all_goals
                go_wp2_with fail
                go_roundg (ws.length - (j + 1))
                case measure => omega
                case rel => exact ⟨j + 1, by omega, by omega, by go_num, HN.out, Bt HBj.out HBW.out.drew⟩
            | false =>
              have hcall := HWG.out w5.drew HBV.out.drew
              rw [hlen] at hcall
              have HCALL := Lib.hid hcall
              clear hcall
              by_cases hgt : ck < wl
              · have hgd : decide (ck < wl) = true := decide_eq_true hgt
                have HZ := Lib.hid (HSP.out (by rw [hok, hgd]; rfl))
                clear hok HSU hgt
                go_region_held3 (fun w' => (w'.cell? ⟨w.heap.size, 0, none⟩ = some (.int .u64 taken) ∧ w'.cell? ⟨w.heap.size, 1, none⟩ = some (.int .u64 out) ∧ w'.cell? ⟨w.heap.size + 1, 4, none⟩ = some (.slice Aw weights.length c2)) ∧ w'.cell? ⟨tb, 0, none⟩ = some (.slice Au lu cu) ∧ w'.cell? ⟨tb, 1, none⟩ = some (.int .i64 ck)) (first | exact ⟨⟨m0, m1, m4⟩, n0, n1⟩ | exact ⟨⟨p0, p1, p4⟩, r0, r1⟩)
                  ((go_at_call 75; (with_reducible refine (HCALL.out.mono ?_)); rintro e wy ⟨rfl, hby⟩; have p0 := (Bc hby (show w.heap.size < w5.drew.heap.size by show w.heap.size < w5.heap.size; omega)).trans m0; have p1 := (Bc hby (show w.heap.size < w5.drew.heap.size by show w.heap.size < w5.heap.size; omega)).trans m1; have p4 := (Bc hby (show w.heap.size + 1 < w5.drew.heap.size by show w.heap.size + 1 < w5.heap.size; omega)).trans m4; have r0 := (Bc hby (show tb < w5.drew.heap.size from l5)).trans n0; have r1 := (Bc hby (show tb < w5.drew.heap.size from l5)).trans n1; have HBY := Lib.hid hby; clear hby))
                all_goals
                  go_wp2_with fail
                  go_ret
                  exact ⟨by rw [HZ.out]; rfl, Bt HBV.out.drew HBY.out⟩
              · have hgd : decide (ck < wl) = false := decide_eq_false hgt
                have HN := Lib.hid (HSU.out (by rw [hok, hgd]; rfl))
                clear hok HSP hgt
                go_region_held3 (fun w' => (w'.cell? ⟨w.heap.size, 0, none⟩ = some (.int .u64 taken) ∧ w'.cell? ⟨w.heap.size, 1, none⟩ = some (.int .u64 out) ∧ w'.cell? ⟨w.heap.size + 1, 4, none⟩ = some (.slice Aw weights.length c2)) ∧ w'.cell? ⟨tb, 0, none⟩ = some (.slice Au lu cu) ∧ w'.cell? ⟨tb, 1, none⟩ = some (.int .i64 ck)) (first | exact ⟨⟨m0, m1, m4⟩, n0, n1⟩ | exact ⟨⟨p0, p1, p4⟩, r0, r1⟩)
                  ((go_at_call 75; (with_reducible refine (HCALL.out.mono ?_)); rintro e wy ⟨rfl, hby⟩; have p0 := (Bc hby (show w.heap.size < w5.drew.heap.size by show w.heap.size < w5.heap.size; omega)).trans m0; have p1 := (Bc hby (show w.heap.size < w5.drew.heap.size by show w.heap.size < w5.heap.size; omega)).trans m1; have p4 := (Bc hby (show w.heap.size + 1 < w5.drew.heap.size by show w.heap.size + 1 < w5.heap.size; omega)).trans m4; have r0 := (Bc hby (show tb < w5.drew.heap.size from l5)).trans n0; have r1 := (Bc hby (show tb < w5.drew.heap.size from l5)).trans n1; have HBY := Lib.hid hby; clear hby))
                all_goals
                  go_wp2_with fail
                  go_roundg (ws.length - (j + 1))
                  case measure => omega
                  case rel => exact ⟨j + 1, by omega, by omega, by go_num, HN.out, Bt (Bt HBj.out HBW.out.drew) HBY.out⟩
          · have hji : decide ((j : Int) < ws.length) = false := decide_eq_false (by omega)
            obtain rfl : j = ws.length := by omega
            have hz := HFIN.out (Hit.all_done HOJ.out)
            have f3 := (Bc HBj.out l2).trans b3
            have g3 := (Bc HBj.out lsb).trans e3
            have HZ := Lib.hid hz
            have HBE := Lib.hid (Bt HB2.out HBj.out)
            clear hz hat
            by_cases hbd : bd = T
            · have t1 : (bd == T) = true := by simpa using hbd
              have hd : decide (bd = T) = true := decide_eq_true hbd
              rw [hd] at HZ
              clear hbd hd
              go_wp2_with fail
              go_ret
              exact ⟨by rw [HZ.out, Bool.true_and]; rfl, HBE.out⟩
            · have t1 : (bd == T) = false := by simpa using hbd
              have hd : decide (bd = T) = false := decide_eq_false hbd
              rw [hd] at HZ
              clear hbd hd
              go_wp2_with fail
              go_ret
              exact ⟨by rw [HZ.out, Bool.false_and]; rfl, HBE.out⟩
  · have hne : ((weights.length : Int) != n) = true := by simpa using fun h => hlen (by omega)
    have hz : Hit.boundF ws cs n least taken out cost ⟨pk, ys, no_, bd, weights⟩ = false := by
      unfold Hit.boundF
      rw [decide_eq_false hlen]; simp
    have HZ := Lib.hid hz
    clear hz hlen hat haw
    go_wp2_with fail
    go_region
    all_goals
      go_wp2_with fail
      go_ret
      exact ⟨by rw [HZ.out]; rfl, HB1.out.drew⟩
end Go.Proofs.Ytnpdoejjebgcpaa
