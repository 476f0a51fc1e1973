/- Walks over the statements of checker: CheckerHits. -/
import Derived.Test.YthgjhfapnilfhaaDoorCk
import Derived.Test.YthgjhfapnilfhaaDoorW7
namespace Go.Proofs.YthgjhfapnilfhaaDoor
open Go Go.RowKit
theorem Prob.proveS {n : Nat} {v : Value} {ws : List Nat} {B : Nat} {w : World} (h : Prob n v ws B w) (size : Nat) (h8 : n ≤ 8) (h1 : size ≤ n) (h2 : (size : Int) ≤ (Hit.pop (Hit.least ws n) : Nat)) : Calls Tryd.prog 10 #[.agg #[.int .i64 n, v], .int .i64 size] w fun e w' => ∃ g c, e = .returned (.tuple #[.slice (some ⟨g, 0, none⟩) (Prob.tr ws n size).length c, .int .i64 0]) ∧
    SlT (fun b => b < w'.heap.size) w' (.slice (some ⟨g, 0, none⟩) (Prob.tr ws n size).length c) (Prob.tr ws n size) ∧ Below w.heap.size w w' := by
  have hl : 0 < (Prob.tr ws n (size : Int)).length ∧ (Prob.tr ws n (size : Int)).length ≤ 512 := @Prob.node_short n ws h8 (size : Int)
  refine (h.proveC (size := (size : Int)) (by omega) (by omega) h2).mono ?_
  rintro e w' ⟨pb, vs, A, c, rfl, _, hP, hb⟩
  obtain ⟨g, cap, hv⟩ := hP.at_ (Hit.nodeF_pos ws _ n 0 0 0)
  injection hv with e1 e2 e3
  subst e1
  exact ⟨g, c, rfl, (hP.slt (by omega)).wider fun b h => h.2, hb⟩
/-- What the operations of 'u[i].Weights = append(append([]int{}, u[i].Weights...), x)' have left. -/
def FA (g k sb base : Nat) (U : Value) (A : Option Addr) (n c : Nat) (l : List Int) (y : Int) (j : Nat) (s : Nat → Value) (w : World) : Prop :=
  match j with
  | 0 => s 85 = U
  | 1 => s 86 = .int .i64 k
  | 2 => ∃ A0, s 87 = .slice A0 0 0
  | 3 => s 88 = U
  | 4 => s 89 = .int .i64 k
  | 5 => s 90 = .pointer (some ⟨g, k * 5, none⟩)
  | 6 => s 91 = .pointer (some ⟨g, k * 5 + 4, none⟩)
  | 7 => s 92 = .slice A n c
  | 8 => ∃ A' c', s 93 = .slice A' n c' ∧ Own0 w base 3 1 A' n c' (cellsV vI l)
  | 9 => s 94 = .pointer (some ⟨sb, 2, none⟩)
  | 10 => s 95 = .int .i64 y
  | 11 => ∃ b, s 96 = .slice (some ⟨b, 0, none⟩) 1 1 ∧ w.cell? ⟨b, 0, none⟩ = some (.int .i64 y)
  | 12 => ∃ A' c', s 97 = .slice A' (n + 1) c' ∧ Own0 w base 3 1 A' (n + 1) c' (cellsV vI l ++ [.int .i64 y])
  | _ => True
def VA (j : Nat) : List Nat := match j with
  | 0 => [85] | 1 => [86] | 2 => [87] | 3 => [88] | 4 => [89] | 5 => [90] | 6 => [91] | 7 => [92] | 8 => [93] | 9 => [94] | 10 => [95] | 11 => [96] | 12 => [97] | _ => []
def EA (j : Nat) : Bool := j == 0 || j == 1 || j == 12
section
variable {g k sb base : Nat} {U : Value} {A : Option Addr} {n c : Nat} {l : List Int} {y : Int}
theorem FA_V (j : Nat) (s s' : Nat → Value) (w : World) (h : ∀ t, t ∈ VA j → s' t = s t) (hF : FA g k sb base U A n c l y j s w) : FA g k sb base U A n c l y j s' w := by
  match j with
  | 0 => simpa [FA, h 85 (by simp [VA])] using hF
  | 1 => simpa [FA, h 86 (by simp [VA])] using hF
  | 2 => simpa [FA, h 87 (by simp [VA])] using hF
  | 3 => simpa [FA, h 88 (by simp [VA])] using hF
  | 4 => simpa [FA, h 89 (by simp [VA])] using hF
  | 5 => simpa [FA, h 90 (by simp [VA])] using hF
  | 6 => simpa [FA, h 91 (by simp [VA])] using hF
  | 7 => simpa [FA, h 92 (by simp [VA])] using hF
  | 8 => simpa [FA, h 93 (by simp [VA])] using hF
  | 9 => simpa [FA, h 94 (by simp [VA])] using hF
  | 10 => simpa [FA, h 95 (by simp [VA])] using hF
  | 11 => simpa [FA, h 96 (by simp [VA])] using hF
  | 12 => simpa [FA, h 97 (by simp [VA])] using hF
  | j + 13 => trivial
theorem FA_below (j : Nat) (s : Nat → Value) (w w' : World) (hb : Below w.heap.size w w') (hF : FA g k sb base U A n c l y j s w) : FA g k sb base U A n c l y j s w' := by
  match j with
  | 0 => exact hF
  | 1 => exact hF
  | 2 => exact hF
  | 3 => exact hF
  | 4 => exact hF
  | 5 => exact hF
  | 6 => exact hF
  | 7 => exact hF
  | 8 => obtain ⟨A', c', h1, h2⟩ := hF; exact ⟨A', c', h1, h2.below hb⟩
  | 9 => exact hF
  | 10 => exact hF
  | 11 => obtain ⟨b, h1, h2⟩ := hF; exact ⟨b, h1, (Bc hb (World.block_lt_of_cell? _ _ h2)).trans h2⟩
  | 12 => obtain ⟨A', c', h1, h2⟩ := hF; exact ⟨A', c', h1, h2.below hb⟩
  | j + 13 => trivial
end
set_option maxRecDepth 200000 in
set_option maxHeartbeats 8000000 in
theorem law_checkerHits (N : Nat) (hN : N < 256) (vs : Value) (sets : List Nat) (hs : ∀ s ∈ sets, s < 256) (kd at_ sz : Nat) (hkd : kd < 256) (hat : at_ < 256) (hsz : sz < 256) (by_ : Int) (w : World) (F : Nat → Prop) (hF : ∀ b, F b → b < w.heap.size) (hr : SlU .u8 F w vs sets) (hT : Tab32 w) :
    Calls Tryd.prog 3 #[.agg #[.int .u8 N, vs], .agg #[.int .u8 kd, .int .u8 at_, .int .i64 by_, .int .u8 sz]] w fun e w' => e = .returned (.bool true) ∧ Below w.heap.size w w' := by
  have hM := make_prob N hN vs sets hs w F hF hr hT
  obtain ⟨As, cs, rfl, _⟩ := hr.open
  have hn8 : 1 + N % 8 ≤ 8 := by omega
  generalize Hit.planW (1 + N % 8) sets = ws at *
  generalize 1 + N % 8 = n at *
  have HM := Lib.hid hM
  clear hM hr hT hs
  go_enter Tryd.func3, Tryd.ntmps3
  go_upto_region 4 with (first
    | (go_at_call 8; refine (known54_any _).mono ?_; rintro e w1 ⟨rfl, hb1⟩; have HB1 := Lib.hid (Bt (Ba (Ba (B0 w) _) _) hb1); have c0 : w1.cell? ⟨w.heap.size, 0, none⟩ = some (.int .u8 N) := (Bc hb1 (by simp; omega)).trans (by simp [go_sem]); have c1 : w1.cell? ⟨w.heap.size, 1, none⟩ = some (.slice As sets.length cs) := (Bc hb1 (by simp; omega)).trans (by simp [go_sem]); have d0 : w1.cell? ⟨w.heap.size + 1, 0, none⟩ = some (.int .u8 kd) := (Bc hb1 (by simp)).trans (by simp [go_sem]); have d1 : w1.cell? ⟨w.heap.size + 1, 1, none⟩ = some (.int .u8 at_) := (Bc hb1 (by simp)).trans (by simp [go_sem]); have d2 : w1.cell? ⟨w.heap.size + 1, 2, none⟩ = some (.int .i64 by_) := (Bc hb1 (by simp)).trans (by simp [go_sem]); have d3 : w1.cell? ⟨w.heap.size + 1, 3, none⟩ = some (.int .u8 sz) := (Bc hb1 (by simp)).trans (by simp [go_sem]); have l1 : w.heap.size + 1 < w1.heap.size := (by have := hb1.size; simp at this; omega); clear hb1)
    | (go_at_call 9; refine (HM.out _ HB1.out).mono ?_; rintro e w2 ⟨A2, m2, c2, rfl, hp2, hb2⟩; have HB2 := Lib.hid (Bt HB1.out hb2); have HP2 := Lib.hid hp2; have e0 := (Bc hb2 l1).trans d0; have e1 := (Bc hb2 l1).trans d1; have e2 := (Bc hb2 l1).trans d2; have e3 := (Bc hb2 l1).trans d3; have l2 := Nat.lt_of_lt_of_le l1 hb2.size; clear hb2 hp2 c0 c1 d0 d1 d2 d3))
  have hb3 := Ba HB2.out (.cells #[.int .i64 n, .slice A2 m2 c2] 30)
  have hP3 := (HP2.out.on (Ba (B0 w2) (.cells #[.int .i64 n, .slice A2 m2 c2] 30)))
  have k0 : (w2.alloc (.cells #[.int .i64 n, .slice A2 m2 c2] 30)).cell? ⟨w2.heap.size, 0, none⟩ = some (.int .i64 n) := by simp [go_sem]
  have k1 : (w2.alloc (.cells #[.int .i64 n, .slice A2 m2 c2] 30)).cell? ⟨w2.heap.size, 1, none⟩ = some (.slice A2 m2 c2) := by simp [go_sem]
  have f0 := (Bc (Ba (B0 w2) (.cells #[.int .i64 n, .slice A2 m2 c2] 30)) l2).trans e0
  have f1 := (Bc (Ba (B0 w2) (.cells #[.int .i64 n, .slice A2 m2 c2] 30)) l2).trans e1
  have f2 := (Bc (Ba (B0 w2) (.cells #[.int .i64 n, .slice A2 m2 c2] 30)) l2).trans e2
  have f3 := (Bc (Ba (B0 w2) (.cells #[.int .i64 n, .slice A2 m2 c2] 30)) l2).trans e3
  have l3 : w2.heap.size < (w2.alloc (.cells #[.int .i64 n, .slice A2 m2 c2] 30)).heap.size := by simp
  generalize (w2.alloc (.cells #[.int .i64 n, .slice A2 m2 c2] 30)) = w3 at *
  have hP3 := hP3.more (Nat.le_of_lt l3) (Nat.le_refl _)
  have HB3 := Lib.hid hb3
  have HP3 := Lib.hid hP3
  obtain ⟨pb, hpb⟩ : ∃ pb, w2.heap.size = pb := ⟨_, rfl⟩
  obtain ⟨sb, hsb⟩ : ∃ sb, w.heap.size + 1 = sb := ⟨_, rfl⟩
  rw [hpb] at k0 k1 l3 ⊢
  rw [hsb] at f0 f1 f2 f3 l2 ⊢
  have l23 : sb < w3.heap.size := by omega
  have k : ∀ W, Below w3.heap.size w3 W → (W.cell? ⟨pb, 0, none⟩ = some (.int .i64 n) ∧ W.cell? ⟨pb, 1, none⟩ = some (.slice A2 m2 c2)) ∧ W.cell? ⟨sb, 0, none⟩ = some (.int .u8 kd) ∧ W.cell? ⟨sb, 1, none⟩ = some (.int .u8 at_) ∧ W.cell? ⟨sb, 2, none⟩ = some (.int .i64 by_) := fun W hW =>
    ⟨⟨(Bc hW l3).trans k0, (Bc hW l3).trans k1⟩, (Bc hW (by omega)).trans f0, (Bc hW (by omega)).trans f1, (Bc hW (by omega)).trans f2⟩
  have K := Lib.hid k
  obtain ⟨q, hq⟩ : ∃ q, sz % (n + 1) = q := ⟨_, rfl⟩
  have hqn : q ≤ n := by have := Nat.mod_lt sz (show 0 < n + 1 by omega); omega
  have hmod : (sz : Int) % ((n : Int) + 1) = (q : Int) := by rw [← hq]; rfl
  have hszI : (sz : Int) < 256 := by omega
  have hnI : (n : Int) ≤ 8 := by omega
  clear hb3 hP3 HM HP2 hpb hsb k e0 e1 e2 e3 l1 hq hsz
  go_upto_region 5 with fail
  rw [hmod]
  clear hmod f3 hszI
  by_cases hless : (Hit.pop (Hit.least ws n) : Int) < q
  · have hPv := fun W (hW : Below w3.heap.size w3 W) => (HP3.out.on hW).proveLess (size := q) (by omega) (by omega) hless
    have HPV := Lib.hid hPv
    have hH : ∀ W : World, Below w3.heap.size w3 W → Calls Tryd.prog 11 #[.agg #[.int .i64 n, .slice A2 m2 c2, .int .i64 q, .slice (some ⟨W.heap.size, 0, none⟩) 1 1]] (W.alloc (.cells #[.int .i64 0, .int .i64 0, .int .i64 0, .int .i64 0, .slice none 0 0] 39)) fun e w' => e = .returned (.bool false) ∧ Below W.heap.size W w' := fun W hW => by
      have h1 := (HP3.out.on (Ba hW (.cells #[.int .i64 0, .int .i64 0, .int .i64 0, .int .i64 0, .slice none 0 0] 39))).hitsC q (some ⟨W.heap.size, 0, none⟩) 1 [⟨0, 0, 0, 0, []⟩] (by simp) (by simp) (slt_leaf W)
      have h2 := Hit.tree_leaf ws n q (by omega)
      rw [decide_eq_false h2] at h1
      exact h1.mono fun _ _ ⟨a, b⟩ => ⟨a, Bt (Ba (B0 W) _) b⟩
    have HH := Lib.hid hH
    clear hPv hless hH
    go_wp2_with fail
    (with_reducible refine ((HPV.out _ (B0 w3)).mono ?_))
    rintro e w4 ⟨rfl, hb4⟩
    have HB4 := Lib.hid hb4
    obtain ⟨⟨k40, k41⟩, _⟩ := K.out _ hb4
    clear hb4 k0 k1 f0 f1 f2
    go_wp2_with (go_at_call 11; (with_reducible refine ((HH.out w4 HB4.out).mono ?_)); rintro e w5 ⟨rfl, hb5⟩; have HB5 := Lib.hid (Bt HB4.out hb5); clear hb5)
    go_ret
    exact ⟨rfl, Bt HB3.out HB5.out⟩
  · have hPv := fun W (hW : Below w3.heap.size w3 W) => (HP3.out.on hW).proveS q hn8 (by omega) (by omega)
    have hwt : ∀ x ∈ Prob.tr ws n (q : Int), x.weights.length ≤ 101 := HP3.out.weights (q : Int)
    have htl : 0 < (Prob.tr ws n (q : Int)).length ∧ (Prob.tr ws n (q : Int)).length ≤ 512 := @Prob.node_short n ws hn8 (q : Int)
    have htr := HP3.out.tree (size := (q : Int)) (by omega)
    have hvf : Hit.verifyF ws n (q : Int) (Prob.tr ws n (q : Int)) = 0 := by
      unfold Hit.verifyF
      rw [if_neg (by omega), if_neg (by omega), if_neg (by omega), htr]; rfl
    obtain ⟨T, hTT⟩ : ∃ T, Prob.tr ws n (q : Int) = T := ⟨_, rfl⟩
    rw [hTT] at hPv hwt htl hvf
    have HPV := Lib.hid hPv
    have HWT := Lib.hid hwt
    have HVF := Lib.hid hvf
    have hl0 : ((T.length : Int) == 0) = false := by simp; intro h; rw [h] at htl; simp at htl
    have hl1 : (0 : Int) < T.length := by omega
    clear hPv hwt hTT hless htr hvf
    go_wp2_with fail
    (with_reducible refine ((HPV.out _ (B0 w3)).mono ?_))
    rintro e w5 ⟨g, cap, rfl, hT5, hb5⟩
    have HB5 := Lib.hid hb5
    have HT5 := Lib.hid hT5
    obtain ⟨csT, hT1, hT2, hT3⟩ := Sl.cells hT5 (fun b hb => hb)
    have hv1 : ∀ u ∈ csT.flatten, u.oneCell' = true := fun u hu => by
      obtain ⟨c, hc, hu⟩ := List.mem_flatten.1 hu
      obtain ⟨i, hi, rfl⟩ := List.getElem_of_mem hc
      obtain ⟨c', q1, _, q3⟩ := hT2 i (by omega)
      rw [List.getElem?_eq_getElem hi] at q1
      injection q1 with q1
      rw [q1] at hu
      obtain ⟨vw, e1, hsw⟩ := q3
      obtain ⟨Aw, cw, e2, _⟩ := hsw.open
      rw [e1, e2] at hu
      simp at hu
      rcases hu with rfl | rfl | rfl | rfl | rfl <;> rfl
    have HT1 := Lib.hid hT1
    have HT2 := Lib.hid hT2
    have HRD := Lib.hid hT3
    have HV1 := Lib.hid hv1
    clear hT1 hT2 hT3 hv1 hT5 hb5 k0 k1 f0 f1 f2
    go_upto_region 9 with (at_builtin; refine wpList_copy elemNode (by omega) rfl _ _ rfl (some ⟨w5.heap.size, 0, none⟩) rfl w5.heap.size (some ⟨g, 0, none⟩) T.length cap csT.flatten rfl (HRD.out.below (Ba (B0 w5) _)) HV1.out (by omega) (by omega) ?_; intro A6 c6 w6 hb6 hO6; have HO6 := Lib.hid hO6; have HB6 := Lib.hid hb6; clear hb6 hO6)
    obtain ⟨g6, hA6, hU6⟩ := UT.of_copy (t := T) htl.1 HT1.out (fun i hi => by
      obtain ⟨c, q1, q2, q3⟩ := HT2.out i hi
      exact ⟨c, q1, q2, q3.keep (Agree.below (Ba (B0 w5) _) fun b hb => hb) fun b hb => Nat.lt_of_lt_of_le hb (Ba (B0 w5) _).size⟩) HB6.out HO6.out
    subst hA6
    have hb56 : Below w5.heap.size w5 w6 := Bt (Ba (B0 w5) _) HB6.out
    have hB36 := Bt HB5.out hb56
    have hg6 : w5.heap.size ≤ g6 := by have := hU6.row.1; simp at this; omega
    obtain ⟨k, hk⟩ : ∃ k, at_ % T.length = k := ⟨_, rfl⟩
    have hkT : k < T.length := by rw [← hk]; exact Nat.mod_lt _ (by omega)
    have hmod : (at_ : Int) % (T.length : Int) = (k : Int) := by rw [← hk]; rfl
    have hatI : (at_ : Int) < 256 := by omega
    have hkI : (k : Int) < T.length := by omega
    obtain ⟨Aw, cw, q0, q1, q2, q4, hsw⟩ := hU6.read k hkT (by omega)
    have fr6 := hU6.frozen
    have hgl := hU6.row.2
    have hcap := hU6.cap_
    obtain ⟨⟨k60, k61⟩, d0, d1, d2⟩ := K.out _ hB36
    have hwl : T[k].weights.length ≤ 101 := HWT.out _ (List.getElem_mem hkT)
    have hPUT := fun (j : Nat) (hj : j < 5) u x' => UT.set_ (w3 := w5) hU6 (by omega) HWT.out hb56 hg6 k hkT j hj u x'
    have HPUT := Lib.hid hPUT
    have HU6 := Lib.hid hU6
    have HB56 := Lib.hid hb56
    have HB36 := Lib.hid hB36
    have HSW := Lib.hid hsw
    have HKT := Lib.hid hkT
    have HTL := Lib.hid htl.2
    have HG6 := Lib.hid hg6
    have HGL := Lib.hid hgl
    have HWL := Lib.hid hwl
    generalize T[k] = x at *
    clear hU6 hb56 hB36 hsw hPUT hk htl HO6 HB6 HT1 HT2 HRD HV1 hkT hg6 hwl hgl k60 k61
    go_upto_block 0 with fail
    rw [hmod]
    clear hmod hatI
    go_cut [9] from 56 to 110 (fun s9 wx => SlipP w5 s9 wx)
    case first =>
      have hq : (kd : Int) % 7 = 0 ∨ (kd : Int) % 7 = 1 ∨ (kd : Int) % 7 = 2 ∨ (kd : Int) % 7 = 3 ∨ (kd : Int) % 7 = 4 ∨ (kd : Int) % 7 = 5 ∨ (kd : Int) % 7 = 6 := by omega
      rcases hq with hq | hq | hq | hq | hq | hq | hq
      · go_wp2_with fail
        go_meet
        exact HU6.out.slip (by have := HTL.out; omega) (fun y hy => by have := HWT.out y hy; omega) HB56.out
      · clear q4
        go_wp2_with fail
        go_meet
        exact HPUT.out 0 (by omega) _ _ (fun c _ hn => hn.pick by_) (by show x.weights.length ≤ 1000; have := HWL.out; omega)
      · clear q4
        go_wp2_with fail
        go_meet
        exact HPUT.out 1 (by omega) _ _ (fun c _ hn => hn.yes by_) (by show x.weights.length ≤ 1000; have := HWL.out; omega)
      · clear q4
        go_wp2_with fail
        go_meet
        exact HPUT.out 2 (by omega) _ _ (fun c _ hn => hn.no by_) (by show x.weights.length ≤ 1000; have := HWL.out; omega)
      · have hgl := HGL.out
        have hsb : sb < w6.heap.size := Nat.lt_of_lt_of_le l23 HB36.out.size
        have hwl := HWL.out
        go_wp2_with fail
        refine region_blocks (by kernel_rfl) ?_
        refine from_law 13 EA (fun w' => Below w6.heap.size w6 w') (FA g6 k sb w6.heap.size (.slice (some ⟨g6, 0, none⟩) T.length c6) Aw x.weights.length cw x.weights by_) VA (by kernel_rfl) rfl FA_V (by kernel_rfl) (by kernel_rfl) (B0 w6).drew ⟨?_, ?_, ?_, ?_, ?_, ?_, ?_, ?_, ?_, ?_, ?_, ?_, ?_, trivial⟩ ?_
        · refine OpFactL.value FA_below fun a w2 hf D hb => ?_
          have h9 : sl a 9 = .slice (some ⟨g6, 0, none⟩) T.length c6 := hf 9 (by kernel_rfl)
          refine ⟨.slice (some ⟨g6, 0, none⟩) T.length c6, w2, ?_, B0 _, hb, fun s _ h => h 85 rfl⟩
          unfold sl at h9
          simp [go_sem, h9]
        · refine OpFactL.value FA_below fun a w2 hf D hb => ?_
          have h9 : sl a 10 = .int .i64 k := hf 10 (by kernel_rfl)
          refine ⟨.int .i64 k, w2, ?_, B0 _, hb, fun s _ h => h 86 rfl⟩
          unfold sl at h9
          simp [go_sem, h9]
        · refine OpFactL.value FA_below fun a w2 hf D hb => ?_
          refine ⟨.slice (some ⟨w2.heap.size, 0, none⟩) 0 0, w2.alloc (.cells #[] 3), ?_, Ba (B0 _) _, Ba hb _, fun s _ h => ⟨_, h 87 rfl⟩⟩
          simp [go_sem]
        · refine OpFactL.value FA_below fun a w2 hf D hb => ?_
          have h9 : sl a 9 = .slice (some ⟨g6, 0, none⟩) T.length c6 := hf 9 (by kernel_rfl)
          refine ⟨.slice (some ⟨g6, 0, none⟩) T.length c6, w2, ?_, B0 _, hb, fun s _ h => h 88 rfl⟩
          unfold sl at h9
          simp [go_sem, h9]
        · refine OpFactL.value FA_below fun a w2 hf D hb => ?_
          have h9 : sl a 10 = .int .i64 k := hf 10 (by kernel_rfl)
          refine ⟨.int .i64 k, w2, ?_, B0 _, hb, fun s _ h => h 89 rfl⟩
          unfold sl at h9
          simp [go_sem, h9]
        · refine OpFactL.value FA_below fun a w2 hf D hb => ?_
          have h88 : sl a 88 = .slice (some ⟨g6, 0, none⟩) T.length c6 := D 3 (by kernel_rfl)
          have h89 : sl a 89 = .int .i64 k := D 4 (by kernel_rfl)
          refine ⟨.pointer (some ⟨g6, k * 5, none⟩), w2, ?_, B0 _, hb, fun s _ h => h 90 rfl⟩
          unfold sl at h88 h89
          simp at h88 h89
          simp [go_sem, h88, h89, hkI]
        · refine OpFactL.value FA_below fun a w2 hf D hb => ?_
          have h90 : sl a 90 = .pointer (some ⟨g6, k * 5, none⟩) := D 5 (by kernel_rfl)
          refine ⟨.pointer (some ⟨g6, k * 5 + 4, none⟩), w2, ?_, B0 _, hb, fun s _ h => h 91 rfl⟩
          have kq := (Bc hb hgl).trans q4
          unfold sl at h90
          simp at h90
          simp [go_sem, h90, kq]
        · refine OpFactL.value FA_below fun a w2 hf D hb => ?_
          have h91 : sl a 91 = .pointer (some ⟨g6, k * 5 + 4, none⟩) := D 6 (by kernel_rfl)
          refine ⟨.slice Aw x.weights.length cw, w2, ?_, B0 _, hb, fun s _ h => h 92 rfl⟩
          have kq := (Bc hb hgl).trans q4
          unfold sl at h91
          simp at h91
          simp [go_sem, h91, kq]
        · refine OpFactL.value FA_below fun a w2 hf D hb => ?_
          obtain ⟨A0, h87⟩ : ∃ A0, sl a 87 = .slice A0 0 0 := D 2 (by kernel_rfl)
          have h92 : sl a 92 = .slice Aw x.weights.length cw := D 7 (by kernel_rfl)
          have hrd : Reads w2 w6.heap.size 1 Aw x.weights.length (cellsV vI x.weights) := (SlI.reads HSW.out (B := w6.heap.size) fun b hb => hb.1).below hb
          obtain ⟨A', c', w', hrun, h2, h3⟩ := run_copy (w := w2) elemI (by omega) 37 A0 w6.heap.size Aw x.weights.length cw (cellsV vI x.weights) hrd (fun u hu => by
            obtain ⟨y, _, rfl⟩ := List.mem_map.1 hu; rfl) (by omega) (by omega)
          refine ⟨.slice A' x.weights.length c', w', ?_, h2, Bt hb h2, fun s _ h => ⟨A', c', h 93 rfl, h3.more hb.size⟩⟩
          unfold sl at h87 h92
          simp at h87 h92
          unfold execOp
          simp [resolve, invoke, builtin, Act.eval, h87, h92, hrun]
        · refine OpFactL.value FA_below fun a w2 hf D hb => ?_
          have h3 : sl a 3 = .pointer (some ⟨sb, 0, none⟩) := hf 3 (by kernel_rfl)
          refine ⟨.pointer (some ⟨sb, 2, none⟩), w2, ?_, B0 _, hb, fun s _ h => h 94 rfl⟩
          have kd2 := (Bc hb hsb).trans d2
          unfold sl at h3
          simp [go_sem, h3, kd2]
        · refine OpFactL.value FA_below fun a w2 hf D hb => ?_
          have h94 : sl a 94 = .pointer (some ⟨sb, 2, none⟩) := D 9 (by kernel_rfl)
          refine ⟨.int .i64 by_, w2, ?_, B0 _, hb, fun s _ h => h 95 rfl⟩
          have kd2 := (Bc hb hsb).trans d2
          unfold sl at h94
          simp at h94
          simp [go_sem, h94, kd2]
        · refine OpFactL.value FA_below fun a w2 hf D hb => ?_
          have h95 : sl a 95 = .int .i64 by_ := D 10 (by kernel_rfl)
          refine ⟨.slice (some ⟨w2.heap.size, 0, none⟩) 1 1, w2.alloc (.cells #[.int .i64 by_] 3), ?_, Ba (B0 _) _, Ba hb _, fun s _ h => ⟨_, h 96 rfl, by simp [go_sem]⟩⟩
          unfold sl at h95
          simp at h95
          simp [go_sem, h95]
        · refine OpFactL.write fun a w2 hf D hb => ?_
          obtain ⟨A', c', h93, hO⟩ : ∃ A' c', sl a 93 = .slice A' x.weights.length c' ∧ Own0 w2 w6.heap.size 3 1 A' x.weights.length c' (cellsV vI x.weights) := D 8 (by kernel_rfl)
          obtain ⟨b, h96, hcb⟩ : ∃ b, sl a 96 = .slice (some ⟨b, 0, none⟩) 1 1 ∧ w2.cell? ⟨b, 0, none⟩ = some (.int .i64 by_) := D 11 (by kernel_rfl)
          obtain ⟨A8, c8, w', hrun, h2, h3⟩ := run_app0 (w := w2) elemI 37 hO b (.int .i64 by_) hcb rfl (by omega) (by omega) hb.size
          refine ⟨.slice A8 (x.weights.length + 1) c8, w', ?_, Bg0 hb hO (Nat.le_refl _) h3, fun j hj hE hF => ?_, fun s _ h => ⟨A8, c8, h 97 rfl, h2⟩⟩
          · unfold sl at h93 h96
            simp at h93 h96
            unfold execOp
            simp [resolve, invoke, builtin, Act.eval, h93, h96, hrun]
          · match j with
            | 0 => exact hF
            | 1 => exact hF
            | 2 => exact hF
            | 3 => exact hF
            | 4 => exact hF
            | 5 => exact hF
            | 6 => exact hF
            | 7 => exact hF
            | 8 => exact hE.elim (fun h => absurd h (by decide)) fun h => absurd h (Bool.eq_false_iff.1 (by kernel_rfl))
            | 9 => exact hF
            | 10 => exact hF
            | 11 => exact hE.elim (fun h => absurd h (by decide)) fun h => absurd h (Bool.eq_false_iff.1 (by kernel_rfl))
            | 12 => exact absurd rfl hj
            | _ + 13 => trivial
        · intro y w9 hb9 hF
          have h85 : y 85 = .slice (some ⟨g6, 0, none⟩) T.length c6 := hF 0 (by decide) rfl
          have h86 : y 86 = .int .i64 k := hF 1 (by decide) rfl
          obtain ⟨A8, c8, h97, hO8⟩ : ∃ A' c', y 97 = .slice A' (x.weights.length + 1) c' ∧ Own0 w9 w6.heap.size 3 1 A' (x.weights.length + 1) c' (cellsV vI x.weights ++ [Value.int .i64 by_]) := hF 12 (by decide) rfl
          have q9 := (Bc hb9 hgl).trans q4
          have fr9 := (HU6.out.later hb9).frozen
          have hU9 := HU6.out.later hb9
          have hcv : cellsV vI x.weights ++ [Value.int .i64 by_] = cellsV vI (x.weights ++ [by_]) := by rw [cellsV_snoc]; rfl
          rw [hcv] at hO8
          have hu : SlI (UF g6 w9) w9 (.slice A8 (x.weights.length + 1) c8) (x.weights ++ [by_]) := hO8.sl (by simp) (by simp; omega) (fun _ _ => rfl) fun b h1 h2 => ⟨h2, by omega⟩
          have HFIN := Lib.hid (UT.set_ (w3 := w5) hU9 (by have := HTL.out; omega) HWT.out (Bt HB56.out hb9) HG6.out k HKT.out 4 (by omega) (.slice A8 (x.weights.length + 1) c8) ⟨_, _, _, _, x.weights ++ [by_]⟩ (fun c _ hn => hn.weights hu) (by show (x.weights ++ [by_]).length ≤ 1000; simp; omega))
          clear hF hO8 hu hU9 hcv
          simp only [after, List.take_succ_cons, List.take_zero, List.filterMap_cons, List.filterMap_nil, List.foldl_cons, List.foldl_nil]
          rw [h85, h86, h97]
          simp only [List.setIfInBounds_toArray, List.set_cons_succ, List.set_cons_zero]
          refine from_list 16 (by kernel_rfl) (by simp only [List.take_succ_cons, List.take_zero, List.drop_succ_cons, List.drop_zero]; exact rfl) ?_
          (intro Q' hQ' hX; clear hX)
          go_wp2_with fail
          refine from_end rfl ?_
          go_wp2_with fail
          go_meet
          exact HFIN.out
      · go_wp2_with fail
        go_meet
        exact HPUT.out 4 (by omega) _ _ (fun c _ hn => hn.weights Sl.nil_) (by simp)
      · have hcapI : (k : Int) ≤ c6 := by omega
        clear q4
        go_wp2_with fail
        go_meet
        have hkl : k ≤ T.length := by have := HKT.out; omega
        refine ⟨T.take k, some ⟨g6, 0, none⟩, c6, ?_, by simp; have := HTL.out; omega, fun y hy => by have := HWT.out y (List.mem_of_mem_take hy); omega, ?_, HB56.out⟩
        · rw [List.length_take, Nat.min_eq_left hkl]
        · rw [List.length_take, Nat.min_eq_left hkl]
          exact (HU6.out.slt (by have := HTL.out; omega)).take k hkl
    case rest =>
      obtain ⟨t, A9, c9, rfl, htl9, htw9, hs9, hb9⟩ := hcut
      have hB9 := Bt HB5.out hb9
      obtain ⟨⟨m0, m1⟩, _⟩ := K.out _ hB9
      have hP9 := HP3.out.on hB9
      have hTon : ∀ W, Below w5.heap.size w5 W → SlT (fun b => b < W.heap.size) W (.slice (some ⟨g, 0, none⟩) T.length cap) T := fun W hW => (HT5.out.keep (Agree.below hW fun _ h => h)).wider fun b hb => Nat.lt_of_lt_of_le hb hW.size
      have hton : ∀ W, Below wc.heap.size wc W → SlT (fun b => b < W.heap.size) W (.slice A9 t.length c9) t := fun W hW => (hs9.keep (Agree.below hW fun _ h => h)).wider fun b hb => Nat.lt_of_lt_of_le hb hW.size
      have hT3 : ∀ x ∈ T, x.weights.length ≤ 1000000 := fun x hx => by have := HWT.out x hx; omega
      have hTl3 : T.length ≤ 1000000 := by have := HTL.out; omega
      have c1 := hP9.hitsC (q : Int) (some ⟨g, 0, none⟩) cap T hTl3 hT3 (hTon wc hb9)
      rw [HVF.out] at c1
      have C1 : Hid (Calls Tryd.prog 11 #[.agg #[.int .i64 n, .slice A2 m2 c2, .int .i64 q, .slice (some ⟨g, 0, none⟩) T.length cap]] wc fun e w' => e = .returned (.bool true) ∧ Below wc.heap.size wc w') := Lib.hid c1
      have c2' := fun W (hW : Below wc.heap.size wc W) => hitsL_any n m2 c2 A2 ws _ (q : Int) A9 c9 t (by omega) (fun x hx => by have := htw9 x hx; omega) W (hP9.on hW) (hton W hW)
      have c3' := fun W (hW : Below wc.heap.size wc W) => hitsL_any n m2 c2 A2 ws _ ((q : Int) + 1) (some ⟨g, 0, none⟩) cap T hTl3 hT3 W (hP9.on hW) (hTon W (Bt hb9 hW))
      have C2 := Lib.hid c2'
      have C3 := Lib.hid c3'
      have HB9 := Lib.hid hB9
      clear HPUT HU6 HB56 HB36 HSW hb9 hs9 htw9 hton hTon hT3 c1 c2' c3' hP9 hB9 q0 q1 q2 q4 d0 d1 d2 fr6
      go_wp2_with fail
      (with_reducible refine (C1.out.mono ?_))
      rintro e wx ⟨rfl, hbx⟩
      obtain ⟨⟨n0, n1⟩, _⟩ := K.out _ (Bt HB9.out hbx)
      have HBX := Lib.hid hbx
      clear hbx m0 m1
      go_wp2_with fail
      (with_reducible refine ((C2.out wx HBX.out).mono ?_))
      rintro e wy ⟨rfl, hby⟩
      obtain ⟨⟨m0, m1⟩, _⟩ := K.out _ (Bt HB9.out (Bt HBX.out hby))
      have HBY := Lib.hid (Bt HBX.out hby)
      clear hby n0 n1
      go_wp2_with fail
      (with_reducible refine ((C3.out wy HBY.out).mono ?_))
      rintro e wz ⟨rfl, hbz⟩
      have HBZ := Lib.hid (Bt HBY.out hbz)
      clear hbz m0 m1
      go_wp2_with fail
      go_ret
      exact ⟨rfl, Bt HB3.out (Bt HB9.out HBZ.out)⟩
end Go.Proofs.YthgjhfapnilfhaaDoor
