/- Walks over the statements of hitting: HittingVerifies. -/
import Derived.Test.YtiochodepgldpaaDoorVd
namespace Go.Proofs.YtiochodepgldpaaDoor
open Go Go.RowKit
theorem Prob.pop_le {n : Nat} {v : Value} {ws : List Nat} {B : Nat} {w : World} (h : Prob n v ws B w) : Hit.pop (Hit.least ws n) ≤ n := by
  obtain ⟨X, hX⟩ := Hit.least_spec h.good
  have hlt : Hit.least ws n < 2 ^ n := by rw [hX.word]; exact Hit.word_lt fun x hx => (hX.ok.lo x hx).2
  rw [Hit.pop_cnt hlt (by have := h.le; omega)]
  exact Nat.le_trans (List.length_filter_le _ _) (by simp)
theorem Prob.proveL {n : Nat} {v : Value} {ws : List Nat} {B : Nat} {w : World} (h : Prob n v ws B w) : Calls Tryd.prog 18 #[.agg #[.int .i64 n, v], .int .i64 ((Hit.pop (Hit.least ws n) : Nat) : Int)] w fun e w' => ∃ pb vs g c, e = .returned (.tuple #[.slice (some ⟨g, 0, none⟩) (Prob.tr ws n (Hit.pop (Hit.least ws n) : Nat)).length c, .int .i64 0]) ∧ w.heap.size ≤ pb ∧
    PT pb vs (Hit.pop (Hit.least ws n) : Nat) w' (.slice (some ⟨g, 0, none⟩) (Prob.tr ws n (Hit.pop (Hit.least ws n) : Nat)).length c) (Prob.tr ws n (Hit.pop (Hit.least ws n) : Nat)) ∧ Below w.heap.size w w' := by
  have := h.pop_le
  refine (h.proveC (size := ((Hit.pop (Hit.least ws n) : Nat) : Int)) (by omega) (by omega) (Int.le_refl _)).mono ?_
  rintro e w' ⟨pb, vs, A, c, rfl, h1, hP, hb⟩
  obtain ⟨g, cap, hv⟩ := hP.at_ (Hit.nodeF_pos ws _ n 0 0 0)
  injection hv with e1 e2 e3
  subst e1
  exact ⟨pb, vs, g, c, rfl, h1, hP, hb⟩
set_option maxRecDepth 200000 in
set_option maxHeartbeats 8000000 in
theorem law_verifies (N : Nat) (hN : N < 256) (vs : Value) (sets : List Nat) (hs : ∀ s ∈ sets, s < 256) (size : Int) (kd at_ : Nat) (hkd : kd < 256) (hat : at_ < 256) (sh : Int) (hsh : -128 ≤ sh ∧ sh ≤ 127) (w : World) (F : Nat → Prop) (hF : ∀ b, F b → b < w.heap.size) (hr : SlU .u8 F w vs sets) (hT : Tab32 w) :
    Calls Tryd.prog 6 #[.agg #[.int .u8 N, vs], .int .i64 size, .agg #[.int .u8 kd, .int .u8 at_, .int .i8 sh]] w fun e w' => e = .returned (.bool true) ∧ Below w.heap.size w w' := by
  have hK : ∀ W, Below w.heap.size w W → Calls Tryd.prog 11 #[] W fun e w' => e = .returned (.bool true) ∧ Below W.heap.size W w' := fun W hW => known_any W (hT.below hW)
  have hM := make_prob N hN vs sets hs w F hF hr hT
  obtain ⟨As, cs, rfl, _⟩ := hr.open
  have hn8 : 1 + N % 8 ≤ 8 := by omega
  generalize Hit.planW (1 + N % 8) sets = ws at *
  generalize 1 + N % 8 = n at *
  have HK := Lib.hid hK
  have HM := Lib.hid hM
  clear hK hM hr hT hs
  go_enter Tryd.func6, Tryd.ntmps6
  go_upto_region 4 with (first
    | (go_at_call 11; refine (HK.out _ (Ba (Ba (B0 w) _) _)).mono ?_; rintro e w1 ⟨rfl, hb1⟩; have HB1 := Lib.hid (Bt (Ba (Ba (B0 w) _) _) hb1); have c0 : w1.cell? ⟨w.heap.size, 0, none⟩ = some (.int .u8 N) := (Bc hb1 (by simp; omega)).trans (by simp [go_sem]); have c1 : w1.cell? ⟨w.heap.size, 1, none⟩ = some (.slice As sets.length cs) := (Bc hb1 (by simp; omega)).trans (by simp [go_sem]); have d0 : w1.cell? ⟨w.heap.size + 1, 0, none⟩ = some (.int .u8 kd) := (Bc hb1 (by simp)).trans (by simp [go_sem]); have d1 : w1.cell? ⟨w.heap.size + 1, 1, none⟩ = some (.int .u8 at_) := (Bc hb1 (by simp)).trans (by simp [go_sem]); have d2 : w1.cell? ⟨w.heap.size + 1, 2, none⟩ = some (.int .i8 sh) := (Bc hb1 (by simp)).trans (by simp [go_sem]); have l1 : w.heap.size + 1 < w1.heap.size := (by have := hb1.size; simp at this; omega); clear hb1)
    | (go_at_call 12; refine (HM.out _ HB1.out).mono ?_; rintro e w2 ⟨A2, m2, c2, rfl, hp2, hb2⟩; have HB2 := Lib.hid (Bt HB1.out hb2); have HP2 := Lib.hid hp2; have e0 := (Bc hb2 l1).trans d0; have e1 := (Bc hb2 l1).trans d1; have e2 := (Bc hb2 l1).trans d2; have l2 := Nat.lt_of_lt_of_le l1 hb2.size; clear hb2 hp2 c0 c1 d0 d1 d2))
  have hb3 := Ba HB2.out (.cells #[.int .i64 n, .slice A2 m2 c2] 28)
  have hP3 := (HP2.out.on (Ba (B0 w2) (.cells #[.int .i64 n, .slice A2 m2 c2] 28)))
  have k0 : (w2.alloc (.cells #[.int .i64 n, .slice A2 m2 c2] 28)).cell? ⟨w2.heap.size, 0, none⟩ = some (.int .i64 n) := by simp [go_sem]
  have k1 : (w2.alloc (.cells #[.int .i64 n, .slice A2 m2 c2] 28)).cell? ⟨w2.heap.size, 1, none⟩ = some (.slice A2 m2 c2) := by simp [go_sem]
  have f0 := (Bc (Ba (B0 w2) (.cells #[.int .i64 n, .slice A2 m2 c2] 28)) l2).trans e0
  have f1 := (Bc (Ba (B0 w2) (.cells #[.int .i64 n, .slice A2 m2 c2] 28)) l2).trans e1
  have f2 := (Bc (Ba (B0 w2) (.cells #[.int .i64 n, .slice A2 m2 c2] 28)) l2).trans e2
  have l3 : w2.heap.size < (w2.alloc (.cells #[.int .i64 n, .slice A2 m2 c2] 28)).heap.size := by simp
  generalize (w2.alloc (.cells #[.int .i64 n, .slice A2 m2 c2] 28)) = w3 at *
  have hP3 := hP3.more (Nat.le_of_lt l3) (Nat.le_refl _)
  have HB3 := Lib.hid hb3
  have HP3 := Lib.hid hP3
  obtain ⟨pb, hpb⟩ : ∃ pb, w2.heap.size = pb := ⟨_, rfl⟩
  obtain ⟨sb, hsb⟩ : ∃ sb, w.heap.size + 1 = sb := ⟨_, rfl⟩
  rw [hpb] at k0 k1 l3 ⊢
  rw [hsb] at f0 f1 f2 l2 ⊢
  have l23 : sb < w3.heap.size := by omega
  have k : ∀ W, Below w3.heap.size w3 W → (W.cell? ⟨pb, 0, none⟩ = some (.int .i64 n) ∧ W.cell? ⟨pb, 1, none⟩ = some (.slice A2 m2 c2)) ∧ W.cell? ⟨sb, 0, none⟩ = some (.int .u8 kd) ∧ W.cell? ⟨sb, 1, none⟩ = some (.int .u8 at_) ∧ W.cell? ⟨sb, 2, none⟩ = some (.int .i8 sh) := fun W hW =>
    ⟨⟨(Bc hW l3).trans k0, (Bc hW l3).trans k1⟩, (Bc hW (by omega)).trans f0, (Bc hW (by omega)).trans f1, (Bc hW (by omega)).trans f2⟩
  have K := Lib.hid k
  have hLe := fun W (hW : Below w3.heap.size w3 W) => (HP3.out.on hW).leastC
  have hPv := fun W (hW : Below w3.heap.size w3 W) => (HP3.out.on hW).proveL
  have hwt : ∀ x ∈ Prob.tr ws n ((Hit.pop (Hit.least ws n) : Nat) : Int), x.weights.length ≤ 101 := HP3.out.weights ((Hit.pop (Hit.least ws n) : Nat) : Int)
  have htl : 0 < (Prob.tr ws n ((Hit.pop (Hit.least ws n) : Nat) : Int)).length ∧ (Prob.tr ws n ((Hit.pop (Hit.least ws n) : Nat) : Int)).length ≤ 512 := @Prob.node_short n ws hn8 ((Hit.pop (Hit.least ws n) : Nat) : Int)
  obtain ⟨T, hTT⟩ : ∃ T, Prob.tr ws n ((Hit.pop (Hit.least ws n) : Nat) : Int) = T := ⟨_, rfl⟩
  rw [hTT] at hPv hwt htl
  have hpl := HP3.out.pop_le
  have HLE := Lib.hid hLe
  have HPV := Lib.hid hPv
  have HWT := Lib.hid hwt
  have hl0 : ((T.length : Int) == 0) = false := by simp; intro h; rw [h] at htl; simp at htl
  have hl1 : (0 : Int) < T.length := by omega
  clear hb3 hP3 HM HP2 hpb hsb k e0 e1 e2 l1 hLe hPv hwt hTT
  generalize Hit.pop (Hit.least ws n) = pl at *
  go_upto_region 8 with (first
    | (go_at_call 14; (with_reducible refine ((HLE.out _ (B0 w3)).mono ?_)); rintro e w4 ⟨A4, c4, rfl, _, hb4⟩; have HB4 := Lib.hid hb4; have k40 := (K.out _ hb4).1.1; have k41 := (K.out _ hb4).1.2; clear hb4 k0 k1 f0 f1 f2)
    | (go_at_call 18; (with_reducible refine ((HPV.out _ HB4.out).mono ?_)); rintro e w5 ⟨pb5, vs5, g, cap, rfl, hpb5, hP5, hb5⟩; have HB5 := Lib.hid (Bt HB4.out hb5); have HP5 := Lib.hid hP5; have k50 := (K.out _ (Bt HB4.out hb5)).1; have k51 := (K.out _ (Bt HB4.out hb5)).2.1; have k52 := (K.out _ (Bt HB4.out hb5)).2.2.1; have k53 := (K.out _ (Bt HB4.out hb5)).2.2.2; clear hb5 hP5))
  obtain ⟨k, hk⟩ : ∃ k, at_ % T.length = k := ⟨_, rfl⟩
  have hkT : k < T.length := by rw [← hk]; exact Nat.mod_lt _ (by omega)
  have hmod : (at_ : Int) % (T.length : Int) = (k : Int) := by rw [← hk]; rfl
  have hatI : (at_ : Int) < 256 := by omega
  have hkI : (k : Int) < T.length := by omega
  obtain ⟨Aw, cw, q0, q1, q2, q4, hsw⟩ := HP5.out.read k hkT (by omega)
  have fr5 := HP5.out.frozen
  obtain ⟨r1, r2, _⟩ := HP5.out.row
  have hwl : T[k].weights.length ≤ 101 := HWT.out _ (List.getElem_mem hkT)
  have hxk : T.getD k Hit.node0 = T[k] := by rw [List.getD_eq_getElem?_getD, List.getElem?_eq_getElem hkT]; rfl
  generalize T[k] = x at *
  have hrd := hsw.reads (B := w5.heap.size) fun b h => h.2.1
  have hv1 : ∀ u ∈ cellsV vI x.weights, u.oneCell' = true := fun u hu => by
    obtain ⟨y, _, rfl⟩ := List.mem_map.1 hu; rfl
  have HRD := Lib.hid hrd
  have HV1 := Lib.hid hv1
  have HXK := Lib.hid hxk
  have HKT := Lib.hid hkT
  have HTL := Lib.hid htl.2
  clear hrd hv1 hxk hk hsw htl hkT
  go_upto_region 10 with (at_builtin; refine wpList_copy elemI (by omega) rfl _ _ rfl (some ⟨w5.heap.size, 0, none⟩) rfl w5.heap.size Aw x.weights.length cw (cellsV vI x.weights) rfl (HRD.out.below (Ba (B0 w5) _)) HV1.out (by omega) (by omega) ?_; intro A6 c6 w6 hb6 hO6; have q46 := (Bc (Bt (Ba (B0 w5) _) hb6) r2).trans q4; have fr6 := ((HP5.out.later (Ba (B0 w5) _)).later hb6).frozen; have HO6 := Lib.hid hO6; have HB6 := Lib.hid hb6; clear hb6 hO6 q0 q1 q2 q4 fr5)
  have hb56 : Below w5.heap.size w5 w6 := Bt (Ba (B0 w5) _) HB6.out
  have hP6 := (HP5.out.later (Ba (B0 w5) _)).later HB6.out
  have hs6 := HB6.out.size
  have hu6 : SlI (WF pb5 w6 (.slice (some ⟨g, 0, none⟩) T.length cap)) w6 (.slice A6 x.weights.length c6) x.weights := HO6.out.sl rfl (by omega) (fun _ _ => rfl) fun b h1 h2 => ⟨by simp at h1; omega, h2, by intro e; have e2 : b = g := (by simpa [Value.ownBlock] using e); simp at h1; omega⟩
  have hx' : ∃ h : k < T.length, T[k] = x := ⟨HKT.out, by
    have := HXK.out
    rw [List.getD_eq_getElem?_getD, List.getElem?_eq_getElem HKT.out] at this
    exact this⟩
  obtain ⟨hkT, hTx⟩ := hx'
  have hP7 := hP6.put k hkT 4 (by omega) (.slice A6 x.weights.length c6) ⟨T[k].pick, T[k].yes, T[k].no, T[k].bound, x.weights⟩ fun c _ hn => hn.weights hu6
  have hO7 : Own0 (w6.setCell ⟨g, k * 5 + 4, none⟩ (.slice A6 x.weights.length c6)) (w5.heap.size + 1) 3 1 A6 x.weights.length c6 (cellsV vI x.weights) := by
    have h := HO6.out
    rw [World.size_alloc] at h
    rcases h with h | ⟨h0, h⟩
    · exact .inl h
    · refine .inr ⟨h0, h.kept (row := some g) ⟨rfl, rfl, rfl, by simp [World.setCell], fun i hi hr => Below.heap_setCell w6 _ _ i (fun e => hr (by rw [e]))⟩ (.inr fun e => ?_)⟩
      have := (h.lt g e).1
      omega
  have hc0 : (w6.setCell ⟨g, k * 5 + 4, none⟩ (.slice A6 x.weights.length c6)).cell? ⟨sb, 0, none⟩ = some (.int .u8 kd) := by
    rw [World.cell?_of_block (w := w6) (Below.heap_setCell w6 _ _ sb (by show sb ≠ g; have := HB4.out.size; omega))]
    exact (Bc hb56 (by have := HB4.out.size; omega)).trans k51
  have hc2 : (w6.setCell ⟨g, k * 5 + 4, none⟩ (.slice A6 x.weights.length c6)).cell? ⟨sb, 2, none⟩ = some (.int .i8 sh) := by
    rw [World.cell?_of_block (w := w6) (Below.heap_setCell w6 _ _ sb (by show sb ≠ g; have := HB4.out.size; omega))]
    exact (Bc hb56 (by have := HB4.out.size; omega)).trans k53
  have hB7 : Below w3.heap.size w3 (w6.setCell ⟨g, k * 5 + 4, none⟩ (.slice A6 x.weights.length c6)) := Bs (Bt HB5.out hb56) _ (by show w3.heap.size ≤ g; have := HB4.out.size; omega)
  obtain ⟨csT, hT1, hT2', hT3⟩ := HP5.out.own
  have hrow6 := hT3.kept (row := none) (only_of_below hb56 none) (.inr (by simp [Value.ownBlock]))
  have hrow7 := (hrow6.stored (k * 5 + 4) (.slice A6 x.weights.length c6)).1
  have hag7 : Agree (WF pb5 w5 (.slice (some ⟨g, 0, none⟩) T.length cap)) w5 (w6.setCell ⟨g, k * 5 + 4, none⟩ (.slice A6 x.weights.length c6)) := fun b hbw => by
    have hbg : b ≠ g := fun e => hbw.2.2 (by rw [e]; rfl)
    rw [Below.heap_setCell w6 _ _ b hbg]
    exact hb56.block b hbw.2.1
  have hq4 : (w6.setCell ⟨g, k * 5 + 4, none⟩ (.slice A6 x.weights.length c6)).cell? ⟨g, k * 5 + 4, none⟩ = some (.slice A6 x.weights.length c6) := by simp [go_sem, q46]
  have hsz7 : w5.heap.size + 1 ≤ (w6.setCell ⟨g, k * 5 + 4, none⟩ (.slice A6 x.weights.length c6)).heap.size := by rw [set_size]; simp at hs6; omega
  generalize (w6.setCell ⟨g, k * 5 + 4, none⟩ (.slice A6 x.weights.length c6)) = w7 at *
  have HROW := Lib.hid hrow7
  have HAG := Lib.hid hag7
  have HT1 := Lib.hid hT1
  have HT2 := Lib.hid hT2'
  clear hrow6 hrow7 hag7 hT1 hT2' hT3
  have HP7 := Lib.hid hP7
  have HO7 := Lib.hid hO7
  have HB7 := Lib.hid hB7
  clear hb56 hP6 hu6 hTx hP7 hO7 hB7 q46 fr6 HO6 HB6 k50 k51 k52 k53 HB5
  go_upto_block 0 with fail
  have hxl : ⟨T[k].pick, T[k].yes, T[k].no, T[k].bound, x.weights⟩ = (⟨T[k].pick, T[k].yes, T[k].no, T[k].bound, x.weights⟩ : Hit.TNode) := rfl
  clear hxl
  obtain ⟨T2, hT2⟩ : ∃ T2, T.set k ⟨T[k].pick, T[k].yes, T[k].no, T[k].bound, x.weights⟩ = T2 := ⟨_, rfl⟩
  have hT2l : T2.length = T.length := by rw [← hT2]; simp
  have hx2 : ∀ h : k < T2.length, T2[k].weights = x.weights := fun h => by simp [← hT2]
  have hT2w : ∀ y ∈ T2, y.weights.length ≤ 101 := by rw [← hT2]; exact mem_set_w HWT.out hwl
  rw [hT2] at HP7
  have hk2 : k < T2.length := by omega
  have hlT : T.length ≤ 512 := HTL.out
  obtain ⟨A7, c7, q0, q1, q2, q4, hsw7⟩ := HP7.out.read k hk2 (by omega)
  have fr7 := HP7.out.frozen
  obtain ⟨r3, r4, r5⟩ := HP7.out.row
  clear r5
  have HT2W := Lib.hid hT2w
  have HSW7 := Lib.hid hsw7
  have hs1 : -128 ≤ sh := hsh.1
  have hs2 : sh ≤ 127 := hsh.2
  have hyw : T2[k].weights.length ≤ 101 := hT2w _ (List.getElem_mem hk2)
  have hx2 := hx2 hk2
  have HX2 := Lib.hid hx2
  have HT2L := Lib.hid hT2l
  have HPUT := Lib.hid (fun (j : Nat) (hj : j < 5) u x' => slip_set (w3 := w3) HP7.out (by omega) HT2W.out HB7.out (by have := HB4.out.size; omega) k hk2 j hj u x')
  have HK2 := Lib.hid hk2
  have HYW := Lib.hid hyw
  have HLT2 := Lib.hid hlT
  generalize T2[k] = x2 at *
  clear hx2 hT2 hT2w hsw7 hsh hT2l hk2 hyw hlT hmod hatI hkT hat hkd hwl hl0 hl1
  go_cut [10] from 60 to 139 (fun s10 wx => SlipP w3 s10 wx)
  case first =>
    have hq : (kd : Int) % 7 = 0 ∨ (kd : Int) % 7 = 1 ∨ (kd : Int) % 7 = 2 ∨ (kd : Int) % 7 = 3 ∨ (kd : Int) % 7 = 4 ∨ (kd : Int) % 7 = 5 ∨ (kd : Int) % 7 = 6 := by omega
    rcases hq with hq | hq | hq | hq | hq | hq | hq
    · go_wp2_with fail
      go_meet
      exact slip_of HP7.out (by have := HT2L.out; have := HLT2.out; omega) (fun y hy => by have := HT2W.out y hy; omega) HB7.out
    · clear hq4
      go_wp2_with fail
      go_region
      all_goals
        go_wp2_with fail
        go_meet
        exact (HPUT.out 0 (by omega) _ _ (fun c _ hn => hn.pick _) (by show x2.weights.length ≤ 1000; have := HYW.out; omega)).drew
    · clear hq4
      go_wp2_with fail
      go_region
      all_goals
        go_wp2_with fail
        go_meet
        exact (HPUT.out 1 (by omega) _ _ (fun c _ hn => hn.yes _) (by show x2.weights.length ≤ 1000; have := HYW.out; omega)).drew
    · clear hq4
      go_wp2_with fail
      go_region
      all_goals
        go_wp2_with fail
        go_meet
        exact (HPUT.out 2 (by omega) _ _ (fun c _ hn => hn.no _) (by show x2.weights.length ≤ 1000; have := HYW.out; omega)).drew
    · have hnl : x.weights.length ≤ 101 := by rw [← HX2.out]; exact HYW.out
      have hg7 : g < w5.heap.size := r2
      have hO7 : Own0 (w7.alloc (.cells #[.int .i64 sh] 3)).drew (w5.heap.size + 1) 3 1 A6 x.weights.length c6 (cellsV vI x.weights) := (HO7.out.alloc (.cells #[.int .i64 sh] 3)).drew
      have hcn : (w7.alloc (.cells #[.int .i64 sh] 3)).drew.cell? ⟨w7.heap.size, 0, none⟩ = some (.int .i64 sh) := by show (w7.alloc (.cells #[.int .i64 sh] 3)).cell? _ = _; simp [go_sem]
      have hbs : w5.heap.size + 1 ≤ (w7.alloc (.cells #[.int .i64 sh] 3)).drew.heap.size := by show _ ≤ (w7.alloc (.cells #[.int .i64 sh] 3)).heap.size; simp; omega
      have hnn : x.weights.length + 1 ≤ 1000000000 := by omega
      have hws : IntKind.i64.wrap sh = sh := IntWalk.i64_in _ (by omega)
      have HO8 := Lib.hid hO7
      have blk7 : ∀ {w8 : World}, ((x.weights.length = 0 ∧ Below (w7.alloc (.cells #[.int .i64 sh] 3)).drew.heap.size (w7.alloc (.cells #[.int .i64 sh] 3)).drew w8) ∨ (0 < x.weights.length ∧ (w7.alloc (.cells #[.int .i64 sh] 3)).drew.grownBy w8 (Value.slice A6 x.weights.length c6).ownBlock)) → w8.heap[g]? = w7.heap[g]? := fun q =>
        (app0_block HO8.out q (g := g) (by omega) (by show g < (w7.alloc (.cells #[.int .i64 sh] 3)).heap.size; simp; omega)).trans (Below.heap_alloc w7 _ g r4)
      have BLK7 := Lib.hid (fun w8 => @blk7 w8)
      clear blk7
      have HCN := Lib.hid hcn
      have HBS := Lib.hid hbs
      have HNN := Lib.hid hnn
      clear q4 hO7 hcn hbs hnn
      go_wp2_with fail
      go_region_law (refine step_app0 elemI rfl _ _ rfl HO8.out rfl w7.heap.size (.int .i64 sh) rfl HCN.out rfl HNN.out (by decide) HBS.out ?_; intro A8 c8 w8 q81 q82; have hbk := BLK7.out _ q82; have hq8 := (cell_of_block hbk (k * 5 + 4)).trans hq4; have fr8 := (frozen_of_block hbk (k * 5 + 4)).trans (fr7 (k * 5 + 4)); have Q81 := Lib.hid q81; have Q82 := Lib.hid q82; have HBK := Lib.hid hbk; clear hbk q81 q82)
      all_goals
        go_wp2_with fail
        go_meet
        exact slip_app HP5.out (by have := HLT2.out; omega) HWT.out HKT.out csT HT1.out HT2.out HROW.out HAG.out hsz7 r2 (by have := HB4.out.size; omega) HB7.out HO8.out rfl hnl Q81.out Q82.out
    · by_cases h0 : x2.weights.length = 0
      · have hd : decide ((0 : Int) < (x2.weights.length : Int)) = false := decide_eq_false (by omega)
        have hdn : decide (0 < x2.weights.length) = false := decide_eq_false (by omega)
        clear h0 hq4
        go_wp2_with fail
        go_meet
        exact slip_of HP7.out (by have := HT2L.out; have := HLT2.out; omega) (fun y hy => by have := HT2W.out y hy; omega) HB7.out
      · have hd : decide ((0 : Int) < (x2.weights.length : Int)) = true := decide_eq_true (by omega)
        have hdn : decide (0 < x2.weights.length) = true := decide_eq_true (by omega)
        have h1n : (1 : Int) ≤ (x2.weights.length : Int) := by omega
        have hpos : 0 < x2.weights.length := by omega
        have hyl : (x2.weights.drop 1).length ≤ 1000 := by rw [List.length_drop]; have := HYW.out; omega
        by_cases hc1 : c7 = 1
        · have hu := HSW7.out.tail1 hc1 hpos
          have HU := Lib.hid hu
          subst hc1
          clear h0 hq4 hu hpos
          go_wp2_with fail
          go_meet
          exact HPUT.out 4 (by omega) _ _ (fun c _ hn => hn.weights HU.out) hyl
        · have hu := HSW7.out.tail hc1 hpos
          have HU := Lib.hid hu
          clear h0 hq4 hu hpos
          go_wp2_with fail
          go_meet
          exact HPUT.out 4 (by omega) _ _ (fun c _ hn => hn.weights HU.out) hyl
    · have hcap : (k : Int) ≤ cap := by
        obtain ⟨_, _, hv, hcc, _⟩ := HP7.out.slt (by have := HT2L.out; have := HLT2.out; omega)
        injection hv with _ _ e3
        subst e3
        have := HT2L.out
        omega
      clear hq4
      go_wp2_with fail
      go_meet
      have hkl : k ≤ T2.length := by have := HT2L.out; omega
      refine ⟨T2.take k, some ⟨g, 0, none⟩, cap, ?_, by simp; have := HT2L.out; have := HLT2.out; omega, fun y hy => by have := HT2W.out y (List.mem_of_mem_take hy); omega, ?_, HB7.out⟩
      · rw [List.length_take, Nat.min_eq_left hkl]
      · rw [List.length_take, Nat.min_eq_left hkl]
        exact ((HP7.out.slt (by have := HT2L.out; have := HLT2.out; omega)).wider fun b h => h.2).take k hkl
  case rest =>
    obtain ⟨t, A9, c9, rfl, htl9, htw9, hs9, hb9⟩ := hcut
    have hP9 := HP3.out.on hb9
    have m0 := (K.out _ hb9).1.1
    have m1 := (K.out _ hb9).1.2
    have hVe := hP9.verifyC size (.slice A9 t.length c9) t (by omega) (fun x hx => by have := htw9 x hx; omega) hs9
    have HVE := Lib.hid hVe
    have HTW := Lib.hid htw9
    have HS9 := Lib.hid hs9
    have HB9 := Lib.hid hb9
    clear HP7 HB7 HO7 HROW HAG HT1 HT2 HPUT HSW7 HX2 HT2W HYW HT2L HXK HKT HRD HV1 HP5 hq4 q0 q1 q2 q4 hc0 hc2 fr7 htw9 hs9 hVe hP9 hb9
    by_cases hrg : size < 0 ∨ (n : Int) < size
    · have hq : decide (size < 0) = true ∨ (decide (size < 0) = false ∧ decide ((n : Int) < size) = true) := by
        simp only [decide_eq_true_eq, decide_eq_false_iff_not]; omega
      have hv : Hit.verifyF ws n size t = 3 := by unfold Hit.verifyF; rw [if_pos (by omega)]
      rw [hv] at HVE
      clear hrg hv
      rcases hq with hq | ⟨hq1, hq2⟩
      all_goals
        go_wp2_with (go_at_call 23; (with_reducible refine (HVE.out.mono ?_)); rintro e wx ⟨rfl, hbx⟩; have HBX := Lib.hid (Bt HB9.out hbx); have o0 := (K.out _ (Bt HB9.out hbx)).1.1; clear hbx)
        go_ret
        exact ⟨rfl, Bt HB3.out HBX.out⟩
    · have hq1 : decide (size < 0) = false := decide_eq_false (by omega)
      have hq2 : decide ((n : Int) < size) = false := decide_eq_false (by omega)
      by_cases h0 : t.length = 0
      · have hv : Hit.verifyF ws n size t = 13 := by unfold Hit.verifyF; rw [if_neg (by omega), if_neg (by omega), if_pos h0]
        have d0 : ((t.length : Int) == 0) = true := by simp [h0]
        rw [hv] at HVE
        clear hrg hv h0
        go_wp2_with (go_at_call 23; (with_reducible refine (HVE.out.mono ?_)); rintro e wx ⟨rfl, hbx⟩; have HBX := Lib.hid (Bt HB9.out hbx); have o0 := (K.out _ (Bt HB9.out hbx)).1.1; clear hbx)
        go_ret
        exact ⟨rfl, Bt HB3.out HBX.out⟩
      · have d0 : ((t.length : Int) == 0) = false := by simp; intro h; exact h0 (by rw [h]; rfl)
        have hTr := fun W (hW : Below wc.heap.size wc W) => (HP3.out.on (Bt HB9.out hW)).treeC size (.slice A9 t.length c9) t (by omega) (by omega) (fun x hx => by have := HTW.out x hx; omega) (HS9.out.on hW)
        have HTR := Lib.hid hTr
        cases htr : Hit.treeF ws n size t with
        | false =>
          have hv : Hit.verifyF ws n size t = 20 := by unfold Hit.verifyF; rw [if_neg (by omega), if_neg (by omega), if_neg h0, htr]; rfl
          rw [hv] at HVE
          rw [htr] at HTR
          clear hrg hv h0 hTr htr
          go_wp2_with (first
            | (go_at_call 23; (with_reducible refine (HVE.out.mono ?_)); rintro e wx ⟨rfl, hbx⟩; have HBX := Lib.hid hbx; have o0 := (K.out _ (Bt HB9.out hbx)).1.1; have o1 := (K.out _ (Bt HB9.out hbx)).1.2; clear hbx)
            | (go_at_call 22; (with_reducible refine ((HTR.out _ HBX.out).mono ?_)); rintro e wy ⟨rfl, hby⟩; have HBY := Lib.hid (Bt HBX.out hby); clear hby))
          go_ret
          exact ⟨rfl, Bt HB3.out (Bt HB9.out HBY.out)⟩
        | true =>
          have hv : Hit.verifyF ws n size t = 0 := by unfold Hit.verifyF; rw [if_neg (by omega), if_neg (by omega), if_neg h0, htr]; rfl
          rw [hv] at HVE
          rw [htr] at HTR
          clear hrg hv h0 hTr htr
          go_wp2_with (first
            | (go_at_call 23; (with_reducible refine (HVE.out.mono ?_)); rintro e wx ⟨rfl, hbx⟩; have HBX := Lib.hid hbx; have o0 := (K.out _ (Bt HB9.out hbx)).1.1; have o1 := (K.out _ (Bt HB9.out hbx)).1.2; clear hbx)
            | (go_at_call 22; (with_reducible refine ((HTR.out _ HBX.out).mono ?_)); rintro e wy ⟨rfl, hby⟩; have HBY := Lib.hid (Bt HBX.out hby); clear hby))
          go_ret
          exact ⟨rfl, Bt HB3.out (Bt HB9.out HBY.out)⟩
end Go.Proofs.YtiochodepgldpaaDoor
