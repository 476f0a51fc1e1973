/- Walks over the statements of hitting: HittingHits. -/
import Derived.Test.YtdgnpcmaipnfhaaDoorHK
namespace Go.Proofs.YtdgnpcmaipnfhaaDoor
open Go Go.RowKit
theorem bothF_plan {n : Nat} (hn : n ≤ 20) (sets : List Nat) (l : List Int) : bothF n (setsOf (Hit.planW n sets)) l = Hit.listF n l := by
  have : Hit.checkF n (setsOf (Hit.planW n sets)) = 0 := Hit.checkF_of hn (by have := Hit.planW_len n sets; omega) (Hit.planW_good n sets)
  unfold bothF
  rw [if_neg (by rw [this]; simp)]
theorem red_sub {n : Nat} (hn : n ≤ 32) (ws : List Nat) (ns : List Nat) (h : ∀ x ∈ ns, x < n) : ∀ x ∈ Hit.members (Hit.reduce ws (Hit.word ns) ns), x < n :=
  Hit.members_lt (Hit.sub_lt (Hit.reduce_sub ws ns _) (Hit.word_lt h))
theorem red_list {n : Nat} (hn : n ≤ 32) (ws : List Nat) (ns : List Nat) (h : ∀ x ∈ ns, x < n) : Hit.listF n (Hit.ints (Hit.members (Hit.reduce ws (Hit.word ns) ns))) = 0 :=
  Hit.listF_of (Hit.inc_members _) (red_sub hn ws ns h)
theorem red_word {n : Nat} (hn : n ≤ 32) (ws : List Nat) (ns : List Nat) (h : ∀ x ∈ ns, x < n) : Hit.word (Hit.members (Hit.reduce ws (Hit.word ns) ns)) = Hit.reduce ws (Hit.word ns) ns :=
  Hit.word_members (Nat.lt_of_lt_of_le (Hit.sub_lt (Hit.reduce_sub ws ns _) (Hit.word_lt h)) (Nat.pow_le_pow_right (by decide) (by omega)))
theorem red_len (x : Nat) : (Hit.members x).length ≤ 1000000000 := Nat.le_trans (List.length_filter_le _ _) (by simp)
theorem missF_cases (ws : List Nat) (x : Nat) : (Hit.hit ws x = true ∧ missF ws x = -1) ∨ (Hit.hit ws x = false ∧ 0 ≤ missF ws x) := by
  cases h : Hit.hit ws x with
  | true =>
    refine .inl ⟨rfl, ?_⟩
    rw [missF_eq, if_pos ((Hit.miss_hit ws x).2 h)]
  | false =>
    refine .inr ⟨rfl, ?_⟩
    have := missF_neg ws x
    rw [h] at this
    have : ¬ missF ws x < 0 := fun q => by have := this.1 q; cases this
    omega
set_option maxRecDepth 100000 in
set_option maxHeartbeats 4000000 in
theorem law_hits (N : Nat) (hN : N < 256) (vs vl : Value) (sets : List Nat) (hs : ∀ s ∈ sets, s < 256) (l : List Int) (w : World) (F G : Nat → Prop) (hF : ∀ b, F b → b < w.heap.size) (hG : ∀ b, G b → b < w.heap.size) (hr : SlU .u8 F w vs sets) (hl : SlI G w vl l) (hT : Tab32 w) :
    Calls Tryd.prog 3 #[.agg #[.int .u8 N, vs], vl] w fun e w' => e = .returned (.bool true) ∧ Below w.heap.size w w' := by
  have hK : ∀ W, Below w.heap.size w W → Calls Tryd.prog 4 #[] W fun e w' => e = .returned (.bool true) ∧ Below W.heap.size W w' := fun W hW => known_any W (hT.below hW)
  have hM : ∀ W, Below w.heap.size w W → Calls Tryd.prog 5 #[.agg #[.int .u8 N, vs]] W fun e w' => ∃ A m c, e = .returned (.agg #[.int .i64 ((1 + N % 8 : Nat) : Int), .slice A m c]) ∧ m = (Hit.planW (1 + N % 8) sets).length ∧ SlII (fun b => W.heap.size ≤ b ∧ b < w'.heap.size) w' (.slice A m c) (setsOf (Hit.planW (1 + N % 8) sets)) ∧ Below W.heap.size W w' :=
    fun W hW => make_any N hN vs sets hs W F (fun b hb => by have := hF b hb; have := hW.size; omega) (hr.keep (Agree.below hW hF))
  obtain ⟨As, cs, rfl, _⟩ := hr.open
  obtain ⟨Al, cl, rfl, _⟩ := hl.open
  have hn8 : 1 + N % 8 ≤ 20 := by omega
  generalize 1 + N % 8 = n at *
  have HK := Lib.hid hK
  have HM := Lib.hid hM
  have HL := Lib.hid hl
  have HT := Lib.hid hT
  clear hK hM hr hl hT hs
  go_enter Tryd.func3, Tryd.ntmps3
  by_cases hlong : 10 < l.length
  · have d1 : decide ((10 : Int) < (l.length : Int)) = true := decide_eq_true (by omega)
    have d2 : decide (10 < l.length) = true := decide_eq_true (by omega)
    go_upto_region 2 with (go_at_call 4; refine (HK.out _ (Ba (B0 w) _)).mono ?_; rintro e w1 ⟨rfl, hb1⟩; have HB1 := Lib.hid (Bt (Ba (B0 w) _) hb1); clear hb1)
    go_wp2_with (go_at_call 4; refine (HK.out _ HB1.out).mono ?_; rintro e w2 ⟨rfl, hb2⟩; have HB2 := Lib.hid (Bt HB1.out hb2); clear hb2)
    go_ret
    exact ⟨rfl, HB2.out⟩
  · have d1 : decide ((10 : Int) < (l.length : Int)) = false := decide_eq_false (by omega)
    have d2 : decide (10 < l.length) = false := decide_eq_false (by omega)
    go_upto_region 4 with (first
      | (go_at_call 4; refine (HK.out _ (Ba (B0 w) _)).mono ?_; rintro e w1 ⟨rfl, hb1⟩; have HB1 := Lib.hid (Bt (Ba (B0 w) _) hb1); have c0 : w1.cell? ⟨w.heap.size, 0, none⟩ = some (.int .u8 N) := (Bc hb1 (by simp)).trans (by simp [go_sem]); have c1 : w1.cell? ⟨w.heap.size, 1, none⟩ = some (.slice As sets.length cs) := (Bc hb1 (by simp)).trans (by simp [go_sem]); clear hb1)
      | (go_at_call 5; refine (HM.out _ HB1.out).mono ?_; rintro e w2 ⟨A2, m2, c2, rfl, hm2, hs2, hb2⟩; have HB2 := Lib.hid (Bt HB1.out hb2); have HM2 := Lib.hid hm2; have HS2 := Lib.hid hs2; clear hb2 hm2 hs2))
    have hb3 := Ba HB2.out (.cells #[.int .i64 n, .slice A2 m2 c2] 29)
    have hS3 : SlII (fun b => b < (w2.alloc (.cells #[.int .i64 n, .slice A2 m2 c2] 29)).heap.size) (w2.alloc (.cells #[.int .i64 n, .slice A2 m2 c2] 29)) (.slice A2 m2 c2) (setsOf (Hit.planW n sets)) :=
      (HS2.out.keep (Agree.below (Ba (B0 w2) _) fun b h => h.2)).wider fun b h => by have := h.2; simp; omega
    have k0 : (w2.alloc (.cells #[.int .i64 n, .slice A2 m2 c2] 29)).cell? ⟨w2.heap.size, 0, none⟩ = some (.int .i64 n) := by simp [go_sem]
    have k1 : (w2.alloc (.cells #[.int .i64 n, .slice A2 m2 c2] 29)).cell? ⟨w2.heap.size, 1, none⟩ = some (.slice A2 m2 c2) := by simp [go_sem]
    have l3 : w2.heap.size < (w2.alloc (.cells #[.int .i64 n, .slice A2 m2 c2] 29)).heap.size := by simp
    generalize (w2.alloc (.cells #[.int .i64 n, .slice A2 m2 c2] 29)) = w3 at *
    have hgd := Hit.planW_good n sets
    have hwl := Hit.planW_len n sets
    have hbo := bothF_plan hn8 sets l
    generalize hpw : Hit.planW n sets = ws at *
    have hw := good_lt hgd (by omega)
    have hlG : ∀ W, Below w3.heap.size w3 W → SlI (fun b => b < w.heap.size) W (.slice Al l.length cl) l := fun W hW => (HL.out.keep (Agree.below (hb3.trans (hW.mono hb3.size)) hG)).mono hG
    have hsz3 := hb3.size
    have hLi : ∀ W, Below w3.heap.size w3 W → Calls Tryd.prog 8 #[.int .i64 n, .slice Al l.length cl] W fun e w' => e = .returned (.int .i64 (Hit.listF n l)) ∧ Below W.heap.size W w' := fun W hW =>
      listR_any n _ l W _ (fun b hb => by have := hW.size; omega) (hlG W hW)
    have HLI := Lib.hid hLi
    have HB3 := Lib.hid hb3
    have HLG := Lib.hid hlG
    have HS3 := Lib.hid hS3
    clear hb3 hlG hLi HM2 HS2 HM
    obtain ⟨pb, hpb⟩ : ∃ pb, w2.heap.size = pb := ⟨_, rfl⟩
    rw [hpb] at k0 k1 l3 ⊢
    clear hpb
    by_cases her : Hit.listF n l = 0
    · obtain ⟨ns, rfl, _, hns⟩ := Hit.listF_ok her
      rw [her] at hbo HLI
      have hnn : ∀ x ∈ ns, x < n := fun x hx => by have := hns x hx; omega
      have hn32 : ∀ x ∈ ns, x < 32 := fun x hx => by have := hnn x hx; omega
      have hwx : Hit.word ns < 2 ^ 32 := Hit.word_lt hn32
      have hwx2 : Hit.word ns < 4294967296 := hwx
      have hH : ∀ W, Below w3.heap.size w3 W → Calls Tryd.prog 6 #[.agg #[.int .i64 n, .slice A2 m2 c2], .slice Al (Hit.ints ns).length cl] W fun e w' => e = .returned (hitsV ws (Hit.word ns)) ∧ Below W.heap.size W w' := fun W hW =>
        hits_ok n _ _ ws hw (by omega) ns hn32 W (fun b => b < w3.heap.size) (fun b => b < w.heap.size) (fun b hb => by have := hW.size; omega) (fun b hb => by have := hW.size; omega) (HS3.out.keep (Agree.below hW fun _ h => h)) (HLG.out W hW) hbo
      have hRd : ∀ W, Below w3.heap.size w3 W → Calls Tryd.prog 7 #[.agg #[.int .i64 n, .slice A2 m2 c2], .slice Al (Hit.ints ns).length cl] W fun e w' => (Hit.hit ws (Hit.word ns) = false ∧ e = .returned (.tuple #[.slice none 0 0, .int .i64 18]) ∧ Below W.heap.size W w') ∨
          (Hit.hit ws (Hit.word ns) = true ∧ ∃ A m c, e = .returned (.tuple #[.slice A m c, .int .i64 0]) ∧ m = (Hit.members (Hit.reduce ws (Hit.word ns) ns)).length ∧ Own0 w' W.heap.size 3 1 A m c (cellsV vN (Hit.members (Hit.reduce ws (Hit.word ns) ns))) ∧ Below W.heap.size W w') := fun W hW =>
        reduce_ok n _ _ ws hw (by omega) ns hn32 W (fun b => b < w3.heap.size) (fun b => b < w.heap.size) (fun b hb => by have := hW.size; omega) (fun b hb => by have := hW.size; omega) (HS3.out.keep (Agree.below hW fun _ h => h)) (HLG.out W hW) hbo (HT.out.below (HB3.out.trans (hW.mono hsz3)))
      have hBi : ∀ W, Below w3.heap.size w3 W → Calls Tryd.prog 10 #[.slice Al (Hit.ints ns).length cl] W fun e w' => e = .returned (.int .u64 (Hit.word ns : Nat)) ∧ W = w' := fun W hW =>
        bits_any _ ns (fun x hx => by have := hn32 x hx; omega) W _ (HLG.out W hW)
      have hMi : ∀ W, Below w3.heap.size w3 W → Calls Tryd.prog 9 #[.agg #[.int .i64 n, .slice A2 m2 c2], .int .u64 ((Hit.word ns : Nat) : Int)] W fun e w' => e = .returned (.int .i64 (missF ws (Hit.word ns))) ∧ Below W.heap.size W w' := fun W hW =>
        missedR_any n _ ws hw _ hwx2 W (fun b => b < w3.heap.size) (fun b hb => by have := hW.size; omega) (HS3.out.keep (Agree.below hW fun _ h => h))
      have hRr : ∀ W, Below w3.heap.size w3 W → Calls Tryd.prog 12 #[.agg #[.int .i64 n, .slice A2 m2 c2], .slice Al (Hit.ints ns).length cl] W fun e w' => ∃ A m c, e = .returned (.slice A m c) ∧ m = (Hit.members (Hit.reduce ws (Hit.word ns) ns)).length ∧ Own0 w' W.heap.size 3 1 A m c (cellsV vN (Hit.members (Hit.reduce ws (Hit.word ns) ns))) ∧ Below W.heap.size W w' := fun W hW =>
        reduceR_any n _ _ ws hw ns hn32 W (fun b => b < w3.heap.size) (fun b => b < w.heap.size) (fun b hb => by have := hW.size; omega) (fun b hb => by have := hW.size; omega) (HS3.out.keep (Agree.below hW fun _ h => h)) (HLG.out W hW)
      have hAg : Hit.hit ws (Hit.word ns) = true → ∀ W vr, Below w3.heap.size w3 W → SlI (fun b => b < W.heap.size) W vr (Hit.ints (Hit.members (Hit.reduce ws (Hit.word ns) ns))) → Calls Tryd.prog 7 #[.agg #[.int .i64 n, .slice A2 m2 c2], vr] W fun e w' => ∃ A m c, e = .returned (.tuple #[.slice A m c, .int .i64 0]) ∧ m = (Hit.members (Hit.reduce ws (Hit.word ns) ns)).length ∧ Own0 w' W.heap.size 3 1 A m c (cellsV vN (Hit.members (Hit.reduce ws (Hit.word ns) ns))) ∧ Below W.heap.size W w' := fun hh W vr hW hv => by
        have hbo2 := bothF_plan hn8 sets (Hit.ints (Hit.members (Hit.reduce ws (Hit.word ns) ns)))
        rw [hpw, red_list (by omega) ws ns hnn] at hbo2
        refine (reduce_ok n _ vr ws hw (by omega) (Hit.members (Hit.reduce ws (Hit.word ns) ns)) (fun x hx => by have := red_sub (by omega) ws ns hnn x hx; omega) W (fun b => b < w3.heap.size) (fun b => b < W.heap.size) (fun b hb => by have := hW.size; omega) (fun _ h => h) (HS3.out.keep (Agree.below hW fun _ h => h)) hv hbo2 (HT.out.below (HB3.out.trans (hW.mono hsz3)))).mono ?_
        rw [red_word (by omega) ws ns hnn, Hit.reduce_again, Hit.reduce_hit ws ns _ hh]
        rintro e w' (⟨h, _⟩ | ⟨_, A, m, c, q1, q2, q3, q4⟩)
        · cases h
        · exact ⟨A, m, c, q1, q2, q3, q4⟩
      have hSm : ∀ W va vb (l : List Int), SlI (fun b => b < W.heap.size) W va l → SlI (fun b => b < W.heap.size) W vb l → Calls Tryd.prog 11 #[va, vb] W fun e w' => e = .returned (.bool true) ∧ Below W.heap.size W w' := fun W va vb l ha hb => by
        have := same_any va vb l l W _ _ (fun _ h => h) (fun _ h => h) ha hb
        rwa [decide_eq_true rfl] at this
      have hml := red_len (Hit.reduce ws (Hit.word ns) ns)
      have hmc := missF_cases ws (Hit.word ns)
      have hv1 := @hitsV_miss ws (Hit.word ns)
      have hv2 := @hitsV_all ws (Hit.word ns)
      have HH := Lib.hid hH
      have HRd := Lib.hid hRd
      have HBi := Lib.hid hBi
      have HMi := Lib.hid hMi
      have HRr := Lib.hid hRr
      have HAg := Lib.hid hAg
      have HSm := Lib.hid hSm
      have HML := Lib.hid hml
      clear hH hRd hBi hMi hRr hAg hSm hns hnn hn32 hwx hwx2 her hS3 hbo hgd hw hpw hml
      generalize Hit.members (Hit.reduce ws (Hit.word ns) ns) = rr at *
      generalize Hit.word ns = x at *
      generalize missF ws x = ms at *
      rcases hmc with ⟨hh, hms⟩ | ⟨hh, hms⟩
      · have hV := hv2 (by omega)
        rw [hV] at HH
        rw [hh] at HRd
        subst hms
        clear hv1 hv2 hV
        go_upto_region 9 with (first
          | (go_at_call 6; refine (HH.out _ (B0 w3)).mono ?_; rintro e w4 ⟨rfl, hb4⟩; have HB4 := Lib.hid hb4; have q40 := (Bc hb4 l3).trans k0; have q41 := (Bc hb4 l3).trans k1; have l4 := Nat.lt_of_lt_of_le l3 hb4.size; clear hb4)
          | (go_at_call 7; refine (HRd.out _ HB4.out).mono ?_; rintro e w5 (⟨hff, _⟩ | ⟨_, A5, m5, c5, rfl, hm5, hO5, hb5⟩); exact absurd hff (by decide); have HB5 := Lib.hid (Bt HB4.out hb5); have S5 := Lib.hid (hO5.ints hm5 HML.out (F := fun b => b < w5.heap.size) fun _ _ h => h); have HM5 := Lib.hid hm5; have q50 := (Bc hb5 l4).trans q40; have q51 := (Bc hb5 l4).trans q41; have l5 := Nat.lt_of_lt_of_le l4 hb5.size; clear hb5 hm5 hO5)
          | (go_at_call 8; refine (HLI.out _ HB5.out).mono ?_; rintro e w6 ⟨rfl, hb6⟩; have HB6 := Lib.hid (Bt HB5.out hb6); have S6 := Lib.hid (S5.out.on hb6); have q60 := (Bc hb6 l5).trans q50; have q61 := (Bc hb6 l5).trans q51; have l6 := Nat.lt_of_lt_of_le l5 hb6.size; clear hb6))
        clear k0 k1 q40 q41 q50 q51
        have e60 : ∀ q : Cls w6, q.w.cell? ⟨pb, 0, none⟩ = some (.int .i64 n) := fun q => (Bc q.b l6).trans q60
        have e61 : ∀ q : Cls w6, q.w.cell? ⟨pb, 1, none⟩ = some (.slice A2 m2 c2) := fun q => (Bc q.b l6).trans q61
        have hB6 : ∀ q : Cls w6, Calls Tryd.prog 10 #[.slice Al (Hit.ints ns).length cl] q.w fun e w' => e = .returned (.int .u64 (x : Nat)) ∧ ∃ r : Cls w6, w' = r.w := fun q =>
          (HBi.out q.w (Bt HB6.out q.b)).mono fun e w' ⟨q1, q2⟩ => ⟨q1, q, q2.symm⟩
        have hM6 : ∀ q : Cls w6, Calls Tryd.prog 9 #[.agg #[.int .i64 n, .slice A2 m2 c2], .int .u64 ((x : Nat) : Int)] q.w fun e w' => e = .returned (.int .i64 (-1)) ∧ ∃ r : Cls w6, w' = r.w := fun q =>
          (HMi.out q.w (Bt HB6.out q.b)).mono fun e w' ⟨q1, q2⟩ => ⟨q1, Cls.mk' (Bt q.b q2), rfl⟩
        have HB6c := Lib.hid hB6
        have HM6c := Lib.hid hM6
        clear hB6 hM6
        refine wp_region_class_lit (C := fun w' => ∃ q : Cls w6, w' = q.w) (by kernel_rfl) (by kernel_rfl) ⟨Cls.mk' (B0 w6).drew, rfl⟩ ?_
        repeat (any_goals (first | go_big_quiet_step (first | (go_at_call 10; with_reducible exact HB6c.out _) | (go_at_call 9; with_reducible exact HM6c.out _)) | quiet_step (first | (go_at_call 10; with_reducible exact HB6c.out _) | (go_at_call 9; with_reducible exact HM6c.out _))))
        refine wpQuiet_nil ?_
        rintro _ ⟨q, rfl⟩
        have HB7 := Lib.hid (Bt HB6.out q.b)
        have q70 := e60 q
        have q71 := e61 q
        have hsz7 := q.b.size
        have S7 := Lib.hid (S6.out.on q.b)
        have l7 := Nat.lt_of_lt_of_le l6 q.b.size
        clear e60 e61 q60 q61
        generalize q.w = w7 at *
        go_upto_region 16 with (first
          | (go_at_call 12; refine (HRr.out _ HB7.out).mono ?_; rintro e w8 ⟨A8, m8, c8, rfl, hm8, hO8, hb8⟩; have S8 := Lib.hid (S7.out.on hb8); have T8 := Lib.hid (hO8.ints hm8 HML.out (F := fun b => b < w8.heap.size) fun _ _ h => h); have HB8 := Lib.hid (Bt HB7.out hb8); have q80 := (Bc hb8 l7).trans q70; have q81 := (Bc hb8 l7).trans q71; have l8 := Nat.lt_of_lt_of_le l7 hb8.size; clear hm8 hO8 hb8)
          | (go_at_call 11; refine (HSm.out _ _ _ _ S8.out T8.out).mono ?_; rintro e w9 ⟨rfl, hb9⟩; have S9 := Lib.hid (S8.out.on hb9); have HB9 := Lib.hid (Bt HB8.out hb9); have q90 := (Bc hb9 l8).trans q80; have q91 := (Bc hb9 l8).trans q81; clear hb9))
        clear q70 q71 q80 q81
        go_wp2_with (first
          | (go_at_call 7; refine (HAg.out hh _ _ HB9.out S9.out).mono ?_; rintro e wA ⟨AA, mA, cA, rfl, hmA, hOA, hbA⟩; have SA := Lib.hid (S9.out.on hbA); have TA := Lib.hid (hOA.ints hmA HML.out (F := fun b => b < wA.heap.size) fun _ _ h => h); have HBA := Lib.hid (Bt HB9.out hbA); clear hmA hOA hbA)
          | (go_at_call 11; refine (HSm.out _ _ _ _ TA.out SA.out).mono ?_; rintro e wC ⟨rfl, hbC⟩; have HBC := Lib.hid (Bt HBA.out hbC); clear hbC))
        go_ret
        exact ⟨rfl, HB3.out.trans (HBC.out.mono hsz3)⟩
      · have hV := hv1 hms
        rw [hV] at HH
        rw [hh] at HRd
        have n1 : decide (ms < 0) = false := decide_eq_false (by omega)
        have n2 : decide (0 ≤ ms) = true := decide_eq_true hms
        have n3 : max ms 0 = ms := by omega
        clear hv1 hv2 hV hh
        go_upto_region 9 with (first
          | (go_at_call 6; refine (HH.out _ (B0 w3)).mono ?_; rintro e w4 ⟨rfl, hb4⟩; have HB4 := Lib.hid hb4; have q40 := (Bc hb4 l3).trans k0; have q41 := (Bc hb4 l3).trans k1; have l4 := Nat.lt_of_lt_of_le l3 hb4.size; clear hb4)
          | (go_at_call 7; refine (HRd.out _ HB4.out).mono ?_; rintro e w5 (⟨_, rfl, hb5⟩ | ⟨hff, _⟩); have HB5 := Lib.hid (Bt HB4.out hb5); have q50 := (Bc hb5 l4).trans q40; have q51 := (Bc hb5 l4).trans q41; have l5 := Nat.lt_of_lt_of_le l4 hb5.size; clear hb5; rotate_left; exact absurd hff (by decide))
          | (go_at_call 8; refine (HLI.out _ HB5.out).mono ?_; rintro e w6 ⟨rfl, hb6⟩; have HB6 := Lib.hid (Bt HB5.out hb6); have q60 := (Bc hb6 l5).trans q50; have q61 := (Bc hb6 l5).trans q51; have l6 := Nat.lt_of_lt_of_le l5 hb6.size; clear hb6))
        clear k0 k1 q40 q41 q50 q51
        have e60 : ∀ q : Cls w6, q.w.cell? ⟨pb, 0, none⟩ = some (.int .i64 n) := fun q => (Bc q.b l6).trans q60
        have e61 : ∀ q : Cls w6, q.w.cell? ⟨pb, 1, none⟩ = some (.slice A2 m2 c2) := fun q => (Bc q.b l6).trans q61
        have hB6 : ∀ q : Cls w6, Calls Tryd.prog 10 #[.slice Al (Hit.ints ns).length cl] q.w fun e w' => e = .returned (.int .u64 (x : Nat)) ∧ ∃ r : Cls w6, w' = r.w := fun q =>
          (HBi.out q.w (Bt HB6.out q.b)).mono fun e w' ⟨q1, q2⟩ => ⟨q1, q, q2.symm⟩
        have hM6 : ∀ q : Cls w6, Calls Tryd.prog 9 #[.agg #[.int .i64 n, .slice A2 m2 c2], .int .u64 ((x : Nat) : Int)] q.w fun e w' => e = .returned (.int .i64 ms) ∧ ∃ r : Cls w6, w' = r.w := fun q =>
          (HMi.out q.w (Bt HB6.out q.b)).mono fun e w' ⟨q1, q2⟩ => ⟨q1, Cls.mk' (Bt q.b q2), rfl⟩
        have HB6c := Lib.hid hB6
        have HM6c := Lib.hid hM6
        clear hB6 hM6
        refine wp_region_class_lit (C := fun w' => ∃ q : Cls w6, w' = q.w) (by kernel_rfl) (by kernel_rfl) ⟨Cls.mk' (B0 w6).drew, rfl⟩ ?_
        repeat (any_goals (first | go_big_quiet_step (first | (go_at_call 10; with_reducible exact HB6c.out _) | (go_at_call 9; with_reducible exact HM6c.out _)) | quiet_step (first | (go_at_call 10; with_reducible exact HB6c.out _) | (go_at_call 9; with_reducible exact HM6c.out _))))
        refine wpQuiet_nil ?_
        rintro _ ⟨q, rfl⟩
        have HB7 := Lib.hid (Bt HB6.out q.b)
        have q70 := e60 q
        have q71 := e61 q
        have hsz7 := q.b.size
        clear e60 e61 q60 q61
        generalize q.w = w7 at *
        go_wp2_with fail
        go_ret
        exact ⟨rfl, HB3.out.trans (HB7.out.mono hsz3)⟩
    · have hH : ∀ W, Below w3.heap.size w3 W → Calls Tryd.prog 6 #[.agg #[.int .i64 n, .slice A2 m2 c2], .slice Al l.length cl] W fun e w' => e = .returned (.tuple #[.int .i64 0, .bool false, .int .i64 (Hit.listF n l)]) ∧ Below W.heap.size W w' := fun W hW => by
        have := hits_err n _ _ (setsOf ws) l W (fun b => b < w3.heap.size) (fun b => b < w.heap.size) (fun b hb => by have := hW.size; omega) (fun b hb => by have := hW.size; omega) (HS3.out.keep (Agree.below hW fun _ h => h)) (HLG.out W hW) (by rw [hbo]; exact her)
        rwa [hbo] at this
      have hR : ∀ W, Below w3.heap.size w3 W → Calls Tryd.prog 7 #[.agg #[.int .i64 n, .slice A2 m2 c2], .slice Al l.length cl] W fun e w' => e = .returned (.tuple #[.slice none 0 0, .int .i64 (Hit.listF n l)]) ∧ Below W.heap.size W w' := fun W hW => by
        have := reduce_err n _ _ (setsOf ws) l W (fun b => b < w3.heap.size) (fun b => b < w.heap.size) (fun b hb => by have := hW.size; omega) (fun b hb => by have := hW.size; omega) (HS3.out.keep (Agree.below hW fun _ h => h)) (HLG.out W hW) (by rw [hbo]; exact her)
        rwa [hbo] at this
      have hen : (Hit.listF n l != 0) = true := by simp [her]
      have HH := Lib.hid hH
      have HR := Lib.hid hR
      have HS := Lib.hid hS3
      have HBO := Lib.hid hbo
      generalize Hit.listF n l = er at *
      clear hH hR her hS3 hbo hgd hw hpw
      go_upto_region 7 with (first
        | (go_at_call 6; refine (HH.out _ (B0 w3)).mono ?_; rintro e w4 ⟨rfl, hb4⟩; have HB4 := Lib.hid hb4; have q40 := (Bc hb4 l3).trans k0; have q41 := (Bc hb4 l3).trans k1; have l4 := Nat.lt_of_lt_of_le l3 hb4.size; clear hb4)
        | (go_at_call 7; refine (HR.out _ HB4.out).mono ?_; rintro e w5 ⟨rfl, hb5⟩; have HB5 := Lib.hid (Bt HB4.out hb5); have q50 := (Bc hb5 l4).trans q40; clear hb5)
        | (go_at_call 8; refine (HLI.out _ HB5.out).mono ?_; rintro e w6 ⟨rfl, hb6⟩; have HB6 := Lib.hid (Bt HB5.out hb6); clear hb6))
      clear k0 k1 q40 q41 q50
      go_wp2_with fail
      go_ret
      exact ⟨rfl, HB3.out.trans (HB6.out.mono hsz3)⟩
end Go.Proofs.YtdgnpcmaipnfhaaDoor
