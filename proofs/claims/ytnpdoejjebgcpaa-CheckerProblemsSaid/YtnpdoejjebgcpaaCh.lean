/- Walks over checker: Hits. -/
import Derived.Test.YtnpdoejjebgcpaaCt
import Derived.Test.YtnpdoejjebgcpaaVc
namespace Go.Proofs.Ytnpdoejjebgcpaa
open Go Go.RowKit
set_option maxHeartbeats 1000000 in
theorem hits1_any (hb : Nat) (n : Nat) (hn : n ≤ 20) (s : Nat) (h0 : s ≠ 0) (hs : s < 2 ^ n) (u : Value) (W : World) (F : Nat → Prop) (hc : W.cell? ⟨hb, 0, none⟩ = some (.int .i64 n)) (hu : SlI F W u (Hit.ints (Hit.members s))) :
    Calls Try.prog 42 #[u, .pointer (some ⟨hb, 0, none⟩)] W fun e w' => e = .returned (.bool false) ∧ W = w' := by
  have hml : ∀ x ∈ Hit.members s, x < n := Hit.members_lt hs
  have hR := rising_any u (Hit.members s) n (Hit.inc_members s) hml W F hu
  obtain ⟨A, c, rfl, hc1, hl, _⟩ := hu.open
  rw [ints_length] at *
  have hpos : 0 < (Hit.members s).length := by
    rcases Nat.eq_zero_or_pos (Hit.members s).length with h | h
    · have : Hit.members s = [] := List.eq_nil_of_length_eq_zero h
      have hw := Hit.word_members (w := s) (Nat.lt_of_lt_of_le hs (Nat.pow_le_pow_right (by decide) (by omega)))
      rw [this, Hit.word_nil] at hw
      exact absurd hw.symm h0
    · exact h
  have hd : (((Hit.members s).length : Int) == 0) = false := by simp; intro h; rw [h] at hpos; simp at hpos
  have HR := Lib.hid hR
  clear hR hu hml hs
  generalize (Hit.members s).length = len at *
  go_enter Try.func42, Try.ntmps42
  go_wp2_with (go_at_call 22; (with_reducible refine (HR.out.mono ?_)); rintro e w' ⟨rfl, rfl⟩)
  go_ret
  exact ⟨rfl, rfl⟩
set_option maxRecDepth 100000 in
set_option maxHeartbeats 4000000 in
theorem hitsC_any (n : Nat) (hn : n ≤ 20) (As : Option Addr) (cs : Nat) (At : Option Addr) (ct : Nat) (ws : List Nat) (hg : Hit.Good ws n) (hwl : ws.length ≤ 100) (size : Int) (t : List Hit.TNode) (htl : t.length ≤ 1000000) (hll : ∀ x ∈ t, x.weights.length ≤ 1000000) (w : World) (F G : Nat → Prop) (hF : ∀ b, F b → b < w.heap.size) (hG : ∀ b, G b → b < w.heap.size)
    (hr : SlII F w (.slice As ws.length cs) (setsOf ws)) (ht : SlT G w (.slice At t.length ct) t) :
    Calls Try.prog 19 #[.agg #[.int .i64 n, .slice As ws.length cs, .int .i64 size, .slice At t.length ct]] w fun e w' => e = .returned (.bool (decide (Hit.verifyF ws n size t = 0))) ∧ Below w.heap.size w w' := by
  have hw := good_lt hg (by omega)
  have hS : ∀ W, Below w.heap.size w W → SlII F W (.slice As ws.length cs) (setsOf ws) := fun W hW => hr.keep (Agree.below hW hF)
  have hT : ∀ W, Below w.heap.size w W → SlT G W (.slice At t.length ct) t := fun W hW => ht.keep (Agree.below hW hG)
  have hN : ∀ W hb, W.cell? ⟨hb, 0, none⟩ = some (.int .i64 n) → Below w.heap.size w W → Calls Try.prog 41 #[.slice As ws.length cs, .func (.func 42) #[] #[.pointer (some ⟨hb, 0, none⟩)]] W fun e w' => e = .returned (.bool false) ∧ W = w' := fun W hb hc hW =>
    noneS_any _ (setsOf ws) 42 #[.pointer (some ⟨hb, 0, none⟩)] (enters_of Try.func42 (by kernel_rfl) rfl) W F (hS W hW) fun u l hl hu => by
      obtain ⟨s, hs, rfl⟩ := List.mem_map.1 hl
      exact hits1_any hb n hn s (hg s hs).1 (hg s hs).2 u W F hc hu
  have HS := Lib.hid hS
  have HT := Lib.hid hT
  have HN := Lib.hid hN
  have HG := Lib.hid hG
  have HF := Lib.hid hF
  have HLL := Lib.hid hll
  have HW0 := Lib.hid hw
  have hmb := run_make_row' (P := Try.prog) 89 4 (.bool false) 1 Try.underlying89 (by kernel_rfl) rfl .i64 .i64 t.length (by omega) (by omega)
  have HMB := Lib.hid hmb
  clear hS hr ht hT hN hg hF hG hll hw hmb
  go_enter Try.func19, Try.ntmps19
  go_upto_region 1 with fail
  obtain ⟨w1, hw1⟩ : ∃ w1 : World, (w.alloc (.cells #[.int .i64 n, .slice As ws.length cs, .int .i64 size, .slice At t.length ct] 70)) = w1 := ⟨_, rfl⟩
  have e0 : w1.cell? ⟨w.heap.size, 0, none⟩ = some (.int .i64 n) := by rw [← hw1]; simp [go_sem]
  have e1 : w1.cell? ⟨w.heap.size, 1, none⟩ = some (.slice As ws.length cs) := by rw [← hw1]; simp [go_sem]
  have e2 : w1.cell? ⟨w.heap.size, 2, none⟩ = some (.int .i64 size) := by rw [← hw1]; simp [go_sem]
  have e3 : w1.cell? ⟨w.heap.size, 3, none⟩ = some (.slice At t.length ct) := by rw [← hw1]; simp [go_sem]
  have hs1 : w.heap.size < w1.heap.size := by rw [← hw1]; simp
  have hB1 : Below w.heap.size w w1 := by rw [← hw1]; exact Ba (B0 w) _
  rw [hw1]
  clear hw1
  have k : ∀ W, Below w1.heap.size w1 W → W.cell? ⟨w.heap.size, 0, none⟩ = some (.int .i64 n) ∧ W.cell? ⟨w.heap.size, 1, none⟩ = some (.slice As ws.length cs) ∧ W.cell? ⟨w.heap.size, 2, none⟩ = some (.int .i64 size) ∧ W.cell? ⟨w.heap.size, 3, none⟩ = some (.slice At t.length ct) := fun W hW =>
    ⟨(Bc hW hs1).trans e0, (Bc hW hs1).trans e1, (Bc hW hs1).trans e2, (Bc hW hs1).trans e3⟩
  have K := Lib.hid k
  have HB1 := Lib.hid hB1
  clear k hB1
  have hwl1 : ∀ W : World, Calls Try.prog 21 #[.int .i64 0, .int .i64 20, .slice (some ⟨W.heap.size, 0, none⟩) 1 1] (W.alloc (.cells #[.int .i64 n] 3)) fun e w' => e = .returned (.bool true) ∧ Below W.heap.size W w' := fun W => by
    have := within_one 0 20 n W
    rwa [within1_eq, decide_eq_true (by omega)] at this
  have HA := Lib.hid hwl1
  have HV : Hid (∀ W : World, Calls Try.prog 21 #[.int .i64 0, .int .i64 n, .slice (some ⟨W.heap.size, 0, none⟩) 1 1] (W.alloc (.cells #[.int .i64 size] 3)) fun e w' => e = .returned (.bool (decide (0 ≤ size ∧ size ≤ n))) ∧ Below W.heap.size W w') := Lib.hid fun W => by
    have := within_one 0 n size W
    rwa [within1_eq] at this
  have HZ : Hid (∀ W : World, Calls Try.prog 21 #[.int .i64 1, .int .i64 100000, .slice (some ⟨W.heap.size, 0, none⟩) 1 1] (W.alloc (.cells #[.int .i64 t.length] 3)) fun e w' => e = .returned (.bool (decide ((1 : Int) ≤ t.length ∧ (t.length : Int) ≤ 100000))) ∧ Below W.heap.size W w') := Lib.hid fun W => by
    have := within_one 1 100000 t.length W
    rwa [within1_eq] at this
  have d1 : decide ((100 : Int) < (ws.length : Int)) = false := decide_eq_false (by omega)
  have d1n : decide (100 < ws.length) = false := decide_eq_false (by omega)
  clear hwl1
  by_cases hrg : 0 ≤ size ∧ size ≤ n
  · rw [decide_eq_true hrg] at HV
    by_cases hle : (1 : Int) ≤ t.length ∧ (t.length : Int) ≤ 100000
    · rw [decide_eq_true hle] at HZ
      have h0t : 0 < t.length := by omega
      have hv : decide (Hit.verifyF ws n size t = 0) = Hit.treeF ws n size t := by
        unfold Hit.verifyF
        rw [if_neg (by omega), if_neg (by omega), if_neg (by omega)]
        cases Hit.treeF ws n size t <;> rfl
      rw [← Hit.hits_same ws n (by omega) size t h0t] at hv
      have HFIN := Lib.hid hv
      clear hv hle hrg
      go_wp2_with fail
      (with_reducible refine ((HA.out w1).mono ?_))
      rintro e w2 ⟨rfl, hb2⟩
      obtain ⟨k0, k1, k2, k3⟩ := K.out _ hb2
      have HB2 := Lib.hid hb2
      clear e0 e1 e2 e3 hb2
      go_wp2_with fail
      (with_reducible refine ((HV.out w2).mono ?_))
      rintro e w3 ⟨rfl, hb3⟩
      obtain ⟨e0, e1, e2, e3⟩ := K.out _ (Bt HB2.out hb3)
      have HB3 := Lib.hid (Bt HB2.out hb3)
      clear k0 k1 k2 k3 hb3
      go_wp2_with fail
      (with_reducible refine ((HZ.out w3).mono ?_))
      rintro e w4 ⟨rfl, hb4⟩
      obtain ⟨k0, k1, k2, k3⟩ := K.out _ (Bt HB3.out hb4)
      have hB4 := Bt HB3.out hb4
      have hs4 := Nat.lt_of_lt_of_le hs1 hB4.size
      have HB4 := Lib.hid (Bt HB1.out hB4)
      have HC := Lib.hid (HN.out w4 w.heap.size k0 (Bt HB1.out hB4))
      clear e0 e1 e2 e3 hb4 hB4
      go_upto_region 5 with (go_at_call 41; (with_reducible refine (HC.out.mono ?_)); rintro e w5 ⟨rfl, rfl⟩)
      have hmb := HMB.out w4.drew
      have hb5 : Below w.heap.size w (w4.alloc (.cells (madeCells #[.bool false] t.length) 4)).drew := (Ba HB4.out _).drew
      have hrow : (w4.alloc (.cells (madeCells #[.bool false] t.length) 4)).drew.rowIs w4.heap.size 4 t.length (fun _ => .bool false) := World.rowIs_made w4 (.bool false) t.length 4
      have hst : TSt w4.heap.size (w4.alloc (.cells (madeCells #[.bool false] t.length) 4)).drew.heap.size (.slice As ws.length cs) (.slice At t.length ct) ws t F G (w4.alloc (.cells (madeCells #[.bool false] t.length) 4)).drew (List.replicate t.length false) :=
        ⟨hrow.congr fun j hj => by simp [List.getD_eq_getElem?_getD, hj], HS.out _ hb5, HT.out _ hb5, by simp, Nat.le_refl _, fun b h => by
          have h1 := HF.out b h
          have h2 := HB4.out.size
          have h3 := hb5.size
          omega, fun b h => by
          have h1 := HG.out b h
          have h2 := HB4.out.size
          have h3 := hb5.size
          omega⟩
      have hR : Calls Try.prog 43 #[.agg #[.int .i64 n, .slice As ws.length cs, .int .i64 size, .slice At t.length ct], .int .i64 0, .agg #[.int .u64 0, .int .u64 0, .int .i64 0], .slice (some ⟨w4.heap.size, 0, none⟩) t.length t.length] (w4.alloc (.cells (madeCells #[.bool false] t.length) 4)).drew (RightP w4.heap.size t.length (w4.alloc (.cells (madeCells #[.bool false] t.length) 4)).drew (Hit.treeC ws n size t t.length 0 0 0 0 (List.replicate t.length false))) :=
        tree_any n hn As cs At ct size ws HW0.out (by omega) t htl HLL.out w4.heap.size _ F G t.length 0 0 0 0 _ _ (by omega) h0t (by omega) (Nat.pow_pos (by decide)) (Nat.pow_pos (by decide)) hst
      have HR := Lib.hid hR
      have HB5 := Lib.hid hb5
      have hsz4 : w.heap.size ≤ w4.heap.size := HB4.out.size
      clear hR hst hrow hb5
      cases hrf : Hit.treeC ws n size t t.length 0 0 0 0 (List.replicate t.length false) with
      | none =>
        rw [hrf] at HR HFIN
        clear hrf
        go_region_held3 (fun w' => w'.cell? ⟨w.heap.size, 0, none⟩ = some (.int .i64 n) ∧ w'.cell? ⟨w.heap.size, 1, none⟩ = some (.slice As ws.length cs) ∧ w'.cell? ⟨w.heap.size, 2, none⟩ = some (.int .i64 size) ∧ w'.cell? ⟨w.heap.size, 3, none⟩ = some (.slice At t.length ct)) (go_keep)
          ((go_at_call 43; (with_reducible refine (HR.out.mono ?_)); rintro e w6 ⟨hg6, hn6, _⟩; obtain rfl := hn6 rfl; have HB6 := Lib.hid (HB5.out.grown hg6 HB5.out.size (fun k hk => by injection hk with hk; omega)); have j0 := (cell_grownBy hg6 (i := 0) (by show _ < (w4.alloc _).heap.size; simp; omega) (by omega)).trans ((Bc (Ba (B0 w4) _).drew hs4).trans k0); have j1 := (cell_grownBy hg6 (i := 1) (by show _ < (w4.alloc _).heap.size; simp; omega) (by omega)).trans ((Bc (Ba (B0 w4) _).drew hs4).trans k1); have j2 := (cell_grownBy hg6 (i := 2) (by show _ < (w4.alloc _).heap.size; simp; omega) (by omega)).trans ((Bc (Ba (B0 w4) _).drew hs4).trans k2); have j3 := (cell_grownBy hg6 (i := 3) (by show _ < (w4.alloc _).heap.size; simp; omega) (by omega)).trans ((Bc (Ba (B0 w4) _).drew hs4).trans k3); clear hg6 hn6))
        go_wp2_with fail
        go_ret
        exact ⟨by rw [HFIN.out]; rfl, HB6.out⟩
      | some s =>
        rw [hrf] at HR HFIN
        clear hrf
        go_region_held3 (fun w' => w'.cell? ⟨w.heap.size, 0, none⟩ = some (.int .i64 n) ∧ w'.cell? ⟨w.heap.size, 1, none⟩ = some (.slice As ws.length cs) ∧ w'.cell? ⟨w.heap.size, 2, none⟩ = some (.int .i64 size) ∧ w'.cell? ⟨w.heap.size, 3, none⟩ = some (.slice At t.length ct)) (go_keep)
          ((go_at_call 43; (with_reducible refine (HR.out.mono ?_)); rintro e w6 ⟨hg6, _, hs6⟩; obtain ⟨rfl, _⟩ := hs6 s rfl; have HB6 := Lib.hid (HB5.out.grown hg6 HB5.out.size (fun k hk => by injection hk with hk; omega)); have j0 := (cell_grownBy hg6 (i := 0) (by show _ < (w4.alloc _).heap.size; simp; omega) (by omega)).trans ((Bc (Ba (B0 w4) _).drew hs4).trans k0); have j1 := (cell_grownBy hg6 (i := 1) (by show _ < (w4.alloc _).heap.size; simp; omega) (by omega)).trans ((Bc (Ba (B0 w4) _).drew hs4).trans k1); have j2 := (cell_grownBy hg6 (i := 2) (by show _ < (w4.alloc _).heap.size; simp; omega) (by omega)).trans ((Bc (Ba (B0 w4) _).drew hs4).trans k2); have j3 := (cell_grownBy hg6 (i := 3) (by show _ < (w4.alloc _).heap.size; simp; omega) (by omega)).trans ((Bc (Ba (B0 w4) _).drew hs4).trans k3); clear hg6 hs6))
        go_wp2_with fail
        go_ret
        exact ⟨by rw [HFIN.out]; rfl, HB6.out⟩
    · rw [decide_eq_false hle] at HZ
      have hv : decide (Hit.verifyF ws n size t = 0) = false := by
        unfold Hit.verifyF
        rw [if_neg (by omega)]
        by_cases h : t.length > 100000
        · rw [if_pos h]; rfl
        · rw [if_neg h, if_pos (by omega)]; rfl
      have HFIN := Lib.hid hv
      clear hv hle hrg
      go_wp2_with fail
      (with_reducible refine ((HA.out w1).mono ?_))
      rintro e w2 ⟨rfl, hb2⟩
      obtain ⟨k0, k1, k2, k3⟩ := K.out _ hb2
      have HB2 := Lib.hid hb2
      clear e0 e1 e2 e3 hb2
      go_wp2_with fail
      (with_reducible refine ((HV.out w2).mono ?_))
      rintro e w3 ⟨rfl, hb3⟩
      obtain ⟨e0, e1, e2, e3⟩ := K.out _ (Bt HB2.out hb3)
      have HB3 := Lib.hid (Bt HB2.out hb3)
      clear k0 k1 k2 k3 hb3
      go_wp2_with fail
      (with_reducible refine ((HZ.out w3).mono ?_))
      rintro e w4 ⟨rfl, hb4⟩
      have HB4 := Lib.hid (Bt HB1.out (Bt HB3.out hb4))
      clear hb4
      go_wp2_with fail
      go_ret
      exact ⟨by rw [HFIN.out]; rfl, HB4.out⟩
  · rw [decide_eq_false hrg] at HV
    have hv : decide (Hit.verifyF ws n size t = 0) = false := by
      unfold Hit.verifyF
      rw [if_pos (by omega)]; rfl
    have HFIN := Lib.hid hv
    clear hv hrg
    go_wp2_with fail
    (with_reducible refine ((HA.out w1).mono ?_))
    rintro e w2 ⟨rfl, hb2⟩
    obtain ⟨k0, k1, k2, k3⟩ := K.out _ hb2
    have HB2 := Lib.hid hb2
    clear e0 e1 e2 e3 hb2
    go_wp2_with fail
    (with_reducible refine ((HV.out w2).mono ?_))
    rintro e w3 ⟨rfl, hb3⟩
    have HB3 := Lib.hid (Bt HB1.out (Bt HB2.out hb3))
    clear hb3
    go_wp2_with fail
    go_ret
    exact ⟨by rw [HFIN.out]; rfl, HB3.out⟩
end Go.Proofs.Ytnpdoejjebgcpaa
