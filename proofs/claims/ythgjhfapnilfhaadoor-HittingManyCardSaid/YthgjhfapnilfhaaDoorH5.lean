/- Walks over hitting: Hits and Reduce. -/
import Derived.Test.YthgjhfapnilfhaaDoorH4
namespace Go.Proofs.YthgjhfapnilfhaaDoor
open Go Go.RowKit
/-- What Hits returns for a right problem and a right list. -/
def hitsV (ws : List Nat) (x : Nat) : Value := if 0 ≤ missF ws x then .tuple #[.int .i64 (missF ws x), .bool false, .int .i64 0] else .tuple #[.int .i64 0, .bool true, .int .i64 0]
theorem hitsV_miss {ws : List Nat} {x : Nat} (h : 0 ≤ missF ws x) : hitsV ws x = .tuple #[.int .i64 (missF ws x), .bool false, .int .i64 0] := if_pos h
theorem hitsV_all {ws : List Nat} {x : Nat} (h : ¬ 0 ≤ missF ws x) : hitsV ws x = .tuple #[.int .i64 0, .bool true, .int .i64 0] := if_neg h
set_option maxHeartbeats 1000000 in
theorem hits_err (n : Int) (vs vl : Value) (ls : List (List Int)) (l : List Int) (w : World) (F G : Nat → Prop) (hF : ∀ b, F b → b < w.heap.size) (hG : ∀ b, G b → b < w.heap.size) (hr : SlII F w vs ls) (hl : SlI G w vl l) (he : bothF n ls l ≠ 0) :
    Calls Tryd.prog 26 #[.agg #[.int .i64 n, vs], vl] w fun e w' => e = .returned (.tuple #[.int .i64 0, .bool false, .int .i64 (bothF n ls l)]) ∧ Below w.heap.size w w' := by
  have hC : ∀ W, Below w.heap.size w W → Calls Tryd.prog 61 #[.agg #[.int .i64 n, vs], vl] W fun e w' => e = .returned (.int .i64 (bothF n ls l)) ∧ Below W.heap.size W w' :=
    fun W hW => both_any n vs vl ls l W F G (fun b hb => Nat.lt_of_lt_of_le (hF b hb) hW.size) (fun b hb => Nat.lt_of_lt_of_le (hG b hb) hW.size) (hr.keep (Agree.below hW hF)) (hl.keep (Agree.below hW hG))
  obtain ⟨As, cs, rfl, _⟩ := hr.open
  have he' : (bothF n ls l != 0) = true := by simp [he]
  have HC := Lib.hid hC
  generalize bothF n ls l = er at *
  clear hC hr hl he
  go_enter Tryd.func26, Tryd.ntmps26
  go_wp2_with fail
  refine (HC.out _ (Ba (B0 w) _)).mono ?_
  rintro e w1 ⟨rfl, hb1⟩
  have HB := Lib.hid (Bt (Ba (B0 w) _) hb1)
  clear hb1
  go_wp2
  go_ret3
  exact ⟨rfl, HB.out⟩
set_option maxHeartbeats 1000000 in
theorem hits_ok (n : Int) (vs vl : Value) (ws : List Nat) (hw : ∀ s ∈ ws, s < 4294967296) (hwl : ws.length ≤ 1000) (ns : List Nat) (hns : ∀ x ∈ ns, x < 32) (w : World) (F G : Nat → Prop) (hF : ∀ b, F b → b < w.heap.size) (hG : ∀ b, G b → b < w.heap.size) (hr : SlII F w vs (setsOf ws)) (hl : SlI G w vl (Hit.ints ns)) (he : bothF n (setsOf ws) (Hit.ints ns) = 0) :
    Calls Tryd.prog 26 #[.agg #[.int .i64 n, vs], vl] w fun e w' => e = .returned (hitsV ws (Hit.word ns)) ∧ Below w.heap.size w w' := by
  have hC : ∀ W, Below w.heap.size w W → Calls Tryd.prog 61 #[.agg #[.int .i64 n, vs], vl] W fun e w' => e = .returned (.int .i64 0) ∧ Below W.heap.size W w' :=
    fun W hW => by
      have := both_any n vs vl _ _ W F G (fun b hb => Nat.lt_of_lt_of_le (hF b hb) hW.size) (fun b hb => Nat.lt_of_lt_of_le (hG b hb) hW.size) (hr.keep (Agree.below hW hF)) (hl.keep (Agree.below hW hG))
      rw [he] at this
      exact this
  have hW : ∀ W, Below w.heap.size w W → Calls Tryd.prog 36 #[.agg #[.int .i64 n, vs]] W fun e w' => ∃ A m c, e = .returned (.slice A m c) ∧ m = ws.length ∧ Own0 w' W.heap.size 95 1 A m c (cellsV (vU .u32) ws) ∧ Below W.heap.size W w' :=
    fun W hW => words_any n vs ws hw hwl W F (fun b hb => Nat.lt_of_lt_of_le (hF b hb) hW.size) (hr.keep (Agree.below hW hF))
  have hD : ∀ W, Below w.heap.size w W → Calls Tryd.prog 62 #[vl] W fun e w' => e = .returned (.int .u32 (Hit.word ns : Nat)) ∧ W = w' :=
    fun W hW => word_any vl ns hns W G (hl.keep (Agree.below hW hG))
  have hM : ∀ W A m c, m = ws.length → Own0 W w.heap.size 95 1 A m c (cellsV (vU .u32) ws) → Calls Tryd.prog 51 #[.slice A m c, .int .u32 (Hit.word ns : Nat)] W fun e w' => e = .returned (.int .i64 (missF ws (Hit.word ns))) ∧ Below W.heap.size W w' :=
    fun W A m c hm hO => missed_any _ ws hw _ (Hit.word_lt hns) W (fun b => b < W.heap.size) (fun _ h => h) (hO.words hm (by omega) fun b _ h => h)
  obtain ⟨As, cs, rfl, _⟩ := hr.open
  have hmc : 0 ≤ missF ws (Hit.word ns) ∨ ¬ 0 ≤ missF ws (Hit.word ns) := by omega
  have h1 := @hitsV_miss ws (Hit.word ns)
  have h2 := @hitsV_all ws (Hit.word ns)
  have HC := Lib.hid hC
  have HW := Lib.hid hW
  have HD := Lib.hid hD
  have HM := Lib.hid hM
  have H1 := Lib.hid h1
  have H2 := Lib.hid h2
  generalize missF ws (Hit.word ns) = ms at *
  generalize Hit.word ns = x at *
  clear hC hW hD hM hr hl he h1 h2
  go_enter Tryd.func26, Tryd.ntmps26
  go_wp2_with fail
  refine (HC.out _ (Ba (B0 w) _)).mono ?_
  rintro e w1 ⟨rfl, hb1⟩
  have c0 : w1.cell? ⟨w.heap.size, 0, none⟩ = some (.int .i64 n) := (Bc hb1 (by simp)).trans (by simp [go_sem])
  have c1 : w1.cell? ⟨w.heap.size, 1, none⟩ = some (.slice As (setsOf ws).length cs) := (Bc hb1 (by simp)).trans (by simp [go_sem])
  have HB := Lib.hid (Bt (Ba (B0 w) _) hb1)
  clear hb1
  go_wp2_with fail
  refine (HW.out _ HB.out).mono ?_
  rintro e w2 ⟨A, m, c, rfl, hm, hO, hb2⟩
  have HB2 := Lib.hid (Bt HB.out hb2)
  have HO := Lib.hid (hO.more HB.out.size)
  have HMm := Lib.hid hm
  clear hb2 hO hm c0 c1
  go_wp2_with fail
  refine (HD.out _ HB2.out).mono ?_
  rintro e w2' ⟨rfl, rfl⟩
  go_wp2_with fail
  refine (HM.out _ A m c HMm.out HO.out).mono ?_
  rintro e w3 ⟨rfl, hb3⟩
  have HB3 := Lib.hid (Bt HB2.out hb3)
  clear hb3
  rcases hmc with hmc | hmc
  · have hd : decide (0 ≤ ms) = true := decide_eq_true hmc
    have HR := Lib.hid (H1.out hmc)
    clear hmc
    go_wp2
    go_ret3
    exact ⟨by rw [HR.out]; rfl, HB3.out⟩
  · have hd : decide (0 ≤ ms) = false := decide_eq_false (by omega)
    have HR := Lib.hid (H2.out (by omega))
    clear hmc
    go_wp2
    go_ret3
    exact ⟨by rw [HR.out]; rfl, HB3.out⟩
set_option maxHeartbeats 1000000 in
theorem reduce_err (n : Int) (vs vl : Value) (ls : List (List Int)) (l : List Int) (w : World) (F G : Nat → Prop) (hF : ∀ b, F b → b < w.heap.size) (hG : ∀ b, G b → b < w.heap.size) (hr : SlII F w vs ls) (hl : SlI G w vl l) (he : bothF n ls l ≠ 0) :
    Calls Tryd.prog 27 #[.agg #[.int .i64 n, vs], vl] w fun e w' => e = .returned (.tuple #[.slice none 0 0, .int .i64 (bothF n ls l)]) ∧ Below w.heap.size w w' := by
  have hC : ∀ W, Below w.heap.size w W → Calls Tryd.prog 61 #[.agg #[.int .i64 n, vs], vl] W fun e w' => e = .returned (.int .i64 (bothF n ls l)) ∧ Below W.heap.size W w' :=
    fun W hW => both_any n vs vl ls l W F G (fun b hb => Nat.lt_of_lt_of_le (hF b hb) hW.size) (fun b hb => Nat.lt_of_lt_of_le (hG b hb) hW.size) (hr.keep (Agree.below hW hF)) (hl.keep (Agree.below hW hG))
  obtain ⟨As, cs, rfl, _⟩ := hr.open
  have he' : (bothF n ls l != 0) = true := by simp [he]
  have HC := Lib.hid hC
  generalize bothF n ls l = er at *
  clear hC hr hl he
  go_enter Tryd.func27, Tryd.ntmps27
  go_wp2_with fail
  refine (HC.out _ (Ba (B0 w) _)).mono ?_
  rintro e w1 ⟨rfl, hb1⟩
  have HB := Lib.hid (Bt (Ba (B0 w) _) hb1)
  clear hb1
  go_wp2
  go_ret2
  exact ⟨rfl, HB.out⟩
theorem reduce_step (ws : List Nat) (left : Nat) (ns : List Nat) (k : Nat) (h : k < ns.length) : Hit.reduce ws left (ns.take (k + 1)) =
    if Hit.hit ws (Hit.andn (Hit.reduce ws left (ns.take k)) (Hit.bit ns[k])) then Hit.andn (Hit.reduce ws left (ns.take k)) (Hit.bit ns[k]) else Hit.reduce ws left (ns.take k) := by
  unfold Hit.reduce
  rw [List.take_succ_eq_append_getElem h, List.foldl_append]
  rfl
set_option maxHeartbeats 2000000 in
theorem reduce_ok (n : Int) (vs vl : Value) (ws : List Nat) (hw : ∀ s ∈ ws, s < 4294967296) (hwl : ws.length ≤ 1000) (ns : List Nat) (hns : ∀ x ∈ ns, x < 32) (w : World) (F G : Nat → Prop) (hF : ∀ b, F b → b < w.heap.size) (hG : ∀ b, G b → b < w.heap.size) (hr : SlII F w vs (setsOf ws)) (hl : SlI G w vl (Hit.ints ns)) (he : bothF n (setsOf ws) (Hit.ints ns) = 0) (hT : Tab32 w) :
    Calls Tryd.prog 27 #[.agg #[.int .i64 n, vs], vl] w fun e w' => (Hit.hit ws (Hit.word ns) = false ∧ e = .returned (.tuple #[.slice none 0 0, .int .i64 18]) ∧ Below w.heap.size w w') ∨
      (Hit.hit ws (Hit.word ns) = true ∧ ∃ A m c, e = .returned (.tuple #[.slice A m c, .int .i64 0]) ∧ m = (Hit.members (Hit.reduce ws (Hit.word ns) ns)).length ∧ Own0 w' w.heap.size 3 1 A m c (cellsV vN (Hit.members (Hit.reduce ws (Hit.word ns) ns))) ∧ Below w.heap.size w w') := by
  have hC : ∀ W, Below w.heap.size w W → Calls Tryd.prog 61 #[.agg #[.int .i64 n, vs], vl] W fun e w' => e = .returned (.int .i64 0) ∧ Below W.heap.size W w' :=
    fun W hW => by
      have := both_any n vs vl _ _ W F G (fun b hb => Nat.lt_of_lt_of_le (hF b hb) hW.size) (fun b hb => Nat.lt_of_lt_of_le (hG b hb) hW.size) (hr.keep (Agree.below hW hF)) (hl.keep (Agree.below hW hG))
      rw [he] at this
      exact this
  have hW : ∀ W, Below w.heap.size w W → Calls Tryd.prog 36 #[.agg #[.int .i64 n, vs]] W fun e w' => ∃ A m c, e = .returned (.slice A m c) ∧ m = ws.length ∧ Own0 w' W.heap.size 95 1 A m c (cellsV (vU .u32) ws) ∧ Below W.heap.size W w' :=
    fun W hW => words_any n vs ws hw hwl W F (fun b hb => Nat.lt_of_lt_of_le (hF b hb) hW.size) (hr.keep (Agree.below hW hF))
  have hD : ∀ W, Below w.heap.size w W → Calls Tryd.prog 62 #[vl] W fun e w' => e = .returned (.int .u32 (Hit.word ns : Nat)) ∧ W = w' :=
    fun W hW => word_any vl ns hns W G (hl.keep (Agree.below hW hG))
  have hM : ∀ W A m c x, x < 4294967296 → m = ws.length → Own0 W w.heap.size 95 1 A m c (cellsV (vU .u32) ws) → Calls Tryd.prog 51 #[.slice A m c, .int .u32 ((x : Nat) : Int)] W fun e w' => e = .returned (.int .i64 (missF ws x)) ∧ Below W.heap.size W w' :=
    fun W A m c x hx hm hO => missed_any _ ws hw x hx W (fun b => b < W.heap.size) (fun _ h => h) (hO.words hm (by omega) fun b _ h => h)
  have hl' := hl
  obtain ⟨Al, cl, rfl, _, _, hlat⟩ := hl.open
  rw [ints_length] at *
  obtain ⟨As, cs, rfl, _⟩ := hr.open
  have hx32 : Hit.word ns < 4294967296 := Hit.word_lt (k := 32) hns
  have hsub : ∀ k, Hit.reduce ws (Hit.word ns) (ns.take k) < 4294967296 := fun k => Hit.sub_lt (k := 32) (Hit.reduce_sub ws _ _) hx32
  have HC := Lib.hid hC
  have HW := Lib.hid hW
  have HD := Lib.hid hD
  have HM := Lib.hid hM
  have HT := Lib.hid hT
  clear hC hW hD hM hr hl hl' he hT hw
  go_enter Tryd.func27, Tryd.ntmps27
  go_wp2_with fail
  refine (HC.out _ (Ba (B0 w) _)).mono ?_
  rintro e w1 ⟨rfl, hb1⟩
  have c0 : w1.cell? ⟨w.heap.size, 0, none⟩ = some (.int .i64 n) := (Bc hb1 (by simp)).trans (by simp [go_sem])
  have c1 : w1.cell? ⟨w.heap.size, 1, none⟩ = some (.slice As (setsOf ws).length cs) := (Bc hb1 (by simp)).trans (by simp [go_sem])
  have HB := Lib.hid (Bt (Ba (B0 w) _) hb1)
  clear hb1
  go_wp2_with fail
  refine (HW.out _ HB.out).mono ?_
  rintro e w2 ⟨A, m, c, rfl, hm, hO, hb2⟩
  have HB2 := Lib.hid (Bt HB.out hb2)
  have HO := Lib.hid (hO.more HB.out.size)
  have HMm := Lib.hid hm
  clear hb2 hO hm c0 c1
  go_wp2_with fail
  refine (HD.out _ HB2.out).mono ?_
  rintro e w2' ⟨rfl, rfl⟩
  have hneg := missF_neg ws (Hit.word ns)
  have HX := Lib.hid hx32
  have HNEG := Lib.hid hneg
  generalize hxw : Hit.word ns = x at *
  have HXW := Lib.hid hxw
  clear hneg hx32 hxw
  go_wp2_with fail
  refine (HM.out _ A m c x HX.out HMm.out HO.out).mono ?_
  rintro e w3 ⟨rfl, hb3⟩
  have HB3 := Lib.hid (Bt HB2.out hb3)
  have HO3 := Lib.hid (HO.out.below hb3)
  clear hb3 HO HB2
  cases hh : Hit.hit ws x with
  | false =>
    have hd : decide (0 ≤ missF ws x) = true := decide_eq_true (by
      have := HNEG.out
      rw [hh] at this
      simp at this
      omega)
    have HH := Lib.hid hh
    generalize missF ws x = ms at *
    clear hh hsub hlat
    go_wp2
    go_ret2
    exact .inl ⟨by rw [HXW.out]; exact HH.out, rfl, HB3.out⟩
  | true =>
    have hd : decide (0 ≤ missF ws x) = false := decide_eq_false (by
      have := HNEG.out
      rw [hh] at this
      simp at this
      omega)
    have HH := Lib.hid hh
    clear hh
    obtain ⟨ms, hms⟩ : ∃ ms, missF ws x = ms := ⟨_, rfl⟩
    rw [hms] at hd ⊢
    clear hms
    go_wp2_with fail
    go_loopg [8, 28] ns.length (fun gg s8 s28 wr => ∃ k : Nat, k ≤ ns.length ∧ ns.length - k ≤ gg ∧ s28 = .int .i64 k ∧ s8 = .int .u32 (Hit.reduce ws x (ns.take k) : Nat) ∧ Aside (Own0 wr w.heap.size 95 1 A m c (cellsV (vU .u32) ws)) ∧ Aside (Below w.heap.size w wr))
    case atStart => exact ⟨0, by omega, by omega, rfl, rfl, HO3.out, HB3.out⟩
    case round =>
      obtain ⟨k, hk, hg, rfl, rfl, HO4, HB4⟩ := hrel
      by_cases hlt : k < ns.length
      · have hki : decide ((k : Int) < ns.length) = true := decide_eq_true (by omega)
        obtain ⟨ad, rfl, hf, hc⟩ := hlat k (by rw [ints_length]; exact hlt)
        rw [ints_get] at hc
        have hc' := (HB4.out.cell (p := ad.add k) (by rw [block_of_add]; exact hG _ hf)).trans hc
        have hx := hns ns[k] (List.getElem_mem hlt)
        have hs := reduce_step ws x ns k hlt
        have h1 := Hit.two_u32 ns[k] hx
        have h2 := Hit.u32_andn _ _ (hsub k) (Hit.bit_lt hx)
        have h3 : Hit.andn (Hit.reduce ws x (ns.take k)) (Hit.bit ns[k]) < 4294967296 := Hit.andn_lt (k := 32) (hsub k)
        have hneg := missF_neg ws (Hit.andn (Hit.reduce ws x (ns.take k)) (Hit.bit ns[k]))
        rw [← h1] at h2
        have HS := Lib.hid hs
        have H3 := Lib.hid h3
        have HNG := Lib.hid hneg
        generalize Hit.andn (Hit.reduce ws x (ns.take k)) (Hit.bit ns[k]) = z at *
        have H2 := Lib.hid h2
        generalize Hit.reduce ws x (ns.take k) = lf at *
        generalize ns[k] = y at *
        clear hlat hns hsub h1 hs h3 hc hneg h2
        have h2 := H2.out
        cases hz : Hit.hit ws z with
        | true =>
          have hd2 : decide (missF ws z < 0) = true := decide_eq_true (HNG.out.2 hz)
          have hS : Hit.reduce ws x (ns.take (k + 1)) = z := by rw [HS.out, hz]; rfl
          have HS2 := Lib.hid hS
          have HMz := Lib.hid (HM.out wr A m c z H3.out HMm.out HO4.out)
          generalize missF ws z = ms2 at *
          clear hz hS HS
          go_wp2_with (go_at_call 51; refine HMz.out.mono ?_; rintro e w5 ⟨rfl, hb5⟩; have Q1 := Lib.hid (HO4.out.below hb5); have Q2 := Lib.hid (Bt HB4.out hb5); clear hb5)
          go_roundg (ns.length - (k + 1))
          case measure => omega
          case rel => exact ⟨k + 1, by omega, by omega, by go_num, by rw [HS2.out], Q1.out, Q2.out⟩
        | false =>
          have hd2 : decide (missF ws z < 0) = false := decide_eq_false (fun h => by rw [HNG.out.1 h] at hz; cases hz)
          have hS : Hit.reduce ws x (ns.take (k + 1)) = lf := by rw [HS.out, hz]; rfl
          have HS2 := Lib.hid hS
          have HMz := Lib.hid (HM.out wr A m c z H3.out HMm.out HO4.out)
          generalize missF ws z = ms2 at *
          clear hz hS HS
          go_wp2_with (go_at_call 51; refine HMz.out.mono ?_; rintro e w5 ⟨rfl, hb5⟩; have Q1 := Lib.hid (HO4.out.below hb5); have Q2 := Lib.hid (Bt HB4.out hb5); clear hb5)
          go_roundg (ns.length - (k + 1))
          case measure => omega
          case rel => exact ⟨k + 1, by omega, by omega, by go_num, by rw [HS2.out], Q1.out, Q2.out⟩
      · have hki : decide ((k : Int) < ns.length) = false := decide_eq_false (by omega)
        have : k = ns.length := by omega
        subst this
        have hlast := hsub ns.length
        rw [List.take_length] at hlast ⊢
        have hN := numbers_any _ hlast wr (HT.out.below HB4.out)
        have HN := Lib.hid hN
        generalize hrr : Hit.reduce ws x ns = r at *
        have HRR := Lib.hid hrr
        clear hrr hlat hns hsub hlast hN
        go_wp2_with fail
        refine HN.out.mono ?_
        rintro e w6 ⟨A6, n6, c6, rfl, hn6, hO6, hb6⟩
        have Q0 := Lib.hid hn6
        have Q1 := Lib.hid (hO6.more HB4.out.size)
        have Q2 := Lib.hid (Bt HB4.out hb6)
        clear hn6 hO6 hb6
        go_wp2
        go_ret2
        exact .inr ⟨by rw [HXW.out]; exact HH.out, A6, n6, c6, rfl, by rw [HXW.out, HRR.out]; exact Q0.out, by rw [HXW.out, HRR.out]; exact Q1.out, Q2.out⟩
end Go.Proofs.YthgjhfapnilfhaaDoor
