/- Walks over checker and its statements: Hits and hits, for any problem. -/
import Derived.Test.YtnpdoejjebgcpaaCh
import Derived.Test.YtnpdoejjebgcpaaCe
import Derived.Test.YtnpdoejjebgcpaaQd
namespace Go.Proofs.Ytnpdoejjebgcpaa
open Go Go.RowKit
theorem setsGo_any (n : Int) : ∀ ls : List (List Int), Hit.setsGo n ls ≠ 0 → (ls.any fun l => decide (l = []) || !decide (Hit.listF n l = 0)) = true
  | [], h => absurd rfl h
  | s :: r, h => by
    rw [List.any_cons]
    by_cases h1 : s = []
    · rw [decide_eq_true h1]; rfl
    · by_cases h2 : Hit.listF n s = 0
      · have h' : Hit.setsGo n r ≠ 0 := fun e => h (by unfold Hit.setsGo; rw [if_neg h1, if_neg (by simpa using h2)]; exact e)
        rw [setsGo_any n r h', Bool.or_true]
      · rw [decide_eq_false h2]; simp
theorem hits1P_any (hb : Nat) (n : Int) (l : List Int) (u : Value) (W : World) (F : Nat → Prop) (hc : W.cell? ⟨hb, 0, none⟩ = some (.int .i64 n)) (hu : SlI F W u l) :
    Calls Try.prog 42 #[u, .pointer (some ⟨hb, 0, none⟩)] W fun e w' => e = .returned (.bool (decide (l = []) || !decide (Hit.listF n l = 0))) ∧ W = w' := by
  have hR := riseC_any n u l W F hu
  obtain ⟨A, c, rfl, hc1, hl, hx⟩ := hu.open
  have HR := Lib.hid hR
  generalize decide (Hit.listF n l = 0) = b at *
  by_cases h0 : l = []
  · subst h0
    clear hR hu hx
    go_enter Try.func42, Try.ntmps42
    go_wp2
    go_ret
    exact ⟨rfl, rfl⟩
  · have hpos : 0 < l.length := List.length_pos_iff.2 h0
    have hd : ((l.length : Int) == 0) = false := by simp; omega
    have HZ := Lib.hid (show (decide (l = []) || !b) = !b by rw [decide_eq_false h0]; rfl)
    clear hR hu hx h0
    generalize l.length = len at *
    go_enter Try.func42, Try.ntmps42
    go_wp2_with (go_at_call 22; (with_reducible refine (HR.out.mono ?_)); rintro e w' ⟨rfl, rfl⟩)
    go_ret
    exact ⟨by rw [HZ.out]; rfl, rfl⟩
set_option maxRecDepth 100000 in
set_option maxHeartbeats 4000000 in
theorem hitsNo_any (n : Int) (vs : Value) (At : Option Addr) (m ct : Nat) (ls : List (List Int)) (he : Hit.checkF n ls ≠ 0) (size : Int) (w : World) (F : Nat → Prop) (hF : ∀ b, F b → b < w.heap.size) (hr : SlII F w vs ls) :
    Calls Try.prog 19 #[.agg #[.int .i64 n, vs, .int .i64 size, .slice At m ct]] w fun e w' => e = .returned (.bool false) ∧ Below w.heap.size w w' := by
  have hN := fun W hb (hc : W.cell? ⟨hb, 0, none⟩ = some (.int .i64 n)) (hW : Below w.heap.size w W) => anyS_any (fun l => decide (l = []) || !decide (Hit.listF n l = 0)) vs ls 42 #[.pointer (some ⟨hb, 0, none⟩)] (enters_of Try.func42 (by kernel_rfl) rfl) W F (hr.keep (Agree.below hW hF)) fun u l _ hu => hits1P_any hb n l u W F hc hu
  obtain ⟨As, cs, rfl, hx⟩ := hr.open
  have HA : Hid (∀ W : World, Calls Try.prog 21 #[.int .i64 0, .int .i64 20, .slice (some ⟨W.heap.size, 0, none⟩) 1 1] (W.alloc (.cells #[.int .i64 n] 3)) fun e w' => e = .returned (.bool (decide (0 ≤ n ∧ n ≤ 20))) ∧ Below W.heap.size W w') := Lib.hid fun W => by
    have := within_one 0 20 n W
    rwa [within1_eq] at this
  have HV : Hid (∀ W : World, Calls Try.prog 21 #[.int .i64 0, .int .i64 n, .slice (some ⟨W.heap.size, 0, none⟩) 1 1] (W.alloc (.cells #[.int .i64 size] 3)) fun e w' => e = .returned (.bool (decide (0 ≤ size ∧ size ≤ n))) ∧ Below W.heap.size W w') := Lib.hid fun W => by
    have := within_one 0 n size W
    rwa [within1_eq] at this
  have HZ : Hid (∀ W : World, Calls Try.prog 21 #[.int .i64 1, .int .i64 100000, .slice (some ⟨W.heap.size, 0, none⟩) 1 1] (W.alloc (.cells #[.int .i64 m] 3)) fun e w' => e = .returned (.bool (decide ((1 : Int) ≤ m ∧ (m : Int) ≤ 100000))) ∧ Below W.heap.size W w') := Lib.hid fun W => by
    have := within_one 1 100000 m W
    rwa [within1_eq] at this
  have hq : ¬ (0 ≤ n ∧ n ≤ 20) ∨ ((0 ≤ n ∧ n ≤ 20) ∧ ls.length > 100) ∨ ((0 ≤ n ∧ n ≤ 20) ∧ ls.length ≤ 100 ∧ (ls.any fun l => decide (l = []) || !decide (Hit.listF n l = 0)) = true) := by
    unfold Hit.checkF at he
    by_cases h1 : n < 0 ∨ n > 20
    · exact .inl (by omega)
    · rw [if_neg h1] at he
      by_cases h2 : ls.length > 100
      · exact .inr (.inl ⟨by omega, h2⟩)
      · rw [if_neg h2] at he
        exact .inr (.inr ⟨by omega, by omega, setsGo_any n ls he⟩)
  have HN := Lib.hid hN
  clear hr hx hN he
  generalize hll : ls.length = ll at *
  clear hll
  generalize (ls.any fun l => decide (l = []) || !decide (Hit.listF n l = 0)) = an at *
  go_enter Try.func19, Try.ntmps19
  go_wp2_with fail
  obtain ⟨w1, hw1⟩ : ∃ w1 : World, (w.alloc (.cells #[.int .i64 n, .slice As ll cs, .int .i64 size, .slice At m ct] 70)) = w1 := ⟨_, rfl⟩
  have e0 : w1.cell? ⟨w.heap.size, 0, none⟩ = some (.int .i64 n) := by rw [← hw1]; simp [go_sem]
  have e1 : w1.cell? ⟨w.heap.size, 1, none⟩ = some (.slice As ll cs) := by rw [← hw1]; simp [go_sem]
  have e2 : w1.cell? ⟨w.heap.size, 2, none⟩ = some (.int .i64 size) := by rw [← hw1]; simp [go_sem]
  have e3 : w1.cell? ⟨w.heap.size, 3, none⟩ = some (.slice At m ct) := by rw [← hw1]; simp [go_sem]
  have hs1 : w.heap.size < w1.heap.size := by rw [← hw1]; simp
  have hB1 : Below w.heap.size w w1 := by rw [← hw1]; exact Ba (B0 w) _
  have hsz : w1.heap.size = w.heap.size + 1 := by rw [← hw1]; simp
  rw [hw1]
  clear hw1
  have k : ∀ W, Below w1.heap.size w1 W → W.cell? ⟨w.heap.size, 0, none⟩ = some (.int .i64 n) ∧ W.cell? ⟨w.heap.size, 1, none⟩ = some (.slice As ll cs) ∧ W.cell? ⟨w.heap.size, 2, none⟩ = some (.int .i64 size) ∧ W.cell? ⟨w.heap.size, 3, none⟩ = some (.slice At m ct) := fun W hW =>
    ⟨(Bc hW hs1).trans e0, (Bc hW hs1).trans e1, (Bc hW hs1).trans e2, (Bc hW hs1).trans e3⟩
  have K := Lib.hid k
  have HB1 := Lib.hid hB1
  have HA1 := HA.out w1
  rw [hsz] at HA1
  (with_reducible refine (HA1.mono ?_))
  rintro e w2 ⟨rfl, hb2⟩
  rw [← hsz] at hb2
  obtain ⟨k0, k1, k2, k3⟩ := K.out _ hb2
  have HB2 := Lib.hid hb2
  clear k hB1 HA1 hsz e0 e1 e2 e3 hb2 HA
  rcases hq with h1 | ⟨h1, h2⟩ | ⟨h1, h2, h3⟩
  · rw [decide_eq_false h1]
    clear h1
    go_wp2_with fail
    go_ret
    exact ⟨rfl, Bt HB1.out HB2.out⟩
  · rw [decide_eq_true h1]
    have d1 : decide ((100 : Int) < (ll : Int)) = true := decide_eq_true (by omega)
    have d1n : decide (100 < ll) = true := decide_eq_true (by omega)
    clear h1 h2
    go_wp2_with fail
    go_ret
    exact ⟨rfl, Bt HB1.out HB2.out⟩
  · subst h3
    rw [decide_eq_true h1]
    have d1 : decide ((100 : Int) < (ll : Int)) = false := decide_eq_false (by omega)
    have d1n : decide (100 < ll) = false := decide_eq_false (by omega)
    clear h1 h2
    go_wp2_with fail
    (with_reducible refine ((HV.out w2).mono ?_))
    rintro e w3 ⟨rfl, hb3⟩
    obtain ⟨e0, e1, e2, e3⟩ := K.out _ (Bt HB2.out hb3)
    have HB3 := Lib.hid (Bt HB2.out hb3)
    clear k0 k1 k2 k3 hb3 HV
    cases decide (0 ≤ size ∧ size ≤ n) with
    | false =>
      go_wp2_with fail
      go_ret
      exact ⟨rfl, Bt HB1.out HB3.out⟩
    | true =>
      go_wp2_with fail
      (with_reducible refine ((HZ.out w3).mono ?_))
      rintro e w4 ⟨rfl, hb4⟩
      obtain ⟨k0, k1, k2, k3⟩ := K.out _ (Bt HB3.out hb4)
      have HB4 := Lib.hid (Bt HB1.out (Bt HB3.out hb4))
      have HC := Lib.hid (HN.out w4 w.heap.size k0 HB4.out)
      clear e0 e1 e2 e3 hb4 HZ
      cases decide ((1 : Int) ≤ m ∧ (m : Int) ≤ 100000) with
      | false =>
        go_wp2_with fail
        go_ret
        exact ⟨rfl, HB4.out⟩
      | true =>
        go_wp2_with (go_at_call 41; (with_reducible refine (HC.out.mono ?_)); rintro e w5 ⟨rfl, rfl⟩)
        go_ret
        exact ⟨rfl, HB4.out⟩
set_option maxRecDepth 100000 in
set_option maxHeartbeats 4000000 in
theorem hitsG_any (n : Int) (m c : Nat) (A : Option Addr) (size : Int) (At : Option Addr) (mt ct : Nat) (b : Bool) (vf : Int) (hq : (b = true ∧ (vf == 0) = true) ∨ (b = false ∧ (vf == 0) = false)) (w : World)
    (hH : ∀ W, Below w.heap.size w W → Calls Try.prog 19 #[.agg #[.int .i64 n, .slice A m c, .int .i64 size, .slice At mt ct]] W fun e w' => e = .returned (.bool b) ∧ Below W.heap.size W w')
    (hV : ∀ W, Below w.heap.size w W → Calls Try.prog 20 #[.agg #[.int .i64 n, .slice A m c], .int .i64 size, .slice At mt ct] W fun e w' => e = .returned (.int .i64 vf) ∧ Below W.heap.size W w') :
    Calls Try.prog 9 #[.agg #[.int .i64 n, .slice A m c], .int .i64 size, .slice At mt ct] w fun e w' => e = .returned (.bool true) ∧ Below w.heap.size w w' := by
  have HH := Lib.hid hH
  have HV := Lib.hid hV
  clear hH hV
  rcases hq with ⟨rfl, q2⟩ | ⟨rfl, q2⟩
  all_goals
    go_enter Try.func9, Try.ntmps9
    go_upto_region 1 with fail
    have hb1 := Ba (B0 w) (.cells #[.int .i64 n, .slice A m c] 38)
    have c0 : (w.alloc (.cells #[.int .i64 n, .slice A m c] 38)).cell? ⟨w.heap.size, 0, none⟩ = some (.int .i64 n) := by simp [go_sem]
    have c1 : (w.alloc (.cells #[.int .i64 n, .slice A m c] 38)).cell? ⟨w.heap.size, 1, none⟩ = some (.slice A m c) := by simp [go_sem]
    have hs1 : w.heap.size < (w.alloc (.cells #[.int .i64 n, .slice A m c] 38)).heap.size := by simp
    generalize (w.alloc (.cells #[.int .i64 n, .slice A m c] 38)) = w1 at *
    have HB1 := Lib.hid hb1
    clear hb1
    go_region_held3 (fun w' => Below w1.heap.size w1 w' ∧ w'.cell? ⟨w.heap.size, 0, none⟩ = some (.int .i64 n) ∧ w'.cell? ⟨w.heap.size, 1, none⟩ = some (.slice A m c))
      (first | exact ⟨(B0 _).drew, c0, c1⟩ | exact ⟨hbn, (Bc hbn hs1).trans c0, (Bc hbn hs1).trans c1⟩)
      (first
        | (go_at_call 19; refine (HH.out _ (Bt HB1.out (B0 w1).drew)).mono ?_; rintro e w4 ⟨rfl, hb4⟩; have hbn := Bt (B0 w1).drew hb4)
        | (go_at_call 20; refine (HV.out _ (Bt HB1.out hbn)).mono ?_; rintro e w5 ⟨rfl, hb5⟩; have hbn := Bt hbn hb5))
    go_wp2_with fail
    go_ret
    exact ⟨rfl, Bt HB1.out hbn⟩
/-- hits, for any problem. -/
theorem hitsP_any (n : Int) (vs vt : Value) (ls : List (List Int)) (size : Int) (t : List Hit.TNode) (htl : t.length ≤ 1000000) (hll : ∀ x ∈ t, x.weights.length ≤ 1000000) (w : World) (F G : Nat → Prop) (hF : ∀ b, F b → b < w.heap.size) (hG : ∀ b, G b → b < w.heap.size) (hr : SlII F w vs ls) (ht : SlT G w vt t) :
    Calls Try.prog 9 #[.agg #[.int .i64 n, vs], .int .i64 size, vt] w fun e w' => e = .returned (.bool true) ∧ Below w.heap.size w w' := by
  have kF : ∀ W, Below w.heap.size w W → ∀ b, F b → b < W.heap.size := fun W hW b hb => Nat.lt_of_lt_of_le (hF b hb) hW.size
  have kG : ∀ W, Below w.heap.size w W → ∀ b, G b → b < W.heap.size := fun W hW b hb => Nat.lt_of_lt_of_le (hG b hb) hW.size
  by_cases he : Hit.checkF n ls = 0
  · obtain ⟨m, ws, rfl, hm, rfl, hwl, hg⟩ := Hit.checkF_ok he
    have hV := fun W (hW : Below w.heap.size w W) => verify_any m hm vs vt ws hg hwl size t htl hll W F G (kF W hW) (kG W hW) (hr.keep (Agree.below hW hF)) (ht.keep (Agree.below hW hG))
    have hsl := setsOf_length ws
    have hH := fun W (hW : Below w.heap.size w W) As cs At ct (e1 : vs = .slice As ws.length cs) (e2 : vt = .slice At t.length ct) => hitsC_any m hm As cs At ct ws hg hwl size t htl hll W F G (kF W hW) (kG W hW) (by rw [← e1]; exact hr.keep (Agree.below hW hF)) (by rw [← e2]; exact ht.keep (Agree.below hW hG))
    obtain ⟨As, cs, rfl, _⟩ := hr.open
    obtain ⟨At, ct, rfl, _⟩ := ht.open
    refine hitsG_any m _ cs As size At _ ct (decide (Hit.verifyF ws m size t = 0)) (Hit.verifyF ws m size t) ?_ w (fun W hW => ?_) hV
    · by_cases h : Hit.verifyF ws m size t = 0
      · exact .inl ⟨decide_eq_true h, by rw [h]; rfl⟩
      · exact .inr ⟨decide_eq_false h, by simpa using h⟩
    · have := hH W hW As cs At ct (by rw [← hsl]; rfl) rfl
      rw [← hsl] at this
      exact this
  · have hH := fun W (hW : Below w.heap.size w W) At m ct => hitsNo_any n vs At m ct ls he size W F (kF W hW) (hr.keep (Agree.below hW hF))
    have hV := fun W (hW : Below w.heap.size w W) At m ct => verify_err n vs size At m ct ls W F (kF W hW) (hr.keep (Agree.below hW hF)) he
    obtain ⟨As, cs, rfl, _⟩ := hr.open
    obtain ⟨At, ct, rfl, _⟩ := ht.open
    exact hitsG_any n _ cs As size At _ ct false (Hit.checkF n ls) (.inr ⟨rfl, by simpa using he⟩) w (fun W hW => hH W hW _ _ _) fun W hW => hV W hW _ _ _
end Go.Proofs.Ytnpdoejjebgcpaa
