/- Walks over the statements of hitting: HittingMany. -/
import Derived.Test.YthgjhfapnilfhaaDoorMa
import Derived.Test.YthgjhfapnilfhaaDoorMb
import Derived.Test.YthgjhfapnilfhaaDoorGp
namespace Go.Proofs.YthgjhfapnilfhaaDoor
open Go Go.RowKit
theorem SlI.pair {F : Nat → Prop} {W : World} {b : Nat} {x y : Int} (h0 : W.cell? ⟨b, 0, none⟩ = some (.int .i64 x)) (h1 : W.cell? ⟨b, 1, none⟩ = some (.int .i64 y)) (hF : F b) : SlI F W (.slice (some ⟨b, 0, none⟩) 2 2) [x, y] := by
  refine ⟨_, 2, rfl, by simp, by simp, fun i hi => ?_⟩
  have hi' : i < 2 := by simpa using hi
  rcases (show i = 0 ∨ i = 1 by omega) with rfl | rfl
  · refine ⟨_, [.int .i64 x], rfl, hF, rfl, rfl, fun j u hu => ?_⟩
    cases j with
    | zero => simp at hu; subst hu; simpa [Addr.add] using h0
    | succ j => simp at hu
  · refine ⟨_, [.int .i64 y], rfl, hF, rfl, rfl, fun j u hu => ?_⟩
    cases j with
    | zero => simp at hu; subst hu; simpa [Addr.add] using h1
    | succ j => simp at hu
theorem pairs_sets (i : Nat) (hi : i < 9) : setsOf (Hit.pairsW (i + 1)) = setsOf (Hit.pairsW i) ++ [[((2 * i : Nat) : Int), ((2 * i + 1 : Nat) : Int)]] := by
  rw [Hit.pairs_succ, setsOf_append]
  have := Hit.pair_members ⟨i, hi⟩
  simp only [setsOf, List.map_cons, List.map_nil] at this ⊢
  rw [this]
  rfl
namespace Prob
variable {v : Value} {B : Nat} {w : World}
theorem proveM {n : Nat} (h0 : 0 < n) (h9 : n ≤ 9) (h : Prob (2 * n) v (Hit.pairsW n) B w) (hp : Hit.pop (Hit.least (Hit.pairsW n) (2 * n)) = n) : Calls Tryd.prog 10 #[.agg #[.int .i64 ((2 * n : Nat) : Int), v], .int .i64 n] w fun e w' => ∃ A c, e = .returned (.tuple #[.slice A 1 c, .int .i64 0]) ∧
    SlT (fun b => b < w'.heap.size) w' (.slice A 1 c) (Prob.tr (Hit.pairsW n) (2 * n) n) ∧ Below w.heap.size w w' := by
  have hl : (Prob.tr (Hit.pairsW n) (2 * n) (n : Int)).length = 1 := by
    have := Hit.pairs_tree9 ⟨n - 1, by omega⟩
    simp only [show n - 1 + 1 = n by omega] at this
    exact this
  refine (h.proveC (size := (n : Int)) (by omega) (by omega) (by rw [hp]; omega)).mono ?_
  rintro e w' ⟨pb, vs, A, c, rfl, _, hP, hb⟩
  rw [hl] at hP ⊢
  exact ⟨A, c, rfl, (hP.slt (by omega)).wider fun b h => h.2, hb⟩
theorem verifyM {n : Nat} (h0 : 0 < n) (h9 : n ≤ 9) (h : Prob (2 * n) v (Hit.pairsW n) B w) (vt : Value) (ht : SlT (fun b => b < w.heap.size) w vt (Prob.tr (Hit.pairsW n) (2 * n) n)) : Calls Tryd.prog 29 #[.agg #[.int .i64 ((2 * n : Nat) : Int), v], .int .i64 n, vt] w fun e w' => e = .returned (.int .i64 0) ∧ Below w.heap.size w w' := by
  have hl : (Prob.tr (Hit.pairsW n) (2 * n) (n : Int)).length = 1 := by
    have := Hit.pairs_tree9 ⟨n - 1, by omega⟩
    simp only [show n - 1 + 1 = n by omega] at this
    exact this
  have hv : Hit.verifyF (Hit.pairsW n) (2 * n) (n : Int) (Prob.tr (Hit.pairsW n) (2 * n) n) = 0 := by
    have := Hit.pairs_verify9 ⟨n - 1, by omega⟩
    simp only [show n - 1 + 1 = n by omega] at this
    exact this
  have := h.verifyC (n : Int) vt _ (by omega) (fun x hx => by have := h.weights (n : Int) x hx; omega) ht
  rwa [hv] at this
end Prob
set_option maxRecDepth 200000 in
set_option maxHeartbeats 8000000 in
theorem law_many (pr lm : Nat) (w : World) (hT : Tab32 w) (hTP : TabP w) :
    Calls Tryd.prog 7 #[.int .u8 pr, .int .u16 lm] w fun e w' => e = .returned (.bool true) ∧ Below w.heap.size w w' := by
  have hK : ∀ W, Below w.heap.size w W → Calls Tryd.prog 17 #[] W fun e w' => e = .returned (.bool true) ∧ Below W.heap.size W w' := fun W hW => known_any W (hT.below hW)
  obtain ⟨n, hn⟩ : ∃ n, 1 + pr % 9 = n := ⟨_, rfl⟩
  obtain ⟨most, hmost⟩ : ∃ most, 1 + lm % 1000 = most := ⟨_, rfl⟩
  have hn0 : 0 < n := by omega
  have hn9 : n ≤ 9 := by omega
  have hm0 : 1 ≤ most := by omega
  have hm1 : most ≤ 1000 := by omega
  have e1 : (pr : Int).tmod 9 = ((n - 1 : Nat) : Int) := by have : (pr : Int).tmod 9 = ((pr % 9 : Nat) : Int) := rfl; omega
  have e2 : (lm : Int).tmod 1000 = ((most - 1 : Nat) : Int) := by have : (lm : Int).tmod 1000 = ((lm % 1000 : Nat) : Int) := rfl; omega
  have HK := Lib.hid hK
  have HT := Lib.hid hT
  have HTP := Lib.hid hTP
  clear hK hT hTP hn hmost
  go_enter Tryd.func7, Tryd.ntmps7
  go_upto_region 4 with (go_at_call 17; refine (HK.out _ (B0 w)).mono ?_; rintro e w1 ⟨rfl, hb1⟩; have HB1 := Lib.hid hb1; clear hb1)
  have hn1 : (1 : Int) + ((n - 1 : Nat) : Int) = n := by omega
  have hm1' : (1 : Int) + ((most - 1 : Nat) : Int) = most := by omega
  obtain ⟨N, hN⟩ : ∃ N, 2 * n = N := ⟨_, rfl⟩
  have h2n : (2 : Int) * (n : Int) = (N : Int) := by omega
  rw [hn1, hm1']
  clear hn1 hm1' e1 e2
  go_upto_region 5 with fail
  have hblk : Blk (w1.alloc (.cells #[.int .i64 N, .slice none 0 0] 30)) w1.heap.size 30 #[.int .i64 N, .slice none 0 0] := Blk.new _ _ _
  have hb2 := Ba HB1.out (.cells #[.int .i64 N, .slice none 0 0] 30)
  have hb12 := Ba (B0 w1) (.cells #[.int .i64 N, .slice none 0 0] 30)
  generalize (w1.alloc (.cells #[.int .i64 N, .slice none 0 0] 30)) = w2 at *
  obtain ⟨pb, hpb⟩ : ∃ pb, w1.heap.size = pb := ⟨_, rfl⟩
  have hwpb : w.heap.size ≤ pb := by rw [← hpb]; exact HB1.out.size
  rw [hpb] at hblk hb12 ⊢
  have HP0 : Hid (PM pb (N : Int) w2 (.slice none 0 0) (setsOf (Hit.pairsW 0))) := Lib.hid ⟨hblk, OwnL.nil⟩
  have HB2 := Lib.hid hb2
  have HB12 := Lib.hid hb12
  have HPB := Lib.hid hpb
  have hpl := hblk.lt
  clear hblk hb2 hb12 hpb h2n
  go_wp2_with fail
  go_loopg [8] n (fun gg s8 wr => ∃ i : Nat, i ≤ n ∧ n - i ≤ gg ∧ s8 = .int .i64 i ∧ Aside (∃ v, PM pb (N : Int) wr v (setsOf (Hit.pairsW i))) ∧ Aside (Below w.heap.size w wr))
  case atStart => exact ⟨0, by omega, by omega, rfl, ⟨_, HP0.out⟩, HB2.out⟩
  case round =>
    obtain ⟨i, hi, hg, rfl, ⟨v, hP⟩, HB⟩ := hrel
    obtain ⟨A, c, rfl⟩ := hP.form
    have hlen : (setsOf (Hit.pairsW i)).length = i := by rw [setsOf_length, Hit.pairs_len]
    rw [hlen] at hP
    have kp0 := hP.blk.cell 0
    have kp1 := hP.blk.cell 1
    have fp1 := hP.blk.frozen 1
    have hprl := hP.lt
    simp at kp0 kp1
    by_cases hlt : i < n
    · have hki : decide ((i : Int) < n) = true := decide_eq_true (by omega)
      have hst := pairs_sets i (by omega)
      obtain ⟨I, hI⟩ : ∃ I, 2 * i = I := ⟨_, rfl⟩
      have hmul : (2 : Int) * (i : Int) = (I : Int) := by omega
      have hI18 : I ≤ 18 := by omega
      rw [hI] at hst
      obtain ⟨cs, hc1, hc2, hc3⟩ := hP.own
      have HPP := Lib.hid hP
      have HC1 := Lib.hid hc1
      have HC2 := Lib.hid hc2
      have HC3 := Lib.hid hc3
      have HKB := Lib.hid hP.blk
      have hfl : Flds ((wr.alloc (.cells #[.int .i64 I, .int .i64 ((I : Int) + 1)] 3)).alloc (.cells #[.slice (some ⟨wr.heap.size, 0, none⟩) 2 2] 37)) ⟨wr.heap.size + 1, 0, none⟩ [.slice (some ⟨wr.heap.size, 0, none⟩) 2 2] := by
        have := Flds.new (wr.alloc (.cells #[.int .i64 I, .int .i64 ((I : Int) + 1)] 3)) [.slice (some ⟨wr.heap.size, 0, none⟩) 2 2] 37
        simpa using this
      have hu : SlI (fun b => wr.heap.size ≤ b ∧ b < ((wr.alloc (.cells #[.int .i64 I, .int .i64 ((I : Int) + 1)] 3)).alloc (.cells #[.slice (some ⟨wr.heap.size, 0, none⟩) 2 2] 37)).heap.size) ((wr.alloc (.cells #[.int .i64 I, .int .i64 ((I : Int) + 1)] 3)).alloc (.cells #[.slice (some ⟨wr.heap.size, 0, none⟩) 2 2] 37)) (.slice (some ⟨wr.heap.size, 0, none⟩) 2 2) [(I : Int), ((I + 1 : Nat) : Int)] :=
        SlI.pair (by simp [go_sem]) (by simp [go_sem]) ⟨Nat.le_refl _, by simp; omega⟩
      have hown : ((wr.alloc (.cells #[.int .i64 I, .int .i64 ((I : Int) + 1)] 3)).alloc (.cells #[.slice (some ⟨wr.heap.size, 0, none⟩) 2 2] 37)).ownsRow (pb + 1) 37 1 (.slice A i c) i cs.flatten := by
        have := hc3
        rw [hlen] at this
        exact (this.alloc _).alloc _
      have HFL := Lib.hid hfl
      have HU := Lib.hid hu
      have HOW := Lib.hid hown
      clear hP hc1 hc2 hc3 hfl hu hown
      go_wp2_with (at_builtin; refine wpList_appS elemS (by omega) rfl _ _ rfl (pb + 1) (.slice A i c) i cs.flatten rfl HOW.out ⟨wr.heap.size + 1, 0, none⟩ 1 [.slice (some ⟨wr.heap.size, 0, none⟩) 2 2] rfl rfl HFL.out (by simp [Value.oneCell']) (by omega) (by omega) (by simp; omega) ?_; intro g cap w7 q1 q2 q3; have hk7 := ((HKB.out.alloc _).alloc _).grown q2 (fun e => by have := (HOW.out.lt _ e.symm).1; omega); have k7 := hk7.cell 1; have f7 := hk7.frozen 1; simp at k7; have HO7 := Lib.hid q1; have HG7 := Lib.hid q2; have HA7 := Lib.hid q3; clear hk7 q1 q2 q3)
      have hP7 := PM.append (w := wr) HKB.out HC1.out HC2.out HC3.out (Ba (Ba (B0 wr) (.cells #[.int .i64 I, .int .i64 ((I : Int) + 1)] 3)) (.cells #[.slice (some ⟨wr.heap.size, 0, none⟩) 2 2] 37)) (by rw [hlen]; exact HO7.out) HG7.out HA7.out HU.out
      rw [hlen, ← hst] at hP7
      have hB7 : Below w.heap.size w (w7.setCell ⟨pb, 1, none⟩ (.slice (some ⟨g, 0, none⟩) (i + 1) cap)) :=
        Bs ((Ba (Ba HB.out (.cells #[.int .i64 I, .int .i64 ((I : Int) + 1)] 3)) (.cells #[.slice (some ⟨wr.heap.size, 0, none⟩) 2 2] 37)).grown HG7.out (by have := HB.out.size; simp; omega) (fun k hk => by have := (HOW.out.lt k hk).1; omega)) _ hwpb
      go_roundg (n - (i + 1))
      case measure => omega
      case rel => exact ⟨i + 1, by omega, by omega, by go_num, ⟨_, hP7⟩, hB7⟩
    · obtain rfl : i = n := by omega
      have hki : decide ((i : Int) < i) = false := decide_eq_false (by omega)
      have hPr : Prob (2 * i) (.slice A i c) (Hit.pairsW i) wr.heap.size wr := ⟨by omega, Hit.pairs_good hn0 hn9, by rw [Hit.pairs_len]; omega, Nat.le_refl _, (hP.sl (by rw [hlen]; omega)).wider (fun b h => h.2), HT.out.below HB.out⟩
      have hTw := HTP.out.below HB.out
      have k : ∀ W, Below wr.heap.size wr W → W.cell? ⟨pb, 0, none⟩ = some (.int .i64 N) ∧ W.cell? ⟨pb, 1, none⟩ = some (.slice A i c) := fun W hW => ⟨(Bc hW hprl).trans kp0, (Bc hW hprl).trans kp1⟩
      have hev : Hit.members (Hit.least (Hit.pairsW i) (2 * i)) = (List.range i).map (2 * ·) := by
        have := Hit.pairs_least9 ⟨i - 1, by omega⟩
        simp only [show i - 1 + 1 = i by omega] at this
        exact this
      have hpop : Hit.pop (Hit.least (Hit.pairsW i) (2 * i)) = i := by unfold Hit.pop; rw [hev]; simp
      have hLe := fun W (hW : Below wr.heap.size wr W) => ((hPr.on hW).leastC).mono fun e w' h => (show ∃ A4 c4, e = .returned (.tuple #[.slice A4 i c4, .int .i64 0]) ∧ SlI (fun b => b < w'.heap.size) w' (.slice A4 i c4) (Hit.ints ((List.range i).map (2 * ·))) ∧ Below W.heap.size W w' by
        rw [hpop, hev] at h
        obtain ⟨A4, c4, q1, q2, q3⟩ := h
        exact ⟨A4, c4, q1, q2.mono fun b h => h.2, q3⟩)
      have hCo := fun W (hW : Below wr.heap.size wr W) => (hPr.on hW).countC (hTw.below hW)
      rw [Hit.pairs_count, itoaI_nat] at hCo
      have hPv := fun W (hW : Below wr.heap.size wr W) => (hPr.on hW).proveM hn0 hn9 hpop
      have hVe := fun W (hW : Below wr.heap.size wr W) (vt : Value) (ht : SlT (fun b => b < W.heap.size) W vt (Prob.tr (Hit.pairsW i) (2 * i) i)) => (hPr.on hW).verifyM hn0 hn9 vt ht
      have hPw := fun W (hW : Below wr.heap.size wr W) => power_any i hn9 W (hTw.below hW)
      have hAl := fun W (hW : Below wr.heap.size wr W) => all_any (2 * i) (hPr.on hW).le (.slice A i c) (Hit.pairsW i) hPr.good hPr.len (most : Int) W (fun b => b < wr.heap.size) (hPr.on hW).inW (hPr.on hW).sets (hPr.on hW).tab
      unfold AllP at hAl
      rw [Hit.pairs_lists] at hAl
      have heg : ∀ j (hj : j < (Hit.ints ((List.range i).map (2 * ·))).length), (Hit.ints ((List.range i).map (2 * ·)))[j] = ((2 * j : Nat) : Int) := fun j hj => by simp [Hit.ints]
      have hel : (Hit.ints ((List.range i).map (2 * ·))).length = i := by simp [Hit.ints]
      have hT512 : 2 ^ i ≤ 512 := Nat.pow_le_pow_right (n := 2) (by decide) hn9
      have hsh : (2 : Int) ^ i = ((2 ^ i : Nat) : Int) := by simp
      obtain ⟨T, hTT⟩ : ∃ T, 2 ^ i = T := ⟨_, rfl⟩
      rw [hTT] at hAl hT512 hsh
      obtain ⟨s3, hs3⟩ : ∃ s3, itoaI ((3 ^ i : Nat) : Int) = s3 := ⟨_, rfl⟩
      rw [hs3] at hCo hPw
      rw [hN] at hLe hCo hPv hVe hAl
      have i64 : (i : Int) % 18446744073709551616 = i := by omega
      have i64b : min i 64 = i := by omega
      have hwT : IntKind.i64.wrap (T : Int) = T := IntWalk.i64_in _ (by omega)
      generalize Hit.ints ((List.range i).map (2 * ·)) = EV at *
      have K := Lib.hid k
      have HLE := Lib.hid hLe
      have HCO := Lib.hid hCo
      have HPV := Lib.hid hPv
      have HVE := Lib.hid hVe
      have HPW := Lib.hid hPw
      have HEG := Lib.hid heg
      have HEL := Lib.hid hel
      have k0 := kp0
      have k1 := kp1
      clear hLe hCo hPv hVe hPw heg hel k hPr hTw hev hpop hP hTT hs3 hN hlen HP0 HB12 HPB kp0 kp1 fp1
      by_cases hov : (most : Int) < T
      · have hA2 : ∀ W, Below wr.heap.size wr W → Calls Tryd.prog 20 #[.agg #[.int .i64 N, .slice A i c], .int .i64 most] W fun e w' => e = .returned (.tuple #[.slice none 0 0, .int .i64 4]) ∧ Below W.heap.size W w' := fun W hW => (hAl W hW).mono fun e w' ⟨hb, h⟩ => ⟨by
          rcases h with ⟨h1, _⟩ | ⟨_, h⟩ | ⟨⟨h1, h2, h3⟩, _⟩
          · omega
          · exact h
          · omega, hb⟩
        have HAL := Lib.hid hA2
        have hq3 : decide ((most : Int) < (T : Int)) = true := decide_eq_true hov
        have hq3n : decide (most < T) = true := decide_eq_true (by omega)
        clear hAl hA2 hov
        go_wp2_with (first
          | (go_at_call 18; (with_reducible refine ((HLE.out _ (B0 wr)).mono ?_)); rintro e w4 ⟨A4, c4, rfl, hs4, hb4⟩; have HS4 := Lib.hid hs4; have HB4 := Lib.hid hb4; obtain ⟨k40, k41⟩ := K.out _ hb4; clear hb4 hs4 k0 k1)
          | (go_at_call 19; (with_reducible refine ((HCO.out _ HB4.out).mono ?_)); rintro e w5 ⟨rfl, hb5⟩; have HS5 := Lib.hid (SlI.on HS4.out hb5); have HB5 := Lib.hid (Bt HB4.out hb5); obtain ⟨k50, k51⟩ := K.out _ (Bt HB4.out hb5); clear hb5 k40 k41)
          | (go_at_call 10; (with_reducible refine ((HPV.out _ HB5.out).mono ?_)); rintro e w6 ⟨A6, c6, rfl, ht6, hb6⟩; have HT6 := Lib.hid ht6; have HS6 := Lib.hid (SlI.on HS5.out hb6); have HB6 := Lib.hid (Bt HB5.out hb6); obtain ⟨k60, k61⟩ := K.out _ (Bt HB5.out hb6); clear hb6 k50 k51 ht6)
          | (go_at_call 20; (with_reducible refine ((HAL.out _ HB6.out).mono ?_)); rintro e w7 ⟨rfl, hb7⟩; have HT7 := Lib.hid (SlT.on HT6.out hb7); have HS7 := Lib.hid (SlI.on HS6.out hb7); have HB7 := Lib.hid (Bt HB6.out hb7); obtain ⟨k70, k71⟩ := K.out _ (Bt HB6.out hb7); clear hb7 k60 k61)
          | (go_at_call 28; (with_reducible refine ((HPW.out _ HB7.out).mono ?_)); rintro e w8 ⟨rfl, hb8⟩; have HT8 := Lib.hid (SlT.on HT7.out hb8); have HS8 := Lib.hid (SlI.on HS7.out hb8); have HB8 := Lib.hid (Bt HB7.out hb8); obtain ⟨k80, k81⟩ := K.out _ (Bt HB7.out hb8); clear hb8 k70 k71)
          | (go_at_call 29; (with_reducible refine ((HVE.out _ HB8.out _ HT8.out).mono ?_)); rintro e w9 ⟨rfl, hb9⟩; have HS9 := Lib.hid (SlI.on HS8.out hb9); have HB9 := Lib.hid (Bt HB8.out hb9); clear hb9 k80 k81))
        go_loopg [17] i (fun gg s17 wx => ∃ j : Nat, j ≤ i ∧ i - j ≤ gg ∧ s17 = .int .i64 j ∧ Aside (Below w9.heap.size w9 wx))
        case atStart => exact ⟨0, by omega, by omega, rfl, B0 w9⟩
        case round =>
          obtain ⟨j, hj, hg, rfl, HBj⟩ := hrel
          by_cases hlt : j < i
          · have hji : decide ((j : Int) < i) = true := decide_eq_true (by omega)
            have hjI : (j : Int) < i := by omega
            obtain ⟨J, hJ⟩ : ∃ J, 2 * j = J := ⟨_, rfl⟩
            have hmul : (2 : Int) * (j : Int) = (J : Int) := by omega
            have hJ18 : J ≤ 18 := by omega
            have hSa := SlI.on HS9.out HBj.out
            obtain ⟨A8', c8', hv8, _, _, hat8⟩ := hSa.open
            injection hv8 with r1 r2 r3
            subst r1; subst r3
            obtain ⟨ad8, hA8, _, hc8⟩ := hat8 j (by rw [HEL.out]; exact hlt)
            subst hA8
            rw [HEG.out, hJ] at hc8
            clear hat8 hSa r2
            go_wp2_with fail
            go_roundg (i - (j + 1))
            case measure => omega
            case rel => exact ⟨j + 1, by omega, by omega, by go_num, HBj.out⟩
          · obtain rfl : j = i := by omega
            have hji : decide ((j : Int) < j) = false := decide_eq_false (by omega)
            go_wp2_with fail
            go_ret
            exact ⟨rfl, Bt HB.out (Bt HB9.out HBj.out)⟩
      · have hA2 : ∀ W, Below wr.heap.size wr W → Calls Tryd.prog 20 #[.agg #[.int .i64 N, .slice A i c], .int .i64 most] W fun e w' => ∃ A c, e = .returned (.tuple #[.slice A T c, .int .i64 0]) ∧ Below W.heap.size W w' := fun W hW => (hAl W hW).mono fun e w' ⟨hb, h⟩ => by
          rcases h with ⟨h1, _⟩ | ⟨⟨h1, h2, h3⟩, _⟩ | ⟨_, A, c, he, hs⟩
          · omega
          · omega
          · exact ⟨A, c, he, hb⟩
        have HAL := Lib.hid hA2
        have hq3 : decide ((most : Int) < (T : Int)) = false := decide_eq_false hov
        have hq3n : decide (most < T) = false := decide_eq_false (by omega)
        clear hAl hA2 hov
        go_wp2_with (first
          | (go_at_call 18; (with_reducible refine ((HLE.out _ (B0 wr)).mono ?_)); rintro e w4 ⟨A4, c4, rfl, hs4, hb4⟩; have HS4 := Lib.hid hs4; have HB4 := Lib.hid hb4; obtain ⟨k40, k41⟩ := K.out _ hb4; clear hb4 hs4 k0 k1)
          | (go_at_call 19; (with_reducible refine ((HCO.out _ HB4.out).mono ?_)); rintro e w5 ⟨rfl, hb5⟩; have HS5 := Lib.hid (SlI.on HS4.out hb5); have HB5 := Lib.hid (Bt HB4.out hb5); obtain ⟨k50, k51⟩ := K.out _ (Bt HB4.out hb5); clear hb5 k40 k41)
          | (go_at_call 10; (with_reducible refine ((HPV.out _ HB5.out).mono ?_)); rintro e w6 ⟨A6, c6, rfl, ht6, hb6⟩; have HT6 := Lib.hid ht6; have HS6 := Lib.hid (SlI.on HS5.out hb6); have HB6 := Lib.hid (Bt HB5.out hb6); obtain ⟨k60, k61⟩ := K.out _ (Bt HB5.out hb6); clear hb6 k50 k51 ht6)
          | (go_at_call 20; (with_reducible refine ((HAL.out _ HB6.out).mono ?_)); rintro e w7 ⟨A7, c7, rfl, hb7⟩; have HT7 := Lib.hid (SlT.on HT6.out hb7); have HS7 := Lib.hid (SlI.on HS6.out hb7); have HB7 := Lib.hid (Bt HB6.out hb7); obtain ⟨k70, k71⟩ := K.out _ (Bt HB6.out hb7); clear hb7 k60 k61)
          | (go_at_call 28; (with_reducible refine ((HPW.out _ HB7.out).mono ?_)); rintro e w8 ⟨rfl, hb8⟩; have HT8 := Lib.hid (SlT.on HT7.out hb8); have HS8 := Lib.hid (SlI.on HS7.out hb8); have HB8 := Lib.hid (Bt HB7.out hb8); obtain ⟨k80, k81⟩ := K.out _ (Bt HB7.out hb8); clear hb8 k70 k71)
          | (go_at_call 29; (with_reducible refine ((HVE.out _ HB8.out _ HT8.out).mono ?_)); rintro e w9 ⟨rfl, hb9⟩; have HS9 := Lib.hid (SlI.on HS8.out hb9); have HB9 := Lib.hid (Bt HB8.out hb9); clear hb9 k80 k81))
        go_loopg [17] i (fun gg s17 wx => ∃ j : Nat, j ≤ i ∧ i - j ≤ gg ∧ s17 = .int .i64 j ∧ Aside (Below w9.heap.size w9 wx))
        case atStart => exact ⟨0, by omega, by omega, rfl, B0 w9⟩
        case round =>
          obtain ⟨j, hj, hg, rfl, HBj⟩ := hrel
          by_cases hlt : j < i
          · have hji : decide ((j : Int) < i) = true := decide_eq_true (by omega)
            have hjI : (j : Int) < i := by omega
            obtain ⟨J, hJ⟩ : ∃ J, 2 * j = J := ⟨_, rfl⟩
            have hmul : (2 : Int) * (j : Int) = (J : Int) := by omega
            have hJ18 : J ≤ 18 := by omega
            have hSa := SlI.on HS9.out HBj.out
            obtain ⟨A8', c8', hv8, _, _, hat8⟩ := hSa.open
            injection hv8 with r1 r2 r3
            subst r1; subst r3
            obtain ⟨ad8, hA8, _, hc8⟩ := hat8 j (by rw [HEL.out]; exact hlt)
            subst hA8
            rw [HEG.out, hJ] at hc8
            clear hat8 hSa r2
            go_wp2_with fail
            go_roundg (i - (j + 1))
            case measure => omega
            case rel => exact ⟨j + 1, by omega, by omega, by go_num, HBj.out⟩
          · obtain rfl : j = i := by omega
            have hji : decide ((j : Int) < j) = false := decide_eq_false (by omega)
            go_wp2_with fail
            go_ret
            exact ⟨rfl, Bt HB.out (Bt HB9.out HBj.out)⟩
end Go.Proofs.YthgjhfapnilfhaaDoor
