/- Walks over the statements of hitting: HittingDisjoint. -/
import Derived.Test.YtiochodepgldpaaDoorPb
import Derived.Test.YtiochodepgldpaaDoorDb
import Derived.Test.YtiochodepgldpaaDoorDc
namespace Go.Proofs.YtiochodepgldpaaDoor
open Go Go.RowKit
set_option maxRecDepth 100000 in
set_option maxHeartbeats 4000000 in
theorem law_disjoint (N : Nat) (hN : N < 256) (vs : Value) (sets : List Nat) (hs : ∀ s ∈ sets, s < 256) (w : World) (F : Nat → Prop) (hF : ∀ b, F b → b < w.heap.size) (hr : SlU .u8 F w vs sets) (hT : Tab32 w) :
    Calls Tryd.prog 3 #[.agg #[.int .u8 N, vs]] w fun e w' => e = .returned (.bool true) ∧ Below w.heap.size w w' := by
  have hK : ∀ W, Below w.heap.size w W → Calls Tryd.prog 11 #[] W fun e w' => e = .returned (.bool true) ∧ Below W.heap.size W w' := fun W hW => known_any W (hT.below hW)
  have hM := make_prob N hN vs sets hs w F hF hr hT
  obtain ⟨As, cs, rfl, _⟩ := hr.open
  have hn8 : 1 + N % 8 ≤ 8 := by omega
  have hwl := Hit.planW_len (1 + N % 8) sets
  generalize Hit.planW (1 + N % 8) sets = ws at *
  generalize 1 + N % 8 = n at *
  have HK := Lib.hid hK
  have HM := Lib.hid hM
  clear hK hM hr hT hs
  go_enter Tryd.func3, Tryd.ntmps3
  go_upto_region 4 with (first
    | (go_at_call 11; refine (HK.out _ (Ba (B0 w) _)).mono ?_; rintro e w1 ⟨rfl, hb1⟩; have HB1 := Lib.hid (Bt (Ba (B0 w) _) hb1); have c0 : w1.cell? ⟨w.heap.size, 0, none⟩ = some (.int .u8 N) := (Bc hb1 (by simp)).trans (by simp [go_sem]); have c1 : w1.cell? ⟨w.heap.size, 1, none⟩ = some (.slice As sets.length cs) := (Bc hb1 (by simp)).trans (by simp [go_sem]); clear hb1)
    | (go_at_call 12; refine (HM.out _ HB1.out).mono ?_; rintro e w2 ⟨A2, m2, c2, rfl, hp2, hb2⟩; have HB2 := Lib.hid (Bt HB1.out hb2); have HP2 := Lib.hid hp2; clear hb2 hp2 c0 c1))
  have hb3 := Ba HB2.out (.cells #[.int .i64 n, .slice A2 m2 c2] 28)
  have hP3 := (HP2.out.on (Ba (B0 w2) (.cells #[.int .i64 n, .slice A2 m2 c2] 28)))
  have k0 : (w2.alloc (.cells #[.int .i64 n, .slice A2 m2 c2] 28)).cell? ⟨w2.heap.size, 0, none⟩ = some (.int .i64 n) := by simp [go_sem]
  have k1 : (w2.alloc (.cells #[.int .i64 n, .slice A2 m2 c2] 28)).cell? ⟨w2.heap.size, 1, none⟩ = some (.slice A2 m2 c2) := by simp [go_sem]
  have l3 : w2.heap.size < (w2.alloc (.cells #[.int .i64 n, .slice A2 m2 c2] 28)).heap.size := by simp
  generalize (w2.alloc (.cells #[.int .i64 n, .slice A2 m2 c2] 28)) = w3 at *
  have hP3 := hP3.more (Nat.le_of_lt l3) (Nat.le_refl _)
  have HB3 := Lib.hid hb3
  have HP3 := Lib.hid hP3
  obtain ⟨pb, hpb⟩ : ∃ pb, w2.heap.size = pb := ⟨_, rfl⟩
  rw [hpb] at k0 k1 l3 ⊢
  have k : ∀ W, Below w3.heap.size w3 W → W.cell? ⟨pb, 0, none⟩ = some (.int .i64 n) ∧ W.cell? ⟨pb, 1, none⟩ = some (.slice A2 m2 c2) := fun W hW => ⟨(Bc hW l3).trans k0, (Bc hW l3).trans k1⟩
  have K := Lib.hid k
  clear hb3 hP3 HM HP2 hpb k
  have hDi := fun W (hW : Below w3.heap.size w3 W) => disjoint_any n (HP3.out.on hW).le (.slice A2 m2 c2) ws HP3.out.good HP3.out.len W (fun b => b < w3.heap.size) (HP3.out.on hW).inW (HP3.out.on hW).sets
  have hLe := fun W (hW : Below w3.heap.size w3 W) => (HP3.out.on hW).leastC
  have hRe := fun W (hW : Below w3.heap.size w3 W) => disjointR_any n (.slice A2 m2 c2) ws HP3.out.lt (by omega) W (fun b => b < w3.heap.size) (HP3.out.on hW).inW (HP3.out.on hW).sets
  have hsame := Hit.disj_same ws (by omega)
  have hle : (Hit.disjGo ws 0 0).length ≤ Hit.pop (Hit.least ws n) := by
    obtain ⟨X, hX⟩ := Hit.least_spec HP3.out.good
    rw [(HP3.out.pop_len hX HP3.out.le).2]
    exact Hit.disj_le hX
  rw [hsame] at hRe
  have hSm : ∀ W va vb (l : List Int), SlI (fun b => b < W.heap.size) W va l → SlI (fun b => b < W.heap.size) W vb l → Calls Tryd.prog 15 #[va, vb] W fun e w' => e = .returned (.bool true) ∧ Below W.heap.size W w' := fun W va vb l ha hb => by
    have := same_any va vb l l W _ _ (fun _ h => h) (fun _ h => h) ha hb
    rwa [decide_eq_true rfl] at this
  have HDI := Lib.hid hDi
  have HLE := Lib.hid hLe
  have HRE := Lib.hid hRe
  have HSM := Lib.hid hSm
  clear hDi hLe hRe hSm hsame
  generalize Hit.pop (Hit.least ws n) = pl at *
  generalize Hit.disjGo ws 0 0 = dj at *
  have d1 : decide ((dj.length : Int) ≤ (pl : Int)) = true := decide_eq_true (by omega)
  have d1n : decide (dj.length ≤ pl) = true := decide_eq_true hle
  clear hle
  go_wp2_with (first
    | (go_at_call 13; (with_reducible refine ((HDI.out _ (B0 w3)).mono ?_)); rintro e w4 ⟨A4, c4, rfl, hs4, hb4⟩; have HS4 := Lib.hid (hs4.mono (G := fun b => b < w4.heap.size) fun b h => h.2); have HB4 := Lib.hid hb4; have k40 := (K.out _ hb4).1; have k41 := (K.out _ hb4).2; clear hb4 hs4 k0 k1)
    | (go_at_call 14; (with_reducible refine ((HLE.out _ HB4.out).mono ?_)); rintro e w5 ⟨A5, c5, rfl, _, hb5⟩; have HS5 := Lib.hid (SlI.on HS4.out hb5); have HB5 := Lib.hid (Bt HB4.out hb5); have k50 := (K.out _ (Bt HB4.out hb5)).1; have k51 := (K.out _ (Bt HB4.out hb5)).2; clear hb5 k40 k41)
    | (go_at_call 16; (with_reducible refine ((HRE.out _ HB5.out).mono ?_)); rintro e w6 ⟨A6, m6, c6, rfl, hs6, hb6⟩; have HS6 := Lib.hid (SlI.on HS5.out hb6); have HT6 := Lib.hid (hs6.mono (G := fun b => b < w6.heap.size) fun b h => h.2); have HB6 := Lib.hid (Bt HB5.out hb6); clear hb6 hs6)
    | (go_at_call 15; (with_reducible refine ((HSM.out _ _ _ _ HS6.out HT6.out).mono ?_)); rintro e w7 ⟨rfl, hb7⟩; have HB7 := Lib.hid (Bt HB6.out hb7); clear hb7))
  go_ret
  exact ⟨rfl, Bt HB3.out HB7.out⟩
end Go.Proofs.YtiochodepgldpaaDoor
