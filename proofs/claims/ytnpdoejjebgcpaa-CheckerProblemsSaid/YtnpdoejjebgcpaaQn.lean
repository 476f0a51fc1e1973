/- Walks over the statements of checker: covers agrees with Verify for any problem and list, and a proof of one node. -/
import Derived.Test.YtnpdoejjebgcpaaQm
import Derived.Test.YtnpdoejjebgcpaaQk
namespace Go.Proofs.Ytnpdoejjebgcpaa
open Go Go.RowKit
theorem SlI.zeros {F : Nat → Prop} {W : World} {b N : Nat} {t : TypeId} (h : W.rowIs b t N fun _ => .int .i64 0) (hN : N ≤ 1000) (hF : F b) : SlI F W (.slice (some ⟨b, 0, none⟩) N N) (List.replicate N 0) := by
  refine ⟨some ⟨b, 0, none⟩, N, by simp, by simp, by simp; omega, fun i hi => ?_⟩
  have hi' : i < N := by simpa using hi
  refine ⟨_, [.int .i64 0], rfl, hF, rfl, by simp [IntC], fun j u hu => ?_⟩
  cases j with
  | zero =>
    simp at hu; subst hu
    have e : ((⟨b, 0, none⟩ : Addr).add (i * 1)).add 0 = ⟨b, i, none⟩ := by
      unfold Addr.add
      by_cases h0 : i = 0
      · subst h0; rfl
      · simp [h0]
    rw [e]; exact h.cell hi'
  | succ j => simp at hu
theorem SlT.one {F : Nat → Prop} {W : World} {b : Nat} {pk ys no_ bd : Int} {vw : Value} {l : List Int} (hc : Blk W b 42 #[.int .i64 pk, .int .i64 ys, .int .i64 no_, .int .i64 bd, vw]) (hF : F b) (hw : SlI F W vw l) : SlT F W (.slice (some ⟨b, 0, none⟩) 1 1) [⟨pk, ys, no_, bd, l⟩] := by
  refine ⟨_, 1, rfl, by simp, by simp, fun i hi => ?_⟩
  obtain rfl : i = 0 := by simp at hi; omega
  refine ⟨_, [.int .i64 pk, .int .i64 ys, .int .i64 no_, .int .i64 bd, vw], rfl, hF, rfl, ⟨vw, rfl, hw⟩, ?_⟩
  have := Flds.of_list (w := W) (b := b) (us := [.int .i64 pk, .int .i64 ys, .int .i64 no_, .int .i64 bd, vw]) fun j hj => by
    rw [hc.cell]
    have hj' : j < 5 := hj
    match j, hj' with
    | 0, _ => rfl
    | 1, _ => rfl
    | 2, _ => rfl
    | 3, _ => rfl
    | 4, _ => rfl
  simpa [Addr.add] using this
theorem covers_law (n cost ys no_ bd : Int) (vs vl vt : Value) (ls : List (List Int × Int)) (hll : ls.length ≤ 100) (l : List Int) (hl8 : l.length ≤ 1000) (weights : List Int) (hwl : weights.length ≤ 1000) (w : World) (F G H : Nat → Prop) (hF : ∀ b, F b → b < w.heap.size) (hG : ∀ b, G b → b < w.heap.size) (hH : ∀ b, H b → b < w.heap.size)
    (hr : SlS F w vs ls) (hl : SlI G w vl l) (ht : SlT H w vt [⟨-1, ys, no_, bd, weights⟩]) :
    Calls Try.prog 8 #[.agg #[.int .i64 n, vs], .agg #[vl, .int .i64 cost, vt]] w fun e w' => e = .returned (.bool true) ∧ Below w.heap.size w w' := by
  have kF : ∀ W, Below w.heap.size w W → ∀ b, F b → b < W.heap.size := fun W hW b hb => Nat.lt_of_lt_of_le (hF b hb) hW.size
  have kG : ∀ W, Below w.heap.size w W → ∀ b, G b → b < W.heap.size := fun W hW b hb => Nat.lt_of_lt_of_le (hG b hb) hW.size
  have kH : ∀ W, Below w.heap.size w W → ∀ b, H b → b < W.heap.size := fun W hW b hb => Nat.lt_of_lt_of_le (hH b hb) hW.size
  by_cases he : bothV n ls l = 0
  · have hc0 : checkV n ls = 0 := by
      unfold bothV at he
      by_cases h : checkV n ls = 0
      · exact h
      · rw [if_pos (by simpa using h)] at he; exact absurd he h
    have hr0 : riseF ls.length l = 0 := by
      unfold bothV at he
      rwa [if_neg (by rw [hc0]; simp)] at he
    obtain ⟨m, ws, cs, rfl, rfl, hcov⟩ := checkV_ok hc0
    rw [covL_length hcov.eq] at hr0
    have hlf := (rise_zero _ _).1 hr0
    obtain ⟨ns, rfl, _, hns⟩ := list_nat hlf
    rw [ints_length] at hl8
    have hVe := fun W (hW : Below w.heap.size w W) => verifyV_any m cost ys no_ bd vs vl vt ws cs hcov ns he hns hl8 weights (by omega) W F G H (kF W hW) (kG W hW) (kH W hW) (hr.keep (Agree.below hW hF)) (SlI.keep hl (Agree.below hW hG)) (ht.keep (Agree.below hW hH))
    obtain ⟨Al, cl, hvl, _⟩ := id hl.open
    obtain ⟨At, ct, hvt, _⟩ := id ht.open
    simp only [List.length_singleton] at hvt
    subst hvl; subst hvt
    refine covers_any m cost vs Al At _ cl 1 ct (covL ws cs) hll (decide (1 ≤ 1 ∧ 1 ≤ 20000) && (decide (costL cs ns = cost) && (decide (unionL ws ns = Hit.bit m - 1) && Hit.boundF ws cs m cost 0 0 0 ⟨-1, ys, no_, bd, weights⟩)))
      (verV ws cs m ns cost (Hit.boundF ws cs m cost 0 0 0 ⟨-1, ys, no_, bd, weights⟩)) ?_ w F hF hr hVe fun W vS vC hW hS hC => ?_
    · unfold verV
      by_cases h1 : unionL ws ns = Hit.bit m - 1
      · rw [if_neg (by simpa using h1)]
        by_cases h2 : costL cs ns = cost
        · rw [if_neg (by simpa using h2)]
          cases h3 : Hit.boundF ws cs m cost 0 0 0 ⟨-1, ys, no_, bd, weights⟩
          · exact .inr ⟨by simp, rfl⟩
          · exact .inl ⟨by simp [h1, h2], rfl⟩
        · rw [if_pos (by simpa using h2)]
          exact .inr ⟨by simp [h2], rfl⟩
      · rw [if_pos (by simpa using h1)]
        exact .inr ⟨by simp [h1], rfl⟩
    · rw [covL_fst hcov.eq] at hS
      rw [covL_snd hcov.eq] at hC
      exact coversC_any m 1 (by omega) cost vS vC _ (At) ct ws cs hcov ns hlf hns hl8 _ W (fun b => b < W.heap.size) (fun b => b < W.heap.size) G (fun _ h => h) (fun _ h => h) (kG W hW) hS hC (SlI.keep hl (Agree.below hW hG)) fun W2 hW2 _ =>
        proved1_any m cost vS vC _ Al _ cl ys no_ bd ws cs hcov weights (by omega) W2 (fun b => b < W.heap.size) (fun b => b < W.heap.size) H (fun b hb => Nat.lt_of_lt_of_le hb hW2.size) (fun b hb => Nat.lt_of_lt_of_le hb hW2.size) (fun b hb => Nat.lt_of_lt_of_le (kH W hW b hb) hW2.size)
          (hS.keep (Agree.below hW2 fun _ h => h)) (SlI.keep hC (Agree.below hW2 fun _ h => h)) ((ht.keep (Agree.below hW hH)).keep (Agree.below hW2 (kH W hW)))
  · have hVe := fun Ap mp cp W (hW : Below w.heap.size w W) => verifyV_err n cost vs vl Ap mp cp ls l W F G (kF W hW) (kG W hW) (hr.keep (Agree.below hW hF)) (SlI.keep hl (Agree.below hW hG)) he
    have hsame := probC_same n ls
    obtain ⟨Al, cl, hvl, _⟩ := id hl.open
    obtain ⟨At, ct, hvt, _⟩ := id ht.open
    subst hvl; subst hvt
    refine covers_any n cost vs Al At _ cl _ ct ls hll false (bothV n ls l) (.inr ⟨rfl, by simpa using he⟩) w F hF hr (fun W hW => hVe _ _ _ W hW) fun W vS vC hW hS hC => ?_
    by_cases hc0 : checkV n ls = 0
    · rw [decide_eq_true hc0] at hsame
      have hnl : Hit.listF ((ls.map (·.1)).length : Nat) l ≠ 0 := fun h => he (by
        unfold bothV
        rw [if_neg (by simpa using hc0)]
        rw [List.length_map] at h
        exact (rise_zero _ _).2 h)
      exact coversList_any n cost vS vC _ At _ ct (ls.map (·.1)) (ls.map (·.2)) l hsame hnl W (fun b => b < W.heap.size) (fun b => b < W.heap.size) G (fun _ h => h) (fun _ h => h) (kG W hW) hS hC (SlI.keep hl (Agree.below hW hG))
    · rw [decide_eq_false hc0] at hsame
      exact coversNo_any n cost vS vC Al At _ cl _ ct (ls.map (·.1)) (ls.map (·.2)) hsame W (fun b => b < W.heap.size) (fun b => b < W.heap.size) (fun _ h => h) (fun _ h => h) hS hC
end Go.Proofs.Ytnpdoejjebgcpaa
