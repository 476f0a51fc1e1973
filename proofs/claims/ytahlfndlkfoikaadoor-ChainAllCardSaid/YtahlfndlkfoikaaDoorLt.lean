/- Walks over chain's statements: sorted. -/
import Derived.Test.YtahlfndlkfoikaaDoorLs
import Derived.Test.YtahlfndlkfoikaaDoorIa
namespace Go.Proofs.YtahlfndlkfoikaaDoor
open Go Go.RowKit Go.Shelf
/-- z comes before y. -/
def zLt (z y : Zc) : Prop := Cha.lessF z.2.1 y.2.1 = true
/-- What holds within the inner loop: all but place k are in order, and what stands behind k is greater. -/
structure InS (R : List Zc) (i k : Nat) : Prop where
  oth : ∀ p q (h : q < R.length) (hp : p < q), q ≤ i → p ≠ k → q ≠ k → zLt (R[p]'(by omega)) R[q]
  beh : ∀ q (h : q < R.length) (hk : k < q), q ≤ i → zLt (R[k]'(by omega)) R[q]
theorem InS.start {R : List Zc} {i : Nat} (h : (R.take i).Pairwise zLt) : InS R i i := by
  refine ⟨fun p q hq hp hqi _ hqk => ?_, fun q _ hk hqi => absurd hk (by omega)⟩
  have := List.pairwise_iff_getElem.1 h p q (by rw [List.length_take]; omega) (by rw [List.length_take]; omega) hp
  simpa [List.getElem_take] using this
theorem InS.swap {R : List Zc} {i k j : Nat} (h : InS R i k) (hk : k = j + 1) (hki : k ≤ i) (hkl : k < R.length) (hjl : j < R.length) (hl : zLt R[k] R[j]) : InS ((R.set k R[j]).set j R[k]) i j := by
  subst hk
  have g : ∀ p (hp : p < ((R.set (j + 1) R[j]).set j R[j + 1]).length), ((R.set (j + 1) R[j]).set j R[j + 1])[p] = if j = p then R[j + 1] else if j + 1 = p then R[j] else R[p]'(by simpa using hp) := fun p hp => by
    rw [List.getElem_set, List.getElem_set]
  refine ⟨fun p q hq hp hqi hpk hqk => ?_, fun q hq hkq hqi => ?_⟩
  · have hq' : q < R.length := by simpa using hq
    rw [g, g, if_neg (Ne.symm hpk), if_neg (Ne.symm hqk)]
    by_cases e : j + 1 = q
    · rw [if_pos e, if_neg (by omega)]
      exact h.oth p j hjl (by omega) (by omega) (by omega) (by omega)
    · rw [if_neg e]
      by_cases e2 : j + 1 = p
      · rw [if_pos e2]
        exact h.oth j q hq' (by omega) hqi (by omega) (by omega)
      · rw [if_neg e2]
        exact h.oth p q hq' hp hqi (by omega) (by omega)
  · have hq' : q < R.length := by simpa using hq
    rw [g, g, if_pos rfl, if_neg (by omega)]
    by_cases e : j + 1 = q
    · rw [if_pos e]; exact hl
    · rw [if_neg e]; exact h.beh q hq' (by omega) hqi
theorem InS.stop {R : List Zc} {i k : Nat} (h : InS R i k) (hki : k ≤ i) (hil : i < R.length) (hnd : (R.map (·.2.1)).Nodup) (hs : ∀ j (hj : k = j + 1), ¬ zLt (R[k]'(by omega)) (R[j]'(by omega))) : (R.take (i + 1)).Pairwise zLt := by
  refine List.pairwise_iff_getElem.2 fun p q hp hq hpq => ?_
  rw [List.length_take] at hp hq
  rw [List.getElem_take, List.getElem_take]
  have hq' : q < R.length := by omega
  by_cases e1 : p = k
  · subst e1; exact h.beh q hq' hpq (by omega)
  · by_cases e2 : q = k
    · subst e2
      obtain ⟨j, rfl⟩ : ∃ j, q = j + 1 := ⟨q - 1, by omega⟩
      have hn := hs j rfl
      have hne : R[j].2.1 ≠ R[j + 1].2.1 := by
        have := List.pairwise_iff_getElem.1 hnd j (j + 1) (by simp; omega) (by simp; omega) (by omega)
        simpa using this
      have hjq : zLt R[j] R[j + 1] := by
        rcases Cha.lessF_tri R[j].2.1 R[j + 1].2.1 with q1 | q1 | q1
        · exact q1
        · exact absurd q1 hne
        · exact absurd q1 hn
      by_cases e3 : p = j
      · subst e3; exact hjq
      · exact Cha.lessF_trans (h.oth p j (by omega) (by omega) (by omega) e1 (by omega)) hjq
    · exact h.oth p q hq' hpq (by omega) e1 e2
set_option maxRecDepth 100000 in
set_option maxHeartbeats 8000000 in
theorem sorted_any (g c : Nat) (R0 : List Zc) (hl : R0.length ≤ 100000) (hc : R0.length ≤ c) (hnd : (R0.map (·.2.1)).Nodup) (w : World) (hR : RowZ w g R0) (hs : ∀ z ∈ R0, SlI (IsC w) w (.slice z.1.1 z.1.2.1 z.1.2.2) z.2.1) :
    Calls Tryd.prog 33 #[.slice (some ⟨g, 0, none⟩) R0.length c] w fun e w' => e = .returned (.slice (some ⟨g, 0, none⟩) R0.length c) ∧ ∃ R, RowZ w' g R ∧ R.Perm R0 ∧ R.Pairwise zLt ∧ w.grownBy w' (some g) := by
  obtain ⟨n, hn⟩ : ∃ n, R0.length = n := ⟨_, rfl⟩
  have HN := Lib.hid hn
  have HND := Lib.hid hnd
  have HR := Lib.hid hR
  have hno : ∀ b, IsC w b → some b ≠ some g := by
    obtain ⟨cur, hb, _⟩ := hR
    rintro b ⟨cs', h | h⟩ e
    · injection e with e
      subst e
      unfold Blk at h hb
      rw [h] at hb
      injection hb with hb
      injection hb with _ hb
      exact absurd hb (by decide)
    · injection e with e
      subst e
      unfold Blk at h hb
      rw [h] at hb
      injection hb with hb
      injection hb with _ hb
      exact absurd hb (by decide)
  have HSL := Lib.hid (fun W (hg : w.grownBy W (some g)) z (hz : z ∈ R0) => (show SlI (fun b => b < W.heap.size) W (.slice z.1.1 z.1.2.1 z.1.2.2) z.2.1 from
    (SlI.keep (hs z hz) (Agree.grown hg fun b hb => ⟨hb.lt, hno b hb⟩)).mono fun b hb => (hb.grown hg (hno b hb)).lt))
  rw [hn] at hl hc ⊢
  clear hs hno hnd hR hn
  go_enter Tryd.func33, Tryd.ntmps33
  go_wp2_with fail
  go_loopg [3] n (fun gg s3 wr => ∃ (i : Nat) (R : List Zc), i ≤ n ∧ n - i ≤ gg ∧ s3 = .int .i64 i ∧ Aside (RowZ wr g R) ∧ Aside (R.Perm R0) ∧ Aside ((R.take i).Pairwise zLt) ∧ Aside (w.grownBy wr (some g)))
  case atStart => exact ⟨0, R0, by omega, by omega, rfl, HR.out, List.Perm.refl _, (show Aside _ from by show List.Pairwise _ _; rw [List.take_zero]; exact List.Pairwise.nil), World.grownBy.refl w _⟩
  case round =>
    obtain ⟨i, R, hi, hg, rfl, HRW, HP, HT, HG⟩ := hrel
    replace HRW : Hid (RowZ wr g R) := Lib.hid HRW
    replace HP : Hid (R.Perm R0) := Lib.hid HP
    replace HT : Hid ((R.take i).Pairwise zLt) := Lib.hid HT
    replace HG : Hid (w.grownBy wr (some g)) := Lib.hid HG
    by_cases hlt : i < n
    · have hiI : (i : Int) < n := by omega
      go_wp2_with fail
      go_loopg [4] n (fun gg s4 wr2 => ∃ (k : Nat) (R2 : List Zc), k ≤ i ∧ k ≤ gg ∧ s4 = .int .i64 k ∧ Aside (RowZ wr2 g R2) ∧ Aside (R2.Perm R0) ∧ Aside (InS R2 i k) ∧ Aside (w.grownBy wr2 (some g)))
      case atStart => exact ⟨i, R, by omega, by omega, rfl, HRW.out, HP.out, InS.start HT.out, HG.out⟩
      case round =>
        clear HRW HP HT HG
        obtain ⟨k, R2, hk, hg2, rfl, HRW, HP, HI, HG⟩ := hrel
        replace HRW : Hid (RowZ wr g R2) := Lib.hid HRW
        replace HP : Hid (R2.Perm R0) := Lib.hid HP
        replace HI : Hid (InS R2 i k) := Lib.hid HI
        replace HG : Hid (w.grownBy wr (some g)) := Lib.hid HG
        have hlen : R2.length = n := by rw [HP.out.length_eq]; exact HN.out
        have HND2 : Hid ((R2.map (·.2.1)).Nodup) := Lib.hid ((HP.out.map _).nodup_iff.2 HND.out)
        by_cases h0 : k = 0
        · subst h0
          have HST := Lib.hid (HI.out.stop (by omega) (by omega) HND2.out fun j hj => absurd hj (by omega))
          have hbel : ∀ W, Below wr.heap.size wr W → w.grownBy W (some g) := fun W hb => ⟨hb.os.trans HG.out.os, hb.tape.trans HG.out.tape, hb.output.trans HG.out.output, Nat.le_trans HG.out.size hb.size, fun q h1 h2 => (hb.block q (Nat.lt_of_lt_of_le h1 HG.out.size)).trans (HG.out.block q h1 h2)⟩
          have HBE := Lib.hid hbel
          clear HI hlen hbel
          go_upto_region 5 with fail
          go_quiet (fail)
          go_wp2_with fail
          go_roundg (n - (i + 1))
          case measure => omega
          case rel => exact ⟨i + 1, R2, by omega, by omega, by go_num, HRW.out.below (below_drewN (B0 wr) _), HP.out, HST.out, HBE.out _ (below_drewN (B0 wr) _)⟩
        · obtain ⟨j, hj⟩ : ∃ j, k = j + 1 := ⟨k - 1, by omega⟩
          have HJ := Lib.hid hj
          have hkl : k < R2.length := by omega
          have hjl : j < R2.length := by omega
          have hkI : (k : Int) < n := by omega
          have hjI : (j : Int) < n := by omega
          have e1 : (k : Int) - 1 = j := by omega
          have d0 : decide ((0 : Int) < k) = true := decide_eq_true (by omega)
          have d0n : decide (0 < k) = true := decide_eq_true (by omega)
          obtain ⟨f0, f1, f2⟩ := HRW.out.cell hkl
          obtain ⟨g0, g1, g2⟩ := HRW.out.cell hjl
          have hsk := fun W hW => HSL.out W hW R2[k] (HP.out.mem_iff.1 (List.getElem_mem hkl))
          have hsj := fun W hW => HSL.out W hW R2[j] (HP.out.mem_iff.1 (List.getElem_mem hjl))
          have hsw := fun (hz : zLt R2[k] R2[j]) => HI.out.swap hj hk hkl hjl hz
          have hpm : ((R2.set k R2[j]).set j R2[k]).Perm R0 := (List.set_set_perm hkl hjl).trans HP.out
          have hst : ¬ zLt R2[k] R2[j] → (R2.take (i + 1)).Pairwise zLt := fun hz => HI.out.stop hk (by omega) HND2.out (fun j' hj' => by
            have : j' = j := by omega
            subst this
            exact hz)
          have hrs := fun (W : World) (h : RowZ W g R2) => (show RowZ _ g ((R2.set k R2[j]).set j R2[k]) from (h.set hkl R2[j]).set (by simpa using hjl) R2[k])
          obtain ⟨zk, hzk⟩ : ∃ z, R2[k] = z := ⟨_, rfl⟩
          obtain ⟨zj, hzj⟩ : ∃ z, R2[j] = z := ⟨_, rfl⟩
          rw [hzk] at f0 f1 f2 hsk hsw hpm hst hrs
          rw [hzj] at g0 g1 g2 hsj hsw hpm hst hrs
          obtain ⟨⟨ka, kn, kc⟩, ks, k1, k2⟩ := zk
          obtain ⟨⟨ja, jn, jc⟩, js, j1, j2⟩ := zj
          dsimp only at f0 f1 f2 g0 g1 g2 hsk hsj hrs
          have hbel : ∀ W, Below wr.heap.size wr W → w.grownBy W (some g) := fun W hb => ⟨hb.os.trans HG.out.os, hb.tape.trans HG.out.tape, hb.output.trans HG.out.output, Nat.le_trans HG.out.size hb.size, fun q h1 h2 => (hb.block q (Nat.lt_of_lt_of_le h1 HG.out.size)).trans (HG.out.block q h1 h2)⟩
          have hlg : g < wr.heap.size := HRW.out.lt
          have kf0 : ∀ q : ClsS wr, q.w.cell? ⟨g, k * 3, none⟩ = some (.slice ka kn kc) := fun q => (Bc q.b hlg).trans f0
          have kg0 : ∀ q : ClsS wr, q.w.cell? ⟨g, j * 3, none⟩ = some (.slice ja jn jc) := fun q => (Bc q.b hlg).trans g0
          have hls : ∀ q : ClsS wr, Calls Tryd.prog 22 #[.slice ka kn kc, .slice ja jn jc] q.w fun e w' => e = .returned (.bool (Cha.lessF ks js)) ∧ ∃ r : ClsS wr, w' = r.w := fun q => (less_any _ _ ks js q.w _ (fun _ h => h) (hsk q.w (hbel _ q.b)) (hsj q.w (hbel _ q.b))).mono fun e w' ⟨q1, q2⟩ => ⟨q1, ClsS.mk' (Bt q.b q2), rfl⟩
          have HRS := Lib.hid hrs
          have HBE := Lib.hid hbel
          have HPM := Lib.hid hpm
          cases hle : Cha.lessF ks js with
          | false =>
            rw [hle] at hls
            have HLS := Lib.hid hls
            have HST := Lib.hid (hst (by unfold zLt; rw [hle]; decide))
            clear hls hle hst hsw hsk hsj hrs hbel hpm hzk hzj hlen hkl hjl f0 f1 f2 g0 g1 g2 hj hlg
            go_upto_region 5 with fail
            refine wp_region_classS (C := fun w' => ∃ q : ClsS wr, w' = q.w) (by kernel_rfl) (by kernel_rfl) ⟨ClsS.mk' (B0 wr).drew, rfl⟩ ?_
            repeat (any_goals (first | go_big_quiet_step (first | (go_at_call 22; with_reducible exact HLS.out _)) | quiet_step (first | (go_at_call 22; with_reducible exact HLS.out _))))
            refine wpQuiet_nil ?_
            rintro _ ⟨q, rfl⟩
            have HQ := Lib.hid (show Below wr.heap.size wr q.w from q.b)
            clear kf0 kg0
            generalize q.w = w5 at *
            go_wp2_with fail
            go_roundg (n - (i + 1))
            case measure => omega
            case rel => exact ⟨i + 1, R2, by omega, by omega, by go_num, HRW.out.below HQ.out, HP.out, HST.out, HBE.out _ HQ.out⟩
          | true =>
            rw [hle] at hls
            have HLS := Lib.hid hls
            have HSW := Lib.hid (hsw hle)
            clear hls hle hst hsw hsk hsj hrs hbel hpm hzk hzj hlen hkl hjl hj
            go_upto_region 5 with fail
            refine wp_region_classS (C := fun w' => ∃ q : ClsS wr, w' = q.w) (by kernel_rfl) (by kernel_rfl) ⟨ClsS.mk' (B0 wr).drew, rfl⟩ ?_
            repeat (any_goals (first | go_big_quiet_step (first | (go_at_call 22; with_reducible exact HLS.out _)) | quiet_step (first | (go_at_call 22; with_reducible exact HLS.out _))))
            refine wpQuiet_nil ?_
            rintro _ ⟨q, rfl⟩
            have HQ := Lib.hid (show Below wr.heap.size wr q.w from q.b)
            have y0 := (Bc q.b hlg).trans f0
            have y1 := (Bc q.b hlg).trans f1
            have y2 := (Bc q.b hlg).trans f2
            have z0 := (Bc q.b hlg).trans g0
            have z1 := (Bc q.b hlg).trans g1
            have z2 := (Bc q.b hlg).trans g2
            have HR5 := Lib.hid (HRW.out.below q.b)
            have hfz := HR5.out.frozen
            clear kf0 kg0 f0 f1 f2 g0 g1 g2 hlg
            generalize q.w = w5 at *
            have s0 := HBE.out _ HQ.out
            have s1 := only_setCell s0 (p := ⟨g, k * 3, none⟩) (.inl rfl) (.slice ja jn jc)
            have s2 := only_setCell s1 (p := ⟨g, k * 3 + 1, none⟩) (.inl rfl) (.int .i64 j1)
            have s3 := only_setCell s2 (p := ⟨g, k * 3 + 2, none⟩) (.inl rfl) (.int .i64 j2)
            have s4 := only_setCell s3 (p := ⟨g, j * 3, none⟩) (.inl rfl) (.slice ka kn kc)
            have s5 := only_setCell s4 (p := ⟨g, j * 3 + 1, none⟩) (.inl rfl) (.int .i64 k1)
            have s6 := only_setCell s5 (p := ⟨g, j * 3 + 2, none⟩) (.inl rfl) (.int .i64 k2)
            have hrow := HRS.out _ HR5.out
            obtain ⟨w6, hw6⟩ : ∃ w6 : World, (((((w5.setCell ⟨g, k * 3, none⟩ (.slice ja jn jc)).setCell ⟨g, k * 3 + 1, none⟩ (.int .i64 j1)).setCell ⟨g, k * 3 + 2, none⟩ (.int .i64 j2)).setCell ⟨g, j * 3, none⟩ (.slice ka kn kc)).setCell ⟨g, j * 3 + 1, none⟩ (.int .i64 k1)).setCell ⟨g, j * 3 + 2, none⟩ (.int .i64 k2) = w6 := ⟨_, rfl⟩
            rw [hw6] at hrow s6
            have HROW := Lib.hid hrow
            have HS6 := Lib.hid s6
            have HW6 := Lib.hid hw6
            clear s0 s1 s2 s3 s4 s5 s6 hrow hw6
            go_upto_region 7 with fail
            go_region
            all_goals
              go_wp2_with fail
              rw [HW6.out]
              go_roundg j
              case measure => have := HJ.out; omega
              case rel =>
                have hjk := HJ.out
                refine ⟨j, _, by omega, by omega, by go_num, (show Aside _ from ?_), HPM.out, HSW.out, (show Aside _ from ?_)⟩
                · exact HROW.out
                · exact ⟨HS6.out.os, HS6.out.tape, HS6.out.output, HS6.out.size, HS6.out.block⟩
    · obtain rfl : i = n := by omega
      have hfin : R.Pairwise zLt := by
        have h := HT.out
        rwa [List.take_of_length_le (by rw [HP.out.length_eq, HN.out]; exact Nat.le_refl _)] at h
      have HFIN := Lib.hid hfin
      clear hfin
      go_wp2_with fail
      go_ret
      exact ⟨rfl, R, HRW.out, HP.out, HFIN.out, HG.out⟩
end Go.Proofs.YtahlfndlkfoikaaDoor
