/- Walks over coupler's statements: sounding. -/
import Derived.Test.YtnkjhppjjklgfaaDoorSc
import Derived.Test.YtnkjhppjjklgfaaDoorKB
namespace Go.Proofs.YtnkjhppjjklgfaaDoor
open Go Go.RowKit Go.Shelf
theorem hmkII (n : Nat) (hn : n ≤ 1000) (W : World) : (Instr.makeSlice 110 (.int .i64 (n : Int)) (.int .i64 (n : Int))).run Tryd.prog W = .ok (.slice (some ⟨W.heap.size, 0, none⟩) n n) (W.alloc (.cells (List.replicate n (.slice none 0 0)).toArray 53)) :=
  run_make1 Tryd.underlying110 (show (Tryd.prog.info? 53).map (fun i => (i.zero, i.size, i.bytes)) = some (some (.slice none 0 0), 1, 24) by kernel_rfl) rfl _ n rfl (by omega) (by omega) W
set_option maxRecDepth 100000 in
set_option maxHeartbeats 8000000 in
theorem lsound_any (a : Cou.Ac) (hok : Cou.Ok a) (hsm : ∀ c ∈ a.divs, c.2 ≤ c.1 + 12) (vd vc pv : Value) (ks : List Nat) (hkl : ks.length = a.divs.length) (hks : ∀ x ∈ ks, x < 2 ^ 128) (off : Nat) (hoff : off < 2 ^ 64) (w : World) (F G : Nat → Prop) (hA : AcAt F w vd vc a) (hG : ∀ b, G b → b < w.heap.size) (hP : SlK G w pv ks) :
    Calls Tryd.prog 29 #[.agg #[vd, vc, .int .u64 a.drawn], pv, .int .u64 off] w fun e w' => ∃ v M, e = .returned v ∧ SlK (fun b => w.heap.size ≤ b ∧ b < w'.heap.size) w' v M ∧ M.length = a.divs.length ∧ (∀ x ∈ M, x < 2 ^ 128) ∧ (∀ d i, d < a.divs.length → ((M.getD d 0).testBit i = true ↔ Cou.Got a off (Cou.Pld a ks a.divs.length 0) ((d : Int), (i : Int)))) ∧ Below w.heap.size w w' := by
  have hFF := hA.inW
  have hRE := fun (c : Cou.Ct) (hc : -1000 ≤ c.2 ∧ c.2 ≤ 1000) W (hb : Below w.heap.size w W) => lreach_any a hok vd vc c hc W F (hA.onB hFF hb)
  obtain ⟨Ad, cd, rfl, _, had⟩ := id hA.dv.open
  obtain ⟨Ac, cc, rfl, _, _⟩ := id hA.cp.open
  obtain ⟨Ap, cp, rfl, _, _, hap⟩ := id hP.open
  obtain ⟨B, hBB⟩ : ∃ B, w.heap.size = B := ⟨_, rfl⟩
  obtain ⟨n, hn⟩ : ∃ n, a.divs.length = n := ⟨_, rfl⟩
  have hn8 : n ≤ 8 := by rw [← hn]; exact hok.nd
  have hkn : ks.length = n := by omega
  obtain ⟨w1, hw1⟩ : ∃ w1 : World, w.alloc (.cells #[.slice Ad a.divs.length cd, .slice Ac a.cps.length cc, .int .u64 a.drawn] 34) = w1 := ⟨_, rfl⟩
  have AB : Blk w1 B 34 #[.slice Ad n cd, .slice Ac a.cps.length cc, .int .u64 a.drawn] := by rw [← hw1, ← hBB, hn]; exact Blk.new _ _ _
  have B1 : Below w.heap.size w w1 := by rw [← hw1]; exact Ba (B0 w) _
  have s1 : w1.heap.size = B + 1 := by rw [← hw1, ← hBB]; simp
  have hmk := hmkII n (by omega) w1
  obtain ⟨w2, hw2⟩ : ∃ w2 : World, w1.alloc (.cells (List.replicate n (.slice none 0 0)).toArray 53) = w2 := ⟨_, rfl⟩
  have R2 : RowsAt (B + 1) (B + 2) (fun _ => True) (List.replicate n []) w2 := by have := RowsAt.start w1 n; rw [hw2, s1] at this; exact this
  have B2 : Below w1.heap.size w1 w2 := by rw [← hw2]; exact Ba (B0 w1) _
  rw [hw2, s1] at hmk
  have HX := Lib.hid (fun W (hb : Below w1.heap.size w1 W) => (show W.cell? ⟨B, 0, none⟩ = some (.slice Ad n cd) ∧ W.cell? ⟨B, 1, none⟩ = some (.slice Ac a.cps.length cc) ∧ W.cell? ⟨B, 2, none⟩ = some (.int .u64 a.drawn) from
    ⟨(Bc hb AB.lt).trans (AB.cell 0), (Bc hb AB.lt).trans (AB.cell 1), (Bc hb AB.lt).trans (AB.cell 2)⟩))
  have HRE := Lib.hid hRE
  have HW1 := Lib.hid hw1
  have HBB := Lib.hid hBB
  have HB1 := Lib.hid B1
  have HB2 := Lib.hid B2
  have HR2 := Lib.hid R2
  have HAD := Lib.hid had
  have HAP := Lib.hid hap
  have HOK := Lib.hid hok
  have HSM := Lib.hid hsm
  have HKS := Lib.hid hks
  have HN := Lib.hid hn
  have HKN := Lib.hid hkn
  rw [hn] at HW1 HRE
  rw [hn, hkn]
  clear hw1 hBB B1 had hap AB hA hok hsm hn hkn hRE hw2 R2 B2 hP hkl hks
  go_enter Tryd.func29, Tryd.ntmps29
  go_upto_region 1 with fail
  rw [HW1.out, HBB.out]
  obtain ⟨x0, x1, x2⟩ := HX.out w1 (B0 w1)
  go_wp2_with fail
  clear x0 x1 x2 hmk
  go_loopw [8] (fun s8 wr => ∃ (i : Nat) (L : List (List Int)), i ≤ n ∧ s8 = .int .i64 i ∧ Aside (RowsAt (B + 1) (B + 2) (fun _ => True) L wr) ∧ Aside (Cou.HasL n L (Cou.Got a off (Cou.Pld a ks i 0))) ∧ Aside (Cou.Cap L (1025 * (13 * i))) ∧ Aside (Below w1.heap.size w1 wr)) (fun s8 _ => n - (intOf s8).toNat)
  case atStart => exact ⟨0, List.replicate n [], by omega, rfl, HR2.out, Cou.HasL.zero n (fun t => by rintro ⟨p, hp, _⟩; exact Cou.pld_zero p hp), (fun l hl => by rw [List.mem_replicate] at hl; rw [hl.2]; simp), HB2.out⟩
  case round =>
    clear HR2 HB2
    obtain ⟨i, L, hi, rfl, hR, hH, hC, hB⟩ := hrel
    replace hR : RowsAt (B + 1) (B + 2) (fun _ => True) L wr := hR
    replace hH : Cou.HasL n L (Cou.Got a off (Cou.Pld a ks i 0)) := hH
    replace hC : Cou.Cap L (1025 * (13 * i)) := hC
    replace hB : Below w1.heap.size w1 wr := hB
    obtain ⟨x0, x1, x2⟩ := HX.out wr hB
    by_cases hlt : i < n
    · have hltI : (i : Int) < n := by omega
      have hi1 : i < a.divs.length := by rw [HN.out]; exact hlt
      have hi2 : i < ks.length := by rw [HKN.out]; exact hlt
      obtain ⟨ad, rfl, hf, hfl⟩ := HAD.out i hi1
      obtain ⟨ap, rfl, hfp, hflp⟩ := HAP.out i hi2
      have hfb : (ad.add (i * 2)).block < w.heap.size := by rw [block_of_add]; exact hFF _ hf
      have hpb : (ap.add (i * 2)).block < w.heap.size := by rw [block_of_add]; exact hG _ hfp
      have hgc : a.divs.getD i (0, -1) = a.divs[i] := by rw [List.getD_eq_getElem?_getD, List.getElem?_eq_getElem hi1]; rfl
      have hgk : ks.getD i 0 = ks[i] := by rw [List.getD_eq_getElem?_getD, List.getElem?_eq_getElem hi2]; rfl
      have hdv := HOK.out.div _ (List.getElem_mem hi1)
      have hds := HSM.out _ (List.getElem_mem hi1)
      have hxk := HKS.out _ (List.getElem_mem hi2)
      have HFL := Lib.hid (fun W (hb : Below w1.heap.size w1 W) => (hfl.below HB1.out hfb).below hb (Nat.lt_of_lt_of_le hfb HB1.out.size))
      have HFP := Lib.hid (fun W (hb : Below w1.heap.size w1 W) => (hflp.below HB1.out hpb).below hb (Nat.lt_of_lt_of_le hpb HB1.out.size))
      have HHS := Lib.hid (fun (k : Int) W => has_any ks[i] hxk k W)
      have hskip := fun j => Cou.pld_skip (a := a) (ks := ks) (i := i) (j := j)
      have hone := fun j => Cou.pld_one (a := a) (ks := ks) (i := i) (j := j)
      have hnext := fun m => Cou.pld_next (a := a) (ks := ks) (i := i) (m := m)
      rw [hgc] at hskip hone hnext
      rw [hgk] at hskip hone
      have hina : ∀ k : Int, a.divs[i].1 ≤ k → k ≤ a.divs[i].2 → Cou.InA a ((i : Int), k) := fun k h1 h2 => ⟨by dsimp only; omega, by dsimp only; omega, by dsimp only; rw [Int.toNat_natCast, hgc, Cou.inB_iff]; exact ⟨h1, h2⟩⟩
      have HSK := Lib.hid hskip
      have HON := Lib.hid hone
      have HNX := Lib.hid hnext
      have HIN := Lib.hid hina
      have HR := Lib.hid hR
      have HH := Lib.hid hH
      have HC := Lib.hid hC
      have HB := Lib.hid hB
      clear hfl hflp hgc hgk hskip hone hnext hina hR hH hC hB hf hfp
      generalize a.divs[i] = dv at *
      generalize ks[i] = xk at *
      obtain ⟨lo, hi'⟩ := dv
      dsimp only at HFL hdv hds HSK HON HNX HIN
      have q := HFL.out wr HB.out
      have f0 := q.f0 rfl
      have f1 := q.f1 rfl
      obtain ⟨m, hm⟩ : ∃ m, (hi' + 1 - lo).toNat = m := ⟨_, rfl⟩
      have hm13 : m ≤ 13 := by omega
      have hmE : lo + (m : Int) = hi' + 1 := by omega
      clear q hm
      go_wp2_with fail
      obtain ⟨wo, rfl⟩ : ∃ wo : World, wo = wr := ⟨_, rfl⟩
      go_loopw [9] (fun s9 wr => ∃ (j : Nat) (L : List (List Int)), j ≤ m ∧ s9 = .int .i64 (lo + j) ∧ Aside (RowsAt (B + 1) (B + 2) (fun _ => True) L wr) ∧ Aside (Cou.HasL n L (Cou.Got a off (Cou.Pld a ks i j))) ∧ Aside (Cou.Cap L (1025 * (13 * i + j))) ∧ Aside (Below w1.heap.size w1 wr)) (fun s9 _ => (hi' + 1 - intOf s9).toNat)
      case atStart => exact ⟨0, L, by omega, by simp, HR.out, HH.out, HC.out, HB.out⟩
      case round =>
        clear HR HH HC HB x0 x1 x2 f0 f1
        obtain ⟨j, L, hj, rfl, hR, hH, hC, hB⟩ := hrel
        replace hR : RowsAt (B + 1) (B + 2) (fun _ => True) L wr := hR
        replace hH : Cou.HasL n L (Cou.Got a off (Cou.Pld a ks i j)) := hH
        replace hC : Cou.Cap L (1025 * (13 * i + j)) := hC
        replace hB : Below w1.heap.size w1 wr := hB
        obtain ⟨x0, x1, x2⟩ := HX.out wr hB
        have q := HFL.out wr hB
        have f0 := q.f0 rfl
        have f1 := q.f1 rfl
        have q2 := HFP.out wr hB
        have p0 := q2.f0 rfl
        have p1 := q2.f1 rfl
        clear q q2
        have HR := Lib.hid hR
        have HH := Lib.hid hH
        have HC := Lib.hid hC
        have HB := Lib.hid hB
        clear hR hH hC hB
        by_cases hjm : j < m
        · have hle : decide (lo + (j : Int) ≤ hi') = true := decide_eq_true (by omega)
          have hhs := fun W => HHS.out (lo + (j : Int)) W
          cases hhb : Nt.hasB xk (lo + (j : Int)) with
          | false =>
            rw [hhb] at hhs
            have HHJ := Lib.hid hhs
            have HH2 := Lib.hid (HH.out.iff fun t => Cou.Got.iff (HSK.out j hhb) t)
            clear hhs hhb
            unfold ntV at *
            go_wp2_with (go_at_call 30; (with_reducible refine ((HHJ.out _).mono ?_)); rintro e w3 ⟨rfl, hb3⟩; have HB3 := Lib.hid hb3; clear hb3)
            go_roundw
            case rel => exact ⟨j + 1, L, by omega, by go_num, HR.out.keep HB3.out, HH2.out, HC.out.more (by omega), Bt HB.out HB3.out⟩
            case measure => simp [intOf]; omega
          | true =>
            rw [hhb] at hhs
            have HHJ := Lib.hid hhs
            have hinA := HIN.out (lo + (j : Int)) (by omega) (by omega)
            have hone := fun p => HON.out j hinA hhb p
            have HONE := Lib.hid hone
            have HREJ := Lib.hid (fun W hb => HRE.out ((i : Int), lo + (j : Int)) (by dsimp only; omega) W hb)
            clear hhs hhb hone
            unfold ntV at *
            dsimp only at HREJ
            go_upto_region 10 with (first
              | (go_at_call 30; (with_reducible refine ((HHJ.out _).mono ?_)); rintro e w3 ⟨rfl, hb3⟩; have HB3 := Lib.hid hb3; obtain ⟨y0, y1, y2⟩ := HX.out w3 (Bt HB.out hb3); clear hb3)
              | (go_at_call 16; (with_reducible refine ((HREJ.out _ (Bt HB1.out (Bt HB.out HB3.out))).mono ?_)); rintro e w5 ⟨v5, l, rfl, hl5, ho5, hm5, hb5⟩; obtain ⟨Al, cl, rfl, hcl, _, hal⟩ := id hl5.open; have HB5 := Lib.hid hb5; have HL5 := Lib.hid hl5; have HAL := Lib.hid hal; have HO5 := Lib.hid ho5; have HM5 := Lib.hid hm5; clear hb5 hl5 hal ho5 hm5))
            have hll : l.length ≤ 1024 := Cou.cts_short HOK.out HO5.out.nodup fun c hc => Cou.Hop.in_ HOK.out ((HM5.out c).1 hc)
            have hs3B : B + 2 ≤ w3.heap.size := Nat.le_trans HR.out.size HB3.out.size
            have HR5 := Lib.hid (((HR.out.keep HB3.out).weak (N' := fun b => b < w3.heap.size ∨ w5.heap.size ≤ b) (fun b h => .inl h)).keep HB5.out)
            have HBw5 := Lib.hid (Bt HB.out (Bt HB3.out HB5.out))
            have hs35 := HB5.out.size
            obtain ⟨s3, hs3⟩ : ∃ s3, w3.heap.size = s3 := ⟨_, rfl⟩
            obtain ⟨s5, hs5⟩ : ∃ s5, w5.heap.size = s5 := ⟨_, rfl⟩
            rw [hs3, hs5] at HAL HR5
            rw [hs3] at hs3B
            have hs5' : s5 ≤ w5.heap.size := by omega
            rw [hs3, hs5] at hs35
            obtain ⟨c0, hc0⟩ : ∃ c0, 1025 * (13 * i + j) = c0 := ⟨_, rfl⟩
            have hc0' : c0 ≤ 200000 := by omega
            obtain ⟨ll, hll9⟩ : ∃ ll, l.length = ll := ⟨_, rfl⟩
            have HLL := Lib.hid hll9
            have HLN : Hid (∀ t, (Cou.Got a off (Cou.Pld a ks i j) t ∨ t ∈ l) ∨ (off.testBit i = false ∧ t = ((i : Int), lo + (j : Int))) ↔ Cou.Got a off (Cou.Pld a ks i (j + 1)) t) := Lib.hid fun t => by
              rw [Cou.Got.iff HONE.out t, Cou.got_one, ← HM5.out t]
              simp only [Int.toNat_natCast]
            have HTI := Lib.hid (fun c hc => Cou.Hop.in_ HOK.out ((HM5.out c).1 hc))
            have HC0 : Hid (∀ L, Cou.Cap L (1025 * (13 * i + j)) → Cou.Cap L c0) := Lib.hid (by rw [hc0]; exact fun _ h => h)
            have HC1 := Lib.hid hc0
            rw [hll9] at hll ⊢
            clear hll9 hs3 hs5 hc0 HONE HREJ HHJ HL5 HO5 HM5 x0 x1 x2 f0 f1 p0 p1
            obtain ⟨wo3, rfl⟩ : ∃ wo3 : World, wo3 = wr := ⟨_, rfl⟩
            go_wp2_with fail
            go_loopw [11] (fun s11 wr => ∃ (q : Nat) (L : List (List Int)), q ≤ ll ∧ s11 = .int .i64 q ∧ Aside (RowsAt (B + 1) (B + 2) (fun b => b < s3 ∨ s5 ≤ b) L wr) ∧ Aside (Cou.HasL n L (fun t => Cou.Got a off (Cou.Pld a ks i j) t ∨ t ∈ l.take q)) ∧ Aside (Cou.Cap L (c0 + q)) ∧ Aside (Agree (fun b => s3 ≤ b ∧ b < s5) w5 wr) ∧ Aside (Below w1.heap.size w1 wr) ∧ Aside (s5 ≤ wr.heap.size)) (fun s11 _ => ll - (intOf s11).toNat)
            case atStart => exact ⟨0, L, by omega, rfl, HR5.out, HH.out.iff fun t => by simp, HC0.out _ HC.out, Agree.refl _ _, HBw5.out, hs5'⟩
            case round =>
              clear HR5 HBw5 HR HH HC HB HB3 HB5 HC0
              obtain ⟨q, L, hq, rfl, hR, hH, hC, hAg, hB, hS⟩ := hrel
              replace hR : RowsAt (B + 1) (B + 2) (fun b => b < s3 ∨ s5 ≤ b) L wr := hR
              replace hH : Cou.HasL n L (fun t => Cou.Got a off (Cou.Pld a ks i j) t ∨ t ∈ l.take q) := hH
              replace hC : Cou.Cap L (c0 + q) := hC
              replace hAg : Agree (fun b => s3 ≤ b ∧ b < s5) w5 wr := hAg
              replace hB : Below w1.heap.size w1 wr := hB
              replace hS : s5 ≤ wr.heap.size := hS
              by_cases hqn : q < ll
              · have hqnI : (q : Int) < ll := by omega
                have hq1 : q < l.length := by rw [HLL.out]; exact hqn
                obtain ⟨al, rfl, hfal, hfll⟩ := HAL.out q hq1
                have hflw := hfll.keep hAg (by rw [block_of_add]; exact hfal)
                have hti := HTI.out l[q] (List.getElem_mem hq1)
                have htk : ∀ t, t ∈ l.take (q + 1) ↔ t ∈ l.take q ∨ t = l[q] := fun t => by
                  rw [List.take_add_one, List.getElem?_eq_getElem hq1, List.mem_append]
                  simp
                have kl := hflw.f0 rfl
                have k1 := hflw.f1 rfl
                clear hfll hflw
                generalize l[q] = t at *
                obtain ⟨t1, y⟩ := t
                obtain ⟨d, rfl⟩ : ∃ d : Nat, t1 = d := ⟨t1.toNat, by have := hti.1; simp only at this; omega⟩
                have hdn : d < n := by have := hti.2.1; simp only at this; rw [HN.out] at this; omega
                have hdnI : (d : Int) < n := by omega
                dsimp only at kl k1
                have hdL : d < L.length := by rw [hH.1]; exact hdn
                obtain ⟨v, ka, hvO⟩ := hR.row hdL
                obtain ⟨cs, q1, q2, q3⟩ := id hvO
                have hml0 := hC _ (List.getElem_mem hdL)
                obtain ⟨ml, hml⟩ : ∃ ml, L[d].length = ml := ⟨_, rfl⟩
                rw [hml] at q3 hml0
                have hlb : (al.add (q * 2)).block < wr.heap.size := by rw [block_of_add]; omega
                have kl2 : ∀ o, (wr.alloc o).cell? (al.add (q * 2)) = some (.int .i64 (d : Int)) := fun o => ((Ba (B0 wr) o).cell hlb).trans kl
                have hbl : B + 1 < wr.heap.size := by omega
                have ka2 : ∀ o, (wr.alloc o).cell? ⟨B + 1, d, none⟩ = some v := fun o => (Bc (Ba (B0 wr) o) hbl).trans ka
                have hown9 : ∀ o, (wr.alloc o).drew.ownsRow (B + 2) 3 1 v ml cs.flatten := fun o => q3.alloc o
                have hfl9 : Flds (wr.alloc (.cells #[.int .i64 y] 3)).drew ⟨wr.heap.size, 0, none⟩ [.int .i64 y] := Flds.new wr _ _
                have hRa := fun o => hR.keep (Ba (B0 wr) o).drew
                have HRA := Lib.hid hRa
                have HOW9 := Lib.hid hown9
                have HFL9 := Lib.hid hfl9
                have HQ1 := Lib.hid q1
                have HQ2 := Lib.hid q2
                have HML := Lib.hid hml
                have HTK := Lib.hid htk
                have HR := Lib.hid hR
                have HH := Lib.hid hH
                have HC := Lib.hid hC
                have HAG := Lib.hid hAg
                have HB := Lib.hid hB
                have HDL := Lib.hid (And.intro hdL hdL)
                have HKA := Lib.hid ka
                have HFA := Lib.hid hfal
                have hnm := hR.named d v
                have hvl : ∀ b, v.ownBlock = some b → B + 2 ≤ b := fun b e => (hvO.lt b e).1
                obtain ⟨vs, _, hbk, _⟩ := hR.ex
                have HBK := Lib.hid hbk
                have HVL := Lib.hid hvl
                have HNM := Lib.hid (fun b => hnm b ka)
                clear hbk hvl hown9 hfl9 q1 q2 q3 hml htk hR hH hC hAg hB hRa hnm hti hvO hq1
                go_upto_region 13 with fail
                have HG9 : Hid (∀ (w8 : World) (_ : World.grownBy (wr.alloc (.cells #[.int .i64 y] 3)).drew w8 v.ownBlock), w8.cell? (al.add (q * 2)) = some (.int .i64 (d : Int)) ∧ w8.cell? ⟨B + 1, d, none⟩ = some v ∧ w8.frozen? ⟨B + 1, d, none⟩ = false) := Lib.hid fun w8 hg8 => by
                  refine ⟨?_, ?_, ?_⟩
                  · refine (World.cell?_of_block (hg8.block _ (by simp; omega) fun e => ?_)).trans (kl2 _)
                    have := HNM.out _ e.symm
                    rw [block_of_add] at this
                    have := HFA.out
                    omega
                  · refine (World.cell?_of_block (hg8.block _ (by simp; omega) fun e => ?_)).trans (ka2 _)
                    have := HVL.out _ e.symm
                    simp only at this
                    omega
                  · exact ((HBK.out.alloc _).drew.grown hg8 (fun e => by have := HVL.out _ e.symm; omega)).frozen d
                go_region_law (refine step_appS elemIn (by omega) rfl _ _ rfl (B + 2) v ml cs.flatten rfl (HOW9.out _) ⟨wr.heap.size, 0, none⟩ 1 [.int .i64 y] rfl rfl HFL9.out (by simp [Value.oneCell']) (by omega) (by omega) (by simp; omega) ?_; intro g cap w8 hown8 hg8 hgg; obtain ⟨l8, a8, f8⟩ := HG9.out w8 hg8; have HO8 := Lib.hid hown8; have HG8 := Lib.hid hg8; have HGG := Lib.hid hgg; clear hown8 hg8 hgg)
                all_goals
                  go_wp2_with fail
                  go_roundw
                  case rel =>
                    refine ⟨q + 1, L.set d (L[d] ++ [y]), by omega, by go_num, ?_, ?_, ?_, ?_, ?_, ?_⟩
                    · exact RowsAt.put (w := (wr.alloc (.cells #[.int .i64 y] 3)).drew) (HRA.out _) hdL (ka2 _) HG8.out (OwnL.snoc (c := [.int .i64 y]) HQ1.out HQ2.out rfl rfl (fun _ _ h => h) (by rw [HML.out]; exact HO8.out)) (HGG.out.elim (fun e => .inl e) fun e => .inr (congrArg some e)) (.inr (by simp; omega))
                    · exact (HH.out.snoc hdn y hdL).iff fun t => by simp only [HTK.out, or_assoc]
                    · exact (HC.out.set hdL y).more (by omega)
                    · exact ((HAG.out.trans (Agree.alloc _ fun b h => by omega)).trans (Agree.grown (w := (wr.alloc (.cells #[.int .i64 y] 3)).drew) HG8.out fun b h => ⟨by simp; omega, fun e => by have := HNM.out b e.symm; omega⟩)).trans (Agree.setCell _ fun b h => by simp only; omega)
                    · exact RowsAt.below (w := (wr.alloc (.cells #[.int .i64 y] 3)).drew) (HRA.out _) hdL (ka2 _) HG8.out (Ba HB.out _).drew (by omega)
                    · show s5 ≤ _
                      have := HG8.out.size
                      simp at this ⊢
                      omega
                  case measure => simp [intOf]; omega
              · obtain rfl : q = ll := by omega
                have hm : min i 64 = i := by omega
                have h3 : ((i : Nat) : Int) % 18446744073709551616 = i := by omega
                have hsh := shr_of off i (by omega)
                have hle2 : off >>> i ≤ off := by rw [Nat.shiftRight_eq_div_pow]; exact Nat.div_le_self _ _
                have hand : bits .and .u64 ((off >>> i : Nat) : Int) 1 = ((off >>> i &&& 1 : Nat) : Int) := Hit.u64_and (off >>> i) 1 (by omega) (by omega)
                have hbit := off_bit off i hoff (by omega)
                rw [hand] at hbit
                rw [List.take_of_length_le (by rw [HLL.out]; omega)] at hH
                generalize off >>> i &&& 1 = vb at *
                generalize off >>> i = vs at *
                have HC9 : Hid (Cou.Cap L (1025 * (13 * i + (j + 1)))) := Lib.hid (hC.more (by have := HC1.out; omega))
                have HC8 : Hid (Cou.Cap L (c0 + q)) := Lib.hid hC
                have HR := Lib.hid (hR.weak (N' := fun _ => True) (fun _ _ => trivial))
                have HB := Lib.hid hB
                clear hR hC hAg hB hle2
                cases hb : off.testBit i with
                | true =>
                  rw [hb] at hbit
                  replace hbit : ((vb : Int) == 0) = false := hbit
                  have HH3 : Hid (Cou.HasL n L (Cou.Got a off (Cou.Pld a ks i (j + 1)))) := Lib.hid (hH.iff fun t => by rw [← HLN.out t, hb]; simp)
                  clear hb hH
                  go_wp2_with fail
                  go_roundw
                  case rel => exact ⟨j + 1, L, by omega, by go_num, HR.out, HH3.out, HC9.out, HB.out⟩
                  case measure => simp [intOf]; omega
                | false =>
                  rw [hb] at hbit
                  replace hbit : ((vb : Int) == 0) = true := hbit
                  have hiL : i < L.length := by rw [hH.1]; exact hlt
                  have HH3 : Hid (Cou.HasL n (L.set i (L[i] ++ [lo + (j : Int)])) (Cou.Got a off (Cou.Pld a ks i (j + 1)))) := Lib.hid ((hH.snoc hlt (lo + (j : Int)) hiL).iff fun t => by
                    rw [← HLN.out t, hb]
                    simp)
                  clear hb hH
                  obtain ⟨v, ka, hvO⟩ := HR.out.row hiL
                  obtain ⟨cs, q1, q2, q3⟩ := id hvO
                  have hml0 := HC8.out _ (List.getElem_mem hiL)
                  obtain ⟨ml, hml⟩ : ∃ ml, L[i].length = ml := ⟨_, rfl⟩
                  rw [hml] at q3 hml0
                  have hbl : B + 1 < wr.heap.size := by have := HR.out.size; omega
                  have ka2 : ∀ o, (wr.alloc o).cell? ⟨B + 1, i, none⟩ = some v := fun o => (Bc (Ba (B0 wr) o) hbl).trans ka
                  have hown9 : ∀ o, (wr.alloc o).ownsRow (B + 2) 3 1 v ml cs.flatten := fun o => q3.alloc o
                  have hfl9 : Flds (wr.alloc (.cells #[.int .i64 (lo + (j : Int))] 3)) ⟨wr.heap.size, 0, none⟩ [.int .i64 (lo + (j : Int))] := Flds.new wr _ _
                  have HRA := Lib.hid (fun o => HR.out.keep (Ba (B0 wr) o))
                  have HOW9 := Lib.hid hown9
                  have HFL9 := Lib.hid hfl9
                  have HQ1 := Lib.hid q1
                  have HQ2 := Lib.hid q2
                  have HML := Lib.hid hml
                  have hvl : ∀ b, v.ownBlock = some b → B + 2 ≤ b := fun b e => (hvO.lt b e).1
                  obtain ⟨us, _, hbk, _⟩ := HR.out.ex
                  have HBK := Lib.hid hbk
                  have HVL := Lib.hid hvl
                  clear hbk hvl hown9 hfl9 q1 q2 q3 hml hvO
                  go_upto_region 15 with fail
                  have HG9 : Hid (∀ (w8 : World) (_ : World.grownBy (wr.alloc (.cells #[.int .i64 (lo + (j : Int))] 3)) w8 v.ownBlock), w8.cell? ⟨B + 1, i, none⟩ = some v ∧ w8.frozen? ⟨B + 1, i, none⟩ = false) := Lib.hid fun w8 hg8 => by
                    refine ⟨?_, ?_⟩
                    · refine (World.cell?_of_block (hg8.block _ (by simp; omega) fun e => ?_)).trans (ka2 _)
                      have := HVL.out _ e.symm
                      simp only at this
                      omega
                    · exact ((HBK.out.alloc _).grown hg8 (fun e => by have := HVL.out _ e.symm; omega)).frozen i
                  clear hbit hand hsh h3 hm
                  go_wp2_with (at_builtin; refine wpList_appS elemIn (by omega) rfl _ _ rfl (B + 2) v ml cs.flatten rfl (HOW9.out _) ⟨wr.heap.size, 0, none⟩ 1 [.int .i64 (lo + (j : Int))] rfl rfl HFL9.out (by simp [Value.oneCell']) (by omega) (by omega) (by simp; omega) ?_; intro g cap w8 hown8 hg8 hgg; obtain ⟨a8, f8⟩ := HG9.out w8 hg8; have HO8 := Lib.hid hown8; have HG8 := Lib.hid hg8; have HGG := Lib.hid hgg; clear hown8 hg8 hgg)
                  go_roundw
                  case rel =>
                    refine ⟨j + 1, L.set i (L[i] ++ [lo + (j : Int)]), by omega, by go_num, ?_, HH3.out, ?_, ?_⟩
                    · exact RowsAt.put (w := (wr.alloc (.cells #[.int .i64 (lo + (j : Int))] 3))) (HRA.out _) hiL (ka2 _) HG8.out (OwnL.snoc (c := [.int .i64 (lo + (j : Int))]) HQ1.out HQ2.out rfl rfl (fun _ _ h => h) (by rw [HML.out]; exact HO8.out)) (HGG.out.elim (fun e => .inl e) fun e => .inr (congrArg some e)) trivial
                    · exact (HC8.out.set hiL (lo + (j : Int))).more (by have := HC1.out; omega)
                    · exact RowsAt.below (w := (wr.alloc (.cells #[.int .i64 (lo + (j : Int))] 3))) (HRA.out _) hiL (ka2 _) HG8.out (Ba HB.out _) (by omega)
                  case measure => simp [intOf]; omega
        · obtain rfl : j = m := by omega
          have hle : decide (lo + (j : Int) ≤ hi') = false := decide_eq_false (by omega)
          have HH2 := Lib.hid (HH.out.iff fun t => Cou.Got.iff (HNX.out j (by omega)) t)
          go_wp2_with fail
          go_roundw
          case rel => exact ⟨i + 1, L, by omega, by go_num, HR.out, HH2.out, HC.out.more (by omega), HB.out⟩
          case measure => simp [intOf]; omega
    · obtain rfl : i = n := by omega
      obtain ⟨hs1, hs2, hs3, hs4⟩ := hH.sets HOK.out (fun t ht => Cou.Got.in_ HOK.out (fun p hp => hp.1) ht)
      have hLn := hH.1
      obtain ⟨w9, rfl⟩ : ∃ w9 : World, w9 = wr := ⟨_, rfl⟩
      have hcap : ∀ k (hk : k < L.length), L[k].length ≤ 200000 := fun k hk => Nat.le_trans (hC _ (List.getElem_mem hk)) (by omega)
      have hof : ∀ k (hk : k < L.length) W (_ : Below w9.heap.size w9 W), ∃ v, W.cell? ⟨B + 1, k, none⟩ = some v ∧ Calls Tryd.prog 48 #[v] W (fun e w' => e = .returned (.tuple #[ntV (Nt.setF L[k] 0), .int .i64 0]) ∧ Below W.heap.size W w') := fun k hk W hb => by
        obtain ⟨v, h1, h2⟩ := (hR.keep hb).row hk
        refine ⟨v, h1, ?_⟩
        have := of_any v L[k] W (fun b => b < W.heap.size) (fun _ h => h) (h2.sl (by have := hcap k hk; omega) (fun b _ h _ => h)) (by have := hcap k hk; omega)
        have e : ofR L[k] = (Nt.setF L[k] 0, 0) := by unfold ofR; rw [if_pos (List.all_eq_true.2 (hs1 _ (List.getElem_mem hk)))]
        rw [e] at this
        exact this
      obtain ⟨M, hM⟩ : ∃ M, (L.map fun l => Nt.setF l 0) = M := ⟨_, rfl⟩
      have hMk : ∀ k (hk : k < L.length), M.take (k + 1) = M.take k ++ [Nt.setF L[k] 0] := fun k hk => by
        rw [← hM, List.take_add_one, List.getElem?_map, List.getElem?_eq_getElem hk]
        rfl
      rw [hM] at hs2 hs3 hs4
      obtain ⟨b9, hb9⟩ : ∃ b9, w9.heap.size = b9 := ⟨_, rfl⟩
      have hBb9 : B + 2 ≤ b9 := by rw [← hb9]; exact hR.size
      have HOF := Lib.hid hof
      have HMK := Lib.hid hMk
      have HS := Lib.hid (And.intro hs2 (And.intro hs3 hs4))
      have HB := Lib.hid hB
      have HB9 := Lib.hid hb9
      have HLN := Lib.hid hLn
      clear hR hH hC hB hs1 hs2 hs3 hs4 hLn hcap hof hM hMk hb9
      go_wp2_with fail
      clear x0 x1 x2
      go_loopw [12, 13] (fun s12 s13 wr => ∃ k : Nat, k ≤ i ∧ s13 = .int .i64 k ∧ Aside (OwnL b9 70 2 NtC wr s12 (M.take k)) ∧ Aside (Below w9.heap.size w9 wr)) (fun _ s13 _ => i - (intOf s13).toNat)
      case atStart => exact ⟨0, by omega, rfl, (show OwnL _ _ _ _ _ _ _ from OwnL.nil), B0 w9⟩
      case round =>
        obtain ⟨k, hk, rfl, hO, hB⟩ := hrel
        replace hO : OwnL b9 70 2 NtC wr u12 (M.take k) := hO
        replace hB : Below w9.heap.size w9 wr := hB
        have hMl : M.length = i := HS.out.1
        have htl : k < i → (M.take k).length = k := fun h => by rw [List.length_take]; omega
        by_cases hkn : k < i
        · have hknI : (k : Int) < i := by omega
          have hkL : k < L.length := by rw [HLN.out]; exact hkn
          obtain ⟨v, hv, hcall⟩ := HOF.out k hkL wr hB
          have hsnM := HMK.out k hkL
          obtain ⟨cs, q1, q2, q3⟩ := id hO
          rw [htl hkn] at q3
          have HCL := Lib.hid hcall
          have HSN := Lib.hid hsnM
          have HQ1 := Lib.hid q1
          have HQ2 := Lib.hid q2
          have HQ3 := Lib.hid q3
          have HTL := Lib.hid (htl hkn)
          have HO := Lib.hid hO
          have HBk := Lib.hid hB
          clear hcall hsnM q1 q2 q3 hO hB htl hMl
          generalize Nt.setF L[k] 0 = ky at *
          unfold ntV at *
          go_upto_region 21 with (go_at_call 48; (with_reducible refine (HCL.out.mono ?_)); rintro e w5 ⟨rfl, hb5⟩; have HB5 := Lib.hid hb5; clear hb5)
          obtain ⟨w6, hw6⟩ : ∃ w6 : World, w5.alloc (.cells #[.int .u64 ((Nt.lo ky : Nat) : Int), .int .u64 ((Nt.hi ky : Nat) : Int)] 70) = w6 := ⟨_, rfl⟩
          obtain ⟨b10, hb10⟩ : ∃ b10, w5.heap.size = b10 := ⟨_, rfl⟩
          have C6 : Blk w6 b10 70 #[.int .u64 ((Nt.lo ky : Nat) : Int), .int .u64 ((Nt.hi ky : Nat) : Int)] := by rw [← hw6, ← hb10]; exact Blk.new _ _ _
          have B6 : Below wr.heap.size wr w6 := by rw [← hw6]; exact Ba HB5.out _
          rw [hw6, hb10]
          have d0 := C6.cell 0
          have d1 := C6.cell 1
          simp only [List.getElem?_toArray, List.getElem?_cons_zero, List.getElem?_cons_succ] at d0 d1
          have HB6 := Lib.hid B6
          have HQ6 : Hid (w6.ownsRow b9 70 2 u12 k cs.flatten) := Lib.hid (HQ3.out.kept (row := none) (only_of_below B6 none) (by cases hv : u12.ownBlock <;> simp))
          have hs6 : b9 ≤ w6.heap.size := by have := B6.size; have := HBk.out.size; have := HB9.out; omega
          clear C6 B6 hw6 hb10
          go_wp2_with (at_builtin; refine wpList_appS elemNt (by omega) rfl _ _ rfl b9 u12 k cs.flatten rfl (HQ6.out.alloc _) ⟨w6.heap.size, 0, none⟩ 1 [.int .u64 ((Nt.lo ky : Nat) : Int), .int .u64 ((Nt.hi ky : Nat) : Int)] rfl rfl (Flds.new w6 _ _) (by simp [Value.oneCell']) (by omega) (by omega) (by simp; omega) ?_; intro g cap w8 hown8 hg8 hgg; have HO8 := Lib.hid hown8; have HG8 := Lib.hid hg8; clear hown8 hg8 hgg)
          go_roundw
          case rel =>
            refine ⟨k + 1, by omega, by go_num, ?_, ?_⟩
            · show OwnL _ _ _ _ _ _ _
              rw [HSN.out]
              exact OwnL.snoc (c := [.int .u64 ((Nt.lo ky : Nat) : Int), .int .u64 ((Nt.hi ky : Nat) : Int)]) HQ1.out HQ2.out rfl rfl (fun _ _ h => h) (by rw [HTL.out]; exact HO8.out)
            · show Below _ _ _
              exact (Ba (Bt HBk.out HB6.out) _).grown HG8.out (by have := HBk.out.size; have := HB6.out.size; simp; omega) fun e q => by have := (HO.out.lt e q).1; have := HB9.out; omega
          case measure => simp [intOf]; omega
        · obtain rfl : k = i := by omega
          rw [List.take_of_length_le (by omega)] at hO
          have HO := Lib.hid hO
          have HBk := Lib.hid hB
          clear hO hB htl hMl
          go_wp2_with fail
          go_ret
          exact ⟨u12, M, rfl, HO.out.sl (by rw [HS.out.1]; omega) (fun b q1 q2 _ => ⟨by have := HBB.out; omega, q2⟩), HS.out.1, HS.out.2.1, HS.out.2.2, Bt HB1.out (Bt HB.out HBk.out)⟩
end Go.Proofs.YtnkjhppjjklgfaaDoor
