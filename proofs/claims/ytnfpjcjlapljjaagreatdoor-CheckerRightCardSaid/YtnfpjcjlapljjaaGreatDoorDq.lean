/- Walk over law 54: right (its arms printed by mkr9.py). -/
import Derived.Test.YtnfpjcjlapljjaaGreatDoorDo
namespace Go.Proofs.YtnfpjcjlapljjaaGreatDoor
open Go Go.RowKit Go.Shelf
open Org
theorem near_any (n : Int) (w : World) : Calls Tryz.prog 19 #[.int .i64 n] w fun e w' => e = .returned (.bool (decide (-1000 ≤ n) && decide (n ≤ 1000))) ∧ w' = w := by
  by_cases h1 : -1000 ≤ n <;> by_cases h2 : n ≤ 1000
  all_goals
    go_enter Tryz.func19, Tryz.ntmps19
    go_wp2
    go_ret
    exact ⟨by simp [h1, h2], rfl⟩
set_option maxRecDepth 100000 in
set_option maxHeartbeats 4000000 in
theorem lright_any (s : Snd) (hn : s.Num) (cs : List Value) (w : World) (F : Nat → Prop) (hF : ∀ c, F c → c < w.heap.size) (hC : SndC F w cs s) :
    Calls Tryz.prog 9 #[.agg cs.toArray] w fun e w' => e = .returned (.bool (rightF s)) ∧ Below w.heap.size w w' := by
  obtain ⟨vr, vd, vc, vs, vk, rfl, hR, hD, hC, hS, hK⟩ := hC
  obtain ⟨⟨on, ors, ods, ocs⟩, ⟨rst, cp, of⟩, kys, rank, num⟩ := s
  dsimp only at hR hD hC hS hK ⊢
  obtain ⟨hn1, hn2, hn3, hn4⟩ := hn
  dsimp only at hn1 hn2 hn3 hn4
  obtain ⟨Ar, cr, rfl, -⟩ := Sl.openF hR
  obtain ⟨Ad, cd, rfl, -⟩ := Sl.openF hD
  obtain ⟨Ac, cc, rfl, -⟩ := Sl.openF hC
  obtain ⟨As, cs, rfl, -⟩ := Sl.openF hS
  obtain ⟨Ak, ck, rfl, -, hkl, -⟩ := Sl.openF hK
  have hrl9 : ors.length ≤ 140737488355328 := by obtain ⟨_, _, _, _, h, _⟩ := Sl.openF hR; exact h
  obtain ⟨RF, hRF⟩ : ∃ r, rightF ⟨⟨on, ors, ods, ocs⟩, ⟨rst, cp, of⟩, kys, rank, num⟩ = r := ⟨_, rfl⟩
  rw [hRF]
  obtain ⟨SS, hSS⟩ : ∃ s : Snd, (⟨⟨on, ors, ods, ocs⟩, ⟨rst, cp, of⟩, kys, rank, num⟩ : Snd) = s := ⟨_, rfl⟩
  have hRF2 : RF = ((decide (1 ≤ ods.length) && decide (ods.length ≤ 8) && decide (ocs.length ≤ 40) && decide (rst.length = ods.length) && decide (kys.length = ods.length)) && (decide (cp >>> ocs.length = 0) && decide (of >>> ods.length = 0)) && ors.all rkOk && allI (dvOk SS) ods && ocs.all (cpOk ods.length) && pipeOk SS) := by rw [← hRF, ← hSS]; rfl
  obtain ⟨nr, hnr⟩ : ∃ n, ors.length = n := ⟨_, rfl⟩
  obtain ⟨nd, hnd⟩ : ∃ n, ods.length = n := ⟨_, rfl⟩
  obtain ⟨nc, hnc⟩ : ∃ n, ocs.length = n := ⟨_, rfl⟩
  obtain ⟨ns, hns⟩ : ∃ n, rst.length = n := ⟨_, rfl⟩
  obtain ⟨nk, hnk⟩ : ∃ n, kys.length = n := ⟨_, rfl⟩
  rw [hnd, hnc, hns, hnk] at hRF2
  rw [hnr] at hrl9
  rw [hnr, hnd, hnc, hns, hnk]
  have HNR := Lib.hid hnr
  have HND := Lib.hid hnd
  have HNC := Lib.hid hnc
  have HNS := Lib.hid hns
  have HNK := Lib.hid hnk
  have HSS := Lib.hid hSS
  have HR := Lib.hid hR
  have HD := Lib.hid hD
  have HC := Lib.hid hC
  have HST := Lib.hid hS
  have HKY := Lib.hid hK
  have HN1 := Lib.hid hn1
  have HN2 := Lib.hid hn2
  clear hRF hnr hnd hnc hns hnk hSS hR hD hC hS hK hn1 hn2 hkl
  obtain ⟨w2, hw2⟩ : ∃ w2 : World, (w.alloc (.cells #[.string on, .slice Ar nr cr, .slice Ad nd cd, .slice Ac nc cc, .slice As ns cs, .int .u64 (cp : Int), .int .u64 (of : Int), .slice Ak nk ck, .int .i64 rank, .int .i64 num] 50)).alloc (.cells #[.string on, .slice Ar nr cr, .slice Ad nd cd, .slice Ac nc cc] 40) = w2 := ⟨_, rfl⟩
  obtain ⟨b, hb⟩ : ∃ b, w.heap.size = b := ⟨_, rfl⟩
  obtain ⟨ob, hob⟩ : ∃ ob, b + 1 = ob := ⟨_, rfl⟩
  have C1 : Blk w2 b 50 #[.string on, .slice Ar nr cr, .slice Ad nd cd, .slice Ac nc cc, .slice As ns cs, .int .u64 (cp : Int), .int .u64 (of : Int), .slice Ak nk ck, .int .i64 rank, .int .i64 num] := by rw [← hw2, ← hb]; exact (Blk.new _ _ _).alloc _
  have C2 : Blk w2 ob 40 #[.string on, .slice Ar nr cr, .slice Ad nd cd, .slice Ac nc cc] := by
    rw [← hw2, ← hob, ← hb]
    have h := Blk.new (w.alloc (.cells #[.string on, .slice Ar nr cr, .slice Ad nd cd, .slice Ac nc cc, .slice As ns cs, .int .u64 (cp : Int), .int .u64 (of : Int), .slice Ak nk ck, .int .i64 rank, .int .i64 num] 50)) 40 #[.string on, .slice Ar nr cr, .slice Ad nd cd, .slice Ac nc cc]
    simpa using h
  have HB2 : Hid (Below w.heap.size w w2) := Lib.hid (by rw [← hw2]; exact Ba (Ba (B0 w) _) _)
  have HCL := Lib.hid (fun W (hb : Below w2.heap.size w2 W) => (show (W.cell? ⟨ob, 0, none⟩ = some (.string on) ∧ W.cell? ⟨ob, 1, none⟩ = some (.slice Ar nr cr) ∧ W.cell? ⟨ob, 2, none⟩ = some (.slice Ad nd cd) ∧ W.cell? ⟨ob, 3, none⟩ = some (.slice Ac nc cc)) ∧ (W.cell? ⟨b, 4, none⟩ = some (.slice As ns cs) ∧ W.cell? ⟨b, 5, none⟩ = some (.int .u64 (cp : Int)) ∧ W.cell? ⟨b, 6, none⟩ = some (.int .u64 (of : Int))) ∧ W.cell? ⟨b, 7, none⟩ = some (.slice Ak nk ck) ∧ W.cell? ⟨b, 8, none⟩ = some (.int .i64 rank) ∧ W.cell? ⟨b, 9, none⟩ = some (.int .i64 num) from by
    have h1 := C2.below hb C2.lt
    have h3 := C1.below hb C1.lt
    exact ⟨⟨h1.cell 0, h1.cell 1, h1.cell 2, h1.cell 3⟩, ⟨h3.cell 4, h3.cell 5, h3.cell 6⟩, h3.cell 7, h3.cell 8, h3.cell 9⟩))
  have HW2 := Lib.hid hw2
  have HBB := Lib.hid hb
  have HOB := Lib.hid hob
  obtain ⟨⟨p0, p1, p2, p3⟩, ⟨r0, r1, r2⟩, t7, t8, t9⟩ := HCL.out w2 (B0 w2)
  clear hw2 hb hob C1 C2
  go_enter Tryz.func9, Tryz.ntmps9
  go_upto_region 2 with fail
  rw [HW2.out, HBB.out, HOB.out]
  by_cases c1 : 1 ≤ nd
  rotate_left
  · have hRF3 : RF = false := by rw [hRF2]; simp [c1]
    have HRF := Lib.hid hRF3
    have a1 : (nd : Int) < 1 := by omega
    have a1N : nd < 1 := by omega
    have a1Z : nd = 0 := by omega
    clear hRF2 hRF3
    go_wp2_with fail
    go_ret
    exact ⟨by rw [HRF.out]; rfl, HB2.out⟩
  by_cases c2 : nd ≤ 8
  rotate_left
  · have hRF3 : RF = false := by rw [hRF2]; simp [c2]
    have HRF := Lib.hid hRF3
    have a1 : ¬ (nd : Int) < 1 := by omega
    have a1N : ¬ nd < 1 := by omega
    have a1Z : ¬ nd = 0 := by omega
    have a2 : (8 : Int) < (nd : Int) := by omega
    have a2N : 8 < nd := by omega
    have a2J : ¬ (nd : Int) ≤ 8 := by omega
    clear hRF2 hRF3
    go_wp2_with fail
    go_ret
    exact ⟨by rw [HRF.out]; rfl, HB2.out⟩
  by_cases c3 : nc ≤ 40
  rotate_left
  · have hRF3 : RF = false := by rw [hRF2]; simp [c3]
    have HRF := Lib.hid hRF3
    have a1 : ¬ (nd : Int) < 1 := by omega
    have a1N : ¬ nd < 1 := by omega
    have a1Z : ¬ nd = 0 := by omega
    have a2 : ¬ (8 : Int) < (nd : Int) := by omega
    have a2N : ¬ 8 < nd := by omega
    have a2J : (nd : Int) ≤ 8 := by omega
    have a3 : (40 : Int) < (nc : Int) := by omega
    have a3N : 40 < nc := by omega
    have a3J : ¬ (nc : Int) ≤ 40 := by omega
    clear hRF2 hRF3
    go_wp2_with fail
    go_ret
    exact ⟨by rw [HRF.out]; rfl, HB2.out⟩
  by_cases c4 : ns = nd
  rotate_left
  · have hRF3 : RF = false := by rw [hRF2]; simp [c4]
    have HRF := Lib.hid hRF3
    have a1 : ¬ (nd : Int) < 1 := by omega
    have a1N : ¬ nd < 1 := by omega
    have a1Z : ¬ nd = 0 := by omega
    have a2 : ¬ (8 : Int) < (nd : Int) := by omega
    have a2N : ¬ 8 < nd := by omega
    have a2J : (nd : Int) ≤ 8 := by omega
    have a3 : ¬ (40 : Int) < (nc : Int) := by omega
    have a3N : ¬ 40 < nc := by omega
    have a3J : (nc : Int) ≤ 40 := by omega
    have a4 : ¬ (ns : Int) = (nd : Int) := by omega
    have a4B : ((ns : Int) == (nd : Int)) = false := by simp; omega
    clear hRF2 hRF3
    go_wp2_with fail
    go_ret
    exact ⟨by rw [HRF.out]; rfl, HB2.out⟩
  by_cases c5 : nk = nd
  rotate_left
  · have hRF3 : RF = false := by rw [hRF2]; simp [c5]
    have HRF := Lib.hid hRF3
    have a1 : ¬ (nd : Int) < 1 := by omega
    have a1N : ¬ nd < 1 := by omega
    have a1Z : ¬ nd = 0 := by omega
    have a2 : ¬ (8 : Int) < (nd : Int) := by omega
    have a2N : ¬ 8 < nd := by omega
    have a2J : (nd : Int) ≤ 8 := by omega
    have a3 : ¬ (40 : Int) < (nc : Int) := by omega
    have a3N : ¬ 40 < nc := by omega
    have a3J : (nc : Int) ≤ 40 := by omega
    have a4 : (ns : Int) = (nd : Int) := by omega
    have a5 : ¬ (nk : Int) = (nd : Int) := by omega
    have a5B : ((nk : Int) == (nd : Int)) = false := by simp; omega
    clear hRF2 hRF3
    go_wp2_with fail
    go_ret
    exact ⟨by rw [HRF.out]; rfl, HB2.out⟩
  have hRF3 : RF = ((decide (cp >>> nc = 0) && decide (of >>> nd = 0)) && ors.all rkOk && allI (dvOk SS) ods && ocs.all (cpOk nd) && pipeOk SS) := by rw [hRF2]; simp [c1, c2, c3, c4, c5]
  have HRF := Lib.hid hRF3
  clear hRF2 hRF3
  have a1 : ¬ (nd : Int) < 1 := by omega
  have a1N : ¬ nd < 1 := by omega
  have a1Z : ¬ nd = 0 := by omega
  have a2 : ¬ (8 : Int) < (nd : Int) := by omega
  have a2N : ¬ 8 < nd := by omega
  have a2J : (nd : Int) ≤ 8 := by omega
  have a3 : ¬ (40 : Int) < (nc : Int) := by omega
  have a3N : ¬ 40 < nc := by omega
  have a3J : (nc : Int) ≤ 40 := by omega
  have a4 : (ns : Int) = (nd : Int) := by omega
  have a5 : (nk : Int) = (nd : Int) := by omega
  go_upto_region 5 with fail
  clear a1 a1N a1Z a2 a2N a2J a3 a3N a3J a4 a5 p0 p1 p2 p3 r0 r1 r2 t7 t8 t9
  go_loopg [58] nr (fun gg s58 wr => ∃ (k : Nat), k ≤ nr ∧ nr - k ≤ gg ∧ s58 = .int .i64 (k : Int) ∧ Aside (∀ j (h : j < ors.length), j < k → rkOk ors[j] = true) ∧ Aside (Below w2.heap.size w2 wr))
  case atStart => exact ⟨0, by omega, by omega, rfl, (fun j _ h => absurd h (by omega)), B0 w2⟩
  case round =>
    obtain ⟨k, hk, hg, rfl, hA, hBr⟩ := hrel
    replace hA : ∀ j (h : j < ors.length), j < k → rkOk ors[j] = true := hA
    replace hBr : Below w2.heap.size w2 wr := hBr
    have HA := Lib.hid hA
    have HBR := Lib.hid hBr
    by_cases hlt : k < nr
    · have hkI : (k : Int) < (nr : Int) := by omega
      have hkd : decide ((k : Int) < (nr : Int)) = true := decide_eq_true hkI
      have hkl : k < ors.length := by rw [HNR.out]; exact hlt
      obtain ⟨A', c', e', -, -, hat⟩ := Sl.openF HR.out
      rw [HNR.out] at e'
      injection e' with e1 e2 e3
      obtain ⟨ad, cse, eA, hFa, -, ⟨vw, rfl, hwd⟩, hfl⟩ := hat k hkl
      have eA' : Ar = some ad := by rw [e1]; exact eA
      clear e1 e2 e3 eA hat
      subst eA'
      obtain ⟨Aw, cw, rfl, -⟩ := Sl.openF hwd
      have hfl2 := hfl.below (Bt HB2.out hBr) (by rw [block_of_add]; exact hF _ hFa)
      obtain ⟨p, hpA⟩ : ∃ p, ad.add (k * 6) = p := ⟨_, rfl⟩
      rw [hpA] at hfl2
      have q0 := hfl2.f0 rfl
      have q1 := hfl2.fs 0 rfl
      have q2 := hfl2.fs 1 rfl
      have q3 := hfl2.fs 2 rfl
      have q4 := hfl2.fs 3 rfl
      have q5 := hfl2.fs 4 rfl
      obtain ⟨nw, hnw⟩ : ∃ n, ors[k].wind.length = n := ⟨_, rfl⟩
      rw [hnw] at q5
      obtain ⟨⟨rn, rt, rnm, rdn, rfs, rwd⟩, hrk⟩ : ∃ r, ors[k] = r := ⟨_, rfl⟩
      rw [hrk] at q0 q1 q2 q3 q4
      dsimp only at q0 q1 q2 q3 q4
      have hWR := fun W => near_any rfs W
      obtain ⟨R, hR⟩ : ∃ R, (decide (-1000 ≤ rfs) && decide (rfs ≤ 1000)) = R := ⟨_, rfl⟩
      rw [hR] at hWR
      have HKR : Hid (rkOk ors[k] = R) := Lib.hid (by rw [hrk]; exact hR)
      have HWR := Lib.hid hWR
      clear hA hBr hwd hfl hfl2 hWR hR hrk hnw hFa
      cases R with
      | false =>
        have hRF4 : RF = false := by rw [HRF.out, all_falseO k hkl HKR.out]; simp
        have HRF4 := Lib.hid hRF4
        clear hRF4
        go_wp2_with (go_at_call 19; (with_reducible refine ((HWR.out _).mono ?_)); rintro e w4 ⟨rfl, rfl⟩)
        go_ret
        exact ⟨by rw [HRF4.out]; rfl, Bt HB2.out (Ba HBR.out _)⟩
      | true =>
        go_wp2_with (go_at_call 19; (with_reducible refine ((HWR.out _).mono ?_)); rintro e w4 ⟨rfl, rfl⟩)
        go_roundg (nr - (k + 1))
        case measure => omega
        case rel =>
          exact ⟨k + 1, by omega, by omega, by go_num, (fun j h hj => by
            by_cases e : j = k
            · subst e; exact HKR.out
            · exact HA.out j h (by omega)), Ba HBR.out _⟩
    · obtain rfl : nr = k := by omega
      have hkd : decide ((nr : Int) < (nr : Int)) = false := decide_eq_false (by omega)
      have hRK : ors.all rkOk = true := all_trueO fun j h => hA j h (by rw [← HNR.out]; exact h)
      have HRK := Lib.hid hRK
      obtain ⟨⟨p0, p1, p2, p3⟩, -⟩ := HCL.out wr hBr
      clear hRK hA hBr HA
      go_upto_region 11 with fail
      obtain ⟨wA, rfl⟩ : ∃ W : World, W = wr := ⟨wr, rfl⟩
      have HBA := HBR
      clear HBR p0 p1 p2 p3
      go_loopg [70] nd (fun gg s70 wr => ∃ (k : Nat), k ≤ nd ∧ nd - k ≤ gg ∧ s70 = .int .i64 (k : Int) ∧ Aside (∀ j (h : j < ods.length), j < k → dvOk SS j ods[j] = true) ∧ Aside (Below w2.heap.size w2 wr))
      case atStart => exact ⟨0, by omega, by omega, rfl, (fun j _ h => absurd h (by omega)), HBA.out⟩
      case round =>
        obtain ⟨k, hk, hg, rfl, hA, hBr⟩ := hrel
        replace hA : ∀ j (h : j < ods.length), j < k → dvOk SS j ods[j] = true := hA
        replace hBr : Below w2.heap.size w2 wr := hBr
        have HA := Lib.hid hA
        have HBR := Lib.hid hBr
        by_cases hlt : k < nd
        · have hkI : (k : Int) < (nd : Int) := by omega
          have hkd : decide ((k : Int) < (nd : Int)) = true := decide_eq_true hkI
          have hkl : k < ods.length := by rw [HND.out]; exact hlt
          have hB0 : Below w.heap.size w wr := Bt HB2.out hBr
          obtain ⟨A', c', e', -, -, hat⟩ := Sl.openF HD.out
          rw [HND.out] at e'
          injection e' with e1 e2 e3
          obtain ⟨ad, cse, eA, hFa, -, ⟨vt, rfl, hst⟩, hfl⟩ := hat k hkl
          have eA' : Ad = some ad := by rw [e1]; exact eA
          clear e1 e2 e3 eA hat
          obtain ⟨At, ct, rfl, -, hls9, -⟩ := Sl.openF hst
          have hfl2 := hfl.below hB0 (by rw [block_of_add]; exact hF _ hFa)
          obtain ⟨p5, hp5⟩ : ∃ p, ad.add (k * 5) = p := ⟨_, rfl⟩
          rw [hp5] at hfl2
          -- the keys and the word of the division
          have hkk : k < kys.length := by rw [HNK.out]; omega
          have hks : k < rst.length := by rw [HNS.out]; omega
          obtain ⟨Ak', ck', ek, -, -, hatk⟩ := Sl.openF HKY.out
          injection ek with ek1 ek2 ek3
          obtain ⟨adk, cskk, eAk, hFk, -, ekk, hflk⟩ := hatk k hkk
          have eAk' : Ak = some adk := by rw [ek1]; exact eAk
          rw [show cskk = _ from ekk] at hflk
          have hflk2 := hflk.below hB0 (by rw [block_of_add]; exact hF _ hFk)
          obtain ⟨p, hpA⟩ : ∃ p, adk.add (k * 2) = p := ⟨_, rfl⟩
          rw [hpA] at hflk2
          obtain ⟨As', cs', es, -, -, hats⟩ := Sl.openF HST.out
          injection es with es1 es2 es3
          obtain ⟨ads, csss, eAs, hFs, -, ess, hfls⟩ := hats k hks
          have eAs' : As = some ads := by rw [es1]; exact eAs
          rw [show csss = _ from ess] at hfls
          have hfls2 := hfls.below hB0 (by rw [block_of_add]; exact hF _ hFs)
          obtain ⟨q, hqA⟩ : ∃ q, ads.add (k * 1) = q := ⟨_, rfl⟩
          rw [hqA] at hfls2
          have hpb : p.block < wr.heap.size := by rw [← hpA, block_of_add]; exact Nat.lt_of_lt_of_le (hF _ hFk) hB0.size
          have hqb : q.block < wr.heap.size := by rw [← hqA, block_of_add]; exact Nat.lt_of_lt_of_le (hF _ hFs) hB0.size
          have hx128 : kys[k] < 2 ^ 128 := HN1.out _ (List.getElem_mem hkk)
          obtain ⟨x, hx⟩ : ∃ x, kys[k] = x := ⟨_, rfl⟩
          obtain ⟨v, hv⟩ : ∃ v, rst[k] = v := ⟨_, rfl⟩
          rw [hx] at hflk2 hx128
          rw [hv] at hfls2
          obtain ⟨⟨dn, dp, lo, hi, sts⟩, hdk⟩ : ∃ d, ods[k] = d := ⟨_, rfl⟩
          rw [hdk] at hfl2 hst hls9
          dsimp only at hfl2 hst hls9
          obtain ⟨ls, hls⟩ : ∃ n, sts.length = n := ⟨_, rfl⟩
          rw [hls] at hfl2 hls9
          have HLS := Lib.hid hls
          have HDV : Hid (dvOk SS k ods[k] = (decide (ls ≤ 60) && compB lo hi x && decide (v >>> ls = 0) && sts.all (stOk nr))) := Lib.hid (by
            rw [hdk, ← HSS.out]
            unfold dvOk
            dsimp only
            rw [hls, HNR.out, List.getD_eq_getElem?_getD, List.getD_eq_getElem?_getD, List.getElem?_eq_getElem hkk, List.getElem?_eq_getElem hks, hx, hv]
            rfl)
          have HSTS := Lib.hid hst
          have q0 := hfl2.f0 rfl
          have q1 := hfl2.fs 0 rfl
          have q2 := hfl2.fs 1 rfl
          have q3 := hfl2.fs 2 rfl
          have q4 := hfl2.fs 3 rfl
          have x0 := hflk2.f0 rfl
          have x1 := hflk2.fs 0 rfl
          have v0 := hfls2.f0 rfl
          rw [Nat.mul_one] at hqA
          subst eA' eAk' eAs'
          clear ek1 ek2 ek3 eAk hatk ekk hflk hflk2 es1 es2 es3 eAs hats ess hfls hfls2 hfl hfl2 hA hst hls hdk hx hv hFa hFk hFs
          obtain ⟨xl, hxl⟩ : ∃ n, Nt.lo x = n := ⟨_, rfl⟩
          obtain ⟨xh, hxh⟩ : ∃ n, Nt.hi x = n := ⟨_, rfl⟩
          have hHA := fun (n : Int) W => has_any x hx128 n W
          unfold ntV at hHA
          rw [hxl, hxh] at hHA
          rw [hxl] at x0
          rw [hxh] at x1
          obtain ⟨v5, hv5⟩ : ∃ n, v >>> ls = n := ⟨_, rfl⟩
          rw [hv5] at HDV
          obtain ⟨db, hdb⟩ : ∃ db, wr.heap.size = db := ⟨_, rfl⟩
          obtain ⟨wD, hwD⟩ : ∃ wD : World, wr.alloc (.cells #[.string dn, .bool dp, .int .i64 lo, .int .i64 hi, .slice At ls ct] 80) = wD := ⟨_, rfl⟩
          have KD : Blk wD db 80 #[.string dn, .bool dp, .int .i64 lo, .int .i64 hi, .slice At ls ct] := by rw [← hwD, ← hdb]; exact Blk.new _ _ _
          have hBD : Below wr.heap.size wr wD := by rw [← hwD]; exact Ba (B0 wr) _
          have hBW : Below w2.heap.size w2 wD := Bt HBR.out hBD
          have HBW := Lib.hid hBW
          have HS := Lib.hid (fun W (hb : Below wD.heap.size wD W) => (show ((W.cell? ⟨db, 2, none⟩ = some (.int .i64 lo) ∧ W.cell? ⟨db, 3, none⟩ = some (.int .i64 hi) ∧ W.cell? ⟨db, 4, none⟩ = some (.slice At ls ct)) ∧ W.cell? ⟨b, 7, none⟩ = some (.slice (some adk) nd ck) ∧ W.cell? ⟨b, 4, none⟩ = some (.slice (some ads) nd cs)) ∧ (W.cell? p = some (.int .u64 (xl : Int)) ∧ W.cell? ⟨p.block, p.off + 1, none⟩ = some (.int .u64 (xh : Int))) ∧ W.cell? q = some (.int .u64 (v : Int)) from by
            have h := KD.below hb KD.lt
            obtain ⟨-, ⟨h1, -, -⟩, h2, -, -⟩ := HCL.out W (Bt hBW hb)
            rw [c5] at h2
            rw [c4] at h1
            have hb' := Bt hBD hb
            exact ⟨⟨⟨h.cell 2, h.cell 3, h.cell 4⟩, h2, h1⟩, ⟨(hb'.cell (p := p) hpb).trans x0, (hb'.cell (p := ⟨p.block, p.off + 1, none⟩) hpb).trans x1⟩, (hb'.cell (p := q) hqb).trans v0⟩))
          have HHA := Lib.hid hHA
          clear hHA hxl hxh hx128 KD hBD hBW x0 x1 v0 hpb hqb hBr
          go_upto_region 13 with fail
          clear q0 q1 q2 q3 q4 hwD
          obtain ⟨⟨⟨z2, z3, z4⟩, z7, zr⟩, -, z0⟩ := HS.out wD (B0 wD)
          by_cases g1 : ls ≤ 60
          rotate_left
          · have hRF4 : RF = false := by rw [HRF.out, allI_false k hkl (by rw [HDV.out]; simp [g1])]; simp
            have HRF4 := Lib.hid hRF4
            have b1 : (60 : Int) < (ls : Int) := by omega
            have b1J : ¬ (ls : Int) ≤ 60 := by omega
            clear hRF4
            go_quiet (fail)
            obtain ⟨w5, hw5⟩ : ∃ w5 : World, wD.drewN nq = w5 := ⟨_, rfl⟩
            rw [hw5]
            have HB5 : Hid (Below w2.heap.size w2 w5) := Lib.hid (by rw [← hw5]; exact below_drewN HBW.out _)
            clear hw5
            go_wp2_with fail
            go_ret
            exact ⟨by rw [HRF4.out]; rfl, Bt HB2.out HB5.out⟩
          by_cases g2 : 0 ≤ lo
          rotate_left
          · have hRF4 : RF = false := by rw [HRF.out, allI_false k hkl (by rw [HDV.out]; unfold compB; simp [g2])]; simp
            have HRF4 := Lib.hid hRF4
            have b1 : ¬ (60 : Int) < (ls : Int) := by omega
            have b1J : (ls : Int) ≤ 60 := by omega
            have b2 : lo < 0 := by omega
            have b2J : ¬ 0 ≤ lo := by omega
            clear hRF4
            go_quiet (fail)
            obtain ⟨w5, hw5⟩ : ∃ w5 : World, wD.drewN nq = w5 := ⟨_, rfl⟩
            rw [hw5]
            have HB5 : Hid (Below w2.heap.size w2 w5) := Lib.hid (by rw [← hw5]; exact below_drewN HBW.out _)
            clear hw5
            go_wp2_with fail
            go_ret
            exact ⟨by rw [HRF4.out]; rfl, Bt HB2.out HB5.out⟩
          by_cases g3 : hi ≤ 127
          rotate_left
          · have hRF4 : RF = false := by rw [HRF.out, allI_false k hkl (by rw [HDV.out]; unfold compB; simp [g3])]; simp
            have HRF4 := Lib.hid hRF4
            have b1 : ¬ (60 : Int) < (ls : Int) := by omega
            have b1J : (ls : Int) ≤ 60 := by omega
            have b2 : ¬ lo < 0 := by omega
            have b2J : 0 ≤ lo := by omega
            have b3 : 127 < hi := by omega
            have b3J : ¬ hi ≤ 127 := by omega
            clear hRF4
            go_quiet (fail)
            obtain ⟨w5, hw5⟩ : ∃ w5 : World, wD.drewN nq = w5 := ⟨_, rfl⟩
            rw [hw5]
            have HB5 : Hid (Below w2.heap.size w2 w5) := Lib.hid (by rw [← hw5]; exact below_drewN HBW.out _)
            clear hw5
            go_wp2_with fail
            go_ret
            exact ⟨by rw [HRF4.out]; rfl, Bt HB2.out HB5.out⟩
          by_cases g4 : lo ≤ hi
          rotate_left
          · have hRF4 : RF = false := by rw [HRF.out, allI_false k hkl (by rw [HDV.out]; unfold compB; simp [g4])]; simp
            have HRF4 := Lib.hid hRF4
            have b1 : ¬ (60 : Int) < (ls : Int) := by omega
            have b1J : (ls : Int) ≤ 60 := by omega
            have b2 : ¬ lo < 0 := by omega
            have b2J : 0 ≤ lo := by omega
            have b3 : ¬ 127 < hi := by omega
            have b3J : hi ≤ 127 := by omega
            have b4 : hi < lo := by omega
            have b4J : ¬ lo ≤ hi := by omega
            clear hRF4
            go_quiet (fail)
            obtain ⟨w5, hw5⟩ : ∃ w5 : World, wD.drewN nq = w5 := ⟨_, rfl⟩
            rw [hw5]
            have HB5 : Hid (Below w2.heap.size w2 w5) := Lib.hid (by rw [← hw5]; exact below_drewN HBW.out _)
            clear hw5
            go_wp2_with fail
            go_ret
            exact ⟨by rw [HRF4.out]; rfl, Bt HB2.out HB5.out⟩
          by_cases g5 : v5 = 0
          rotate_left
          · have hRF4 : RF = false := by rw [HRF.out, allI_false k hkl (by rw [HDV.out]; simp [g5])]; simp
            have HRF4 := Lib.hid hRF4
            have b1 : ¬ (60 : Int) < (ls : Int) := by omega
            have b1J : (ls : Int) ≤ 60 := by omega
            have b2 : ¬ lo < 0 := by omega
            have b2J : 0 ≤ lo := by omega
            have b3 : ¬ 127 < hi := by omega
            have b3J : hi ≤ 127 := by omega
            have b4 : ¬ hi < lo := by omega
            have b4J : lo ≤ hi := by omega
            have b5 : ¬ (v5 : Int) = 0 := by omega
            have b5B : ((v5 : Int) == 0) = false := by simp; omega
            have s7 := shr_ofO v ls (by omega)
            have m7 : min ls 64 = ls := by omega
            rw [hv5] at s7
            have u7 : IntKind.u64.wrap (ls : Int) = (ls : Int) := by rw [IntKind.wrap_u64]; omega
            have u8 : (ls : Int) % 18446744073709551616 = (ls : Int) := by omega
            clear hRF4
            go_quiet (fail)
            obtain ⟨w5, hw5⟩ : ∃ w5 : World, wD.drewN nq = w5 := ⟨_, rfl⟩
            rw [hw5]
            have HB5 : Hid (Below w2.heap.size w2 w5) := Lib.hid (by rw [← hw5]; exact below_drewN HBW.out _)
            clear hw5
            go_wp2_with fail
            go_ret
            exact ⟨by rw [HRF4.out]; rfl, Bt HB2.out HB5.out⟩
          have b1 : ¬ (60 : Int) < (ls : Int) := by omega
          have b1J : (ls : Int) ≤ 60 := by omega
          have b2 : ¬ lo < 0 := by omega
          have b2J : 0 ≤ lo := by omega
          have b3 : ¬ 127 < hi := by omega
          have b3J : hi ≤ 127 := by omega
          have b4 : ¬ hi < lo := by omega
          have b4J : lo ≤ hi := by omega
          have b5 : (v5 : Int) = 0 := by omega
          have s7 := shr_ofO v ls (by omega)
          have m7 : min ls 64 = ls := by omega
          rw [hv5] at s7
          have u7 : IntKind.u64.wrap (ls : Int) = (ls : Int) := by rw [IntKind.wrap_u64]; omega
          have u8 : (ls : Int) % 18446744073709551616 = (ls : Int) := by omega
          go_quiet (fail)
          obtain ⟨w5, hw5⟩ : ∃ w5 : World, wD.drewN nq = w5 := ⟨_, rfl⟩
          rw [hw5]
          have HB5 : Hid (Below wD.heap.size wD w5) := Lib.hid (by rw [← hw5]; exact below_drewN (B0 wD) _)
          clear hw5 b1 b2 b3 b4 b5 b1J b2J b3J b4J s7 m7 u7 u8 z2 z3 z4 z7 zr z0
          go_upto_region 16 with fail
          obtain ⟨ga, rfl⟩ : ∃ ga : Nat, ga = gk := ⟨gk, rfl⟩
          go_loopg [8] 128 (fun gg s8 w3 => ∃ (m : Nat), m ≤ 128 ∧ 128 - m ≤ gg ∧ s8 = .int .i64 (m : Int) ∧ Aside (∀ i : Nat, i < m → x.testBit i = true → lo ≤ (i : Int) ∧ (i : Int) ≤ hi) ∧ Aside (Below w5.heap.size w5 w3))
          case atStart => exact ⟨0, by omega, by omega, rfl, (fun i h => absurd h (by omega)), B0 w5⟩
          case round =>
            obtain ⟨wq, rfl⟩ : ∃ W : World, W = wr := ⟨wr, rfl⟩
            obtain ⟨m, hm, hg3, rfl, hX, hB9⟩ := hrel
            replace hX : ∀ i : Nat, i < m → x.testBit i = true → lo ≤ (i : Int) ∧ (i : Int) ≤ hi := hX
            replace hB9 : Below w5.heap.size w5 wq := hB9
            have HXX := Lib.hid hX
            have HBQ : Hid (Below w2.heap.size w2 wq) := Lib.hid (Bt HBW.out (Bt HB5.out hB9))
            have HB9Q := Lib.hid hB9
            obtain ⟨⟨⟨z2, z3, z4⟩, z7, zr⟩, ⟨y0, y1⟩, -⟩ := HS.out wq (Bt HB5.out hB9)
            by_cases hmt : m < 128
            · have hmI : (m : Int) < 128 := by omega
              have hmd : decide ((m : Int) < 128) = true := decide_eq_true hmI
              have hHM : ∀ W, Calls Tryz.prog 20 #[.agg #[.int .u64 (xl : Int), .int .u64 (xh : Int)], .int .i64 (m : Int)] W fun e w' => e = .returned (.bool (x.testBit m)) ∧ Below W.heap.size W w' := fun W => by
                have h := HHA.out (m : Int) W
                have e : Nt.hasB x (m : Int) = x.testBit m := by
                  unfold Nt.hasB Nt.noteB
                  rw [decide_eq_true (by omega : 0 ≤ (m : Int)), decide_eq_true (by omega : (m : Int) ≤ 127), Int.toNat_natCast]
                  simp
                rw [e] at h
                exact h
              obtain ⟨T, hT⟩ : ∃ T, x.testBit m = T := ⟨_, rfl⟩
              rw [hT] at hHM
              have HHM := Lib.hid hHM
              have HTB := Lib.hid hT
              clear hHM hX hB9 hT
              cases T with
              | false =>
                go_wp2_with (go_at_call 20; (with_reducible refine ((HHM.out _).mono ?_)); rintro e w4 ⟨rfl, hb4⟩; have HB4 := Lib.hid (Bt HB9Q.out hb4); clear hb4)
                go_roundg (128 - (m + 1))
                case measure => omega
                case rel =>
                  exact ⟨m + 1, by omega, by omega, by go_num, (fun i h hi => by
                    by_cases e : i = m
                    · subst e; rw [HTB.out] at hi; cases hi
                    · exact HXX.out i (by omega) hi), HB4.out⟩
              | true =>
                by_cases g6 : lo ≤ (m : Int) ∧ (m : Int) ≤ hi
                · obtain ⟨g61, g62⟩ := g6
                  have g63 : ¬ (m : Int) < lo := by omega
                  have g64 : ¬ hi < (m : Int) := by omega
                  go_wp2_with (go_at_call 20; (with_reducible refine ((HHM.out _).mono ?_)); rintro e w4 ⟨rfl, hb4⟩; have HB4 := Lib.hid (Bt HB9Q.out hb4); (obtain ⟨⟨⟨z2', z3', z4'⟩, -, -⟩, -, -⟩ := HS.out w4 (Bt HB5.out HB4.out)); clear hb4)
                  go_roundg (128 - (m + 1))
                  case measure => omega
                  case rel =>
                    exact ⟨m + 1, by omega, by omega, by go_num, (fun i h hi => by
                      by_cases e : i = m
                      · subst e; exact ⟨g61, g62⟩
                      · exact HXX.out i (by omega) hi), HB4.out⟩
                · have hcp : compB lo hi x = false := by
                    have hw : withinB lo hi (memI x) = false := by
                      cases hc : withinB lo hi (memI x) with
                      | false => rfl
                      | true =>
                        unfold withinB at hc
                        have h1 := List.all_eq_true.1 hc (m : Int) (by
                          unfold memI
                          rw [mem_eq]
                          exact List.mem_map.2 ⟨m, List.mem_filter.2 ⟨List.mem_range.2 hmt, HTB.out⟩, rfl⟩)
                        simp only [Bool.and_eq_true, decide_eq_true_eq] at h1
                        exact absurd h1 g6
                    unfold compB
                    rw [hw, Bool.and_false]
                  have hRF4 : RF = false := by rw [HRF.out, allI_false k hkl (by rw [HDV.out, hcp]; simp)]; simp
                  have HRF4 := Lib.hid hRF4
                  clear hRF4 hcp
                  by_cases g7 : (m : Int) < lo
                  · have g7J : ¬ lo ≤ (m : Int) := by omega
                    go_wp2_with (go_at_call 20; (with_reducible refine ((HHM.out _).mono ?_)); rintro e w4 ⟨rfl, hb4⟩; have HB4 := Lib.hid (Bt HB9Q.out hb4); (obtain ⟨⟨⟨z2', z3', z4'⟩, -, -⟩, -, -⟩ := HS.out w4 (Bt HB5.out HB4.out)); clear hb4)
                    go_ret
                    exact ⟨by rw [HRF4.out]; rfl, Bt HB2.out (Bt HBW.out (Bt HB5.out HB4.out))⟩
                  · have g7J : lo ≤ (m : Int) := by omega
                    have g8 : hi < (m : Int) := by omega
                    have g8J : ¬ (m : Int) ≤ hi := by omega
                    go_wp2_with (go_at_call 20; (with_reducible refine ((HHM.out _).mono ?_)); rintro e w4 ⟨rfl, hb4⟩; have HB4 := Lib.hid (Bt HB9Q.out hb4); (obtain ⟨⟨⟨z2', z3', z4'⟩, -, -⟩, -, -⟩ := HS.out w4 (Bt HB5.out HB4.out)); clear hb4)
                    go_ret
                    exact ⟨by rw [HRF4.out]; rfl, Bt HB2.out (Bt HBW.out (Bt HB5.out HB4.out))⟩
            · obtain rfl : m = 128 := by omega
              have hmd : decide (((128 : Nat) : Int) < 128) = false := rfl
              have hcp : compB lo hi x = true := by
                have hw : withinB lo hi (memI x) = true := by
                  unfold withinB
                  rw [List.all_eq_true]
                  intro n hn
                  unfold memI at hn
                  rw [mem_eq] at hn
                  obtain ⟨i, hi', rfl⟩ := List.mem_map.1 hn
                  obtain ⟨h1, h2⟩ := List.mem_filter.1 hi'
                  have := hX i (List.mem_range.1 h1) h2
                  simp; omega
                unfold compB
                rw [hw, decide_eq_true g2, decide_eq_true g3, decide_eq_true g4]
                rfl
              have hHD : dvOk SS k ods[k] = sts.all (stOk nr) := by rw [HDV.out, g5, hcp]; simp; omega
              have HHD := Lib.hid hHD
              clear hHD hcp hX hB9
              go_upto_region 21 with fail
              obtain ⟨gb, rfl⟩ : ∃ gb : Nat, gb = gk := ⟨gk, rfl⟩
              have HBWQ := Lib.hid (Bt HB5.out HB9Q.out)
              go_loopg [142] ls (fun gg s142 w3 => ∃ (j : Nat), j ≤ ls ∧ ls - j ≤ gg ∧ s142 = .int .i64 (j : Int) ∧ Aside (∀ i (h : i < sts.length), i < j → stOk nr sts[i] = true) ∧ Aside (Below wq.heap.size wq w3))
              case atStart => exact ⟨0, by omega, by omega, rfl, (fun j _ h => absurd h (by omega)), B0 wq⟩
              case round =>
                obtain ⟨wu, rfl⟩ : ∃ W : World, W = wr := ⟨wr, rfl⟩
                obtain ⟨j, hj, hg4, rfl, hAj, hBU⟩ := hrel
                replace hAj : ∀ i (h : i < sts.length), i < j → stOk nr sts[i] = true := hAj
                replace hBU : Below wq.heap.size wq wu := hBU
                have HAJ := Lib.hid hAj
                have HBU := Lib.hid hBU
                have HBU2 : Hid (Below w2.heap.size w2 wu) := Lib.hid (Bt HBQ.out hBU)
                by_cases hjt : j < ls
                · have hjI : (j : Int) < (ls : Int) := by omega
                  have hjd : decide ((j : Int) < (ls : Int)) = true := decide_eq_true hjI
                  have hjl : j < sts.length := by rw [HLS.out]; exact hjt
                  have hB0 : Below w.heap.size w wu := Bt HB2.out HBU2.out
                  obtain ⟨A', c', e', -, -, hat⟩ := Sl.openF HSTS.out
                  injection e' with e1 e2 e3
                  obtain ⟨adt, cse, eA, hFa, -, ⟨vg, rfl, hsg⟩, hfl⟩ := hat j hjl
                  have eA' : At = some adt := by rw [e1]; exact eA
                  have hfl2 := hfl.below hB0 (by rw [block_of_add]; exact hF _ hFa)
                  obtain ⟨p4, hp4⟩ : ∃ p, adt.add (j * 4) = p := ⟨_, rfl⟩
                  rw [hp4] at hfl2
                  obtain ⟨Ag, cg, rfl, -⟩ := Sl.openF hsg
                  obtain ⟨⟨sn, snm, sdn, sgs⟩, hsj⟩ : ∃ s, sts[j] = s := ⟨_, rfl⟩
                  rw [hsj] at hfl2 hsg
                  dsimp only at hfl2 hsg
                  obtain ⟨ng, hng⟩ : ∃ n, sgs.length = n := ⟨_, rfl⟩
                  rw [hng] at hfl2
                  have hng9 : ng ≤ 140737488355328 := by obtain ⟨_, _, _, _, h, _⟩ := Sl.openF hsg; rw [← hng]; exact h
                  have HNG := Lib.hid hng
                  have HSJ : Hid (stOk nr sts[j] = sgs.all (sgOk nr)) := Lib.hid (by rw [hsj]; rfl)
                  have HSEG := Lib.hid hsg
                  have q0 := hfl2.f0 rfl
                  have q1 := hfl2.fs 0 rfl
                  have q2 := hfl2.fs 1 rfl
                  have q3 := hfl2.fs 2 rfl
                  subst eA'
                  clear e1 e2 e3 eA hat hsj hsg hfl hfl2 hB0 hFa hng hAj hBU
                  obtain ⟨sb, hsb⟩ : ∃ sb, wu.heap.size = sb := ⟨_, rfl⟩
                  obtain ⟨wS, hwS⟩ : ∃ wS : World, wu.alloc (.cells #[.string sn, .int .i64 snm, .int .i64 sdn, .slice Ag ng cg] 92) = wS := ⟨_, rfl⟩
                  have KS : Blk wS sb 92 #[.string sn, .int .i64 snm, .int .i64 sdn, .slice Ag ng cg] := by rw [← hwS, ← hsb]; exact Blk.new _ _ _
                  have HBS : Hid (Below wu.heap.size wu wS) := Lib.hid (by rw [← hwS]; exact Ba (B0 wu) _)
                  have y3 : wS.cell? ⟨sb, 3, none⟩ = some (.slice Ag ng cg) := KS.cell 3
                  clear KS
                  go_upto_region 24 with fail
                  clear q0 q1 q2 q3 y3 hwS
                  obtain ⟨gc, rfl⟩ : ∃ gc : Nat, gc = gk := ⟨gk, rfl⟩
                  go_loopg [149] ng (fun gg s149 w3 => ∃ (i2 : Nat), i2 ≤ ng ∧ ng - i2 ≤ gg ∧ s149 = .int .i64 (i2 : Int) ∧ Aside (∀ i (h : i < sgs.length), i < i2 → sgOk nr sgs[i] = true) ∧ Aside (Below wS.heap.size wS w3))
                  case atStart => exact ⟨0, by omega, by omega, rfl, (fun j _ h => absurd h (by omega)), B0 wS⟩
                  case round =>
                    obtain ⟨wv, rfl⟩ : ∃ W : World, W = wr := ⟨wr, rfl⟩
                    obtain ⟨i2, hi2, hg5, rfl, hAi, hBV⟩ := hrel
                    replace hAi : ∀ i (h : i < sgs.length), i < i2 → sgOk nr sgs[i] = true := hAi
                    replace hBV : Below wS.heap.size wS wv := hBV
                    have HAI := Lib.hid hAi
                    have HBV := Lib.hid hBV
                    have HBV2 : Hid (Below w2.heap.size w2 wv) := Lib.hid (Bt HBU2.out (Bt HBS.out hBV))
                    by_cases hit : i2 < ng
                    · have hiI : (i2 : Int) < (ng : Int) := by omega
                      have hid' : decide ((i2 : Int) < (ng : Int)) = true := decide_eq_true hiI
                      have hil : i2 < sgs.length := by rw [HNG.out]; exact hit
                      have hB0 : Below w.heap.size w wv := Bt HB2.out HBV2.out
                      obtain ⟨A', c', e', -, -, hat⟩ := Sl.openF HSEG.out
                      injection e' with e1 e2 e3
                      obtain ⟨adg, cse, eA, hFa, -, ⟨vd, rfl, hsd⟩, hfl⟩ := hat i2 hil
                      have eA' : Ag = some adg := by rw [e1]; exact eA
                      have hfl2 := hfl.below hB0 (by rw [block_of_add]; exact hF _ hFa)
                      obtain ⟨p3, hp3⟩ : ∃ p, adg.add (i2 * 3) = p := ⟨_, rfl⟩
                      rw [hp3] at hfl2
                      obtain ⟨Aw, cw, rfl, -⟩ := Sl.openF hsd
                      obtain ⟨⟨slo, shi, dws⟩, hsi⟩ : ∃ s, sgs[i2] = s := ⟨_, rfl⟩
                      rw [hsi] at hfl2 hsd
                      dsimp only at hfl2 hsd
                      obtain ⟨nw, hnw⟩ : ∃ n, dws.length = n := ⟨_, rfl⟩
                      rw [hnw] at hfl2
                      have hnw9 : nw ≤ 140737488355328 := by obtain ⟨_, _, _, _, h, _⟩ := Sl.openF hsd; rw [← hnw]; exact h
                      have HNW := Lib.hid hnw
                      have HSI : Hid (sgOk nr sgs[i2] = dws.all (drOk nr)) := Lib.hid (by rw [hsi]; rfl)
                      have HDRW := Lib.hid hsd
                      have q0 := hfl2.f0 rfl
                      have q1 := hfl2.fs 0 rfl
                      have q2 := hfl2.fs 1 rfl
                      subst eA'
                      clear e1 e2 e3 eA hat hsi hsd hfl hfl2 hB0 hFa hnw hAi hBV
                      obtain ⟨gb2, hgb2⟩ : ∃ sb, wv.heap.size = sb := ⟨_, rfl⟩
                      obtain ⟨wG, hwG⟩ : ∃ wG : World, wv.alloc (.cells #[.int .i64 slo, .int .i64 shi, .slice Aw nw cw] 89) = wG := ⟨_, rfl⟩
                      have KG : Blk wG gb2 89 #[.int .i64 slo, .int .i64 shi, .slice Aw nw cw] := by rw [← hwG, ← hgb2]; exact Blk.new _ _ _
                      have HBG : Hid (Below wv.heap.size wv wG) := Lib.hid (by rw [← hwG]; exact Ba (B0 wv) _)
                      have y2 : wG.cell? ⟨gb2, 2, none⟩ = some (.slice Aw nw cw) := KG.cell 2
                      clear KG
                      go_upto_region 27 with fail
                      clear q0 q1 q2 y2 hwG
                      obtain ⟨gd, rfl⟩ : ∃ gd : Nat, gd = gk := ⟨gk, rfl⟩
                      go_loopg [156] nw (fun gg s156 w3 => ∃ (i3 : Nat), i3 ≤ nw ∧ nw - i3 ≤ gg ∧ s156 = .int .i64 (i3 : Int) ∧ Aside (∀ i (h : i < dws.length), i < i3 → drOk nr dws[i] = true) ∧ Aside (Below wG.heap.size wG w3))
                      case atStart => exact ⟨0, by omega, by omega, rfl, (fun j _ h => absurd h (by omega)), B0 wG⟩
                      case round =>
                        obtain ⟨wx, rfl⟩ : ∃ W : World, W = wr := ⟨wr, rfl⟩
                        obtain ⟨i3, hi3, hg6, rfl, hAd, hBX⟩ := hrel
                        replace hAd : ∀ i (h : i < dws.length), i < i3 → drOk nr dws[i] = true := hAd
                        replace hBX : Below wG.heap.size wG wx := hBX
                        have HAD := Lib.hid hAd
                        have HBX := Lib.hid hBX
                        have HBX2 : Hid (Below w2.heap.size w2 wx) := Lib.hid (Bt HBV2.out (Bt HBG.out hBX))
                        by_cases hwt : i3 < nw
                        · have hwI : (i3 : Int) < (nw : Int) := by omega
                          have hwd' : decide ((i3 : Int) < (nw : Int)) = true := decide_eq_true hwI
                          have hwl : i3 < dws.length := by rw [HNW.out]; exact hwt
                          have hB0 : Below w.heap.size w wx := Bt HB2.out HBX2.out
                          obtain ⟨A', c', e', -, -, hat⟩ := Sl.openF HDRW.out
                          injection e' with e1 e2 e3
                          obtain ⟨adw, cse, eA, hFa, -, ecs, hfl⟩ := hat i3 hwl
                          have eA' : Aw = some adw := by rw [e1]; exact eA
                          rw [show cse = _ from ecs] at hfl
                          have hfl2 := hfl.below hB0 (by rw [block_of_add]; exact hF _ hFa)
                          obtain ⟨p2, hp2⟩ : ∃ p, adw.add (i3 * 2) = p := ⟨_, rfl⟩
                          rw [hp2] at hfl2
                          obtain ⟨⟨rk, sf⟩, hdi⟩ : ∃ s, dws[i3] = s := ⟨_, rfl⟩
                          rw [hdi] at hfl2
                          dsimp only at hfl2
                          have q0 := hfl2.f0 rfl
                          have q1 := hfl2.fs 0 rfl
                          have hDR : drOk nr dws[i3] = (decide (0 ≤ rk) && decide (rk < (nr : Int)) && (decide (-1000 ≤ sf) && decide (sf ≤ 1000))) := by rw [hdi]; rfl
                          have hNE := fun W => near_any sf W
                          obtain ⟨R, hR⟩ : ∃ R, (decide (-1000 ≤ sf) && decide (sf ≤ 1000)) = R := ⟨_, rfl⟩
                          rw [hR] at hNE hDR
                          have HNE := Lib.hid hNE
                          have hRFX : drOk nr dws[i3] = false → RF = false := fun hd => by
                            rw [HRF.out, allI_false k hkl (by rw [HHD.out]; exact all_falseO j hjl (by rw [HSJ.out]; exact all_falseO i2 hil (by rw [HSI.out]; exact all_falseO i3 hwl hd)))]
                            simp
                          have HRFX := Lib.hid hRFX
                          subst eA'
                          clear e1 e2 e3 eA hat hfl hfl2 hB0 hFa hdi hAd hBX hNE hR hRFX ecs
                          obtain ⟨xb, hxb⟩ : ∃ xb, wx.heap.size = xb := ⟨_, rfl⟩
                          obtain ⟨wX, hwX⟩ : ∃ wX : World, wx.alloc (.cells #[.int .i64 rk, .int .i64 sf] 86) = wX := ⟨_, rfl⟩
                          have KX : Blk wX xb 86 #[.int .i64 rk, .int .i64 sf] := by rw [← hwX, ← hxb]; exact Blk.new _ _ _
                          have HBXX : Hid (Below wx.heap.size wx wX) := Lib.hid (by rw [← hwX]; exact Ba (B0 wx) _)
                          have y0 : wX.cell? ⟨xb, 0, none⟩ = some (.int .i64 rk) := KX.cell 0
                          have y1 : wX.cell? ⟨xb, 1, none⟩ = some (.int .i64 sf) := KX.cell 1
                          obtain ⟨⟨-, o1, -, -⟩, -⟩ := HCL.out wX (Bt HBX2.out HBXX.out)
                          clear KX
                          go_upto_region 29 with fail
                          clear q0 q1 hwX
                          by_cases n1 : 0 ≤ rk
                          rotate_left
                          · have n1I : rk < 0 := by omega
                            have HX := Lib.hid (HRFX.out (by rw [hDR, decide_eq_false n1]; rfl))
                            clear hDR
                            go_wp2_with fail
                            go_ret
                            exact ⟨by rw [HX.out]; rfl, Bt HB2.out (Bt HBX2.out HBXX.out)⟩
                          have n1I : ¬ rk < 0 := by omega
                          by_cases n2 : rk < (nr : Int)
                          rotate_left
                          · have n2I : (nr : Int) ≤ rk := by omega
                            have HX := Lib.hid (HRFX.out (by rw [hDR, decide_eq_false n2, Bool.and_false]; rfl))
                            clear hDR
                            go_wp2_with fail
                            go_ret
                            exact ⟨by rw [HX.out]; rfl, Bt HB2.out (Bt HBX2.out HBXX.out)⟩
                          have n2I : ¬ (nr : Int) ≤ rk := by omega
                          cases R with
                          | false =>
                            have HX := Lib.hid (HRFX.out (by rw [hDR, Bool.and_false]))
                            clear hDR
                            go_wp2_with (go_at_call 19; (with_reducible refine ((HNE.out _).mono ?_)); rintro e w4 ⟨rfl, rfl⟩)
                            go_ret
                            exact ⟨by rw [HX.out]; rfl, Bt HB2.out (Bt HBX2.out HBXX.out)⟩
                          | true =>
                            have HOKD : Hid (drOk nr dws[i3] = true) := Lib.hid (by rw [hDR, decide_eq_true n1, decide_eq_true n2]; rfl)
                            clear hDR
                            go_wp2_with (go_at_call 19; (with_reducible refine ((HNE.out _).mono ?_)); rintro e w4 ⟨rfl, rfl⟩)
                            go_roundg (nw - (i3 + 1))
                            case measure => omega
                            case rel =>
                              exact ⟨i3 + 1, by omega, by omega, by go_num, (fun i h hi => by
                                by_cases e : i = i3
                                · subst e; exact HOKD.out
                                · exact HAD.out i h (by omega)), Bt HBX.out HBXX.out⟩
                        · obtain rfl : nw = i3 := by omega
                          have hwd' : decide ((nw : Int) < (nw : Int)) = false := decide_eq_false (by omega)
                          have HOKG : Hid (sgOk nr sgs[i2] = true) := Lib.hid (by rw [HSI.out]; exact all_trueO fun i h => hAd i h (by rw [← HNW.out]; exact h))
                          clear hAd hBX
                          go_upto_region 32 with fail
                          go_wp2_with fail
                          go_roundg (ng - (i2 + 1))
                          case measure => omega
                          case rel =>
                            exact ⟨i2 + 1, by omega, by omega, by go_num, (fun i h hi => by
                              by_cases e : i = i2
                              · subst e; exact HOKG.out
                              · exact HAI.out i h (by omega)), Bt HBV.out (Bt HBG.out HBX.out)⟩
                    · obtain rfl : ng = i2 := by omega
                      have hid' : decide ((ng : Int) < (ng : Int)) = false := decide_eq_false (by omega)
                      have HOKS : Hid (stOk nr sts[j] = true) := Lib.hid (by rw [HSJ.out]; exact all_trueO fun i h => hAi i h (by rw [← HNG.out]; exact h))
                      clear hAi hBV
                      go_upto_region 33 with fail
                      go_wp2_with fail
                      go_roundg (ls - (j + 1))
                      case measure => omega
                      case rel =>
                        exact ⟨j + 1, by omega, by omega, by go_num, (fun i h hi => by
                          by_cases e : i = j
                          · subst e; exact HOKS.out
                          · exact HAJ.out i h (by omega)), Bt HBU.out (Bt HBS.out HBV.out)⟩
                · obtain rfl : ls = j := by omega
                  have hjd : decide ((ls : Int) < (ls : Int)) = false := decide_eq_false (by omega)
                  have HOK : Hid (dvOk SS k ods[k] = true) := Lib.hid (by rw [HHD.out]; exact all_trueO fun i h => hAj i h (by rw [← HLS.out]; exact h))
                  clear hAj hBU
                  go_upto_region 34 with fail
                  go_wp2_with fail
                  go_roundg (nd - (k + 1))
                  case measure => omega
                  case rel =>
                    exact ⟨k + 1, by omega, by omega, by go_num, (fun i h hi => by
                      by_cases e : i = k
                      · subst e; exact HOK.out
                      · exact HA.out i h (by omega)), HBU2.out⟩
        · obtain rfl : nd = k := by omega
          have hkd : decide ((nd : Int) < (nd : Int)) = false := decide_eq_false (by omega)
          have hDV : allI (dvOk SS) ods = true := allI_true fun j h => hA j h (by rw [← HND.out]; exact h)
          have HDVS := Lib.hid hDV
          obtain ⟨⟨p0, p1, p2, p3⟩, -, -, -, -⟩ := HCL.out wr hBr
          clear hDV hA hBr HA
          go_upto_region 36 with fail
          obtain ⟨wC, rfl⟩ : ∃ W : World, W = wr := ⟨wr, rfl⟩
          have HBC := HBR
          clear HBR p0 p1 p2 p3
          go_loopg [184] nc (fun gg s184 wr => ∃ (k : Nat), k ≤ nc ∧ nc - k ≤ gg ∧ s184 = .int .i64 (k : Int) ∧ Aside (∀ j (h : j < ocs.length), j < k → cpOk nd ocs[j] = true) ∧ Aside (Below w2.heap.size w2 wr))
          case atStart => exact ⟨0, by omega, by omega, rfl, (fun j _ h => absurd h (by omega)), HBC.out⟩
          case round =>
            obtain ⟨k, hk, hg, rfl, hA, hBr⟩ := hrel
            replace hA : ∀ j (h : j < ocs.length), j < k → cpOk nd ocs[j] = true := hA
            replace hBr : Below w2.heap.size w2 wr := hBr
            have HA := Lib.hid hA
            have HBR := Lib.hid hBr
            by_cases hlt : k < nc
            · have hkI : (k : Int) < (nc : Int) := by omega
              have hkd : decide ((k : Int) < (nc : Int)) = true := decide_eq_true hkI
              have hkl : k < ocs.length := by rw [HNC.out]; exact hlt
              obtain ⟨A', c', e', -, -, hat⟩ := Sl.openF HC.out
              injection e' with e1 e2 e3
              obtain ⟨ad, cse, eA, hFa, -, ecs, hfl⟩ := hat k hkl
              have eA' : Ac = some ad := by rw [e1]; exact eA
              rw [show cse = _ from ecs] at hfl
              have hfl2 := hfl.below (Bt HB2.out hBr) (by rw [block_of_add]; exact hF _ hFa)
              obtain ⟨p, hpA⟩ : ∃ p, ad.add (k * 5) = p := ⟨_, rfl⟩
              rw [hpA] at hfl2
              obtain ⟨⟨cn, csr, cds, csh, cth⟩, hck⟩ : ∃ c, ocs[k] = c := ⟨_, rfl⟩
              rw [hck] at hfl2
              dsimp only at hfl2
              have q0 := hfl2.f0 rfl
              have q1 := hfl2.fs 0 rfl
              have q2 := hfl2.fs 1 rfl
              have q3 := hfl2.fs 2 rfl
              have q4 := hfl2.fs 3 rfl
              have hNE := fun W => near_any csh W
              have hCP : cpOk nd ocs[k] = (((decide (0 ≤ csr) && decide (csr ≤ (nd : Int) - 1)) && (decide (0 ≤ cds) && decide (cds ≤ (nd : Int) - 1))) && (decide (-1000 ≤ csh) && decide (csh ≤ 1000))) := by rw [hck]; rfl
              obtain ⟨Rb, hRb⟩ : ∃ R, (decide (-1000 ≤ csh) && decide (csh ≤ 1000)) = R := ⟨_, rfl⟩
              rw [hRb] at hNE hCP
              have HNE := Lib.hid hNE
              have hRFX : cpOk nd ocs[k] = false → RF = false := fun hd => by
                rw [HRF.out, all_falseO k hkl hd]
                simp
              have HRFX := Lib.hid hRFX
              subst eA'
              clear e1 e2 e3 eA hat hA hfl hfl2 hNE hRb hck hFa ecs hRFX
              obtain ⟨cb, hcb⟩ : ∃ cb, wr.heap.size = cb := ⟨_, rfl⟩
              obtain ⟨wK, hwK⟩ : ∃ wK : World, wr.alloc (.cells #[.string cn, .int .i64 csr, .int .i64 cds, .int .i64 csh, .bool cth] 94) = wK := ⟨_, rfl⟩
              have KK : Blk wK cb 94 #[.string cn, .int .i64 csr, .int .i64 cds, .int .i64 csh, .bool cth] := by rw [← hwK, ← hcb]; exact Blk.new _ _ _
              have hBK : Below w2.heap.size w2 wK := by rw [← hwK]; exact Ba hBr _
              have HBK := Lib.hid hBK
              obtain ⟨⟨-, -, o2, -⟩, -⟩ := HCL.out wK hBK
              have y1 : wK.cell? ⟨cb, 1, none⟩ = some (.int .i64 csr) := KK.cell 1
              have y2 : wK.cell? ⟨cb, 2, none⟩ = some (.int .i64 cds) := KK.cell 2
              have y3 : wK.cell? ⟨cb, 3, none⟩ = some (.int .i64 csh) := KK.cell 3
              clear KK hBr hBK
              go_upto_region 38 with fail
              clear q0 q1 q2 q3 q4 hwK
              by_cases n1 : 0 ≤ csr
              rotate_left
              · have n1I : csr < 0 := by omega
                have HX := Lib.hid (HRFX.out (by rw [hCP, decide_eq_false n1]; rfl))
                clear hCP
                go_wp2_with fail
                go_ret
                exact ⟨by rw [HX.out]; rfl, Bt HB2.out HBK.out⟩
              have n1I : ¬ csr < 0 := by omega
              by_cases n2 : csr < (nd : Int)
              rotate_left
              · have n2I : (nd : Int) ≤ csr := by omega
                have HX := Lib.hid (HRFX.out (by rw [hCP, decide_eq_false (by omega : ¬ csr ≤ (nd : Int) - 1), Bool.and_false]; rfl))
                clear hCP
                go_wp2_with fail
                go_ret
                exact ⟨by rw [HX.out]; rfl, Bt HB2.out HBK.out⟩
              have n2I : ¬ (nd : Int) ≤ csr := by omega
              by_cases n3 : 0 ≤ cds
              rotate_left
              · have n3I : cds < 0 := by omega
                have HX := Lib.hid (HRFX.out (by rw [hCP, decide_eq_false n3, Bool.false_and, Bool.and_false]; rfl))
                clear hCP
                go_wp2_with fail
                go_ret
                exact ⟨by rw [HX.out]; rfl, Bt HB2.out HBK.out⟩
              have n3I : ¬ cds < 0 := by omega
              by_cases n4 : cds < (nd : Int)
              rotate_left
              · have n4I : (nd : Int) ≤ cds := by omega
                have HX := Lib.hid (HRFX.out (by rw [hCP, decide_eq_false (by omega : ¬ cds ≤ (nd : Int) - 1), Bool.and_false, Bool.and_false]; rfl))
                clear hCP
                go_wp2_with fail
                go_ret
                exact ⟨by rw [HX.out]; rfl, Bt HB2.out HBK.out⟩
              have n4I : ¬ (nd : Int) ≤ cds := by omega
              cases Rb with
              | false =>
                have HX := Lib.hid (HRFX.out (by rw [hCP, Bool.and_false]))
                clear hCP
                go_wp2_with (go_at_call 19; (with_reducible refine ((HNE.out _).mono ?_)); rintro e w4 ⟨rfl, rfl⟩)
                go_ret
                exact ⟨by rw [HX.out]; rfl, Bt HB2.out HBK.out⟩
              | true =>
                have HOKC : Hid (cpOk nd ocs[k] = true) := Lib.hid (by rw [hCP, decide_eq_true n1, decide_eq_true n3, decide_eq_true (by omega : csr ≤ (nd : Int) - 1), decide_eq_true (by omega : cds ≤ (nd : Int) - 1)]; rfl)
                clear hCP
                go_wp2_with (go_at_call 19; (with_reducible refine ((HNE.out _).mono ?_)); rintro e w4 ⟨rfl, rfl⟩)
                go_roundg (nc - (k + 1))
                case measure => omega
                case rel =>
                  exact ⟨k + 1, by omega, by omega, by go_num, (fun i h hi => by
                    by_cases e : i = k
                    · subst e; exact HOKC.out
                    · exact HA.out i h (by omega)), HBK.out⟩
            · obtain rfl : nc = k := by omega
              have hkd : decide ((nc : Int) < (nc : Int)) = false := decide_eq_false (by omega)
              have hCPS : ocs.all (cpOk nd) = true := all_trueO fun j h => hA j h (by rw [← HNC.out]; exact h)
              have hRF4 : RF = ((decide (cp >>> nc = 0) && decide (of >>> nd = 0)) && pipeOk SS) := by
                rw [HRF.out, HRK.out, HDVS.out, hCPS, Bool.and_true, Bool.and_true, Bool.and_true]
              obtain ⟨⟨p0, p1, p2, p3⟩, ⟨r0, r1, r2⟩, t7, t8, t9⟩ := HCL.out wr hBr
              have s5 := shr_ofO cp nc (by omega)
              have s6 := shr_ofO of nd (by omega)
              have m5 : min nc 64 = nc := by omega
              have m6 : min nd 64 = nd := by omega
              have u5 : IntKind.u64.wrap (nc : Int) = (nc : Int) := by rw [IntKind.wrap_u64]; omega
              have u6 : IntKind.u64.wrap (nd : Int) = (nd : Int) := by rw [IntKind.wrap_u64]; omega
              have u7 : (nc : Int) % 18446744073709551616 = (nc : Int) := by omega
              have u8 : (nd : Int) % 18446744073709551616 = (nd : Int) := by omega
              obtain ⟨v5, hv5⟩ : ∃ v, cp >>> nc = v := ⟨_, rfl⟩
              obtain ⟨v6, hv6⟩ : ∃ v, of >>> nd = v := ⟨_, rfl⟩
              rw [hv5] at s5 hRF4
              rw [hv6] at s6 hRF4
              clear hCPS hA HA hv5 hv6
              go_upto_region 41 with fail
              by_cases n5 : v5 = 0
              rotate_left
              · have n5I : ¬ (v5 : Int) = 0 := by omega
                have n5B : ((v5 : Int) == 0) = false := by simp; omega
                have HX : Hid (RF = false) := Lib.hid (by rw [hRF4, decide_eq_false n5]; rfl)
                clear hRF4 hBr
                go_wp2_with fail
                go_ret
                exact ⟨by rw [HX.out]; rfl, Bt HB2.out HBR.out⟩
              subst n5
              by_cases n6 : v6 = 0
              rotate_left
              · have n6I : ¬ (v6 : Int) = 0 := by omega
                have n6B : ((v6 : Int) == 0) = false := by simp; omega
                have HX : Hid (RF = false) := Lib.hid (by rw [hRF4, decide_eq_false n6]; rfl)
                clear hRF4 hBr
                go_wp2_with fail
                go_ret
                exact ⟨by rw [HX.out]; rfl, Bt HB2.out HBR.out⟩
              subst n6
              have hRF5 : RF = pipeOk SS := by rw [hRF4]; rfl
              have HRF5 := Lib.hid hRF5
              obtain ⟨qb, hqb⟩ : ∃ qb, wr.heap.size = qb := ⟨_, rfl⟩
              obtain ⟨wP, hwP⟩ : ∃ wP : World, wr.alloc (.cells #[.int .i64 rank, .int .i64 num] 48) = wP := ⟨_, rfl⟩
              have KP : Blk wP qb 48 #[.int .i64 rank, .int .i64 num] := by rw [← hwP, ← hqb]; exact Blk.new _ _ _
              have hBP : Below w2.heap.size w2 wP := by rw [← hwP]; exact Ba hBr _
              have HBP := Lib.hid hBP
              have y0 : wP.cell? ⟨qb, 0, none⟩ = some (.int .i64 rank) := KP.cell 0
              have y1 : wP.cell? ⟨qb, 1, none⟩ = some (.int .i64 num) := KP.cell 1
              obtain ⟨⟨-, o1, -, -⟩, -⟩ := HCL.out wP hBP
              clear hRF4 hRF5 hBr
              go_upto_region 44 with fail
              have hPO : pipeOk SS = ((decide (0 ≤ rank) && decide (rank ≤ (nr : Int) - 1)) && (decide (0 ≤ num) && decide (num ≤ (windN ors rank.toNat : Int) - 1))) := by
                rw [← HSS.out]
                unfold pipeOk
                dsimp only
                rw [HNR.out]
              clear s5 s6 m5 m6 u5 u6 u7 u8 p0 p1 p2 p3 r0 r1 r2 t7 t8 t9
              by_cases n1 : 0 ≤ rank
              rotate_left
              · have HX : Hid (RF = false) := Lib.hid (by rw [HRF5.out, hPO]; rw [decide_eq_false n1]; rfl)
                have n1I : rank < 0 := by omega
                clear hPO hBP KP
                go_quiet (fail)
                obtain ⟨w5, hw5⟩ : ∃ w5 : World, wP.drewN nq = w5 := ⟨_, rfl⟩
                rw [hw5]
                have HB5 : Hid (Below w2.heap.size w2 w5) := Lib.hid (by rw [← hw5]; exact below_drewN HBP.out _)
                clear hw5
                go_wp2_with fail
                go_ret
                exact ⟨by rw [HX.out]; rfl, Bt HB2.out HB5.out⟩
              by_cases n2 : rank < (nr : Int)
              rotate_left
              · have HX : Hid (RF = false) := Lib.hid (by rw [HRF5.out, hPO]; rw [decide_eq_false (by omega : ¬ rank ≤ (nr : Int) - 1), Bool.and_false]; rfl)
                have n2I : (nr : Int) ≤ rank := by omega
                clear hPO hBP KP
                go_quiet (fail)
                obtain ⟨w5, hw5⟩ : ∃ w5 : World, wP.drewN nq = w5 := ⟨_, rfl⟩
                rw [hw5]
                have HB5 : Hid (Below w2.heap.size w2 w5) := Lib.hid (by rw [← hw5]; exact below_drewN HBP.out _)
                clear hw5
                go_wp2_with fail
                go_ret
                exact ⟨by rw [HX.out]; rfl, Bt HB2.out HB5.out⟩
              by_cases n3 : 0 ≤ num
              rotate_left
              · have HX : Hid (RF = false) := Lib.hid (by rw [HRF5.out, hPO]; rw [decide_eq_false n3, Bool.false_and, Bool.and_false])
                have n3I : num < 0 := by omega
                clear hPO hBP KP
                go_quiet (fail)
                obtain ⟨w5, hw5⟩ : ∃ w5 : World, wP.drewN nq = w5 := ⟨_, rfl⟩
                rw [hw5]
                have HB5 : Hid (Below w2.heap.size w2 w5) := Lib.hid (by rw [← hw5]; exact below_drewN HBP.out _)
                clear hw5
                go_wp2_with fail
                go_ret
                exact ⟨by rw [HX.out]; rfl, Bt HB2.out HB5.out⟩
              obtain ⟨rk, rfl⟩ : ∃ rk : Nat, rank = (rk : Int) := ⟨rank.toNat, by omega⟩
              have hrI : (rk : Int) < (nr : Int) := by omega
              have hrN : rk < nr := by omega
              have hkl : rk < ors.length := by rw [HNR.out]; omega
              obtain ⟨A', c', e', -, -, hat⟩ := Sl.openF HR.out
              injection e' with e1 e2 e3
              obtain ⟨ad, cse, eA, hFa, -, ⟨vw, rfl, hwd⟩, hfl⟩ := hat rk hkl
              have eA' : Ar = some ad := by rw [e1]; exact eA
              obtain ⟨Aw, cw, rfl, -⟩ := Sl.openF hwd
              obtain ⟨nw, hnw⟩ : ∃ n, ors[rk].wind.length = n := ⟨_, rfl⟩
              rw [hnw] at hfl
              have hwN : windN ors ((rk : Int)).toNat = nw := by
                unfold windN
                rw [Int.toNat_natCast, List.getElem?_eq_getElem hkl]
                exact hnw
              rw [hwN] at hPO
              obtain ⟨p, hpA⟩ : ∃ p, ad.add (rk * 6) = p := ⟨_, rfl⟩
              rw [hpA] at hfl
              have hB0 : Below w.heap.size w wP := Bt HB2.out hBP
              have hp5 := (hfl.below hB0 (by rw [← hpA, block_of_add]; exact hF _ hFa)).fs 4 rfl
              subst eA'
              clear e1 e2 e3 eA hat hfl hwd hwN hB0 hnw hFa
              by_cases n4 : num < (nw : Int)
              · have HX : Hid (RF = true) := Lib.hid (by rw [HRF5.out, hPO, decide_eq_true n1, decide_eq_true n3, decide_eq_true (by omega : (rk : Int) ≤ (nr : Int) - 1), decide_eq_true (by omega : num ≤ (nw : Int) - 1)]; rfl)
                clear hPO hBP KP
                go_quiet (fail)
                obtain ⟨w5, hw5⟩ : ∃ w5 : World, wP.drewN nq = w5 := ⟨_, rfl⟩
                rw [hw5]
                have HB5 : Hid (Below w2.heap.size w2 w5) := Lib.hid (by rw [← hw5]; exact below_drewN HBP.out _)
                clear hw5
                go_wp2_with fail
                go_ret
                exact ⟨by rw [HX.out]; rfl, Bt HB2.out HB5.out⟩
              · have HX : Hid (RF = false) := Lib.hid (by rw [HRF5.out, hPO]; rw [decide_eq_false (by omega : ¬ num ≤ (nw : Int) - 1), Bool.and_false, Bool.and_false])
                have n4I : (nw : Int) ≤ num := by omega
                clear hPO hBP KP
                go_quiet (fail)
                obtain ⟨w5, hw5⟩ : ∃ w5 : World, wP.drewN nq = w5 := ⟨_, rfl⟩
                rw [hw5]
                have HB5 : Hid (Below w2.heap.size w2 w5) := Lib.hid (by rw [← hw5]; exact below_drewN HBP.out _)
                clear hw5
                go_wp2_with fail
                go_ret
                exact ⟨by rw [HX.out]; rfl, Bt HB2.out HB5.out⟩
end Go.Proofs.YtnfpjcjlapljjaaGreatDoor
