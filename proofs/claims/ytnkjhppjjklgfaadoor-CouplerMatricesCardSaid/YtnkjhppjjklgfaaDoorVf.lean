/- Walks over coupler's statements: idle. -/
import Derived.Test.YtnkjhppjjklgfaaDoorVe
import Derived.Test.YtnkjhppjjklgfaaDoorKB
namespace Go.Proofs.YtnkjhppjjklgfaaDoor
open Go Go.RowKit Go.Shelf
namespace Cou
/-- Is a coupler drawn and takes nothing? -/
def idB (a : Ac) (i : Nat) : Bool := a.drawn.testBit i && !takesB a i
def cnt (a : Ac) (i : Nat) : Nat := ((List.range i).filter (idB a)).length
theorem cnt_succ (a : Ac) (i : Nat) : cnt a (i + 1) = bif idB a i then cnt a i + 1 else cnt a i := by
  unfold cnt
  rw [List.range_succ, List.filter_append, List.length_append]
  cases h : idB a i <;> simp [h]
theorem filt_at (p : Nat → Bool) : ∀ n i : Nat, i < n → p i = true → ((List.range n).filter p)[((List.range i).filter p).length]? = some i
  | 0, _, h, _ => absurd h (by omega)
  | n + 1, i, h, hp => by
    rw [List.range_succ, List.filter_append]
    by_cases e : i = n
    · subst e
      rw [List.getElem?_append_right (Nat.le_refl _), Nat.sub_self, List.filter_cons_of_pos hp]
      rfl
    · have ih := filt_at p n i (by omega) hp
      obtain ⟨hl, _⟩ := List.getElem?_eq_some_iff.1 ih
      rw [List.getElem?_append_left hl]
      exact ih
/-- The list that Idle answers. -/
def idL (a : Ac) : List Int := ((Hit.members a.drawn).filter fun i => !takesB a i).map fun i : Nat => (i : Int)
theorem idL_eq {a : Ac} (hok : Ok a) : idL a = ((List.range a.cps.length).filter (idB a)).map fun i : Nat => (i : Int) := by
  have hn := hok.nc
  have hd := hok.drawn
  unfold idL Hit.members
  rw [List.filter_filter]
  congr 1
  have e : (fun i => !takesB a i && a.drawn.testBit i) = idB a := by funext i; unfold idB; rw [Bool.and_comm]
  rw [e, show 64 = a.cps.length + (64 - a.cps.length) from by omega, List.range_add, List.filter_append]
  rw [show ((List.range (64 - a.cps.length)).map (a.cps.length + ·)).filter (idB a) = [] from by
    rw [List.filter_eq_nil_iff]
    intro x hx
    obtain ⟨j, _, rfl⟩ := List.mem_map.1 hx
    unfold idB
    rw [Nat.testBit_lt_two_pow (Nat.lt_of_lt_of_le hd (Nat.pow_le_pow_right (by decide) (Nat.le_add_right _ _)))]
    simp]
  rw [List.append_nil]
theorem idL_len {a : Ac} (hok : Ok a) : (idL a).length = cnt a a.cps.length := by rw [idL_eq hok, List.length_map]; rfl
theorem idL_at {a : Ac} (hok : Ok a) {i : Nat} (hi : i < a.cps.length) (h : idB a i = true) : (idL a)[cnt a i]? = some (i : Int) := by
  rw [idL_eq hok, List.getElem?_map]
  unfold cnt
  rw [filt_at _ _ _ hi h]
  rfl
theorem takesB_iff {a : Ac} (hok : Ok a) {i : Nat} (hi : i < a.cps.length) : takesB a i = true ↔ ∃ q : Int, (a.divs.getD a.cps[i].from_.toNat (0, -1)).1 ≤ q ∧ q ≤ (a.divs.getD a.cps[i].from_.toNat (0, -1)).2 ∧ (stepF a i (a.cps[i].from_, q)).isSome = true := by
  unfold takesB
  rw [List.any_eq_true]
  have hx := hok.cp a.cps[i] (List.getElem_mem hi)
  constructor
  · rintro ⟨⟨c1, c2⟩, h1, h2⟩
    have e : a.cps[i].from_ = c1 := by
      by_cases q : a.cps[i].from_ = c1
      · exact q
      · have : stepF a i (c1, c2) = none := by unfold stepF; rw [List.getElem?_eq_getElem hi]; dsimp only; rw [if_neg fun h => q h.1]
        rw [this] at h2; cases h2
    have h3 := (ctsF_inA.1 h1).2.2
    subst e
    unfold inB at h3
    simp only [Bool.and_eq_true, decide_eq_true_eq] at h3
    exact ⟨c2, h3.1, h3.2, h2⟩
  · rintro ⟨q, h1, h2, h3⟩
    refine ⟨(a.cps[i].from_, q), ctsF_inA.2 ⟨hx.1, hx.2.1, ?_⟩, h3⟩
    unfold inB
    simp only [Bool.and_eq_true, decide_eq_true_eq]
    exact ⟨h1, h2⟩
end Cou
theorem stepV_shape (r : Option Cou.Ct) : ∃ t1 t2 : Int, stepV r = .tuple #[.agg #[.int .i64 t1, .int .i64 t2], .bool r.isSome] := by
  cases r with
  | none => exact ⟨0, 0, rfl⟩
  | some t => exact ⟨t.1, t.2, rfl⟩
set_option maxRecDepth 100000 in
set_option maxHeartbeats 8000000 in
theorem lidle_any (a : Cou.Ac) (hok : Cou.Ok a) (vd vc vl : Value) (w : World) (F F2 : Nat → Prop) (hA : AcAt F w vd vc a) (hF2 : ∀ b, F2 b → b < w.heap.size) (hl : SlI F2 w vl (Cou.idL a)) :
    Calls Tryd.prog 22 #[.agg #[vd, vc, .int .u64 a.drawn], vl] w fun e w' => e = .returned (.bool true) ∧ Below w.heap.size w w' := by
  obtain ⟨Ad, cd, rfl, _, hdat⟩ := id hA.dv.open
  obtain ⟨Ac, cc, rfl, _, hcat⟩ := id hA.cp.open
  obtain ⟨Al, cl, rfl, _, _, hlat⟩ := id hl.open
  have hdr : a.drawn < 2 ^ 64 := Nat.lt_of_lt_of_le hok.drawn (Nat.pow_le_pow_right (by decide) (by have := hok.nc; omega))
  have hFF := hA.inW
  obtain ⟨B, hBB⟩ : ∃ B, w.heap.size = B := ⟨_, rfl⟩
  obtain ⟨w1, hw1⟩ : ∃ w1 : World, w.alloc (.cells #[.slice Ad a.divs.length cd, .slice Ac a.cps.length cc, .int .u64 a.drawn] 34) = w1 := ⟨_, rfl⟩
  have AB : Blk w1 B 34 #[.slice Ad a.divs.length cd, .slice Ac a.cps.length cc, .int .u64 a.drawn] := by rw [← hw1, ← hBB]; exact Blk.new _ _ _
  have B1 : Below w.heap.size w w1 := by rw [← hw1]; exact Ba (B0 w) _
  have hS := fun (i : Nat) (hi : i < a.cps.length) (t : Cou.Ct) (ht : -1000 ≤ t.2 ∧ t.2 ≤ 1000) W (hb : Below w1.heap.size w1 W) => lstep_any a hok _ _ i hi t ht a.drawn W _ ((hA.onB hFF (Bt B1 hb)))
  have hD := fun (i : Nat) (hi : i < a.cps.length) W => ldrawn_any (.slice Ad a.divs.length cd) (.slice Ac a.cps.length cc) a.drawn hdr i (by have := hok.nc; omega) W
  have hX : ∀ W, Below w1.heap.size w1 W → W.cell? ⟨B, 0, none⟩ = some (.slice Ad a.divs.length cd) ∧ W.cell? ⟨B, 1, none⟩ = some (.slice Ac a.cps.length cc) ∧ W.cell? ⟨B, 2, none⟩ = some (.int .u64 a.drawn) := fun W hb =>
    ⟨(Bc hb AB.lt).trans (AB.cell 0), (Bc hb AB.lt).trans (AB.cell 1), (Bc hb AB.lt).trans (AB.cell 2)⟩
  -- a coupler's row and its division
  have hC : ∀ i, i < a.cps.length → ∃ (f : Nat) (lo hi : Int) (ad ad2 : Addr), f < a.divs.length ∧ Ac = some ad ∧ Ad = some ad2 ∧ 0 ≤ lo ∧ hi ≤ 127 ∧
      (Cou.takesB a i = true ↔ ∃ q : Int, lo ≤ q ∧ q ≤ hi ∧ (Cou.stepF a i (((f : Nat) : Int), q)).isSome = true) ∧
      (ad.add (i * 5)).block < w1.heap.size ∧ (ad2.add (f * 2)).block < w1.heap.size ∧
      ∀ W, Below w1.heap.size w1 W → W.cell? ⟨(ad.add (i * 5)).block, (ad.add (i * 5)).off + 1, none⟩ = some (.int .i64 f) ∧ W.cell? (ad2.add (f * 2)) = some (.int .i64 lo) ∧ W.cell? ⟨(ad2.add (f * 2)).block, (ad2.add (f * 2)).off + 1, none⟩ = some (.int .i64 hi) := fun i hi => by
    have hx := hok.cp a.cps[i] (List.getElem_mem hi)
    obtain ⟨f, hf⟩ : ∃ f : Nat, a.cps[i].from_ = f := ⟨a.cps[i].from_.toNat, by omega⟩
    have hfl : f < a.divs.length := by have := hx.2.1; omega
    obtain ⟨ad, e1, g1, k1⟩ := hcat i hi
    obtain ⟨ad2, e2, g2, k2⟩ := hdat f hfl
    have ht := Cou.takesB_iff hok hi
    have hdv := hok.div a.divs[f] (List.getElem_mem hfl)
    rw [hf, Int.toNat_natCast, List.getD_eq_getElem?_getD, List.getElem?_eq_getElem hfl, Option.getD_some] at ht
    rw [hf] at k1
    have l1 : (ad.add (i * 5)).block < w.heap.size := by rw [block_of_add]; exact hFF _ g1
    have l2 : (ad2.add (f * 2)).block < w.heap.size := by rw [block_of_add]; exact hFF _ g2
    exact ⟨f, a.divs[f].1, a.divs[f].2, ad, ad2, hfl, e1, e2, hdv.1, by omega, ht, Nat.lt_of_lt_of_le l1 B1.size, Nat.lt_of_lt_of_le l2 B1.size, fun W hb =>
      ⟨(k1.below (Bt B1 hb) l1).f1 rfl, (k2.below (Bt B1 hb) l2).f0 rfl, (k2.below (Bt B1 hb) l2).f1 rfl⟩⟩
  -- the list's numbers
  have hG : ∀ i, i < a.cps.length → Cou.idB a i = true → Cou.cnt a i < (Cou.idL a).length ∧ ∃ ad, Al = some ad ∧ ∀ W, Below w1.heap.size w1 W → W.cell? (ad.add (Cou.cnt a i)) = some (.int .i64 i) := fun i hi hb => by
    have h1 := Cou.idL_at hok hi hb
    obtain ⟨h2, h3⟩ := List.getElem?_eq_some_iff.1 h1
    obtain ⟨ad, e1, g1, k1⟩ := hlat _ h2
    rw [h3] at k1
    refine ⟨h2, ad, e1, fun W hbW => ?_⟩
    have l1 : (ad.add (Cou.cnt a i)).block < w.heap.size := by rw [block_of_add]; exact hF2 _ g1
    exact ((Bt B1 hbW).cell (p := ad.add (Cou.cnt a i)) l1).trans k1
  have hLN := Cou.idL_len hok
  have hLB : ∀ i, i ≤ a.cps.length → Cou.cnt a i ≤ i := fun i _ => Nat.le_trans (List.length_filter_le _ _) (by rw [List.length_range]; exact Nat.le_refl _)
  obtain ⟨n, hn⟩ : ∃ n, a.cps.length = n := ⟨_, rfl⟩
  have hn40 : n ≤ 40 := by rw [← hn]; exact hok.nc
  obtain ⟨nd, hnd⟩ : ∃ nd, a.divs.length = nd := ⟨_, rfl⟩
  have hnd8 : nd ≤ 8 := by rw [← hnd]; exact hok.nd
  obtain ⟨nl, hnl⟩ : ∃ nl, (Cou.idL a).length = nl := ⟨_, rfl⟩
  rw [hn] at hX hS hD hC hG hLN hLB hw1 ⊢
  rw [hnd] at hX hS hD hC hw1 ⊢
  rw [hnl] at hG hLN ⊢
  have hnl40 : nl ≤ 40 := by have := hLB n (Nat.le_refl _); omega
  have hnlI : (nl : Int) ≤ 40 := by omega
  have hnI : (n : Int) ≤ 40 := by omega
  have HX := Lib.hid hX
  have HS := Lib.hid hS
  have HD := Lib.hid hD
  have HC := Lib.hid hC
  have HG := Lib.hid hG
  have HLN := Lib.hid hLN
  have HLB := Lib.hid hLB
  have HB1 := Lib.hid B1
  have HW1 := Lib.hid hw1
  have HBB := Lib.hid hBB
  have HBL := Lib.hid AB.lt
  clear hX hS hD hC hG hLN hLB B1 AB hw1 hok hn hnd hnl hcat hdat hlat hA hl hF2 hFF
  go_enter Tryd.func22, Tryd.ntmps22
  go_upto_region 1 with fail
  rw [HW1.out]
  clear hBB
  go_wp2_with fail
  go_loopg [5, 6] n (fun gg s5 s6 wr => ∃ (i : Nat), i ≤ n ∧ n - i ≤ gg ∧ s5 = .int .i64 (Cou.cnt a i : Nat) ∧ s6 = .int .i64 i ∧ Aside (Below w1.heap.size w1 wr))
  case atStart => exact ⟨0, by omega, by omega, rfl, rfl, B0 w1⟩
  case round =>
    obtain ⟨i, hi, hg, rfl, rfl, hB⟩ := hrel
    replace hB : Below w1.heap.size w1 wr := hB
    obtain ⟨k0, k1, k2⟩ := HX.out wr hB
    have hci := HLB.out i hi
    obtain ⟨ci, hci9⟩ : ∃ ci, Cou.cnt a i = ci := ⟨_, rfl⟩
    rw [hci9] at hci ⊢
    have HCI := Lib.hid hci9
    clear hci9
    by_cases hlt : i < n
    · have hltI : (i : Int) < n := by omega
      obtain ⟨f, lo, hi2, ad, ad2, hfl, hAc, hAd, hlo, hhi, hTK, l1, l2, hcells⟩ := HC.out i hlt
      subst hAc; subst hAd
      have hflI : (f : Int) < nd := by omega
      obtain ⟨c1, d0, d1⟩ := hcells wr hB
      have HCE := Lib.hid hcells
      have HTK := Lib.hid hTK
      have HB := Lib.hid hB
      clear hcells hTK hB
      go_upto_region 6 with fail
      go_cut [8] from 19 to 28 (fun s8 wx => ∃ db, s8 = .pointer (some ⟨db, 0, none⟩) ∧ Blk wx db 58 #[.int .i64 lo, .int .i64 hi2] ∧ Below wr.heap.size wr wx)
      case first =>
        as_aux_lemma =>
        go_region_held3 (fun w' => w'.cell? ⟨B, 0, none⟩ = some (.slice (some ad2) nd cd) ∧ w'.cell? ⟨B, 1, none⟩ = some (.slice (some ad) n cc) ∧ w'.cell? ⟨(ad.add (i * 5)).block, (ad.add (i * 5)).off + 1, none⟩ = some (.int .i64 f) ∧ w'.cell? (ad2.add (f * 2)) = some (.int .i64 lo) ∧ w'.cell? ⟨(ad2.add (f * 2)).block, (ad2.add (f * 2)).off + 1, none⟩ = some (.int .i64 hi2)) (go_keep) (fail)
        all_goals (go_wp2_with fail; go_meet)
        all_goals exact ⟨_, rfl, Blk.new _ _ _, (Ba (B0 wr) _).drew⟩
      case rest =>
        obtain ⟨db, rfl, D6, hb6⟩ := hcut
        have e0 := D6.cell 0
        have e1 := D6.cell 1
        simp only [List.getElem?_toArray, List.getElem?_cons_zero, List.getElem?_cons_succ] at e0 e1
        have HD6 := Lib.hid D6
        have HB6 := Lib.hid (Bt HB.out hb6)
        clear k0 k1 k2 c1 d0 d1 D6 hb6 HB
        go_wp2_with fail
        clear e0 e1
        go_loopg [7, 9] (hi2 + 1 - lo).toNat (fun gg s7 s9 wr => ∃ (k : Int) (sm : Bool), lo ≤ k ∧ (k ≤ hi2 + 1 ∨ k = lo) ∧ (hi2 + 1 - k).toNat ≤ gg ∧ s7 = .bool sm ∧ s9 = .int .i64 k ∧ Aside (sm = true ↔ ∃ q : Int, lo ≤ q ∧ q < k ∧ (Cou.stepF a i (((f : Nat) : Int), q)).isSome = true) ∧ Aside (Below wc.heap.size wc wr))
        case atStart => exact ⟨lo, false, by omega, .inr rfl, Nat.le_refl _, rfl, rfl, (by show (false = true ↔ ∃ q : Int, lo ≤ q ∧ q < lo ∧ _); constructor; (· intro h; cases h); · rintro ⟨q, a1, a2, _⟩; omega), B0 wc⟩
        case round =>
          obtain ⟨k, sm, hk1, hk2, hgg, rfl, rfl, hSM, hQQ⟩ := hrel
          replace hQQ : Below wc.heap.size wc wr := hQQ
          replace hSM : (sm = true ↔ ∃ q : Int, lo ≤ q ∧ q < k ∧ (Cou.stepF a i (((f : Nat) : Int), q)).isSome = true) := hSM
          have hQ := Bt HB6.out hQQ
          obtain ⟨q0, q1, q2⟩ := HX.out wr hQ
          obtain ⟨c1, d0, d1⟩ := HCE.out wr hQ
          have D7 := HD6.out.below hQQ HD6.out.lt
          have e0 := D7.cell 0
          have e1 := D7.cell 1
          simp only [List.getElem?_toArray, List.getElem?_cons_zero, List.getElem?_cons_succ] at e0 e1
          have HSM := Lib.hid hSM
          have HQ := Lib.hid hQ
          have HQQ := Lib.hid hQQ
          clear hSM hQ hQQ D7
          by_cases hkh : k ≤ hi2
          · have dk : decide (k ≤ hi2) = true := decide_eq_true hkh
            have hS1 := HS.out i hlt (((f : Nat) : Int), k) (by dsimp only; omega)
            obtain ⟨r, hst⟩ : ∃ r, Cou.stepF a i (((f : Nat) : Int), k) = r := ⟨_, rfl⟩
            obtain ⟨t1, t2, hsv⟩ := stepV_shape r
            rw [hst, hsv] at hS1
            have HS1 := Lib.hid hS1
            have HST := Lib.hid hst
            clear hS1 hst hsv
            obtain ⟨b, hb9⟩ : ∃ b, r.isSome = b := ⟨_, rfl⟩
            rw [hb9] at HS1
            go_upto_region 10 with fail
            go_cut [10, 11] from 38 to 50 (fun s10 s11 wx => ∃ tb, s10 = .pointer (some ⟨tb, 0, none⟩) ∧ s11 = .bool b ∧ Below wr.heap.size wr wx)
            case first =>
              as_aux_lemma =>
              have q0' : ∀ o, (wr.alloc o).cell? ⟨B, 0, none⟩ = _ := fun o => (HX.out (wr.alloc o) (HQ.out.alloc HQ.out.size o)).1
              have q1' : ∀ o, (wr.alloc o).cell? ⟨B, 1, none⟩ = _ := fun o => (HX.out (wr.alloc o) (HQ.out.alloc HQ.out.size o)).2.1
              have q2' : ∀ o, (wr.alloc o).cell? ⟨B, 2, none⟩ = _ := fun o => (HX.out (wr.alloc o) (HQ.out.alloc HQ.out.size o)).2.2
              have c1' : ∀ o, (wr.alloc o).cell? ⟨(ad.add (i * 5)).block, (ad.add (i * 5)).off + 1, none⟩ = _ := fun o => (HCE.out (wr.alloc o) (HQ.out.alloc HQ.out.size o)).1
              go_region_with (go_at_call 18; (with_reducible refine ((HS1.out _ (by first | exact HQ.out.drew | exact (HQ.out.alloc HQ.out.size _).drew)).mono ?_)); rintro e w5 ⟨rfl, hb5⟩; (try (have T5 := (Blk.new wr 28 #[.int .i64 0, .int .i64 0]).drew.below hb5 (Blk.new wr 28 #[.int .i64 0, .int .i64 0]).drew.lt; have fz5 := T5.frozen; have z50 := T5.cell 0; have z51 := T5.cell 1; simp only [List.getElem?_toArray, List.getElem?_cons_zero, List.getElem?_cons_succ] at z50 z51; have HT5 := Lib.hid T5; clear T5)); have HB5 := Lib.hid hb5; clear hb5)
              all_goals (go_wp2_with fail; go_meet)
              all_goals (first
                | exact ⟨_, rfl, rfl, Ba (Bt (B0 wr).drew HB5.out) _⟩
                | exact ⟨_, rfl, rfl, Bs (Bs (Bt (Ba (B0 wr) _).drew HB5.out) _ (Nat.le_refl _)) _ (Nat.le_refl _)⟩)
            case rest =>
              as_aux_lemma =>
              obtain ⟨tb, rfl, rfl, hb7⟩ := hcut
              have HB7 := Lib.hid hb7
              clear hb7 q0 q1 q2 c1 d0 d1
              have HBB9 := Lib.hid hb9
              clear hb9
              have hRL : ((sm || b) = true ↔ ∃ q : Int, lo ≤ q ∧ q < k + 1 ∧ (Cou.stepF a i (((f : Nat) : Int), q)).isSome = true) := by
                have h1 := HSM.out
                have h2 := HST.out
                have h3 := HBB9.out
                rw [← h2] at h3
                rw [Bool.or_eq_true, h1, ← h3]
                constructor
                · rintro (⟨q, a1, a2, a3⟩ | h)
                  · exact ⟨q, a1, Int.lt_of_lt_of_le a2 (Int.le_of_lt (Int.lt_add_one_of_le (Int.le_refl k))), a3⟩
                  · exact ⟨k, hk1, Int.lt_add_one_of_le (Int.le_refl k), h⟩
                · rintro ⟨q, a1, a2, a3⟩
                  rcases Int.lt_or_eq_of_le (Int.le_of_lt_add_one a2) with h | h
                  · exact .inl ⟨q, a1, h, a3⟩
                  · subst h
                    exact .inr a3
              have HRL := Lib.hid hRL
              clear hRL HST HSM
              cases sm
              all_goals
                go_wp2_with fail
                go_roundg ((hi2 + 1 - (k + 1)).toNat)
                case measure => omega
                case rel => exact ⟨k + 1, _, by omega, .inl (by omega), Nat.le_refl _, rfl, rfl, HRL.out, Bt HQQ.out HB7.out⟩
          · have dk : decide (k ≤ hi2) = false := decide_eq_false (by omega)
            have hTB : sm = Cou.takesB a i := by
              have h1 := HSM.out
              have h2 := HTK.out
              rw [Bool.eq_iff_iff, h1, h2]
              constructor
              · rintro ⟨q, a1, a2, a3⟩
                refine ⟨q, a1, ?_, a3⟩
                rcases hk2 with h | h
                · exact Int.le_of_lt_add_one (Int.lt_of_lt_of_le a2 h)
                · exact absurd a2 (by rw [h]; exact Int.not_lt.2 a1)
              · rintro ⟨q, a1, a2, a3⟩
                exact ⟨q, a1, Int.lt_of_le_of_lt a2 (Int.not_le.1 hkh), a3⟩
            have hcs := Cou.cnt_succ a i
            rw [HCI.out] at hcs
            unfold Cou.idB at hcs
            rw [← hTB] at hcs
            have HTB := Lib.hid hTB
            have hD1 := HD.out i hlt
            clear hTB HSM hk1 hk2 hgg hkh HCE
            cases sm with
            | true =>
              rw [Bool.not_true, Bool.and_false, cond_false] at hcs
              have HCS := Lib.hid hcs
              clear hcs hD1
              go_wp2_with fail
              go_roundg (n - (i + 1))
              case measure => omega
              case rel => exact ⟨i + 1, by omega, by omega, by rw [HCS.out], by go_num, HQ.out⟩
            | false =>
              rw [Bool.not_false, Bool.and_true] at hcs
              cases htb : a.drawn.testBit i with
              | false =>
                rw [htb] at hD1 hcs
                rw [cond_false] at hcs
                have HCS := Lib.hid hcs
                have HD1 := Lib.hid hD1
                clear hcs hD1 htb
                go_wp2_with (go_at_call 26; (with_reducible refine ((HD1.out _).mono ?_)); rintro e w7 ⟨rfl, hb7⟩; have HB7 := Lib.hid hb7; clear hb7)
                go_roundg (n - (i + 1))
                case measure => omega
                case rel => exact ⟨i + 1, by omega, by omega, by rw [HCS.out], by go_num, Bt HQ.out HB7.out⟩
              | true =>
                obtain ⟨hg1, al, e9, hg2⟩ := HG.out i hlt (by unfold Cou.idB; rw [htb, ← HTB.out]; rfl)
                rw [htb] at hD1 hcs
                rw [cond_true] at hcs
                rw [HCI.out] at hg1 hg2
                subst e9
                have HCS := Lib.hid hcs
                have HD1 := Lib.hid hD1
                have HG2 := Lib.hid hg2
                have dn : decide ((nl : Int) ≤ ci) = false := decide_eq_false (by omega)
                have cI : (ci : Int) < nl := by omega
                clear hcs hD1 htb hg2
                go_wp2_with (go_at_call 26; (with_reducible refine ((HD1.out _).mono ?_)); rintro e w7 ⟨rfl, hb7⟩; have g7 := HG2.out w7 (Bt HQ.out hb7); have HB7 := Lib.hid hb7; clear hb7)
                go_roundg (n - (i + 1))
                case measure => omega
                case rel => exact ⟨i + 1, by omega, by omega, by rw [HCS.out]; go_num, by go_num, Bt HQ.out HB7.out⟩
    · obtain rfl : i = n := by omega
      obtain rfl : ci = nl := by rw [← HCI.out]; exact HLN.out.symm
      have HB := Lib.hid hB
      clear hB
      go_wp2_with fail
      go_ret
      exact ⟨by simp, Bt HB1.out HB.out⟩
end Go.Proofs.YtnkjhppjjklgfaaDoor
