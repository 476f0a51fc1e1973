/- Walks: the statement. -/
import Derived.Test.YtbcbkllahnahnaaW12a
namespace Go.Proofs.Ytbcbkllahnahnaa
open Go Go.RowKit
attribute [local go_sem ↓] Go.wp_at_zero Go.wp_at_succ
set_option maxHeartbeats 40000000 in
set_option maxRecDepth 100000 in
theorem law_any (va vb : Value) (A B : List Gate) (o0 o1 hw_ at_ by_ sz : Int) (both : Bool) (ho0 : 0 ≤ o0 ∧ o0 ≤ 255) (ho1 : 0 ≤ o1 ∧ o1 ≤ 255) (hh : 0 ≤ hw_ ∧ hw_ ≤ 255) (hat : 0 ≤ at_ ∧ at_ ≤ 255) (w : World) (F : Nat → Prop) (hF : ∀ b, F b → b < w.heap.size)
    (hA : SlT F w va A) (hB : SlT F w vb B) :
    Calls Try.prog 3 #[.agg #[va, vb, .int .u8 o0, .int .u8 o1, .bool both], .agg #[.int .u8 hw_, .int .u8 at_, .int .i64 by_, .int .u8 sz]] w fun e w' => e = .returned (.bool true) ∧ Below w.heap.size w w' := by
  have hk := fun W => known_any W
  have HK := Lib.hid hk
  clear hk
  obtain ⟨Aa, ca, rfl, hlca, hlla, _⟩ := hA.open
  obtain ⟨Ab, cb, rfl, hlcb, hllb, _⟩ := hB.open
  by_cases hbig : 10 < A.length ∨ 10 < B.length
  · go_enter Try.func3, Try.ntmps3
    have hbA : 10 < A.length ∨ A.length ≤ 10 := by omega
    clear hA hB
    rcases hbA with hbA | hbA
    · clear hbig
      have LA : decide (10 < (A.length : Int)) = true := decide_eq_true (by omega)
      go_wp2_with fail
      refine (HK.out _).mono ?_
      rintro e w1 ⟨rfl, hb1⟩
      have B1 : Below w.heap.size w w1 := Bt (Ba (Ba (B0 w) _) _) hb1
      have c0 : w1.cell? ⟨w.heap.size, 0, none⟩ = some (.slice Aa A.length ca) := (Bc hb1 (by simp; omega)).trans (by simp [go_sem])
      have c1 : w1.cell? ⟨w.heap.size, 1, none⟩ = some (.slice Ab B.length cb) := (Bc hb1 (by simp; omega)).trans (by simp [go_sem])
      have HB1 := Lib.hid B1
      clear hb1 B1
      go_wp2_with fail
      refine (HK.out _).mono ?_
      rintro e w2 ⟨rfl, hb2⟩
      have HB2 := Lib.hid (Bt HB1.out hb2)
      clear hb2
      go_wp2_with fail
      go_ret
      exact ⟨rfl, HB2.out⟩
    · have hbB : 10 < B.length := by omega
      clear hbig
      have LA : decide (10 < (A.length : Int)) = false := decide_eq_false (by omega)
      have LB : decide (10 < (B.length : Int)) = true := decide_eq_true (by omega)
      go_wp2_with fail
      refine (HK.out _).mono ?_
      rintro e w1 ⟨rfl, hb1⟩
      have B1 : Below w.heap.size w w1 := Bt (Ba (Ba (B0 w) _) _) hb1
      have c0 : w1.cell? ⟨w.heap.size, 0, none⟩ = some (.slice Aa A.length ca) := (Bc hb1 (by simp; omega)).trans (by simp [go_sem])
      have c1 : w1.cell? ⟨w.heap.size, 1, none⟩ = some (.slice Ab B.length cb) := (Bc hb1 (by simp; omega)).trans (by simp [go_sem])
      have HB1 := Lib.hid B1
      clear hb1 B1
      go_wp2_with fail
      refine (HK.out _).mono ?_
      rintro e w2 ⟨rfl, hb2⟩
      have HB2 := Lib.hid (Bt HB1.out hb2)
      clear hb2
      go_wp2_with fail
      go_ret
      exact ⟨rfl, HB2.out⟩
  · have hla : A.length ≤ 10 := by omega
    have hlb : B.length ≤ 10 := by omega
    have LA : decide (10 < A.length) = false := decide_eq_false (by omega)
    have LB : decide (10 < B.length) = false := decide_eq_false (by omega)
    have HA := Lib.hid hA
    have HB := Lib.hid hB
    clear hbig hA hB
    go_enter Try.func3, Try.ntmps3
    go_wp2_with fail
    refine (HK.out _).mono ?_
    rintro e w1 ⟨rfl, hb1⟩
    have B1 : Below w.heap.size w w1 := Bt (Ba (Ba (B0 w) _) _) hb1
    have s1 : w.heap.size + 1 < w1.heap.size := by have := hb1.size; simp at this; omega
    have c0 : w1.cell? ⟨w.heap.size, 0, none⟩ = some (.slice Aa A.length ca) := (Bc hb1 (by simp; omega)).trans (by simp [go_sem])
    have c1 : w1.cell? ⟨w.heap.size, 1, none⟩ = some (.slice Ab B.length cb) := (Bc hb1 (by simp; omega)).trans (by simp [go_sem])
    have c2 : w1.cell? ⟨w.heap.size, 2, none⟩ = some (.int .u8 o0) := (Bc hb1 (by simp; omega)).trans (by simp [go_sem])
    have c3 : w1.cell? ⟨w.heap.size, 3, none⟩ = some (.int .u8 o1) := (Bc hb1 (by simp; omega)).trans (by simp [go_sem])
    have c4 : w1.cell? ⟨w.heap.size, 4, none⟩ = some (.bool both) := (Bc hb1 (by simp; omega)).trans (by simp [go_sem])
    have d0 : w1.cell? ⟨w.heap.size + 1, 0, none⟩ = some (.int .u8 hw_) := (Bc hb1 (by simp)).trans (by simp [go_sem])
    have d1 : w1.cell? ⟨w.heap.size + 1, 1, none⟩ = some (.int .u8 at_) := (Bc hb1 (by simp)).trans (by simp [go_sem])
    have d2 : w1.cell? ⟨w.heap.size + 1, 2, none⟩ = some (.int .i64 by_) := (Bc hb1 (by simp)).trans (by simp [go_sem])
    have D0 := Lib.hid d0
    have D1 := Lib.hid d1
    have D2 := Lib.hid d2
    have C4 := Lib.hid c4
    have HB1 := Lib.hid B1
    clear hb1 d0 d1 d2 c4 B1
    go_upto_region 3 with fail
    go_cut [5, 6] (fun s5 s6 wx => Two w1 s5 s6 wx)
    case first =>
      have cA : ∀ W, Below w1.heap.size w1 W → Calls Try.prog 5 #[.slice Aa A.length ca, .int .u8 o0] W fun e w' => ∃ n Ag mg cg Ao mo co, e = .returned (.agg #[.slice Ag mg cg, .slice Ao mo co]) ∧ netOk 4 n = true ∧ (n.gates.length ≤ 10 ∧ ∀ g ∈ n.gates, g.ins.length ≤ 5) ∧ n.outs.length ≤ 2 ∧ NetAt (New W.heap.size w'.heap.size) w' (.slice Ag mg cg) (.slice Ao mo co) n ∧ Below W.heap.size W w' :=
        fun W hW => build_lit _ A o0 ho0 W F (fun b hb => by have := hF b hb; have := HB1.out.size; have := hW.size; omega) (HA.out.keep (Agree.below (Bt HB1.out hW) hF))
      have cB : ∀ W, Below w1.heap.size w1 W → Calls Try.prog 5 #[.slice Ab B.length cb, .int .u8 o1] W fun e w' => ∃ n Ag mg cg Ao mo co, e = .returned (.agg #[.slice Ag mg cg, .slice Ao mo co]) ∧ netOk 4 n = true ∧ (n.gates.length ≤ 10 ∧ ∀ g ∈ n.gates, g.ins.length ≤ 5) ∧ n.outs.length ≤ 2 ∧ NetAt (New W.heap.size w'.heap.size) w' (.slice Ag mg cg) (.slice Ao mo co) n ∧ Below W.heap.size W w' :=
        fun W hW => build_lit _ B o1 ho1 W F (fun b hb => by have := hF b hb; have := HB1.out.size; have := hW.size; omega) (HB.out.keep (Agree.below (Bt HB1.out hW) hF))
      have sb : ∀ W, (W.cell? ⟨w.heap.size, 0, none⟩ = some (.slice Aa A.length ca) ∧ W.cell? ⟨w.heap.size, 1, none⟩ = some (.slice Ab B.length cb) ∧ W.cell? ⟨w.heap.size, 2, none⟩ = some (.int .u8 o0) ∧ W.cell? ⟨w.heap.size, 3, none⟩ = some (.int .u8 o1) ∧ Aside (Below w1.heap.size w1 W)) → Below w1.heap.size w1 W := fun W h => h.2.2.2.2
      have SB := Lib.hid sb
      have CA := Lib.hid cA
      have CB := Lib.hid cB
      have mk : ∀ W, Below w1.heap.size w1 W → W.cell? ⟨w.heap.size, 0, none⟩ = some (.slice Aa A.length ca) ∧ W.cell? ⟨w.heap.size, 1, none⟩ = some (.slice Ab B.length cb) ∧ W.cell? ⟨w.heap.size, 2, none⟩ = some (.int .u8 o0) ∧ W.cell? ⟨w.heap.size, 3, none⟩ = some (.int .u8 o1) ∧ Aside (Below w1.heap.size w1 W) :=
        fun W hW => ⟨(Bc hW (by omega)).trans c0, (Bc hW (by omega)).trans c1, (Bc hW (by omega)).trans c2, (Bc hW (by omega)).trans c3, hW⟩
      have MK := Lib.hid mk
      clear cA cB mk sb
      go_region_held3 (fun W => W.cell? ⟨w.heap.size, 0, none⟩ = some (.slice Aa A.length ca) ∧ W.cell? ⟨w.heap.size, 1, none⟩ = some (.slice Ab B.length cb) ∧ W.cell? ⟨w.heap.size, 2, none⟩ = some (.int .u8 o0) ∧ W.cell? ⟨w.heap.size, 3, none⟩ = some (.int .u8 o1) ∧ Aside (Below w1.heap.size w1 W))
        (exact MK.out _ (by repeat (first | exact n6 | exact B0 _ | refine Below.drew ?_ | refine Ba ?_ _ | refine Bs ?_ _ (by first | omega | (dsimp only; omega) | (simp; done)))))
        (first
          | (go_at_call_of 5 (Value.slice Aa A.length ca); refine (CA.out _ (SB.out _ (by assumption))).mono ?_; rintro e wA ⟨nA, gA1, gA2, gA3, oA1, oA2, oA3, rfl, a1, a2, a3, a4, a5⟩; have n6 := Bt (SB.out _ (by assumption)) a5; have aq2 := a5.size; have aq1 := n6.size; (try simp at aq2); (try have aq3 := Nat.lt_of_succ_le aq2); (try have aq4 := Nat.lt_of_succ_le (Nat.le_of_succ_le aq2)); (try have aq5 : w1.heap.size < wA.heap.size := by omega); (try have aq6 : w1.heap.size + 1 < wA.heap.size := by omega); obtain ⟨ahc, ahf⟩ := bcell a5)
          | (go_at_call_of 5 (Value.slice Ab B.length cb); refine (CB.out _ (SB.out _ (by assumption))).mono ?_; rintro e wB ⟨nB, gB1, gB2, gB3, oB1, oB2, oB3, rfl, b1, b2, b3, b4, b5⟩; have n6 := Bt (SB.out _ (by assumption)) b5; have bq2 := b5.size; have bq1 := n6.size; (try simp at bq2); (try have bq3 := Nat.lt_of_succ_le bq2); (try have bq4 := Nat.lt_of_succ_le (Nat.le_of_succ_le bq2)); (try have bq5 : w1.heap.size < wB.heap.size := by omega); (try have bq6 : w1.heap.size + 1 < wB.heap.size := by omega); obtain ⟨bhc, bhf⟩ := bcell b5))
      all_goals
        go_wp2_with fail
        go_meet
        refine two_mk _ _ _ _ a1 a2 a3 a4 b1 b2 b3 b4 ?_ ?_ ?_ ?_ ?_ (fun b hb => ?_) (fun b h1 h2 h3 => ?_) ?_ ?_ ?_ ?_
        · (first | omega | (simp; done) | (simp; omega) | (simp [World.setCell]; done) | (simp [World.setCell]; omega))
        · (first | omega | (simp; done) | (simp; omega) | (simp [World.setCell]; done) | (simp [World.setCell]; omega))
        · (first | omega | (simp; done) | (simp; omega) | (simp [World.setCell]; done) | (simp [World.setCell]; omega))
        · (first | omega | (simp; done) | (simp; omega) | (simp [World.setCell]; done) | (simp [World.setCell]; omega))
        · (first | omega | (simp; done) | (simp; omega) | (simp [World.setCell]; done) | (simp [World.setCell]; omega))
        · exact (b5.block b (by first | exact hb | (simp; omega))).trans (by first | rfl | rw [Below.heap_alloc _ _ _ (by omega)] | rw [Below.heap_alloc _ _ _ (by simp; omega), Below.heap_alloc _ _ _ (by omega)])
        · repeat (first | rw [Below.heap_setCell _ _ _ _ (by dsimp only; omega)] | rw [Below.heap_alloc _ _ _ (by first | exact h1 | (simp; omega))])
        · (first | omega | (simp; done) | (simp; omega) | (simp [World.setCell]; done) | (simp [World.setCell]; omega))
        · repeat (first | with_reducible exact n6 | with_reducible refine Ba ?_ _ | (with_reducible refine Bs' ?_ ?_; focus (dsimp only; omega)))
        · repeat (first | (with_reducible refine Blk.new' _ _ _ _ ?_; (first | rfl | (simp; done))) | with_reducible refine Blk.two (u0 := .slice none 0 0) (u1 := .slice none 0 0) ?_ | (with_reducible refine Blk.far' ?_ ?_; focus (dsimp only; omega)) | with_reducible refine Blk.alloc ?_ _ | with_reducible refine Blk.drew ?_ | (with_reducible refine Blk.below' b5 ?_ ?_; focus (first | omega | (simp; done) | (simp; omega))) | (with_reducible refine Blk.below' a5 ?_ ?_; focus (first | omega | (simp; done) | (simp; omega))))
        · repeat (first | (with_reducible refine Blk.new' _ _ _ _ ?_; (first | rfl | (simp; done))) | with_reducible refine Blk.two (u0 := .slice none 0 0) (u1 := .slice none 0 0) ?_ | (with_reducible refine Blk.far' ?_ ?_; focus (dsimp only; omega)) | with_reducible refine Blk.alloc ?_ _ | with_reducible refine Blk.drew ?_ | (with_reducible refine Blk.below' b5 ?_ ?_; focus (first | omega | (simp; done) | (simp; omega))) | (with_reducible refine Blk.below' a5 ?_ ?_; focus (first | omega | (simp; done) | (simp; omega))))
    case rest =>
      obtain ⟨b5, b6, na, nb, ga, oa, gb, ob, rfl, rfl, hne, hs5, hs6, K5, K6, NA, NB, oka, okb, B2⟩ := hcut
      have e4 : wc.cell? ⟨w.heap.size, 4, none⟩ = some (.bool both) := (Bc B2 (by omega)).trans C4.out
      obtain ⟨wo, rfl⟩ : ∃ wo : World, wo = wc := ⟨_, rfl⟩
      go_upto_if 43 with (fail)
      go_cut [5, 6] (fun s5 s6 wx => Two w1 s5 s6 wx)
      case first =>
        have k0 := K5.cell 0
        have k1 := K5.cell 1
        have l0 := K6.cell 0
        have l1 := K6.cell 1
        have f0 := K6.frozen 0
        have f1 := K6.frozen 1
        obtain ⟨Ag, cg, rfl⟩ := NA.g.lit
        obtain ⟨Ao, co, rfl⟩ := NA.o.lit
        obtain ⟨Bg', cg', rfl⟩ := NB.g.lit
        obtain ⟨Bo', co', rfl⟩ := NB.o.lit
        have HK5 := Lib.hid K5
        have HK6 := Lib.hid K6
        have HNA := Lib.hid NA
        have HNB := Lib.hid NB
        clear K5 K6 NA NB
        simp at k0 k1 l0 l1
        cases both with
        | false =>
          go_wp2_with fail
          go_meet
          exact ⟨b5, b6, na, nb, _, _, _, _, rfl, rfl, hne, hs5, hs6, HK5.out, HK6.out, HNA.out, HNB.out, oka, okb, B2⟩
        | true =>
          go_wp2_with fail
          go_meet
          have hz : ((wo.setCell ⟨b6, 0, none⟩ (.slice Ag na.gates.length cg)).setCell ⟨b6, 1, none⟩ (.slice Ao na.outs.length co)).heap.size = wo.heap.size := by simp [World.setCell]
          have hn := (HNA.out.keep (w' := (wo.setCell ⟨b6, 0, none⟩ (.slice Ag na.gates.length cg)).setCell ⟨b6, 1, none⟩ (.slice Ao na.outs.length co)) fun b ⟨_, _, _, q⟩ => by
            rw [Below.heap_setCell _ _ _ _ (by dsimp only; omega), Below.heap_setCell _ _ _ _ (by dsimp only; omega)])
          refine ⟨b5, b6, na, na, _, _, _, _, rfl, rfl, hne, by rw [hz]; exact hs5, by rw [hz]; exact hs6, (HK5.out.far' (by dsimp only; omega)).far' (by dsimp only; omega), Blk.two HK6.out, by rw [hz]; exact hn, by rw [hz]; exact hn, oka, oka, Bs (Bs B2 _ hs6.1) _ hs6.1⟩
      case rest =>
        clear hne hs5 hs6 K5 K6 NA NB oka okb B2 e4
        obtain ⟨c5, c6, ma, mb, ga', oa', gb', ob', rfl, rfl, hne, hs5, hs6, K5, K6, NA, NB, oka, okb, B2⟩ := hcut
        obtain ⟨Ag, cg, rfl⟩ := NA.g.lit
        obtain ⟨Ao, co, rfl⟩ := NA.o.lit
        obtain ⟨Bg', cg', rfl⟩ := NB.g.lit
        obtain ⟨Bo', co', rfl⟩ := NB.o.lit
        obtain ⟨w3, rfl⟩ : ∃ w3 : World, w3 = wc := ⟨_, rfl⟩
        have hF3 : ∀ b, (w1.heap.size ≤ b ∧ b < w3.heap.size ∧ b ≠ c5 ∧ b ≠ c6) → b < w3.heap.size := fun b h => h.2.1
        have k0 := K5.cell 0
        have k1 := K5.cell 1
        have l0 := K6.cell 0
        have l1 := K6.cell 1
        simp at k0 k1 l0 l1
        have HNA := Lib.hid NA
        have HNB := Lib.hid NB
        have OKA := Lib.hid oka
        have OKB := Lib.hid okb
        have HK5 := Lib.hid K5
        have HK6 := Lib.hid K6
        have HB2 := Lib.hid B2
        clear NA NB oka okb B2 K5 K6
        have hz := wantN_zero ma mb
        have h07 : ((ma.outs.length : Int) == mb.outs.length) = wantN ma mb 0 := by rw [hz, Bool.eq_iff_iff]; simp; omega
        have H07 := Lib.hid h07
        clear hz h07
        go_upto_block 0 with fail
        go_cut [7] (fun s7 wx => s7 = .bool (wantN ma mb 16) ∧ Below w3.heap.size w3 wx)
        case first =>
          go_wp2_with fail
          go_loopg [7, 8] 16 (fun gg s7 s8 wr => ∃ k : Nat, k ≤ 16 ∧ 16 - k ≤ gg ∧ s8 = .int .i64 k ∧ s7 = .bool (wantN ma mb k) ∧ Aside (Below w3.heap.size w3 wr))
          case atStart => exact ⟨0, by omega, by omega, rfl, by rw [← H07.out], B0 _⟩
          case round =>
            obtain ⟨k, hk, hg, rfl, rfl, BW⟩ := hrel
            generalize hw : wantN ma mb k = want at *
            by_cases hk16 : k < 16
            · have hk16i : decide ((k : Int) < 16) = true := decide_eq_true (by omega)
              cases want with
              | false =>
                have HW := Lib.hid (wantN_false hw hk)
                clear hw
                go_wp2_with fail
                all_goals
                  go_meet
                  exact ⟨by rw [HW.out], BW.out⟩
              | true =>
                have k0 := (Bc BW.out hs5.2).trans k0
                have k1 := (Bc BW.out hs5.2).trans k1
                have l0 := (Bc BW.out hs6.2).trans l0
                have l1 := (Bc BW.out hs6.2).trans l1
                have cA : ∀ W, Below w3.heap.size w3 W → Calls Try.prog 6 #[.agg #[.slice Ag ma.gates.length cg, .slice Ao ma.outs.length co], .int .i64 k] W fun e w' => ∃ A c, e = .returned (.slice A ma.gates.length c) ∧ SlBo (New W.heap.size w'.heap.size) w' (.slice A ma.gates.length c) (evalB k [] ma.gates) ∧ Below W.heap.size W w' :=
                  fun W hW => values_lit k hk16 _ _ ma W _ (fun b h => by have := hF3 b h; have := hW.size; omega) (HNA.out.g.keep (Agree.below hW hF3)) OKA.out.1 OKA.out.2.1.1
                have cB : ∀ W, Below w3.heap.size w3 W → Calls Try.prog 6 #[.agg #[.slice Bg' mb.gates.length cg', .slice Bo' mb.outs.length co'], .int .i64 k] W fun e w' => ∃ A c, e = .returned (.slice A mb.gates.length c) ∧ SlBo (New W.heap.size w'.heap.size) w' (.slice A mb.gates.length c) (evalB k [] mb.gates) ∧ Below W.heap.size W w' :=
                  fun W hW => values_lit k hk16 _ _ mb W _ (fun b h => by have := hF3 b h; have := hW.size; omega) (HNB.out.g.keep (Agree.below hW hF3)) OKB.out.1 OKB.out.2.1.1
                have CA := Lib.hid cA
                have CB := Lib.hid cB
                have mk : ∀ W, Below wr.heap.size wr W → W.cell? ⟨c5, 0, none⟩ = some (.slice Ag ma.gates.length cg) ∧ W.cell? ⟨c5, 1, none⟩ = some (.slice Ao ma.outs.length co) ∧ W.cell? ⟨c6, 0, none⟩ = some (.slice Bg' mb.gates.length cg') ∧ W.cell? ⟨c6, 1, none⟩ = some (.slice Bo' mb.outs.length co') ∧ Aside (Below wr.heap.size wr W) :=
                  fun W hW => ⟨(Bc hW (by have := BW.out.size; omega)).trans k0, (Bc hW (by have := BW.out.size; omega)).trans k1, (Bc hW (by have := BW.out.size; omega)).trans l0, (Bc hW (by have := BW.out.size; omega)).trans l1, hW⟩
                have MK := Lib.hid mk
                have sb : ∀ W, (W.cell? ⟨c5, 0, none⟩ = some (.slice Ag ma.gates.length cg) ∧ W.cell? ⟨c5, 1, none⟩ = some (.slice Ao ma.outs.length co) ∧ W.cell? ⟨c6, 0, none⟩ = some (.slice Bg' mb.gates.length cg') ∧ W.cell? ⟨c6, 1, none⟩ = some (.slice Bo' mb.outs.length co') ∧ Aside (Below wr.heap.size wr W)) → Below wr.heap.size wr W := fun W h => h.2.2.2.2
                have SB := Lib.hid sb
                have HW := Lib.hid hw
                clear cA cB mk sb hw
                go_wp2_with fail
                go_region_held3 (fun W => W.cell? ⟨c5, 0, none⟩ = some (.slice Ag ma.gates.length cg) ∧ W.cell? ⟨c5, 1, none⟩ = some (.slice Ao ma.outs.length co) ∧ W.cell? ⟨c6, 0, none⟩ = some (.slice Bg' mb.gates.length cg') ∧ W.cell? ⟨c6, 1, none⟩ = some (.slice Bo' mb.outs.length co') ∧ Aside (Below wr.heap.size wr W))
                  (exact MK.out _ (by repeat (first | exact n6 | exact B0 _ | refine Below.drew ?_)))
                  (first
                    | (go_at_call_of 6 (Value.agg #[Value.slice Ag ma.gates.length cg, Value.slice Ao ma.outs.length co]); refine (CA.out _ (Bt BW.out (SB.out _ (by assumption)))).mono ?_; rintro e wA ⟨vA1, vA2, rfl, a1, a2⟩; have n6 := Bt (SB.out _ (by assumption)) a2)
                    | (go_at_call_of 6 (Value.agg #[Value.slice Bg' mb.gates.length cg', Value.slice Bo' mb.outs.length co']); refine (CB.out _ (Bt BW.out (SB.out _ (by assumption)))).mono ?_; rintro e wB ⟨vB1, vB2, rfl, b1, b2⟩; have n6 := Bt (SB.out _ (by assumption)) b2))
                have ⟨k0, k1, l0, l1, _⟩ := MK.out _ n6
                have B3 : Below w3.heap.size w3 wB := Bt BW.out n6
                have hvA := (a1.keep (Agree.below b2 fun b h => h.2)).at
                have hvB := b1.at
                have hoA := (HNA.out.o.keep (Agree.below B3 hF3)).at
                have hoB := (HNB.out.o.keep (Agree.below B3 hF3)).at
                rw [evalB_length] at hvA hvB
                simp only [List.length_nil, Nat.zero_add] at hvA hvB
                have hll := wantN_len HW.out
                have hst := eqN_step k ma mb
                have hobA := outs_at OKA.out.1
                have hobB := outs_at OKB.out.1
                have HVA := Lib.hid hvA
                have HVB := Lib.hid hvB
                have HOA := Lib.hid hoA
                have HOB := Lib.hid hoB
                have HST := Lib.hid hst
                have HOBA := Lib.hid hobA
                have HOBB := Lib.hid hobB
                have HLL := Lib.hid hll
                have HB3 := Lib.hid B3
                clear hvA hvB hoA hoB hst hobA hobB a1 a2 b1 b2 B3 hll n6
                go_wp2_with fail
                go_loopg [7, 11] ma.outs.length (fun gg s7 s11 wi => ∃ j q : Nat, j ≤ ma.outs.length ∧ ma.outs.length - j ≤ gg ∧ s11 = .int .i64 j ∧ s7 = .bool (eqN (outsB k ma) (outsB k mb) j) ∧ wi = wB.drewN q)
                case atStart => exact ⟨0, 0, by omega, by omega, rfl, by rw [eqN_zero], rfl⟩
                case round =>
                  obtain ⟨j, q, hj, hgj, rfl, rfl, rfl⟩ := hrel
                  have hol := OKA.out.2.2
                  by_cases hlt : j < ma.outs.length
                  · have hlti : decide ((j : Int) < ma.outs.length) = true := decide_eq_true (by omega)
                    have hltj : j < mb.outs.length := by have := HLL.out; omega
                    have hst := HST.out j hlt hltj
                    generalize he : eqN (outsB k ma) (outsB k mb) j = e at *
                    cases e with
                    | false =>
                      have HS := Lib.hid (hst.trans (Bool.false_and _))
                      clear hst he
                      go_wp2_with fail
                      go_quiet (fail)
                      go_wp2
                      go_roundg (ma.outs.length - (j + 1))
                      case measure => omega
                      case rel => exact ⟨j + 1, _, by omega, by omega, by go_num, by rw [HS.out], rfl⟩
                    | true =>
                      obtain ⟨oa1, oa2⟩ := HOBA.out j hlt
                      obtain ⟨ob1, ob2⟩ := HOBB.out j (by have := HLL.out; omega)
                      obtain ⟨adA, rfl, _, ca1⟩ := HOA.out j hlt
                      obtain ⟨adB, rfl, _, cb1⟩ := HOB.out j (by have := HLL.out; omega)
                      rw [Bool.true_and] at hst
                      generalize ma.outs[j] = p at *
                      generalize mb.outs[j] = r at *
                      obtain ⟨p, rfl⟩ := Int.eq_ofNat_of_zero_le oa1
                      obtain ⟨r, rfl⟩ := Int.eq_ofNat_of_zero_le ob1
                      rw [Int.toNat_natCast, Int.toNat_natCast] at hst
                      obtain ⟨adv, rfl, _, cv⟩ := HVA.out p (by omega)
                      obtain ⟨adw, rfl, _, cw⟩ := HVB.out r (by omega)
                      generalize (evalB k [] ma.gates).getD p false = x at *
                      generalize (evalB k [] mb.gates).getD r false = y at *
                      have HS := Lib.hid hst
                      clear hst he
                      cases x <;> cases y
                      all_goals
                        go_wp2_with fail
                        go_quiet (fail)
                        go_wp2
                        go_roundg (ma.outs.length - (j + 1))
                        case measure => omega
                        case rel => exact ⟨j + 1, _, by omega, by omega, by go_num, by rw [HS.out]; rfl, rfl⟩
                  · have hlti : decide ((j : Int) < ma.outs.length) = false := decide_eq_false (by omega)
                    have : j = ma.outs.length := by omega
                    subst this
                    have hws : wantN ma mb (k + 1) = eqN (outsB k ma) (outsB k mb) ma.outs.length := by rw [wantN_succ, HW.out, eqN_end k ma mb HLL.out]; rfl
                    have HWS := Lib.hid hws
                    generalize eqN (outsB k ma) (outsB k mb) ma.outs.length = e at *
                    clear hws
                    go_wp2
                    go_roundg (16 - (k + 1))
                    case measure => omega
                    case rel => exact ⟨k + 1, by omega, by omega, by go_num, by rw [HWS.out], Below.drewNs HB3.out _⟩
            · have : k = 16 := by omega
              subst this
              have HW := Lib.hid hw
              clear hw
              go_wp2_with fail
              go_meet
              exact ⟨by rw [HW.out], BW.out⟩
        case rest =>
          obtain ⟨rfl, B4⟩ := hcut
          obtain ⟨w4, rfl⟩ : ∃ w4 : World, w4 = wc := ⟨_, rfl⟩
          have cS : ∀ v : Int, v ≤ 6 ∨ 12 < v → ∀ W, Below w3.heap.size w3 W → Calls Try.prog 7 #[.int .i64 v, .agg #[.slice Ag ma.gates.length cg, .slice Ao ma.outs.length co], .agg #[.slice Bg' mb.gates.length cg', .slice Bo' mb.outs.length co']] W fun e w' => e = .returned (.bool (sameF v ma mb)) ∧ Below W.heap.size W w' :=
            fun v hv W hW => same_any v hv _ _ _ _ ma mb W _ (fun b h => by have := hF3 b h; have := hW.size; omega) (HNA.out.keep (Agree.below hW hF3)) (HNB.out.keep (Agree.below hW hF3)) (by have := OKA.out.2.2; omega)
          have cT : ∀ v : Int, v ≤ 6 ∨ 12 < v → ∀ W, Below w3.heap.size w3 W → Calls Try.prog 7 #[.int .i64 v, .agg #[.slice Bg' mb.gates.length cg', .slice Bo' mb.outs.length co'], .agg #[.slice Ag ma.gates.length cg, .slice Ao ma.outs.length co]] W fun e w' => e = .returned (.bool (sameF v mb ma)) ∧ Below W.heap.size W w' :=
            fun v hv W hW => same_any v hv _ _ _ _ mb ma W _ (fun b h => by have := hF3 b h; have := hW.size; omega) (HNB.out.keep (Agree.below hW hF3)) (HNA.out.keep (Agree.below hW hF3)) (by have := OKB.out.2.2; omega)
          have cU : ∀ v : Int, v ≤ 6 ∨ 12 < v → ∀ W, Below w3.heap.size w3 W → Calls Try.prog 7 #[.int .i64 v, .agg #[.slice Ag ma.gates.length cg, .slice Ao ma.outs.length co], .agg #[.slice Ag ma.gates.length cg, .slice Ao ma.outs.length co]] W fun e w' => e = .returned (.bool (sameF v ma ma)) ∧ Below W.heap.size W w' :=
            fun v hv W hW => same_any v hv _ _ _ _ ma ma W _ (fun b h => by have := hF3 b h; have := hW.size; omega) (HNA.out.keep (Agree.below hW hF3)) (HNA.out.keep (Agree.below hW hF3)) (by have := OKA.out.2.2; omega)
          have CS := Lib.hid cS
          have CT := Lib.hid cT
          have CU := Lib.hid cU
          have hsa := sameF_want ma mb OKA.out.1 OKB.out.1
          have hsb := sameF_comm ma mb OKA.out.1 OKB.out.1
          generalize wantN ma mb 16 = wt at *
          have HSA := Lib.hid hsa
          have HSB := Lib.hid hsb
          have cells : ∀ W, Below w3.heap.size w3 W → W.cell? ⟨c5, 0, none⟩ = some (.slice Ag ma.gates.length cg) ∧ W.cell? ⟨c5, 1, none⟩ = some (.slice Ao ma.outs.length co) ∧ W.cell? ⟨c6, 0, none⟩ = some (.slice Bg' mb.gates.length cg') ∧ W.cell? ⟨c6, 1, none⟩ = some (.slice Bo' mb.outs.length co') :=
            fun W hW => ⟨(Bc hW hs5.2).trans k0, (Bc hW hs5.2).trans k1, (Bc hW hs6.2).trans l0, (Bc hW hs6.2).trans l1⟩
          have CE := Lib.hid cells
          have HB4 := Lib.hid B4
          clear cS cT cU hsa hsb k0 k1 l0 l1 cells B4
          go_upto_region 15 with fail
          go_cut [113] (fun s wx => s = .bool false ∧ Below w3.heap.size w3 wx)
          case first =>
            obtain ⟨k0, k1, l0, l1⟩ := CE.out _ HB4.out
            cases wt
            all_goals
              go_wp2_with fail
              refine (CS.out 4 (by omega) _ HB4.out).mono ?_
              rw [HSA.out]
              rintro e w5 ⟨rfl, q⟩
              have B5 := Lib.hid (Bt HB4.out q)
              have ⟨k0, k1, l0, l1⟩ := CE.out _ B5.out
              clear q
              go_wp2_with fail
              refine (CT.out 4 (by omega) _ B5.out).mono ?_
              rw [HSB.out]
              rintro e w6 ⟨rfl, q⟩
              have B6 := Lib.hid (Bt B5.out q)
              have ⟨k0, k1, l0, l1⟩ := CE.out _ B6.out
              clear q
              go_wp2_with fail
              refine (CU.out 13 (by omega) _ B6.out).mono ?_
              rw [sameF_13]
              rintro e w7 ⟨rfl, q⟩
              have B7 := Lib.hid (Bt B6.out q)
              have ⟨k0, k1, l0, l1⟩ := CE.out _ B7.out
              clear q
              go_wp2_with fail
              refine (CU.out (-1) (by omega) _ B7.out).mono ?_
              rw [sameF_neg]
              rintro e w8 ⟨rfl, q⟩
              have B8 := Lib.hid (Bt B7.out q)
              clear q
              go_wp2_with fail
              go_meet
              exact ⟨rfl, B8.out⟩
          case rest =>
            obtain ⟨rfl, B5⟩ := hcut
            obtain ⟨w5, rfl⟩ : ∃ w5 : World, w5 = wc := ⟨_, rfl⟩
            obtain ⟨k0, k1, _, _⟩ := CE.out _ B5
            go_upto_region 17 with fail
            exact law_tail _ w w1 w3 w5 _ _ _ _ _ _ _ _ _ _ _ _ _ _ _ _ _ _ _ _ _ _ _ _ _ _ _ _ _ _ _ _ _ _ _ _ _ _ _ _ _ _ _ _ _ _ _ _ _ _ _ _ _ _ _ _ _ _ _ _ _ _ _ _ _ _ _ _ _ _ _ _ _ _ _ _ _ _ _ _ _ _ _ _ _ _ _ _ _ _ _ _ _ _ _ _ _ _ _ _ _ _ _ _ _ _ _ _ _ _ _ _ _ _ _ _ _ _ _ _ _ _ _ _ _ _ _ _ _ _ _ _ _ _ _ _ _ _ _ _ _ _ _ _ _ _ _ _ _ _ _ _ _ _ _ _ _ _ _ _ _ _ _ _ _ _ _ _ _ _ _ _ _ _ _ _ _ _ _ _ _ _ _ _ _ (by assumption) by_ hw_ at_ hh hat s1 D0 D1 D2 HB1 c5 c6 ma Ag Ao cg co hs5 hF3 HNA OKA HB2 B5 k0 k1
end Go.Proofs.Ytbcbkllahnahnaa
