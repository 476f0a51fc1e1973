/- Walks: the statement's own network: whatever the items, a right network over 4 variables. -/
import Derived.Test.YtbcbkllahnahnaaW6a
namespace Go.Proofs.Ytbcbkllahnahnaa
open Go Go.RowKit

set_option maxHeartbeats 16000000 in
set_option maxRecDepth 100000 in
theorem build_any (vl : Value) (items : List Gate) (outs : Int) (ho : 0 ≤ outs ∧ outs ≤ 255) (w : World) (F : Nat → Prop) (hF : ∀ b, F b → b < w.heap.size) (hl : SlT F w vl items) :
    Calls Try.prog 5 #[vl, .int .u8 outs] w fun e w' => ∃ n vg vo, e = .returned (.agg #[vg, vo]) ∧ netOk 4 n = true ∧ (n.gates.length ≤ 10 ∧ ∀ g ∈ n.gates, g.ins.length ≤ 5) ∧ n.outs.length ≤ 2 ∧ NetAt (New w.heap.size w'.heap.size) w' vg vo n ∧ Below w.heap.size w w' := by
  obtain ⟨A, c, rfl, hlc, hll, hat⟩ := hl.open
  have H := Lib.hid hat
  clear hat hl
  go_enter Try.func5, Try.ntmps5
  go_wp2_with fail
  go_loopg [6] 10 (fun gg s wr => ∃ i : Nat, i ≤ 10 ∧ i ≤ items.length ∧ 10 - i ≤ gg ∧ s = .int .i64 i ∧ NetInv w i wr)
  case atStart =>
    exact ⟨0, by omega, by omega, by omega, rfl, Ba (Ba (B0 w) _) _, (Blk.new w 32 _).alloc _, _, [], by have := Blk.new (w.alloc (.cells #[.slice none 0 0, .slice none 0 0] 32)) 32 #[.slice none 0 0, .slice none 0 0]; simpa using this, rfl, ⟨rfl, by simp⟩, OwnL.nil⟩
  case round =>
    obtain ⟨i, hi, hil, hg, rfl, BW, B4, gv, gates, B5, hgl, hgo, cs, hcs1, hcs2, hcs3⟩ := hrel
    by_cases hlt : i < items.length ∧ i < 10
    · obtain ⟨hlt, hi10⟩ := hlt
      obtain ⟨ad, u, rfl, hb, g0, g1, g2, g3, hu, hc⟩ := H.out i hlt
      have hc' := hc.below BW (by rw [block_of_add]; exact hF _ hb)
      have h0 := hc'.f0 rfl
      have h1 := hc'.f1 rfl
      have h2 := hc'.f2 rfl
      have hbk : (ad.add (i * 3)).block < w.heap.size := by rw [block_of_add]; exact hF _ hb
      have HC := Lib.hid hc
      clear hc hc' hb
      generalize items[i] = g at *
      obtain ⟨kd, ar, ins⟩ := g
      dsimp only at h0 h1 h2 hu g0 g1 g2 g3
      have HU := Lib.hid hu
      have c50 : wr.cell? ⟨w.heap.size + 1, 0, none⟩ = some gv := B5.cell 0
      have f50 : wr.frozen? ⟨w.heap.size + 1, 0, none⟩ = false := B5.frozen 0
      have hsz : w.heap.size + 1 < wr.heap.size := B5.lt
      have hsz2 : (ad.add (i * 3)).block < wr.heap.size := by omega
      obtain ⟨wo, rfl⟩ : ∃ wo : World, wo = wr := ⟨_, rfl⟩
      have hfin : ∀ (wi w1 : World) (v' insv : Value) (kd ar : Int) (l : List Int), Below wo.heap.size wo wi → w1.ownsRow (w.heap.size + 2) 38 3 v' (gates.length + 1) (cs.flatten ++ [.int .i64 kd, .int .i64 ar, insv]) → wi.grownBy w1 gv.ownBlock → (v'.ownBlock = gv.ownBlock ∨ v'.ownBlock = some wi.heap.size) →
          SlI (fun b => wo.heap.size ≤ b ∧ b < wi.heap.size) wi insv l → gateOk 4 i ⟨kd, ar, l⟩ = true → l.length ≤ 5 → NetInv w (i + 1) (w1.setCell ⟨w.heap.size + 1, 0, none⟩ v') := fun wi w1 v' insv kd ar l q1 q2 q3 q4 q5 q6 q7 => netInv_next BW B4 B5 hgl hgo hcs1 hcs2 hcs3 q1 q2 q3 q4 q5 q6 q7
      have HFIN := Lib.hid hfin
      have hx : ∀ wi w1 : World, Below wo.heap.size wo wi → wi.grownBy w1 gv.ownBlock → w1.cell? ⟨w.heap.size + 1, 0, none⟩ = some gv ∧ w1.frozen? ⟨w.heap.size + 1, 0, none⟩ = false := fun wi w1 q1 q2 =>
        ⟨(cell_grown q2 hcs3 (by have := q1.size; omega) (by omega)).trans ((Bc q1 hsz).trans c50), (frozen_grown q2 hcs3 (by have := q1.size; omega) (by omega)).trans ((q1.frozen (p := ⟨w.heap.size + 1, 0, none⟩) hsz).trans f50)⟩
      have HX := Lib.hid hx
      clear hx
      have HOW := Lib.hid hcs3
      have hgb : gates.length + 1 ≤ 1000000000 := by omega
      have hw2 : w.heap.size + 2 ≤ wo.heap.size := by omega
      have HGL := Lib.hid hgl
      clear hfin hcs1 hcs2 hcs3 B4 B5 hgo hu hgl
      obtain ⟨A', c', rfl, _, _, _⟩ := HU.out.open
      have HB := Lib.hid (SlB.at HU.out)
      by_cases i0 : i = 0
      · subst i0
        have h0z : wo.cell? ad = some (.int .u8 kd) := by simpa [Addr.add] using h0
        have h1z : wo.cell? ⟨ad.block, ad.off + 1, none⟩ = some (.int .u8 ar) := by simpa [Addr.add] using h1
        have hbz : ad.block < wo.heap.size := by simpa [Addr.add] using hsz2
        have h2z : wo.cell? ⟨ad.block, ad.off + 2, none⟩ = some (.slice A' ins.length c') := by simpa [Addr.add] using h2
        clear h0 h1 h2 hsz2
        have hk : kd % 6 = 0 ∨ kd % 6 = 1 ∨ 2 ≤ kd % 6 := by omega
        rcases hk with k0 | k0 | k0
        · have ha0 : 0 ≤ ar % 4 := by omega
          have ha1 : ar % 4 ≤ 3 := by omega
          go_wp2_with fail
          all_goals
            refine wp_loop_rounds 1 ?_
            rw [rounds_succ]
            go_wp2_with (at_builtin; refine wpList_appS elem29 (by omega) rfl _ _ rfl (w.heap.size + 2) gv gates.length _ rfl ((HOW.out.alloc _).alloc _) ⟨wo.heap.size + 1, 0, none⟩ 1 [.int .i64 1, .int .i64 (ar % 4), .slice none 0 0] rfl rfl (by have := Flds.new (wo.alloc (.cells #[.int .i64 1, .int .i64 (ar % 4), .slice none 0 0] 38)) [.int .i64 1, .int .i64 (ar % 4), .slice none 0 0] 38; simpa using this) (by simp [Value.oneCell']) hgb (by omega) (by simp; omega) ?_; intro g1 cap1 w1 hown1 hgrow1 hat1; have hx5 := (HX.out _ w1 (Ba (Ba (B0 _) _) _) hgrow1).1; have hx6 := (HX.out _ w1 (Ba (Ba (B0 _) _) _) hgrow1).2)
          all_goals
            go_roundg (10 - (0 + 1))
            case measure => omega
            case rel => exact ⟨0 + 1, by omega, by omega, by omega, by go_num, HFIN.out _ w1 _ _ _ _ [] (Ba (Ba (B0 _) _) _) hown1 hgrow1 (by simpa [Value.ownBlock] using hat1) Sl.nil_ (by simp [gateOk, withinB]; omega) (by simp)⟩
        · have ha0 : 0 ≤ ar % 4 := by omega
          have ha1 : ar % 4 ≤ 3 := by omega
          go_wp2_with fail
          all_goals
            refine wp_loop_rounds 1 ?_
            rw [rounds_succ]
            go_wp2_with (at_builtin; refine wpList_appS elem29 (by omega) rfl _ _ rfl (w.heap.size + 2) gv gates.length _ rfl ((HOW.out.alloc _).alloc _) ⟨wo.heap.size + 1, 0, none⟩ 1 [.int .i64 1, .int .i64 (ar % 4), .slice none 0 0] rfl rfl (by have := Flds.new (wo.alloc (.cells #[.int .i64 1, .int .i64 (ar % 4), .slice none 0 0] 38)) [.int .i64 1, .int .i64 (ar % 4), .slice none 0 0] 38; simpa using this) (by simp [Value.oneCell']) hgb (by omega) (by simp; omega) ?_; intro g1 cap1 w1 hown1 hgrow1 hat1; have hx5 := (HX.out _ w1 (Ba (Ba (B0 _) _) _) hgrow1).1; have hx6 := (HX.out _ w1 (Ba (Ba (B0 _) _) _) hgrow1).2)
          all_goals
            go_roundg (10 - (0 + 1))
            case measure => omega
            case rel => exact ⟨0 + 1, by omega, by omega, by omega, by go_num, HFIN.out _ w1 _ _ _ _ [] (Ba (Ba (B0 _) _) _) hown1 hgrow1 (by simpa [Value.ownBlock] using hat1) Sl.nil_ (by simp [gateOk, withinB]; omega) (by simp)⟩
        · have k1' : (kd % 6 + 1 == 1) = false := by simp; omega
          have k2' : (kd % 6 + 1 == 2) = false := by simp; omega
          have k5 : kd % 6 ≤ 5 := by omega
          have k1n : ((1 : Int) + kd % 6 == 1) = false := by simp; omega
          have k2n : ((1 : Int) + kd % 6 == 2) = false := by simp; omega
          go_wp2_with fail
          all_goals
            refine wp_loop_rounds 1 ?_
            rw [rounds_succ]
            go_wp2_with (at_builtin; refine wpList_appS elem29 (by omega) rfl _ _ rfl (w.heap.size + 2) gv gates.length _ rfl ((HOW.out.alloc _).alloc _) ⟨wo.heap.size + 1, 0, none⟩ 1 [.int .i64 (1 + kd % 6), .int .i64 0, .slice none 0 0] rfl rfl (by have := Flds.new (wo.alloc (.cells #[.int .i64 (1 + kd % 6), .int .i64 0, .slice none 0 0] 38)) [.int .i64 (1 + kd % 6), .int .i64 0, .slice none 0 0] 38; simpa using this) (by simp [Value.oneCell']) hgb (by omega) (by simp; omega) ?_; intro g1 cap1 w1 hown1 hgrow1 hat1; have hx5 := (HX.out _ w1 (Ba (Ba (B0 _) _) _) hgrow1).1; have hx6 := (HX.out _ w1 (Ba (Ba (B0 _) _) _) hgrow1).2)
          all_goals
            go_roundg (10 - (0 + 1))
            case measure => omega
            case rel => exact ⟨0 + 1, by omega, by omega, by omega, by go_num, HFIN.out _ w1 _ _ _ _ [] (Ba (Ba (B0 _) _) _) hown1 hgrow1 (by simpa [Value.ownBlock] using hat1) Sl.nil_ (by simp [gateOk, withinB]; omega) (by simp)⟩
      · have i0' : ((i : Int) == 0) = false := by simpa using i0
        have i0'' : (0 : Int) < i := by omega
        have hk : kd % 6 = 0 ∨ kd % 6 = 1 ∨ kd % 6 = 2 ∨ kd % 6 = 3 ∨ kd % 6 = 4 ∨ kd % 6 = 5 := by omega
        rcases hk with k0 | k0 | k0 | k0 | k0 | k0
        · have ha0 : 0 ≤ ar % 4 := by omega
          have ha1 : ar % 4 ≤ 3 := by omega
          go_wp2_with fail
          all_goals
            refine wp_loop_rounds 1 ?_
            rw [rounds_succ]
            go_wp2_with (at_builtin; refine wpList_appS elem29 (by omega) rfl _ _ rfl (w.heap.size + 2) gv gates.length _ rfl ((HOW.out.alloc _).alloc _) ⟨wo.heap.size + 1, 0, none⟩ 1 [.int .i64 1, .int .i64 (ar % 4), .slice none 0 0] rfl rfl (by have := Flds.new (wo.alloc (.cells #[.int .i64 1, .int .i64 (ar % 4), .slice none 0 0] 38)) [.int .i64 1, .int .i64 (ar % 4), .slice none 0 0] 38; simpa using this) (by simp [Value.oneCell']) hgb (by omega) (by simp; omega) ?_; intro g1 cap1 w1 hown1 hgrow1 hat1; have hx5 := (HX.out _ w1 (Ba (Ba (B0 _) _) _) hgrow1).1; have hx6 := (HX.out _ w1 (Ba (Ba (B0 _) _) _) hgrow1).2)
          all_goals
            go_roundg (10 - (i + 1))
            case measure => omega
            case rel => exact ⟨i + 1, by omega, by omega, by omega, by go_num, HFIN.out _ w1 _ _ _ _ [] (Ba (Ba (B0 _) _) _) hown1 hgrow1 (by simpa [Value.ownBlock] using hat1) Sl.nil_ (by simp [gateOk, withinB]; omega) (by simp)⟩
        · go_wp2_with fail
          go_loopg [8] 4 (fun gg s8 wi => ∃ j : Nat, j ≤ 1 ∧ 4 - j ≤ gg ∧ s8 = .int .i64 j ∧ InsInv wo 2 i j wi)
          case atStart => exact ⟨0, by omega, by omega, rfl, Ba (B0 _) _, _, [], Blk.new _ _ _, rfl, by simp, World.ownsRow_nil _ _ _ _⟩
          case round =>
            obtain ⟨j, hj, hgj, rfl, BWi, insv, l, BKi, hlj, hlb, OWi⟩ := hrel
            have hsx : wo.heap.size < wr.heap.size := BKi.lt
            have BWx := Bt BW BWi
            have hcx := HC.out.below BWx hbk
            have h2x := hcx.f2 rfl
            have d0 : wr.cell? ⟨wo.heap.size, 0, none⟩ = some (.int .i64 2) := BKi.cell 0
            have d1 : wr.cell? ⟨wo.heap.size, 1, none⟩ = some (.int .i64 0) := BKi.cell 1
            have d2 : wr.cell? ⟨wo.heap.size, 2, none⟩ = some insv := BKi.cell 2
            have df : wr.frozen? ⟨wo.heap.size, 2, none⟩ = false := BKi.frozen 2
            clear hcx
            by_cases hjt : j < ins.length ∧ j < 4 ∧ j = 0
            · obtain ⟨adi, hA, hbi, hci, e0, e1⟩ := HB.out j (by omega)
              have hcj := (BWx.cell (by rw [block_of_add]; exact hF _ hbi)).trans hci
              have hbx : (adi.add j).block < wr.heap.size := by rw [block_of_add]; have := hF _ hbi; have := BWx.size; omega
              have hjl : (j : Int) < ins.length := by omega
              have hj4 : (j : Int) < 4 := by omega
              have hj0 : ((j : Int) == 0) = true ∨ True := .inr trivial
              generalize ins[j] = x at *
              subst hA
              have hm0 : 0 ≤ x % (i : Int) := Int.emod_nonneg _ (by omega)
              have hm1 : x % (i : Int) < i := Int.emod_lt_of_pos _ (by omega)
              have BKH := Lib.hid BKi
              have OWH := Lib.hid OWi
              have LBH := Lib.hid hlb
              have HLJ := Lib.hid hlj
              have hwx : IntKind.i64.wrap x = x := IntWalk.i64_in _ (by omega)
              have htm : x.tmod (i : Int) = x % (i : Int) := Int.tmod_eq_emod_of_nonneg e0
              clear hci hlb BKi OWi hlj hj0
              obtain rfl : j = 0 := hjt.2.2
              have hcz : wr.cell? adi = some (.int .u8 x) := by simpa [Addr.add] using hcj
              have hbz : adi.block < wr.heap.size := by simpa [Addr.add] using hbx
              clear hcj hbx
              go_wp2_with fail
              have hx2 : ∀ wi w1 : World, Below wr.heap.size wr wi → wi.grownBy w1 insv.ownBlock → w1.cell? ⟨wo.heap.size, 2, none⟩ = some insv ∧ w1.frozen? ⟨wo.heap.size, 2, none⟩ = false := fun wi w1 q1 q2 =>
                ⟨(cell_grown q2 OWH.out (by have := q1.size; omega) (by omega)).trans ((Bc q1 hsx).trans d2), (frozen_grown q2 OWH.out (by have := q1.size; omega) (by omega)).trans ((q1.frozen (p := ⟨wo.heap.size, 2, none⟩) hsx).trans df)⟩
              have HX2 := Lib.hid hx2
              clear hx2
              go_region_law (refine step_appS elem30 (by omega) rfl _ _ rfl (wo.heap.size + 1) insv 0 _ rfl (by exact ((OWH.out.alloc _).drew)) ⟨wr.heap.size, 0, none⟩ 1 [.int .i64 (x % (i : Int))] rfl rfl (by exact Flds.new wr [.int .i64 (x % (i : Int))] 3) (by simp [Value.oneCell']) (by omega) (by omega) (by simp; omega) ?_; intro g2 cap2 w2 hown2 hgrow2 hat2; have hx7 := (HX2.out _ w2 (Ba (B0 _) _).drew hgrow2).1; have hx8 := (HX2.out _ w2 (Ba (B0 _) _).drew hgrow2).2)
              all_goals
                clear hwx htm
                go_wp2
                go_roundg (4 - (0 + 1))
                case measure => omega
                case rel => exact ⟨0 + 1, by omega, by omega, by go_num, insInv_next BWi BKH.out HLJ.out LBH.out OWH.out hm0 hm1 hown2 hgrow2 hat2⟩
            · have c5x : wr.cell? ⟨w.heap.size + 1, 0, none⟩ = some gv := (Bc BWi hsz).trans c50
              have HOWX := Lib.hid (own_below BWi HOW.out)
              have HOC := Lib.hid (own_one OWi)
              have HINS := Lib.hid (SlI.of_own (w := wr) (F := fun b => wo.heap.size ≤ b ∧ b < wr.heap.size) (hlj ▸ OWi) (by omega) (fun b q1 q2 _ => ⟨by omega, q2⟩))
              have hsw : w.heap.size + 1 < wr.heap.size := by omega
              by_cases hjz : j = 0
              · subst hjz
                have hil : ¬ (0 : Int) < ins.length := by omega
                obtain ⟨av, capv, hv0⟩ := own_zero OWi
                subst hv0
                have hok : gateOk 4 i ⟨2, 0, [0]⟩ = true := by
                  simp [gateOk, withinB]; omega
                have HOK := Lib.hid hok
                have hXB : Below wo.heap.size wo ((wr.setCell ⟨wo.heap.size, 2, none⟩ (.slice (some ⟨wr.heap.size, 0, none⟩) 1 1)).alloc (.cells #[.int .i64 0] 3)) := Ba (Bs BWi _ (Nat.le_refl _)) _
                have HXB := Lib.hid hXB
                have HNEW := Lib.hid (Flds.new ((wr.setCell ⟨wo.heap.size, 2, none⟩ (.slice (some ⟨wr.heap.size, 0, none⟩) 1 1)).alloc (.cells #[.int .i64 0] 3)) [.int .i64 2, .int .i64 0, .slice (some ⟨wr.heap.size, 0, none⟩) 1 1] 38)
                clear hok hlb OWi BKi hlj hjt hXB
                go_wp2_with (at_builtin; refine wpList_appS elem29 (by omega) rfl _ _ rfl (w.heap.size + 2) gv gates.length _ rfl ((own_below HXB.out HOW.out).alloc _) ⟨wr.heap.size + 1, 0, none⟩ 1 [.int .i64 2, .int .i64 0, .slice (some ⟨wr.heap.size, 0, none⟩) 1 1] rfl rfl (by have := HNEW.out; simpa [World.setCell] using this) (by simp [Value.oneCell']) hgb (by omega) (by simp [World.setCell]; omega) ?_; intro g1 cap1 w1 hown1 hgrow1 hat1; have hx5 := (HX.out _ w1 (Ba HXB.out _) hgrow1).1; have hx6 := (HX.out _ w1 (Ba HXB.out _) hgrow1).2)
                go_roundg (10 - (i + 1))
                case measure => omega
                case rel => exact ⟨i + 1, by omega, by omega, by omega, by go_num, HFIN.out _ w1 _ _ _ _ [0] (Ba HXB.out _) hown1 hgrow1 (by simpa [Value.ownBlock] using hat1) (SlI.one (by simp [go_sem]) ⟨by omega, by simp [World.setCell]; omega⟩) HOK.out (by simp)⟩
              · obtain rfl : j = 1 := by omega
                have hok : gateOk 4 i ⟨2, 0, l⟩ = true := by
                  simp only [gateOk, withinB]
                  simp [hlj]
                  exact hlb
                have HOK := Lib.hid hok
                have HL5 := Lib.hid (show l.length ≤ 5 by omega)
                obtain ⟨g2, cap2, hv2⟩ := own_lit (n := 0) OWi
                subst hv2
                clear hok hlb OWi BKi hlj hjt hjz
                by_cases hjl : 1 < ins.length
                · have hjl' : (1 : Int) < ins.length := by omega
                  go_wp2_with (at_builtin; refine wpList_appS elem29 (by omega) rfl _ _ rfl (w.heap.size + 2) gv gates.length _ rfl (HOWX.out.alloc _) ⟨wr.heap.size, 0, none⟩ 1 [.int .i64 2, .int .i64 0, .slice (some ⟨g2, 0, none⟩) (0 + 1) cap2] rfl rfl (by exact Flds.new wr [.int .i64 2, .int .i64 0, .slice (some ⟨g2, 0, none⟩) (0 + 1) cap2] 38) (by intro u hu; simp only [List.mem_cons, List.not_mem_nil, or_false] at hu; rcases hu with rfl | rfl | rfl; rfl; rfl; exact HOC.out) hgb (by omega) (by simp; omega) ?_; intro g1 cap1 w1 hown1 hgrow1 hat1; have hx5 := (HX.out _ w1 (Ba BWi _) hgrow1).1; have hx6 := (HX.out _ w1 (Ba BWi _) hgrow1).2)
                  go_roundg (10 - (i + 1))
                  case measure => omega
                  case rel => exact ⟨i + 1, by omega, by omega, by omega, by go_num, HFIN.out _ w1 _ _ _ _ l (Ba BWi _) hown1 hgrow1 (by simpa [Value.ownBlock] using hat1) (ins_alloc HINS.out) HOK.out HL5.out⟩
                · have hjl' : ¬ (1 : Int) < ins.length := by omega
                  go_wp2_with (at_builtin; refine wpList_appS elem29 (by omega) rfl _ _ rfl (w.heap.size + 2) gv gates.length _ rfl (HOWX.out.alloc _) ⟨wr.heap.size, 0, none⟩ 1 [.int .i64 2, .int .i64 0, .slice (some ⟨g2, 0, none⟩) (0 + 1) cap2] rfl rfl (by exact Flds.new wr [.int .i64 2, .int .i64 0, .slice (some ⟨g2, 0, none⟩) (0 + 1) cap2] 38) (by intro u hu; simp only [List.mem_cons, List.not_mem_nil, or_false] at hu; rcases hu with rfl | rfl | rfl; rfl; rfl; exact HOC.out) hgb (by omega) (by simp; omega) ?_; intro g1 cap1 w1 hown1 hgrow1 hat1; have hx5 := (HX.out _ w1 (Ba BWi _) hgrow1).1; have hx6 := (HX.out _ w1 (Ba BWi _) hgrow1).2)
                  go_roundg (10 - (i + 1))
                  case measure => omega
                  case rel => exact ⟨i + 1, by omega, by omega, by omega, by go_num, HFIN.out _ w1 _ _ _ _ l (Ba BWi _) hown1 hgrow1 (by simpa [Value.ownBlock] using hat1) (ins_alloc HINS.out) HOK.out HL5.out⟩
        · go_wp2_with fail
          go_loopg [8] 4 (fun gg s8 wi => ∃ j : Nat, j ≤ 4 ∧ 4 - j ≤ gg ∧ s8 = .int .i64 j ∧ InsInv wo 3 i j wi)
          case atStart => exact ⟨0, by omega, by omega, rfl, Ba (B0 _) _, _, [], Blk.new _ _ _, rfl, by simp, World.ownsRow_nil _ _ _ _⟩
          case round =>
            obtain ⟨j, hj, hgj, rfl, BWi, insv, l, BKi, hlj, hlb, OWi⟩ := hrel
            have hsx : wo.heap.size < wr.heap.size := BKi.lt
            have BWx := Bt BW BWi
            have hcx := HC.out.below BWx hbk
            have h2x := hcx.f2 rfl
            have d0 : wr.cell? ⟨wo.heap.size, 0, none⟩ = some (.int .i64 3) := BKi.cell 0
            have d1 : wr.cell? ⟨wo.heap.size, 1, none⟩ = some (.int .i64 0) := BKi.cell 1
            have d2 : wr.cell? ⟨wo.heap.size, 2, none⟩ = some insv := BKi.cell 2
            have df : wr.frozen? ⟨wo.heap.size, 2, none⟩ = false := BKi.frozen 2
            clear hcx
            by_cases hjt : j < ins.length ∧ j < 4
            · obtain ⟨adi, hA, hbi, hci, e0, e1⟩ := HB.out j (by omega)
              have hcj := (BWx.cell (by rw [block_of_add]; exact hF _ hbi)).trans hci
              have hbx : (adi.add j).block < wr.heap.size := by rw [block_of_add]; have := hF _ hbi; have := BWx.size; omega
              have hjl : (j : Int) < ins.length := by omega
              have hj4 : (j : Int) < 4 := by omega
              have hj0 : ((j : Int) == 0) = true ∨ True := .inr trivial
              generalize ins[j] = x at *
              subst hA
              have hm0 : 0 ≤ x % (i : Int) := Int.emod_nonneg _ (by omega)
              have hm1 : x % (i : Int) < i := Int.emod_lt_of_pos _ (by omega)
              have BKH := Lib.hid BKi
              have OWH := Lib.hid OWi
              have LBH := Lib.hid hlb
              have HLJ := Lib.hid hlj
              have hwx : IntKind.i64.wrap x = x := IntWalk.i64_in _ (by omega)
              have htm : x.tmod (i : Int) = x % (i : Int) := Int.tmod_eq_emod_of_nonneg e0
              clear hci hlb BKi OWi hlj hj0
              go_wp2_with fail
              have hx2 : ∀ wi w1 : World, Below wr.heap.size wr wi → wi.grownBy w1 insv.ownBlock → w1.cell? ⟨wo.heap.size, 2, none⟩ = some insv ∧ w1.frozen? ⟨wo.heap.size, 2, none⟩ = false := fun wi w1 q1 q2 =>
                ⟨(cell_grown q2 OWH.out (by have := q1.size; omega) (by omega)).trans ((Bc q1 hsx).trans d2), (frozen_grown q2 OWH.out (by have := q1.size; omega) (by omega)).trans ((q1.frozen (p := ⟨wo.heap.size, 2, none⟩) hsx).trans df)⟩
              have HX2 := Lib.hid hx2
              clear hx2
              go_region_law (refine step_appS elem30 (by omega) rfl _ _ rfl (wo.heap.size + 1) insv j _ rfl (by exact ((OWH.out.alloc _).drew)) ⟨wr.heap.size, 0, none⟩ 1 [.int .i64 (x % (i : Int))] rfl rfl (by exact Flds.new wr [.int .i64 (x % (i : Int))] 3) (by simp [Value.oneCell']) (by omega) (by omega) (by simp; omega) ?_; intro g2 cap2 w2 hown2 hgrow2 hat2; have hx7 := (HX2.out _ w2 (Ba (B0 _) _).drew hgrow2).1; have hx8 := (HX2.out _ w2 (Ba (B0 _) _).drew hgrow2).2)
              all_goals
                clear hwx htm
                go_wp2
                go_roundg (4 - (j + 1))
                case measure => omega
                case rel => exact ⟨j + 1, by omega, by omega, by go_num, insInv_next BWi BKH.out HLJ.out LBH.out OWH.out hm0 hm1 hown2 hgrow2 hat2⟩
            · have c5x : wr.cell? ⟨w.heap.size + 1, 0, none⟩ = some gv := (Bc BWi hsz).trans c50
              have HOWX := Lib.hid (own_below BWi HOW.out)
              have hoc : insv.oneCell' = true := own_one OWi
              have HOC := Lib.hid hoc
              have HINS := Lib.hid (SlI.of_own (w := wr) (F := fun b => wo.heap.size ≤ b ∧ b < wr.heap.size) (hlj ▸ OWi) (by omega) (fun b q1 q2 _ => ⟨by omega, q2⟩))
              have hsw : w.heap.size + 1 < wr.heap.size := by omega
              have hok : gateOk 4 i ⟨3, 0, l⟩ = true := by
                simp only [gateOk, withinB]
                simp
                exact hlb
              have HOK := Lib.hid hok
              have HL5 := Lib.hid (show l.length ≤ 5 by omega)
              clear hoc hok hlb OWi BKi hlj
              have hjn : ((j : Int) < ins.length) = False ∨ True := .inr trivial
              by_cases hjl : j < ins.length
              · have hjl' : (j : Int) < ins.length := by omega
                have hj4 : ¬ (j : Int) < 4 := by omega
                clear hjt
                go_wp2_with (at_builtin; refine wpList_appS elem29 (by omega) rfl _ _ rfl (w.heap.size + 2) gv gates.length _ rfl (HOWX.out.alloc _) ⟨wr.heap.size, 0, none⟩ 1 [.int .i64 3, .int .i64 0, insv] rfl rfl (by exact Flds.new wr [.int .i64 3, .int .i64 0, insv] 38) (by intro u hu; simp only [List.mem_cons, List.not_mem_nil, or_false] at hu; rcases hu with rfl | rfl | rfl; rfl; rfl; exact HOC.out) hgb (by omega) (by simp; omega) ?_; intro g1 cap1 w1 hown1 hgrow1 hat1; have hx5 := (HX.out _ w1 (Ba BWi _) hgrow1).1; have hx6 := (HX.out _ w1 (Ba BWi _) hgrow1).2)
                go_roundg (10 - (i + 1))
                case measure => omega
                case rel => exact ⟨i + 1, by omega, by omega, by omega, by go_num, HFIN.out _ w1 _ _ _ _ l (Ba BWi _) hown1 hgrow1 (by simpa [Value.ownBlock] using hat1) (ins_alloc HINS.out) HOK.out HL5.out⟩
              · have hjl' : ¬ (j : Int) < ins.length := by omega
                clear hjt
                go_wp2_with (at_builtin; refine wpList_appS elem29 (by omega) rfl _ _ rfl (w.heap.size + 2) gv gates.length _ rfl (HOWX.out.alloc _) ⟨wr.heap.size, 0, none⟩ 1 [.int .i64 3, .int .i64 0, insv] rfl rfl (by exact Flds.new wr [.int .i64 3, .int .i64 0, insv] 38) (by intro u hu; simp only [List.mem_cons, List.not_mem_nil, or_false] at hu; rcases hu with rfl | rfl | rfl; rfl; rfl; exact HOC.out) hgb (by omega) (by simp; omega) ?_; intro g1 cap1 w1 hown1 hgrow1 hat1; have hx5 := (HX.out _ w1 (Ba BWi _) hgrow1).1; have hx6 := (HX.out _ w1 (Ba BWi _) hgrow1).2)
                go_roundg (10 - (i + 1))
                case measure => omega
                case rel => exact ⟨i + 1, by omega, by omega, by omega, by go_num, HFIN.out _ w1 _ _ _ _ l (Ba BWi _) hown1 hgrow1 (by simpa [Value.ownBlock] using hat1) (ins_alloc HINS.out) HOK.out HL5.out⟩
        · go_wp2_with fail
          go_loopg [8] 4 (fun gg s8 wi => ∃ j : Nat, j ≤ 4 ∧ 4 - j ≤ gg ∧ s8 = .int .i64 j ∧ InsInv wo 4 i j wi)
          case atStart => exact ⟨0, by omega, by omega, rfl, Ba (B0 _) _, _, [], Blk.new _ _ _, rfl, by simp, World.ownsRow_nil _ _ _ _⟩
          case round =>
            obtain ⟨j, hj, hgj, rfl, BWi, insv, l, BKi, hlj, hlb, OWi⟩ := hrel
            have hsx : wo.heap.size < wr.heap.size := BKi.lt
            have BWx := Bt BW BWi
            have hcx := HC.out.below BWx hbk
            have h2x := hcx.f2 rfl
            have d0 : wr.cell? ⟨wo.heap.size, 0, none⟩ = some (.int .i64 4) := BKi.cell 0
            have d1 : wr.cell? ⟨wo.heap.size, 1, none⟩ = some (.int .i64 0) := BKi.cell 1
            have d2 : wr.cell? ⟨wo.heap.size, 2, none⟩ = some insv := BKi.cell 2
            have df : wr.frozen? ⟨wo.heap.size, 2, none⟩ = false := BKi.frozen 2
            clear hcx
            by_cases hjt : j < ins.length ∧ j < 4
            · obtain ⟨adi, hA, hbi, hci, e0, e1⟩ := HB.out j (by omega)
              have hcj := (BWx.cell (by rw [block_of_add]; exact hF _ hbi)).trans hci
              have hbx : (adi.add j).block < wr.heap.size := by rw [block_of_add]; have := hF _ hbi; have := BWx.size; omega
              have hjl : (j : Int) < ins.length := by omega
              have hj4 : (j : Int) < 4 := by omega
              have hj0 : ((j : Int) == 0) = true ∨ True := .inr trivial
              generalize ins[j] = x at *
              subst hA
              have hm0 : 0 ≤ x % (i : Int) := Int.emod_nonneg _ (by omega)
              have hm1 : x % (i : Int) < i := Int.emod_lt_of_pos _ (by omega)
              have BKH := Lib.hid BKi
              have OWH := Lib.hid OWi
              have LBH := Lib.hid hlb
              have HLJ := Lib.hid hlj
              have hwx : IntKind.i64.wrap x = x := IntWalk.i64_in _ (by omega)
              have htm : x.tmod (i : Int) = x % (i : Int) := Int.tmod_eq_emod_of_nonneg e0
              clear hci hlb BKi OWi hlj hj0
              go_wp2_with fail
              have hx2 : ∀ wi w1 : World, Below wr.heap.size wr wi → wi.grownBy w1 insv.ownBlock → w1.cell? ⟨wo.heap.size, 2, none⟩ = some insv ∧ w1.frozen? ⟨wo.heap.size, 2, none⟩ = false := fun wi w1 q1 q2 =>
                ⟨(cell_grown q2 OWH.out (by have := q1.size; omega) (by omega)).trans ((Bc q1 hsx).trans d2), (frozen_grown q2 OWH.out (by have := q1.size; omega) (by omega)).trans ((q1.frozen (p := ⟨wo.heap.size, 2, none⟩) hsx).trans df)⟩
              have HX2 := Lib.hid hx2
              clear hx2
              go_region_law (refine step_appS elem30 (by omega) rfl _ _ rfl (wo.heap.size + 1) insv j _ rfl (by exact ((OWH.out.alloc _).drew)) ⟨wr.heap.size, 0, none⟩ 1 [.int .i64 (x % (i : Int))] rfl rfl (by exact Flds.new wr [.int .i64 (x % (i : Int))] 3) (by simp [Value.oneCell']) (by omega) (by omega) (by simp; omega) ?_; intro g2 cap2 w2 hown2 hgrow2 hat2; have hx7 := (HX2.out _ w2 (Ba (B0 _) _).drew hgrow2).1; have hx8 := (HX2.out _ w2 (Ba (B0 _) _).drew hgrow2).2)
              all_goals
                clear hwx htm
                go_wp2
                go_roundg (4 - (j + 1))
                case measure => omega
                case rel => exact ⟨j + 1, by omega, by omega, by go_num, insInv_next BWi BKH.out HLJ.out LBH.out OWH.out hm0 hm1 hown2 hgrow2 hat2⟩
            · have c5x : wr.cell? ⟨w.heap.size + 1, 0, none⟩ = some gv := (Bc BWi hsz).trans c50
              have HOWX := Lib.hid (own_below BWi HOW.out)
              have hoc : insv.oneCell' = true := own_one OWi
              have HOC := Lib.hid hoc
              have HINS := Lib.hid (SlI.of_own (w := wr) (F := fun b => wo.heap.size ≤ b ∧ b < wr.heap.size) (hlj ▸ OWi) (by omega) (fun b q1 q2 _ => ⟨by omega, q2⟩))
              have hsw : w.heap.size + 1 < wr.heap.size := by omega
              have hok : gateOk 4 i ⟨4, 0, l⟩ = true := by
                simp only [gateOk, withinB]
                simp
                exact hlb
              have HOK := Lib.hid hok
              have HL5 := Lib.hid (show l.length ≤ 5 by omega)
              clear hoc hok hlb OWi BKi hlj
              have hjn : ((j : Int) < ins.length) = False ∨ True := .inr trivial
              by_cases hjl : j < ins.length
              · have hjl' : (j : Int) < ins.length := by omega
                have hj4 : ¬ (j : Int) < 4 := by omega
                clear hjt
                go_wp2_with (at_builtin; refine wpList_appS elem29 (by omega) rfl _ _ rfl (w.heap.size + 2) gv gates.length _ rfl (HOWX.out.alloc _) ⟨wr.heap.size, 0, none⟩ 1 [.int .i64 4, .int .i64 0, insv] rfl rfl (by exact Flds.new wr [.int .i64 4, .int .i64 0, insv] 38) (by intro u hu; simp only [List.mem_cons, List.not_mem_nil, or_false] at hu; rcases hu with rfl | rfl | rfl; rfl; rfl; exact HOC.out) hgb (by omega) (by simp; omega) ?_; intro g1 cap1 w1 hown1 hgrow1 hat1; have hx5 := (HX.out _ w1 (Ba BWi _) hgrow1).1; have hx6 := (HX.out _ w1 (Ba BWi _) hgrow1).2)
                go_roundg (10 - (i + 1))
                case measure => omega
                case rel => exact ⟨i + 1, by omega, by omega, by omega, by go_num, HFIN.out _ w1 _ _ _ _ l (Ba BWi _) hown1 hgrow1 (by simpa [Value.ownBlock] using hat1) (ins_alloc HINS.out) HOK.out HL5.out⟩
              · have hjl' : ¬ (j : Int) < ins.length := by omega
                clear hjt
                go_wp2_with (at_builtin; refine wpList_appS elem29 (by omega) rfl _ _ rfl (w.heap.size + 2) gv gates.length _ rfl (HOWX.out.alloc _) ⟨wr.heap.size, 0, none⟩ 1 [.int .i64 4, .int .i64 0, insv] rfl rfl (by exact Flds.new wr [.int .i64 4, .int .i64 0, insv] 38) (by intro u hu; simp only [List.mem_cons, List.not_mem_nil, or_false] at hu; rcases hu with rfl | rfl | rfl; rfl; rfl; exact HOC.out) hgb (by omega) (by simp; omega) ?_; intro g1 cap1 w1 hown1 hgrow1 hat1; have hx5 := (HX.out _ w1 (Ba BWi _) hgrow1).1; have hx6 := (HX.out _ w1 (Ba BWi _) hgrow1).2)
                go_roundg (10 - (i + 1))
                case measure => omega
                case rel => exact ⟨i + 1, by omega, by omega, by omega, by go_num, HFIN.out _ w1 _ _ _ _ l (Ba BWi _) hown1 hgrow1 (by simpa [Value.ownBlock] using hat1) (ins_alloc HINS.out) HOK.out HL5.out⟩
        · go_wp2_with fail
          all_goals
            refine wp_loop_rounds 1 ?_
            rw [rounds_succ]
            go_wp2_with (at_builtin; refine wpList_appS elem29 (by omega) rfl _ _ rfl (w.heap.size + 2) gv gates.length _ rfl ((HOW.out.alloc _).alloc _) ⟨wo.heap.size + 1, 0, none⟩ 1 [.int .i64 5, .int .i64 0, .slice none 0 0] rfl rfl (by have := Flds.new (wo.alloc (.cells #[.int .i64 5, .int .i64 0, .slice none 0 0] 38)) [.int .i64 5, .int .i64 0, .slice none 0 0] 38; simpa using this) (by simp [Value.oneCell']) hgb (by omega) (by simp; omega) ?_; intro g1 cap1 w1 hown1 hgrow1 hat1; have hx5 := (HX.out _ w1 (Ba (Ba (B0 _) _) _) hgrow1).1; have hx6 := (HX.out _ w1 (Ba (Ba (B0 _) _) _) hgrow1).2)
          all_goals
            go_roundg (10 - (i + 1))
            case measure => omega
            case rel => exact ⟨i + 1, by omega, by omega, by omega, by go_num, HFIN.out _ w1 _ _ _ _ [] (Ba (Ba (B0 _) _) _) hown1 hgrow1 (by simpa [Value.ownBlock] using hat1) Sl.nil_ (by simp [gateOk, withinB]) (by simp)⟩
        · go_wp2_with fail
          all_goals
            refine wp_loop_rounds 1 ?_
            rw [rounds_succ]
            go_wp2_with (at_builtin; refine wpList_appS elem29 (by omega) rfl _ _ rfl (w.heap.size + 2) gv gates.length _ rfl ((HOW.out.alloc _).alloc _) ⟨wo.heap.size + 1, 0, none⟩ 1 [.int .i64 6, .int .i64 0, .slice none 0 0] rfl rfl (by have := Flds.new (wo.alloc (.cells #[.int .i64 6, .int .i64 0, .slice none 0 0] 38)) [.int .i64 6, .int .i64 0, .slice none 0 0] 38; simpa using this) (by simp [Value.oneCell']) hgb (by omega) (by simp; omega) ?_; intro g1 cap1 w1 hown1 hgrow1 hat1; have hx5 := (HX.out _ w1 (Ba (Ba (B0 _) _) _) hgrow1).1; have hx6 := (HX.out _ w1 (Ba (Ba (B0 _) _) _) hgrow1).2)
          all_goals
            go_roundg (10 - (i + 1))
            case measure => omega
            case rel => exact ⟨i + 1, by omega, by omega, by omega, by go_num, HFIN.out _ w1 _ _ _ _ [] (Ba (Ba (B0 _) _) _) hown1 hgrow1 (by simpa [Value.ownBlock] using hat1) Sl.nil_ (by simp [gateOk, withinB]) (by simp)⟩
    · have hgi : gates.length ≤ 10 := by omega
      have hsg : SlG (fun b => w.heap.size + 2 ≤ b ∧ b < wr.heap.size) wr gv gates := gates_own ⟨cs, hcs1, hcs2, hcs3⟩ (by omega)
      obtain ⟨ag, cg, hgv⟩ := own_slice hcs3
      subst hgv
      have c50 : wr.cell? ⟨w.heap.size + 1, 0, none⟩ = some (.slice ag gates.length cg) := B5.cell 0
      have hsz : w.heap.size + 1 < wr.heap.size := B5.lt
      have HSG := Lib.hid hsg
      obtain ⟨wo, rfl⟩ : ∃ wo : World, wo = wr := ⟨_, rfl⟩
      have HT := Lib.hid hlt
      clear H hcs1 hcs2 hcs3 hlt hsg c50
      subst hgl
      by_cases hil2 : gates.length < items.length
      · have hi10 : ¬ (gates.length : Int) < 10 := by have := HT.out; omega
        go_wp2_with fail
        go_loopg [9] 3 (fun gg s wi => ∃ k : Nat, k ≤ 2 ∧ k ≤ gates.length ∧ 3 - k ≤ gg ∧ s = .int .i64 k ∧ OutInv w wo (.slice ag gates.length cg) gates k wi)
        case atStart => exact ⟨0, by omega, by omega, by omega, rfl, BW, B4, ⟨HSG.out, Nat.le_refl _⟩, _, [], B5, rfl, by simp, World.ownsRow_nil _ _ _ _⟩
        case round =>
          obtain ⟨k, hk2, hkl, hgk, rfl, BWi, B4i, SGi, ov, outl, B5i, hol, hob, OWo⟩ := hrel
          have d0 : wr.cell? ⟨w.heap.size + 1, 0, none⟩ = some (.slice ag gates.length cg) := B5i.cell 0
          have d1 : wr.cell? ⟨w.heap.size + 1, 1, none⟩ = some ov := B5i.cell 1
          have df : wr.frozen? ⟨w.heap.size + 1, 1, none⟩ = false := B5i.frozen 1
          have hszi : w.heap.size + 1 < wr.heap.size := B5i.lt
          have e0 : wr.cell? ⟨w.heap.size, 0, none⟩ = some (.slice none 0 0) := B4i.cell 0
          have e1 : wr.cell? ⟨w.heap.size, 1, none⟩ = some (.slice none 0 0) := B4i.cell 1
          have ef0 : wr.frozen? ⟨w.heap.size, 0, none⟩ = false := B4i.frozen 0
          have ef1 : wr.frozen? ⟨w.heap.size, 1, none⟩ = false := B4i.frozen 1
          have o0 := ho.1
          have o1 := ho.2
          by_cases hkt : (k : Int) < outs % 3
          · by_cases hkg : k < gates.length
            · have hkg' : (k : Int) < gates.length := by omega
              have SGH := Lib.hid SGi
              have OWH := Lib.hid OWo
              have OBH := Lib.hid hob
              have OLH := Lib.hid hol
              have B5H := Lib.hid B5i
              have B4H := Lib.hid B4i
              have HX := Lib.hid (out_keep OWo hszi hsz d1 df)
              have hwl : wo.heap.size ≤ wr.heap.size := SGH.out.2
              clear SGi OWo hob hol B5i B4i
              go_wp2_with (at_builtin; refine wpList_appS elem30 (by omega) rfl _ _ rfl wo.heap.size ov k _ rfl (OWH.out.alloc _) ⟨wr.heap.size, 0, none⟩ 1 [.int .i64 ((gates.length : Int) - 1 - k)] rfl rfl (by exact Flds.new wr [.int .i64 ((gates.length : Int) - 1 - k)] 3) (by simp [Value.oneCell']) (by omega) (by omega) (by simp; omega) ?_; intro g2 cap2 w2 hown2 hgrow2 hat2; have hx7 := (HX.out _ w2 (Ba (B0 _) _) hgrow2).1; have hx8 := (HX.out _ w2 (Ba (B0 _) _) hgrow2).2)
              go_roundg (3 - (k + 1))
              case measure => omega
              case rel => exact ⟨k + 1, by omega, by omega, by omega, by go_num, outInv_next BWi B4H.out SGH.out B5H.out OLH.out OBH.out OWH.out (by omega) ⟨by omega, by omega⟩ hown2 hgrow2⟩
            · obtain rfl : k = gates.length := by omega
              obtain ⟨av, cv, rfl⟩ := own_slice OWo
              clear hkg
              have SGH := Lib.hid SGi
              have OWH := Lib.hid OWo
              have OBH := Lib.hid hob
              have OLH := Lib.hid hol
              have hgoH := Lib.hid hgo
              have hgiH := Lib.hid hgi
              have hk2H := Lib.hid hk2
              clear SGi OWo hob hol B5i B4i hgo hi hil hg hgi hkl hk2
              try clear hi10
              try clear hil2
              try clear hil3
              go_wp2_with fail
              (try simp only [Exit.inBlock, Exit.then])
              refine bodyPost_ret (v := .agg #[.slice ag gates.length cg, .slice av gates.length cv]) ?_ rfl ?_
              · simp [results, Try.results5, go_sem, e0, e1]
              · exact build_end BWi hgoH.out hgiH.out SGH.out.1 OLH.out hk2H.out OBH.out OWH.out (by have := SGH.out.2; omega) rfl
          · obtain ⟨av, cv, rfl⟩ := own_slice OWo
            go_wp2_with fail
            (try simp only [Exit.inBlock, Exit.then])
            refine bodyPost_ret (v := .agg #[.slice ag gates.length cg, .slice av k cv]) ?_ rfl ?_
            · simp [results, Try.results5, go_sem, e0, e1]
            · exact build_end BWi hgo hgi SGi.1 hol hk2 hob OWo (by have := SGi.2; omega) rfl
      · have hil3 : ¬ (gates.length : Int) < items.length := by omega
        go_wp2_with fail
        go_loopg [9] 3 (fun gg s wi => ∃ k : Nat, k ≤ 2 ∧ k ≤ gates.length ∧ 3 - k ≤ gg ∧ s = .int .i64 k ∧ OutInv w wo (.slice ag gates.length cg) gates k wi)
        case atStart => exact ⟨0, by omega, by omega, by omega, rfl, BW, B4, ⟨HSG.out, Nat.le_refl _⟩, _, [], B5, rfl, by simp, World.ownsRow_nil _ _ _ _⟩
        case round =>
          obtain ⟨k, hk2, hkl, hgk, rfl, BWi, B4i, SGi, ov, outl, B5i, hol, hob, OWo⟩ := hrel
          have d0 : wr.cell? ⟨w.heap.size + 1, 0, none⟩ = some (.slice ag gates.length cg) := B5i.cell 0
          have d1 : wr.cell? ⟨w.heap.size + 1, 1, none⟩ = some ov := B5i.cell 1
          have df : wr.frozen? ⟨w.heap.size + 1, 1, none⟩ = false := B5i.frozen 1
          have hszi : w.heap.size + 1 < wr.heap.size := B5i.lt
          have e0 : wr.cell? ⟨w.heap.size, 0, none⟩ = some (.slice none 0 0) := B4i.cell 0
          have e1 : wr.cell? ⟨w.heap.size, 1, none⟩ = some (.slice none 0 0) := B4i.cell 1
          have ef0 : wr.frozen? ⟨w.heap.size, 0, none⟩ = false := B4i.frozen 0
          have ef1 : wr.frozen? ⟨w.heap.size, 1, none⟩ = false := B4i.frozen 1
          have o0 := ho.1
          have o1 := ho.2
          by_cases hkt : (k : Int) < outs % 3
          · by_cases hkg : k < gates.length
            · have hkg' : (k : Int) < gates.length := by omega
              have SGH := Lib.hid SGi
              have OWH := Lib.hid OWo
              have OBH := Lib.hid hob
              have OLH := Lib.hid hol
              have B5H := Lib.hid B5i
              have B4H := Lib.hid B4i
              have HX := Lib.hid (out_keep OWo hszi hsz d1 df)
              have hwl : wo.heap.size ≤ wr.heap.size := SGH.out.2
              clear SGi OWo hob hol B5i B4i
              go_wp2_with (at_builtin; refine wpList_appS elem30 (by omega) rfl _ _ rfl wo.heap.size ov k _ rfl (OWH.out.alloc _) ⟨wr.heap.size, 0, none⟩ 1 [.int .i64 ((gates.length : Int) - 1 - k)] rfl rfl (by exact Flds.new wr [.int .i64 ((gates.length : Int) - 1 - k)] 3) (by simp [Value.oneCell']) (by omega) (by omega) (by simp; omega) ?_; intro g2 cap2 w2 hown2 hgrow2 hat2; have hx7 := (HX.out _ w2 (Ba (B0 _) _) hgrow2).1; have hx8 := (HX.out _ w2 (Ba (B0 _) _) hgrow2).2)
              go_roundg (3 - (k + 1))
              case measure => omega
              case rel => exact ⟨k + 1, by omega, by omega, by omega, by go_num, outInv_next BWi B4H.out SGH.out B5H.out OLH.out OBH.out OWH.out (by omega) ⟨by omega, by omega⟩ hown2 hgrow2⟩
            · obtain rfl : k = gates.length := by omega
              obtain ⟨av, cv, rfl⟩ := own_slice OWo
              clear hkg
              have SGH := Lib.hid SGi
              have OWH := Lib.hid OWo
              have OBH := Lib.hid hob
              have OLH := Lib.hid hol
              have hgoH := Lib.hid hgo
              have hgiH := Lib.hid hgi
              have hk2H := Lib.hid hk2
              clear SGi OWo hob hol B5i B4i hgo hi hil hg hgi hkl hk2
              try clear hi10
              try clear hil2
              try clear hil3
              go_wp2_with fail
              (try simp only [Exit.inBlock, Exit.then])
              refine bodyPost_ret (v := .agg #[.slice ag gates.length cg, .slice av gates.length cv]) ?_ rfl ?_
              · simp [results, Try.results5, go_sem, e0, e1]
              · exact build_end BWi hgoH.out hgiH.out SGH.out.1 OLH.out hk2H.out OBH.out OWH.out (by have := SGH.out.2; omega) rfl
          · obtain ⟨av, cv, rfl⟩ := own_slice OWo
            go_wp2_with fail
            (try simp only [Exit.inBlock, Exit.then])
            refine bodyPost_ret (v := .agg #[.slice ag gates.length cg, .slice av k cv]) ?_ rfl ?_
            · simp [results, Try.results5, go_sem, e0, e1]
            · exact build_end BWi hgo hgi SGi.1 hol hk2 hob OWo (by have := SGi.2; omega) rfl

end Go.Proofs.Ytbcbkllahnahnaa
