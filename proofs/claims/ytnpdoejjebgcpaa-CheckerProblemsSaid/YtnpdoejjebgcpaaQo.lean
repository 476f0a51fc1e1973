/- Walks over the statements of checker: CheckerProblems. -/
import Derived.Test.YtnpdoejjebgcpaaQn
import Derived.Test.YtnpdoejjebgcpaaW7
namespace Go.Proofs.Ytnpdoejjebgcpaa
open Go Go.RowKit
/-- The hitting problem while it is collected. -/
structure HSt (g k : Nat) (n : Int) (ls : List (List Int × Int)) (w w1 : World) (F : Nat → Prop) (A : Option Addr) (c : Nat) (us : List Value) (wr : World) : Prop where
  blk : Blk wr g 38 #[.int .i64 n, .slice A k c]
  own : Own0 wr w1.heap.size 26 1 A k c us
  vals : Vals F w us ((ls.take k).map (·.1))
  bel : w1.grownBy wr (some g)
set_option maxRecDepth 200000 in
set_option maxHeartbeats 8000000 in
theorem law_problems (n cost : Int) (vs vl : Value) (ls : List (List Int × Int)) (l : List Int) (w : World) (F G : Nat → Prop) (hF : ∀ b, F b → b < w.heap.size) (hG : ∀ b, G b → b < w.heap.size) (hr : SlS F w vs ls) (hl : SlI G w vl l) :
    Calls Try.prog 4 #[.agg #[.int .i64 n, vs], vl, .int .i64 cost] w fun e w' => e = .returned (.bool true) ∧ Below w.heap.size w w' := by
  have HR := Lib.hid hr
  have HL := Lib.hid hl
  obtain ⟨As, cs, rfl, _, _, hat⟩ := hr.open
  obtain ⟨Al, cl, rfl, _⟩ := hl.open
  clear hr hl
  go_enter Try.func4, Try.ntmps4
  by_cases hbig : (ls.length > 8 ∧ ls.length ≠ 41) ∨ l.length > 8
  · have hq : (decide (8 < (ls.length : Int)) = true ∧ ((ls.length : Int) != 41) = true) ∨ ((decide (8 < (ls.length : Int)) = false ∨ decide (8 < (ls.length : Int)) = true ∧ ((ls.length : Int) != 41) = false) ∧ decide (8 < (l.length : Int)) = true) := by
      by_cases h : ls.length > 8 ∧ ls.length ≠ 41
      · exact .inl ⟨decide_eq_true (by omega), by simp; omega⟩
      · refine .inr ⟨?_, decide_eq_true (by omega)⟩
        by_cases h8 : ls.length > 8
        · exact .inr ⟨decide_eq_true (by omega), by simp; omega⟩
        · exact .inl (decide_eq_false (by omega))
    clear hbig hat
    rcases hq with ⟨d1, d2⟩ | ⟨d1 | ⟨d1, d3⟩, d2⟩
    all_goals
      go_wp2_with (first
        | (go_at_call 5; refine (known54_any _).mono ?_; rintro e w2 ⟨rfl, hb2⟩; have HB2 := Lib.hid (Bt (Ba (B0 w) _) hb2); have c1 : w2.cell? ⟨w.heap.size, 1, none⟩ = some (.slice As ls.length cs) := (Bc hb2 (by simp)).trans (by simp [go_sem]); clear hb2)
        | (go_at_call 5; refine (known54_any _).mono ?_; rintro e w3 ⟨rfl, hb3⟩; have HB3 := Lib.hid (Bt HB2.out hb3); clear hb3))
      go_ret
      exact ⟨rfl, HB3.out⟩
  · have hq : (decide (8 < (ls.length : Int)) = false ∨ decide (8 < (ls.length : Int)) = true ∧ ((ls.length : Int) != 41) = false) ∧ decide (8 < (l.length : Int)) = false := by
      refine ⟨?_, decide_eq_false (by omega)⟩
      by_cases h8 : ls.length > 8
      · exact .inr ⟨decide_eq_true (by omega), by simp; omega⟩
      · exact .inl (decide_eq_false (by omega))
    have hll : ls.length ≤ 41 := by omega
    have hl8 : l.length ≤ 8 := by omega
    have HHAT := Lib.hid hat
    clear hat hbig
    go_upto_region 1 with fail
    obtain ⟨w0, hw0⟩ : ∃ w0 : World, w.alloc (.cells #[.int .i64 n, .slice As ls.length cs] 36) = w0 := ⟨_, rfl⟩
    have p0 : w0.cell? ⟨w.heap.size, 0, none⟩ = some (.int .i64 n) := by rw [← hw0]; simp [go_sem]
    have p1 : w0.cell? ⟨w.heap.size, 1, none⟩ = some (.slice As ls.length cs) := by rw [← hw0]; simp [go_sem]
    have HB0 : Hid (Below w.heap.size w w0) := Lib.hid (by rw [← hw0]; exact Ba (B0 w) _)
    have l0 : w.heap.size < w0.heap.size := by rw [← hw0]; simp
    rw [hw0]
    clear hw0
    go_cut [30] from 12 to 30 (fun s30 wx => s30 = .bool false ∧ Aside (Below w0.heap.size w0 wx))
    case first =>
      obtain ⟨hd, hd2⟩ := hq
      rcases hd with d1 | ⟨d1, d3⟩
      all_goals
        go_wp2_with (go_at_call 5; refine (known54_any _).mono ?_; rintro e w2 ⟨rfl, hb2⟩; have HB2 := Lib.hid hb2; have c1 := (Bc hb2 l0).trans p1; clear hb2)
        go_meet
        exact ⟨rfl, HB2.out⟩
    case rest =>
      obtain ⟨rfl, hA⟩ := hcut
      have hbc := hA.out
      have c0 := (Bc hbc l0).trans p0
      have c1 := (Bc hbc l0).trans p1
      have lc : w.heap.size < wc.heap.size := Nat.lt_of_lt_of_le l0 hbc.size
      have HBC := Lib.hid (Bt HB0.out hbc)
      clear hbc p0 p1 hq hA HB0
      go_wp2_with fail
      obtain ⟨w1, hw1⟩ : ∃ w1 : World, wc.alloc (.cells #[.int .i64 n, .slice none 0 0] 38) = w1 := ⟨_, rfl⟩
      have hblk : Blk w1 wc.heap.size 38 #[.int .i64 n, .slice none 0 0] := by rw [← hw1]; exact Blk.new _ _ _
      have hb1 : Below wc.heap.size wc w1 := by rw [← hw1]; exact Ba (B0 wc) _
      rw [hw1]
      have p0 := (Bc hb1 lc).trans c0
      have p1 := (Bc hb1 lc).trans c1
      have HB1 := Lib.hid (Bt HBC.out hb1)
      obtain ⟨g, hg⟩ : ∃ g, wc.heap.size = g := ⟨_, rfl⟩
      rw [hg] at hblk lc ⊢
      have hgl1 : g < w1.heap.size := hblk.lt
      have hst : HSt g 0 n ls w w1 F none 0 [] w1 := ⟨hblk, .inl ⟨rfl, rfl, rfl⟩, trivial, only_of_below (B0 w1) _⟩
      have HST := Lib.hid hst
      clear hst hblk hb1 hw1 c0 c1 HBC
      go_loopg [38] ls.length (fun gg s38 wr => ∃ k : Nat, k ≤ ls.length ∧ ls.length - k ≤ gg ∧ s38 = .int .i64 k ∧ Aside (∃ A c us, HSt g k n ls w w1 F A c us wr))
      case atStart => exact ⟨0, by omega, by omega, rfl, _, _, _, HST.out⟩
      case round =>
        obtain ⟨k, hk, hgg, rfl, HD⟩ := hrel
        by_cases hlt : k < ls.length
        · have hki : decide ((k : Int) < ls.length) = true := decide_eq_true (by omega)
          have hkI : (k : Int) < ls.length := by omega
          obtain ⟨A, c, us, hD⟩ := HD.out
          obtain ⟨ad, vw, rfl, hf, hu, hfl⟩ := HHAT.out k hlt
          have hbel : Below w.heap.size w wr := HB1.out.grown hD.bel HB1.out.size (fun k hk => by injection hk with hk; omega)
          have hfl' := hfl.keep (Agree.below hbel hF) (by rw [block_of_add]; exact hf)
          have r0 := hfl'.f0 rfl
          have r1 := hfl'.f1 rfl
          obtain ⟨Au, cu, rfl, hx1⟩ := id hu.open
          clear hx1 hfl hfl'
          have hgl : g < wr.heap.size := hD.blk.lt
          have hfr := hD.blk.frozen 1
          have g1 := hD.blk.cell 1
          simp at g1
          have HU := Lib.hid hu
          have HDD := Lib.hid hD
          have HBEL := Lib.hid hbel
          clear hu hD HD hbel
          obtain ⟨lu, hlu⟩ : ∃ lu, ls[k].1.length = lu := ⟨_, rfl⟩
          rw [hlu] at r0 HU
          by_cases h8 : 8 < lu
          · have d8 : decide (8 < (lu : Int)) = true := decide_eq_true (by omega)
            clear hlu HHAT
            go_wp2_with fail
            go_ret
            exact ⟨rfl, Ba HBEL.out _⟩
          · have d8 : decide (8 < (lu : Int)) = false := decide_eq_false (by omega)
            clear hlu h8 HHAT
            generalize ls[k].2 = ck at *
            go_wp2_with (at_builtin; refine wpList_app0 elemS rfl _ _ rfl (Own0.alloc (Own0.alloc HDD.out.own _) _) rfl (wr.heap.size + 1) (.slice Au lu cu) rfl (by simp [go_sem]) rfl (by omega) (by omega) (by have := HDD.out.bel.size; simp; omega) ?_; intro A8 c8 w8 q81 q82; have BK := Lib.hid (((HDD.out.blk.alloc (.cells #[.slice Au lu cu, .int .i64 ck] 40)).alloc (.cells #[.slice Au lu cu] 26)).past1 (Own0.alloc (Own0.alloc HDD.out.own (.cells #[.slice Au lu cu, .int .i64 ck] 40)) (.cells #[.slice Au lu cu] 26)) (by decide) q82); have bf := BK.out.frozen 1; have bc := BK.out.cell 1; have GR := Lib.hid (grown_app ((HDD.out.bel.on (Ba (B0 wr) (.cells #[.slice Au lu cu, .int .i64 ck] 40))).on (Ba (B0 _) (.cells #[.slice Au lu cu] 26))) (Own0.alloc (Own0.alloc HDD.out.own (.cells #[.slice Au lu cu, .int .i64 ck] 40)) (.cells #[.slice Au lu cu] 26)) (Nat.le_refl _) q82); have Q81 := Lib.hid q81; clear q81 q82)
            have hfin := BK.out.set_ 1 (.slice A8 (k + 1) c8)
            have hnew : HSt g (k + 1) n ls w w1 F A8 c8 (us ++ [Value.slice Au lu cu]) (w8.setCell ⟨g, 1, none⟩ (.slice A8 (k + 1) c8)) :=
              ⟨by simpa using hfin, Q81.out.far BK.out (by decide) 1 _, by
                rw [List.take_succ_eq_append_getElem hlt, List.map_append]
                exact HDD.out.vals.append (Vals.one HU.out), only_setCell GR.out (.inl rfl) _⟩
            have HNEW := Lib.hid hnew
            clear hfin hnew
            go_roundg (ls.length - (k + 1))
            case measure => omega
            case rel => exact ⟨k + 1, by omega, by omega, by go_num, _, _, _, HNEW.out⟩
        · have hki : decide ((k : Int) < ls.length) = false := decide_eq_false (by omega)
          obtain rfl : k = ls.length := by omega
          obtain ⟨A, c, us, hD⟩ := HD.out
          have hbel : Below w.heap.size w wr := HB1.out.grown hD.bel HB1.out.size (fun k hk => by injection hk with hk; omega)
          have hgl : g < wr.heap.size := hD.blk.lt
          have g0 := hD.blk.cell 0
          have g1 := hD.blk.cell 1
          simp at g0 g1
          have hgb : ∀ i, wr.cell? ⟨w.heap.size, i, none⟩ = w1.cell? ⟨w.heap.size, i, none⟩ := fun i => World.cell?_of_block (w := w1) (hD.bel.block w.heap.size (by omega) (fun e => by injection e with e; omega))
          replace p0 := (hgb 0).trans p0
          replace p1 := (hgb 1).trans p1
          have hSS : SlII (fun b => b < wr.heap.size) wr (.slice A ls.length c) (ls.map (·.1)) := by
            have h1 := hD.vals
            rw [List.take_length] at h1
            exact (h1.keep (Agree.below hbel hF) (G := fun b => b < wr.heap.size) fun b hb => Nat.lt_of_lt_of_le (hF b hb) hbel.size).sl hD.own (by simp) (by simp; omega) fun b _ h => h
          have HSS := Lib.hid hSS
          have HBEL := Lib.hid hbel
          clear hSS hD HD HST hgb hbel HHAT
          go_upto_region 11 with fail
          have hmk := fun (N : Nat) (hN : N ≤ 50) => run_make_row' (P := Try.prog) 26 3 (.int .i64 0) 8 Try.underlying26 (by kernel_rfl) rfl .i64 .i64 N (by omega) (by omega)
          have hnm : ∀ N : Nat, N ≤ 50 → ∃ (M b zb : Nat), M ≤ 50 ∧ Value.slice (some ⟨wr.heap.size + 1, 0, none⟩) 1 1 = .slice (some ⟨b, 0, none⟩) 1 1 ∧ Blk ((wr.alloc (.cells (madeCells #[.int .i64 0] N) 3)).alloc (.cells #[.int .i64 (-1), .int .i64 0, .int .i64 0, .int .i64 cost, .slice (some ⟨wr.heap.size, 0, none⟩) N N] 42)) b 42 #[.int .i64 (-1), .int .i64 0, .int .i64 0, .int .i64 cost, .slice (some ⟨zb, 0, none⟩) M M] ∧
              ((wr.alloc (.cells (madeCells #[.int .i64 0] N) 3)).alloc (.cells #[.int .i64 (-1), .int .i64 0, .int .i64 0, .int .i64 cost, .slice (some ⟨wr.heap.size, 0, none⟩) N N] 42)).rowIs zb 3 M (fun _ => .int .i64 0) ∧ Below wr.heap.size wr ((wr.alloc (.cells (madeCells #[.int .i64 0] N) 3)).alloc (.cells #[.int .i64 (-1), .int .i64 0, .int .i64 0, .int .i64 cost, .slice (some ⟨wr.heap.size, 0, none⟩) N N] 42)) := fun N hN => by
            have hrow := World.rowIs_made wr (.int .i64 0) N 3
            refine ⟨N, wr.heap.size + 1, wr.heap.size, hN, rfl, ?_, hrow.of_block (Below.heap_alloc _ _ _ hrow.lt), Ba (Ba (B0 wr) _) _⟩
            have := Blk.new (wr.alloc (.cells (madeCells #[.int .i64 0] N) 3)) 42 #[.int .i64 (-1), .int .i64 0, .int .i64 0, .int .i64 cost, .slice (some ⟨wr.heap.size, 0, none⟩) N N]
            simpa using this
          have HNM := Lib.hid hnm
          clear hnm
          go_cut [10] from 54 to 61 (fun s10 wx => ∃ (M b zb : Nat), M ≤ 50 ∧ s10 = .slice (some ⟨b, 0, none⟩) 1 1 ∧ Blk wx b 42 #[.int .i64 (-1), .int .i64 0, .int .i64 0, .int .i64 cost, .slice (some ⟨zb, 0, none⟩) M M] ∧ wx.rowIs zb 3 M (fun _ => .int .i64 0) ∧ Below wr.heap.size wr wx)
          case first =>
            have h3 : n < 0 ∨ (∃ N : Nat, n = N ∧ N ≤ 50) ∨ 50 < n := by
              by_cases h : n < 0
              · exact .inl h
              · by_cases h' : 50 < n
                · exact .inr (.inr h')
                · exact .inr (.inl ⟨n.toNat, by omega, by omega⟩)
            rcases h3 with h3 | ⟨N, rfl, h3⟩ | h3
            · have hmk0 : ∀ W, (Instr.makeSlice 26 (.int .i64 0) (.int .i64 0)).run Try.prog W = _ := hmk 0 (by omega)
              clear hmk
              go_wp2_with fail
              all_goals first
                | (exfalso; omega)
                | (go_meet; exact HNM.out 0 (by omega))
            · have hmkN := hmk N h3
              have hmk0 : ∀ W, (Instr.makeSlice 26 (.int .i64 0) (.int .i64 0)).run Try.prog W = _ := hmk 0 (by omega)
              have hmk5 : ∀ W, (Instr.makeSlice 26 (.int .i64 50) (.int .i64 50)).run Try.prog W = _ := hmk 50 (by omega)
              clear hmk
              go_wp2_with fail
              all_goals first
                | (exfalso; omega)
                | (go_meet; exact HNM.out N h3)
                | (go_meet; exact HNM.out 0 (by omega))
                | (go_meet; exact HNM.out 50 (by omega))
            · have hmk5 : ∀ W, (Instr.makeSlice 26 (.int .i64 50) (.int .i64 50)).run Try.prog W = _ := hmk 50 (by omega)
              clear hmk
              go_wp2_with fail
              all_goals first
                | (exfalso; omega)
                | (go_meet; exact HNM.out 50 (by omega))
          case rest =>
            obtain ⟨N, nb, zb, hN, rfl, hnb, hrow, hbx⟩ := hcut
            clear hmk HNM
            go_upto_region 13 with fail
            obtain ⟨w6, hw6⟩ : ∃ w6 : World, wc.alloc (.cells #[.int .i64 0, .int .i64 0, .int .i64 0, .int .i64 0, .slice Al l.length cl] 42) = w6 := ⟨_, rfl⟩
            have hlb : Blk w6 wc.heap.size 42 #[.int .i64 0, .int .i64 0, .int .i64 0, .int .i64 0, .slice Al l.length cl] := by rw [← hw6]; exact Blk.new _ _ _
            have hb6 : Below wc.heap.size wc w6 := by rw [← hw6]; exact Ba (B0 wc) _
            rw [hw6]
            clear hw6
            have hbr6 := Bt hbx hb6
            have hbw6 := Bt HBEL.out hbr6
            replace p0 := (Bc hbr6 (by omega)).trans p0
            replace p1 := (Bc hbr6 (by omega)).trans p1
            replace g0 := (Bc hbr6 hgl).trans g0
            replace g1 := (Bc hbr6 hgl).trans g1
            have hlw : w.heap.size < w6.heap.size := Nat.lt_of_lt_of_le (by omega) hbr6.size
            have hgw : g < w6.heap.size := Nat.lt_of_lt_of_le hgl hbr6.size
            have hnb6 := hnb.below hb6 hnb.lt
            have hrow6 := hrow.of_block (hb6.block _ hrow.lt)
            obtain ⟨lb, hlbe⟩ : ∃ lb, wc.heap.size = lb := ⟨_, rfl⟩
            rw [hlbe] at hlb ⊢
            have hPf : SlT (fun b => b < w6.heap.size) w6 (.slice (some ⟨nb, 0, none⟩) 1 1) [⟨-1, 0, 0, cost, List.replicate N 0⟩] := SlT.one hnb6 hnb6.lt (SlI.zeros hrow6 (by omega) hrow6.lt)
            have hLf : SlT (fun b => b < w6.heap.size) w6 (.slice (some ⟨lb, 0, none⟩) 1 1) [⟨0, 0, 0, 0, l⟩] := SlT.one hlb hlb.lt ((SlI.keep HL.out (Agree.below hbw6 hG)).mono fun b hb => Nat.lt_of_lt_of_le (hG b hb) hbw6.size)
            have hCo := fun W (hW : Below w6.heap.size w6 W) => covers_law n cost 0 0 cost (.slice As ls.length cs) (.slice Al l.length cl) (.slice (some ⟨nb, 0, none⟩) 1 1) ls (by omega) l (by omega) (List.replicate N 0) (by simp; omega) W F G (fun b => b < w6.heap.size) (fun b hb => Nat.lt_of_lt_of_le (hF b hb) (Bt hbw6 hW).size) (fun b hb => Nat.lt_of_lt_of_le (hG b hb) (Bt hbw6 hW).size) (fun b hb => Nat.lt_of_lt_of_le hb hW.size)
              (HR.out.keep (Agree.below (Bt hbw6 hW) hF)) (SlI.keep HL.out (Agree.below (Bt hbw6 hW) hG)) (hPf.keep (Agree.below hW fun _ h => h))
            have hHi := fun size W (hW : Below w6.heap.size w6 W) => hitsP_any n (.slice A ls.length c) (.slice (some ⟨lb, 0, none⟩) 1 1) (ls.map (·.1)) size [⟨0, 0, 0, 0, l⟩] (by simp) (by simp; omega) W (fun b => b < wr.heap.size) (fun b => b < w6.heap.size) (fun b hb => Nat.lt_of_lt_of_le hb (Bt hbr6 hW).size) (fun b hb => Nat.lt_of_lt_of_le hb hW.size)
              (HSS.out.keep (Agree.below (Bt hbr6 hW) fun _ h => h)) (hLf.keep (Agree.below hW fun _ h => h))
            have k : ∀ W, Below w6.heap.size w6 W → (W.cell? ⟨w.heap.size, 0, none⟩ = some (.int .i64 n) ∧ W.cell? ⟨w.heap.size, 1, none⟩ = some (.slice As ls.length cs)) ∧ W.cell? ⟨g, 0, none⟩ = some (.int .i64 n) ∧ W.cell? ⟨g, 1, none⟩ = some (.slice A ls.length c) := fun W hW =>
              ⟨⟨(Bc hW hlw).trans p0, (Bc hW hlw).trans p1⟩, (Bc hW hgw).trans g0, (Bc hW hgw).trans g1⟩
            have K := Lib.hid k
            have HCO := Lib.hid hCo
            have HHI := Lib.hid hHi
            have HBW6 := Lib.hid hbw6
            clear hbr6 hbw6 hb6 hbx hnb hnb6 hrow hrow6 hlb hPf hLf hCo hHi k
            go_wp2_with fail
            (with_reducible refine ((HCO.out _ (B0 w6)).mono ?_))
            rintro e w7 ⟨rfl, hb7⟩
            obtain ⟨⟨x0, x1⟩, y0, y1⟩ := K.out _ hb7
            have HB7 := Lib.hid hb7
            clear hb7 p0 p1 g0 g1
            go_wp2_with fail
            (with_reducible refine ((HHI.out _ _ HB7.out).mono ?_))
            rintro e w8 ⟨rfl, hb8⟩
            have HB8 := Lib.hid (Bt HB7.out hb8)
            obtain ⟨⟨p0, p1⟩, g0, g1⟩ := K.out _ HB8.out
            clear hb8 x0 x1 y0 y1
            go_wp2_with fail
            (with_reducible refine ((HHI.out _ _ HB8.out).mono ?_))
            rintro e w9 ⟨rfl, hb9⟩
            have HB9 := Lib.hid (Bt HB8.out hb9)
            clear hb9
            go_wp2_with fail
            go_ret
            exact ⟨rfl, Bt HBW6.out HB9.out⟩
end Go.Proofs.Ytnpdoejjebgcpaa
