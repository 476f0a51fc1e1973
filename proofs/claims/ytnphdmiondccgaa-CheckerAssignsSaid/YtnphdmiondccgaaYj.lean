/- Walks over matching and checker: no costs; the best assignment; both checks answer alike. -/
import Derived.Test.YtnphdmiondccgaaYi
namespace Go.Proofs.Ytnphdmiondccgaa
open Go Go.RowKit Go.Shelf
open Asg
set_option maxRecDepth 100000 in
set_option maxHeartbeats 4000000 in
theorem cassigns_nil (A : Option Addr) (c : Nat) (Ac Ar Al : Option Addr) (nc cc nr cr q cl : Nat) (cols rows l : List Int) (hc : cols.length = nc) (hr : rows.length = nr) (hq : l.length = q) (tot : Int) (w : World)
    (hcs : SlI (fun b => b < w.heap.size) w (.slice Ac nc cc) cols) (hrs : SlI (fun b => b < w.heap.size) w (.slice Ar nr cr) rows) (hl : SlI (fun b => b < w.heap.size) w (.slice Al q cl) l) :
    Calls Try.prog 12 #[.agg #[.slice A 0 c, .slice Ac nc cc, .int .i64 tot, .slice Ar nr cr, .slice Al q cl]] w fun e w' =>
      (∃ v, e = .returned v ∧ BoolIs v (AsgP [] cols tot rows l)) ∧ Below w.heap.size w w' := by
  obtain ⟨w1, hw1⟩ : ∃ w1 : World, w.alloc (.cells #[.slice A 0 c, .slice Ac nc cc, .int .i64 tot, .slice Ar nr cr, .slice Al q cl] 47) = w1 := ⟨_, rfl⟩
  have hB1 : Below w.heap.size w w1 := by rw [← hw1]; exact Ba (B0 w) _
  have hK1 : Blk w1 w.heap.size 47 #[.slice A 0 c, .slice Ac nc cc, .int .i64 tot, .slice Ar nr cr, .slice Al q cl] := by rw [← hw1]; exact Blk.new _ _ _
  obtain ⟨ab, hab⟩ : ∃ ab, w.heap.size = ab := ⟨_, rfl⟩
  rw [hab] at hK1
  have k0 := hK1.cell 0
  have k1 := hK1.cell 1
  have k2 := hK1.cell 2
  have k3 := hK1.cell 3
  have k4 := hK1.cell 4
  simp only [List.getElem?_toArray, List.getElem?_cons_zero, List.getElem?_cons_succ] at k0 k1 k2 k3 k4
  have hrs1 := hrs.bel hB1
  have hl1 := hl.bel hB1
  have hP : AsgP [] cols tot rows l ↔ (nc = 0 ∧ nr = 0 ∧ q = 0) ∧ tot = 0 := by
    constructor
    · rintro ⟨⟨-, -, h3, h4, h5⟩, -, -, h6, -⟩
      exact ⟨⟨by rw [← hc]; exact h3, by rw [← hr]; exact h4, by rw [← hq]; exact h5⟩, h6.symm⟩
    · rintro ⟨⟨h1, h2, h3⟩, rfl⟩
      have e1 : cols = [] := List.length_eq_zero_iff.1 (hc.trans h1)
      have e2 : rows = [] := List.length_eq_zero_iff.1 (hr.trans h2)
      have e3 : l = [] := List.length_eq_zero_iff.1 (hq.trans h3)
      subst e1 e2 e3
      exact ⟨⟨by simp [wd], by simp, rfl, rfl, rfl⟩, ⟨fun x hx => absurd hx (by simp), fun x hx => absurd hx (by simp)⟩, fun i hi => absurd hi (by simp), rfl, rfl⟩
  have HP := Lib.hid hP
  have HK1 := Lib.hid hK1
  have HB1 := Lib.hid hB1
  have HW1 := Lib.hid hw1
  have HAB := Lib.hid hab
  have HRS := Lib.hid hrs1
  have HLS := Lib.hid hl1
  have HR := Lib.hid hr
  have HQ := Lib.hid hq
  obtain ⟨Q, hQ⟩ : ∃ Q : Prop, AsgP [] cols tot rows l = Q := ⟨_, rfl⟩
  rw [hQ]
  have HQQ := Lib.hid hQ
  clear hcs hrs hl hP hK1 hB1 hw1 hab hrs1 hl1 hc hr hq hQ
  by_cases e1 : nc = 0
  · by_cases e2 : nr = 0
    · by_cases e3 : q = 0
      · subst e1 e2 e3
        have hWr := fun W (hb : Below w1.heap.size w1 W) => within_any (-1000000000000) 1000000000000 _ rows W _ (fun _ h => h) (HRS.out.bel hb)
        have hWl := fun W (hb : Below w1.heap.size w1 W) => within_any (-1000000000000) 0 _ l W _ (fun _ h => h) (HLS.out.bel hb)
        have b1 : withinB (-1000000000000) 1000000000000 rows = true := by rw [List.length_eq_zero_iff.1 HR.out]; rfl
        have b2 : withinB (-1000000000000) 0 l = true := by rw [List.length_eq_zero_iff.1 HQ.out]; rfl
        rw [b1] at hWr
        rw [b2] at hWl
        have HWr := Lib.hid hWr
        have HWl := Lib.hid hWl
        clear hWr hWl b1 b2
        have hmm := @run_makeMap Try.prog
        go_enter Try.func12, Try.ntmps12
        go_upto_region 2 with fail
        have hw1 := HW1.out
        have hab := HAB.out
        rw [hw1]
        rw [hab]
        clear hw1 HW1 hab
        go_upto_region 8 with (go_at_call 14; first | ((with_reducible refine ((HWr.out _ (B0 _)).mono ?_)); rintro e w2 ⟨rfl, hb2⟩; have k4' := (HK1.out.below hb2 HK1.out.lt).cell 4; simp only [List.getElem?_toArray, List.getElem?_cons_zero, List.getElem?_cons_succ] at k4'; have HB2 := Lib.hid hb2; clear hb2) | ((with_reducible refine ((HWl.out _ HB2.out).mono ?_)); rintro e w3 ⟨rfl, hb3⟩; have HB3 := Lib.hid (Bt HB2.out hb3); clear hb3))
        clear k0 k1 k2 k3 k4 k4'
        go_upto_region 10 with fail
        obtain ⟨w4, hw4⟩ : ∃ w4 : World, w3.alloc (.map #[] 0) = w4 := ⟨_, rfl⟩
        have hB4 : Below w1.heap.size w1 w4 := by rw [← hw4]; exact Ba HB3.out _
        rw [hw4]
        have hk := HK1.out.below hB4 HK1.out.lt
        have k0 := hk.cell 0
        have k2 := hk.cell 2
        have k4 := hk.cell 4
        simp only [List.getElem?_toArray, List.getElem?_cons_zero, List.getElem?_cons_succ] at k0 k2 k4
        have HB4 := Lib.hid hB4
        clear hw4 hB4 hk hmm
        go_wp2_with fail
        go_loopg [4, 5, 76] 0 (fun gg s4 s5 s76 wr => s4 = .int .i64 0 ∧ s5 = .int .i64 0 ∧ s76 = .int .i64 0 ∧ wr = w4)
        case atStart => exact ⟨rfl, rfl, rfl, rfl⟩
        case round =>
          obtain ⟨rfl, rfl, rfl, rfl⟩ := hrel
          obtain ⟨wo, rfl⟩ : ∃ wo : World, wo = wr := ⟨_, rfl⟩
          go_wp2_with fail
          go_loopg [5, 159] 0 (fun gg s5 s159 wr => s5 = .int .i64 0 ∧ s159 = .int .i64 0 ∧ wr = wo)
          case atStart => exact ⟨rfl, rfl, rfl⟩
          case round =>
            obtain ⟨rfl, rfl, rfl⟩ := hrel
            by_cases ht : tot = 0
            · subst ht
              go_wp2_with fail
              go_ret
              exact ⟨⟨_, rfl, BoolIs.yes (HQQ.out.mp (HP.out.2 ⟨⟨by first | rfl | trivial, by first | rfl | trivial, by first | rfl | trivial⟩, by first | rfl | trivial⟩))⟩, Bt HB1.out HB4.out⟩
            · have hI : ((0 : Int) == tot) = false := by
                rw [beq_eq_false_iff_ne]; exact fun h => ht h.symm
              go_wp2_with fail
              go_ret
              exact ⟨⟨_, rfl, BoolIs.no fun h => ht (HP.out.1 (HQQ.out.mpr h)).2⟩, Bt HB1.out HB4.out⟩
      · have hI : ((q : Int) != 0) = true := by simp; omega
        have HX := Lib.hid (show ¬ Q from fun h => e3 (HP.out.1 (HQQ.out.mpr h)).1.2.2)
        subst e1 e2
        go_enter Try.func12, Try.ntmps12
        go_upto_region 2 with fail
        have hw1 := HW1.out
        have hab := HAB.out
        rw [hw1]
        rw [hab]
        clear hw1 HW1 hab
        go_wp2_with fail
        go_ret
        exact ⟨⟨_, rfl, BoolIs.no HX.out⟩, HB1.out⟩
    · have hI : ((nr : Int) != 0) = true := by simp; omega
      have HX := Lib.hid (show ¬ Q from fun h => e2 (HP.out.1 (HQQ.out.mpr h)).1.2.1)
      subst e1
      go_enter Try.func12, Try.ntmps12
      go_upto_region 2 with fail
      have hw1 := HW1.out
      have hab := HAB.out
      rw [hw1]
      rw [hab]
      clear hw1 HW1 hab
      go_wp2_with fail
      go_ret
      exact ⟨⟨_, rfl, BoolIs.no HX.out⟩, HB1.out⟩
  · have hI : ((nc : Int) != 0) = true := by simp; omega
    have HX := Lib.hid (show ¬ Q from fun h => e1 (HP.out.1 (HQQ.out.mpr h)).1.1)
    go_enter Try.func12, Try.ntmps12
    go_upto_region 2 with fail
    have hw1 := HW1.out
    have hab := HAB.out
    rw [hw1]
    rw [hab]
    clear hw1 HW1 hab
    go_wp2_with fail
    go_ret
    exact ⟨⟨_, rfl, BoolIs.no HX.out⟩, HB1.out⟩
theorem cassigns_any (A : Option Addr) (c n : Nat) (costs : List (List Int)) (hn : costs.length = n) (hn5 : n ≤ 5) (hm8 : ∀ i, i < n → (costs.getD i []).length ≤ 8) (Ac Ar Al : Option Addr) (nc cc nr cr q cl : Nat) (cols rows l : List Int) (hc : cols.length = nc) (hr : rows.length = nr) (hq : l.length = q) (tot : Int) (w : World)
    (h : SlII (fun b => b < w.heap.size) w (.slice A n c) costs) (hcs : SlI (fun b => b < w.heap.size) w (.slice Ac nc cc) cols) (hrs : SlI (fun b => b < w.heap.size) w (.slice Ar nr cr) rows) (hl : SlI (fun b => b < w.heap.size) w (.slice Al q cl) l) :
    Calls Try.prog 12 #[.agg #[.slice A n c, .slice Ac nc cc, .int .i64 tot, .slice Ar nr cr, .slice Al q cl]] w fun e w' =>
      (∃ v, e = .returned v ∧ BoolIs v (AsgP costs cols tot rows l)) ∧ Below w.heap.size w w' := by
  rcases Nat.eq_zero_or_pos n with h0 | h0
  · subst h0
    rw [List.length_eq_zero_iff.1 hn]
    exact cassigns_nil A c Ac Ar Al nc cc nr cr q cl cols rows l hc hr hq tot w hcs hrs hl
  · exact cassigns_pos A c n costs hn h0 hn5 hm8 Ac Ar Al nc cc nr cr q cl cols rows l hc hr hq tot w h hcs hrs hl
set_option maxRecDepth 100000 in
set_option maxHeartbeats 4000000 in
/-- The search without rows. -/
theorem solve_nil (A : Option Addr) (c : Nat) (w : World) :
    Calls Try.prog 11 #[.slice A 0 c] w fun e w' => ∃ (s0 s2 s3 : Value) (tot : Int) (cols rows pots : List Int), e = .returned (.agg #[s0, .int .i64 tot, s2, s3]) ∧
      SlI (fun b => w.heap.size ≤ b ∧ b < w'.heap.size) w' s0 cols ∧ SlI (fun b => w.heap.size ≤ b ∧ b < w'.heap.size) w' s2 rows ∧ SlI (fun b => w.heap.size ≤ b ∧ b < w'.heap.size) w' s3 pots ∧ cols.length ≤ 5 ∧ rows.length ≤ 5 ∧ pots.length ≤ 8 ∧ Below w.heap.size w w' := by
  have HCO := Lib.hid (fun W => columns_any A c 0 [] rfl W (fun _ => True) ⟨A, c, rfl, by simp, by simp, fun i hi => absurd hi (by simp)⟩)
  obtain ⟨w1, hw1⟩ : ∃ w1 : World, w.alloc (.cells #[.slice none 0 0, .int .i64 0, .slice none 0 0, .slice none 0 0] 28) = w1 := ⟨_, rfl⟩
  have hB1 : Below w.heap.size w w1 := by rw [← hw1]; exact Ba (B0 w) _
  have hs1 : w.heap.size < w1.heap.size := by rw [← hw1, World.size_alloc]; omega
  have hob : Blk w1 w.heap.size 28 #[.slice none 0 0, .int .i64 0, .slice none 0 0, .slice none 0 0] := by rw [← hw1]; exact Blk.new _ _ _
  have HB1 := Lib.hid hB1
  have HOB := Lib.hid hob
  have HW1 := Lib.hid hw1
  have hm1 : ∀ W : World, (Instr.makeSlice 26 (.int .i64 1) (.int .i64 1)).run Try.prog W = .ok (.slice (some ⟨W.heap.size, 0, none⟩) 1 1) (W.alloc (.cells (List.replicate 1 (Value.int .i64 0)).toArray 3)) := hmkIn 1 (by omega)
  have hm0 : ∀ W : World, (Instr.makeSlice 26 (.int .i64 0) (.int .i64 0)).run Try.prog W = .ok (.slice (some ⟨W.heap.size, 0, none⟩) 0 0) (W.alloc (.cells (List.replicate 0 (Value.int .i64 0)).toArray 3)) := hmkIn 0 (by omega)
  clear hB1 hob hw1
  go_enter Try.func11, Try.ntmps11
  go_upto_region 2 with (go_at_call 23; (with_reducible refine ((HCO.out _).mono ?_)); rintro e w' ⟨rfl, hw'⟩; rw [hw']; clear hw')
  have hw1 := HW1.out
  rw [hw1]
  clear hw1 HW1
  rw [show (wd ([] : List (List Int)) : Int) = 0 from rfl]
  go_cut [5, 6] from 26 to 31 (fun s5 s6 wx => ∃ gu gv : Nat, s5 = .slice (some ⟨gu, 0, none⟩) 1 1 ∧ s6 = .slice (some ⟨gv, 0, none⟩) 1 1 ∧ Aside (Below w1.heap.size w1 wx))
  case first =>
    go_region
    all_goals (go_wp2_with fail; go_meet)
    all_goals exact ⟨_, _, rfl, rfl, (Ba (Ba (B0 w1) _) _).drew⟩
  case rest =>
    obtain ⟨gu, gv, rfl, rfl, hB⟩ := hcut
    obtain ⟨w2, rfl⟩ : ∃ w2 : World, w2 = wc := ⟨_, rfl⟩
    have HB : Hid (Below w1.heap.size w1 w2) := Lib.hid hB
    clear hB
    go_upto_region 3 with fail
    go_cut [7, 8] from 32 to 37 (fun s7 s8 wx => ∃ go gy : Nat, s7 = .slice (some ⟨go, 0, none⟩) 1 1 ∧ s8 = .slice (some ⟨gy, 0, none⟩) 1 1 ∧ Aside (Below w1.heap.size w1 wx))
    case first =>
      go_region
      all_goals (go_wp2_with fail; go_meet)
      all_goals exact ⟨_, _, rfl, rfl, (Ba (Ba HB.out _) _).drew⟩
    case rest =>
      obtain ⟨go, gy, rfl, rfl, hB⟩ := hcut
      obtain ⟨w3, rfl⟩ : ∃ w3 : World, w3 = wc := ⟨_, rfl⟩
      have HB3 : Hid (Below w1.heap.size w1 w3) := Lib.hid hB
      clear hB HB
      go_wp2_with fail
      go_loopg [9] 0 (fun gg s9 wr => s9 = .int .i64 1 ∧ wr = w3)
      case atStart => exact ⟨rfl, rfl⟩
      case round =>
        obtain ⟨rfl, rfl⟩ := hrel
        obtain ⟨wo, rfl⟩ : ∃ wo : World, wo = wr := ⟨_, rfl⟩
        go_upto_region 34 with fail
        go_cut [19] from 169 to 175 (fun s19 wx => ∃ (rb : Nat) (a0 a1 a2 : Option Addr), s19 = .pointer (some ⟨rb, 0, none⟩) ∧ Aside (Blk wx rb 28 #[.slice a0 0 0, .int .i64 0, .slice a1 0 0, .slice a2 0 0]) ∧ Aside (Below w1.heap.size w1 wx))
        case first =>
          go_region
          all_goals (go_wp2_with fail; go_meet)
          all_goals first
            | exact ⟨_, _, _, _, rfl, blk2 _ _ _ _, (Ba (Ba HB3.out _) _).drew⟩
            | exact ⟨_, _, _, _, rfl, ((Blk.new _ _ _).alloc _).drew, (Ba (Ba HB3.out _) _).drew⟩
        case rest =>
          obtain ⟨rb, a0, a1, a2, rfl, hK, hB⟩ := hcut
          obtain ⟨w4, rfl⟩ : ∃ w4 : World, w4 = wc := ⟨_, rfl⟩
          have HK : Hid (Blk w4 rb 28 #[.slice a0 0 0, .int .i64 0, .slice a1 0 0, .slice a2 0 0]) := Lib.hid hK
          have HB : Hid (Below w1.heap.size w1 w4) := Lib.hid hB
          clear hK hB
          go_wp2_with fail
          go_loopg [20] 0 (fun gg s20 wr => s20 = .int .i64 1 ∧ wr = w4)
          case atStart => exact ⟨rfl, rfl⟩
          case round =>
            obtain ⟨rfl, rfl⟩ := hrel
            obtain ⟨wo, rfl⟩ : ∃ wo : World, wo = wr := ⟨_, rfl⟩
            have hO := HOB.out.below HB.out HOB.out.lt
            have z0 := HK.out.cell 0
            have z1 := HK.out.cell 1
            have z2 := HK.out.cell 2
            have z3 := HK.out.cell 3
            have y0 := hO.cell 0
            have y1 := hO.cell 1
            have y2 := hO.cell 2
            have y3 := hO.cell 3
            have f0 := hO.frozen 0
            have f1 := hO.frozen 1
            have f2 := hO.frozen 2
            have f3 := hO.frozen 3
            simp only [List.getElem?_toArray, List.getElem?_cons_zero, List.getElem?_cons_succ] at z0 z1 z2 z3 y0 y1 y2 y3
            obtain ⟨w9, hw9⟩ : ∃ w9 : World, ((((wo.setCell ⟨w.heap.size, 0, none⟩ (.slice a0 0 0)).setCell ⟨w.heap.size, 1, none⟩ (.int .i64 0)).setCell ⟨w.heap.size, 2, none⟩ (.slice a1 0 0)).setCell ⟨w.heap.size, 3, none⟩ (.slice a2 0 0)) = w9 := ⟨_, rfl⟩
            have K9 := (((hO.set_ 0 (.slice a0 0 0)).set_ 1 (.int .i64 0)).set_ 2 (.slice a1 0 0)).set_ 3 (.slice a2 0 0)
            rw [hw9] at K9
            have x0 : w9.cell? ⟨w.heap.size, 0, none⟩ = some (.slice a0 0 0) := (K9.cell 0).trans rfl
            have x1 : w9.cell? ⟨w.heap.size, 1, none⟩ = some (.int .i64 0) := (K9.cell 1).trans rfl
            have x2 : w9.cell? ⟨w.heap.size, 2, none⟩ = some (.slice a1 0 0) := (K9.cell 2).trans rfl
            have x3 : w9.cell? ⟨w.heap.size, 3, none⟩ = some (.slice a2 0 0) := (K9.cell 3).trans rfl
            have hB9 : Below w.heap.size w w9 := by
              rw [← hw9]
              exact Bs (Bs (Bs (Bs (Bt HB1.out HB.out) _ (Nat.le_refl _)) _ (Nat.le_refl _)) _ (Nat.le_refl _)) _ (Nat.le_refl _)
            have HX0 := Lib.hid (And.intro x0 (And.intro x1 (And.intro x2 x3)))
            have HW9 := Lib.hid hw9
            have HB9 := Lib.hid hB9
            clear hO K9 x0 x1 x2 x3 hB9 hw9
            go_wp2_with fail
            rw [HW9.out]
            obtain ⟨x0, x1, x2, x3⟩ := HX0.out
            have hnil : ∀ a : Option Addr, SlI (fun b => w.heap.size ≤ b ∧ b < w9.heap.size) w9 (.slice a 0 0) [] := fun a => ⟨a, 0, rfl, by simp, by simp, fun i hi => absurd hi (by simp)⟩
            refine bodyPost_ret (v := .agg #[.slice a0 0 0, .int .i64 0, .slice a1 0 0, .slice a2 0 0]) (by simp [results, Try.f11, go_sem, x0, x1, x2, x3]) rfl ?_
            exact ⟨_, _, _, _, _, _, _, rfl, hnil a0, hnil a1, hnil a2, by simp, by simp, by simp, HB9.out⟩
end Go.Proofs.Ytnphdmiondccgaa
