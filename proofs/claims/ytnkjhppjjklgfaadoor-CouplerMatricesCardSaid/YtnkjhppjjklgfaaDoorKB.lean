/- Walks over coupler's statements: the reference's reach. -/
import Derived.Test.YtnkjhppjjklgfaaDoorKu
import Derived.Test.YtnkjhppjjklgfaaDoorKA
namespace Go.Proofs.YtnkjhppjjklgfaaDoor
open Go Go.RowKit Go.Shelf
/-- A list of contacts in blocks from B on. -/
abbrev SlN (B : Nat) (w : World) (v : Value) (l : List Cou.Ct) : Prop := SlCt (fun b => B ≤ b ∧ b < w.heap.size) w v l
theorem SlN.on {B : Nat} {w w' : World} {v : Value} {l : List Cou.Ct} (h : SlN B w v l) (hb : Below w.heap.size w w') : SlN B w' v l :=
  Sl.mono (SlCt.keep h (Agree.below hb fun _ q => q.2)) fun _ q => ⟨q.1, Nat.lt_of_lt_of_le q.2 hb.size⟩
theorem add_new {B : Nat} {w : World} (hB : B ≤ w.heap.size) (v : Value) (l : List Cou.Ct) (x : Cou.Ct) (h : SlN B w v l) (hl : l.length ≤ 1024) :
    Calls Tryd.prog 39 #[v, .agg #[.int .i64 x.1, .int .i64 x.2]] w fun e w' => ∃ v', e = .returned (.tuple #[v', .bool (Cou.newF l x)]) ∧ SlN B w' v' (Cou.addF l x) ∧ Below w.heap.size w w' := by
  refine (add_any v l x w _ (fun _ q => q.2) h (by omega)).mono ?_
  rintro e w' ⟨v', rfl, hs, hb⟩
  refine ⟨v', rfl, Sl.mono hs ?_, hb⟩
  rintro b (q | q)
  · exact ⟨q.1, Nat.lt_of_lt_of_le q.2 hb.size⟩
  · exact ⟨Nat.le_trans hB q.1, q.2⟩
/-- A contact and a flag that a step has left. -/
def StMade (w0 : World) (r : Option Cou.Ct) (s12 s13 : Value) (wx : World) : Prop := ∃ tb t, s12 = .pointer (some ⟨tb, 0, none⟩) ∧ s13 = .bool r.isSome ∧ (∀ x, r = some x → x = t) ∧ Blk wx tb 28 #[.int .i64 t.1, .int .i64 t.2] ∧ Below w0.heap.size w0 wx
set_option maxRecDepth 100000 in
set_option maxHeartbeats 8000000 in
theorem lreach_any (a : Cou.Ac) (hok : Cou.Ok a) (vd vc : Value) (c : Cou.Ct) (hc : -1000 ≤ c.2 ∧ c.2 ≤ 1000) (w : World) (F : Nat → Prop) (hA : AcAt F w vd vc a) :
    Calls Tryd.prog 16 #[.agg #[vd, vc, .int .u64 a.drawn], .agg #[.int .i64 c.1, .int .i64 c.2]] w fun e w' => ∃ v l, e = .returned v ∧ SlN w.heap.size w' v l ∧ Cou.Srt l ∧ (∀ t, t ∈ l ↔ Cou.Hop a [c] t) ∧ Below w.heap.size w w' := by
  obtain ⟨Ad, cd, rfl, _, _⟩ := id hA.dv.open
  obtain ⟨Ac, cc, rfl, _, hac⟩ := id hA.cp.open
  obtain ⟨c1, c2⟩ := c
  dsimp only at hc ⊢
  have hdr : a.drawn < 2 ^ 64 := Nat.lt_of_lt_of_le hok.drawn (Nat.pow_le_pow_right (by decide) (by have := hok.nc; omega))
  have hFF := hA.inW
  obtain ⟨B, hBB⟩ : ∃ B, w.heap.size = B := ⟨_, rfl⟩
  obtain ⟨w1, hw1⟩ : ∃ w1 : World, (w.alloc (.cells #[.slice Ad a.divs.length cd, .slice Ac a.cps.length cc, .int .u64 a.drawn] 34)).alloc (.cells #[.int .i64 c1, .int .i64 c2] 28) = w1 := ⟨_, rfl⟩
  have x0 : w1.cell? ⟨w.heap.size, 0, none⟩ = some (.slice Ad a.divs.length cd) := by rw [← hw1]; simp [go_sem]
  have x1 : w1.cell? ⟨w.heap.size, 1, none⟩ = some (.slice Ac a.cps.length cc) := by rw [← hw1]; simp [go_sem]
  have x2 : w1.cell? ⟨w.heap.size, 2, none⟩ = some (.int .u64 a.drawn) := by rw [← hw1]; simp [go_sem]
  have y0 : w1.cell? ⟨w.heap.size + 1, 0, none⟩ = some (.int .i64 c1) := by rw [← hw1]; simp [go_sem]
  have y1 : w1.cell? ⟨w.heap.size + 1, 1, none⟩ = some (.int .i64 c2) := by rw [← hw1]; simp [go_sem]
  have B1 : Below w.heap.size w w1 := by rw [← hw1]; exact Ba (Ba (B0 w) _) _
  have lt1 : w.heap.size + 1 < w1.heap.size := by rw [← hw1]; simp
  have hS := fun (i : Nat) (hi : i < a.cps.length) (t : Cou.Ct) (ht : -1000 ≤ t.2 ∧ t.2 ≤ 1000) W (hb : Below w1.heap.size w1 W) => lstep_any a hok _ _ i hi t ht a.drawn W _ ((hA.onB hFF (Bt B1 hb)))
  have hD := fun (i : Nat) (hi : i < a.cps.length) W => ldrawn_any (.slice Ad a.divs.length cd) (.slice Ac a.cps.length cc) a.drawn hdr i (by have := hok.nc; omega) W
  have hT := fun (i : Nat) (hi : i < a.cps.length) W (hb : Below w1.heap.size w1 W) => (show ∃ ad, Ac = some ad ∧ W.cell? ⟨(ad.add (i * 5)).block, (ad.add (i * 5)).off + 4, none⟩ = some (.bool (Cou.thruF a i)) from by
    obtain ⟨ad, e, hf, hfl⟩ := hac i hi
    refine ⟨ad, e, ?_⟩
    have := (hfl.below (Bt B1 hb) (by rw [block_of_add]; exact hFF _ hf)).f4 rfl
    rw [this]
    unfold Cou.thruF
    rw [List.getElem?_eq_getElem hi])
  have hX : ∀ W, Below w1.heap.size w1 W → W.cell? ⟨B, 0, none⟩ = some (.slice Ad a.divs.length cd) ∧ W.cell? ⟨B, 1, none⟩ = some (.slice Ac a.cps.length cc) ∧ W.cell? ⟨B, 2, none⟩ = some (.int .u64 a.drawn) ∧ W.cell? ⟨B + 1, 0, none⟩ = some (.int .i64 c1) ∧ W.cell? ⟨B + 1, 1, none⟩ = some (.int .i64 c2) := fun W hb => by
    rw [← hBB]
    exact ⟨(Bc hb (by omega)).trans x0, (Bc hb (by omega)).trans x1, (Bc hb (by omega)).trans x2, (Bc hb (by omega)).trans y0, (Bc hb (by omega)).trans y1⟩
  obtain ⟨n, hn⟩ : ∃ n, a.cps.length = n := ⟨_, rfl⟩
  have hn40 : n ≤ 40 := by rw [← hn]; exact hok.nc
  have hnI : (n : Int) ≤ 9223372036854775807 := by omega
  rw [hn] at hX hS hD hT hw1 ⊢
  have HX := Lib.hid hX
  have HS := Lib.hid hS
  have HD := Lib.hid hD
  have HT := Lib.hid hT
  have HB1 := Lib.hid B1
  have HOK := Lib.hid hok
  have HN := Lib.hid hn
  have HBB := Lib.hid hBB
  have HW1 := Lib.hid hw1
  have hBl : B + 1 < w1.heap.size := by omega
  have HLEN := Lib.hid (fun (l : List Cou.Ct) i (h : Cou.R1 a (c1, c2) i l) => h.len hok)
  have HSM := Lib.hid (fun (t : Cou.Ct) (h : Cou.Hop a [(c1, c2)] t) => (show -1000 ≤ t.2 ∧ t.2 ≤ 1000 from by have := (h.in_ hok).key hok; omega))
  clear hX hS hD hT B1 hok hn hBB hw1 x0 x1 x2 y0 y1 lt1 hac hA hFF
  go_enter Tryd.func16, Tryd.ntmps16
  go_upto_region 1 with fail
  rw [HW1.out, HBB.out]
  go_wp2_with fail
  go_loopg [5, 6] n (fun gg s5 s6 wr => ∃ (i : Nat) (l : List Cou.Ct), i ≤ n ∧ n - i ≤ gg ∧ s6 = .int .i64 i ∧ Aside (Cou.R1 a (c1, c2) i l) ∧ Aside (SlN B wr s5 l) ∧ Aside (Below w1.heap.size w1 wr))
  case atStart => exact ⟨0, [], by omega, by omega, rfl, Cou.R1.start _ _, (show SlN B w1 (.slice none 0 0) [] from Sl.nil_), B0 w1⟩
  case round =>
    obtain ⟨i, l, hi, hg, rfl, hR, hL, hB⟩ := hrel
    replace hB : Below w1.heap.size w1 wr := hB
    replace hL : SlN B wr u5 l := hL
    replace hR : Cou.R1 a (c1, c2) i l := hR
    obtain ⟨k0, k1, k2, k3, k4⟩ := HX.out wr hB
    by_cases hlt : i < n
    · have hltI : (i : Int) < n := by omega
      have dlt : decide ((i : Int) < n) = true := decide_eq_true hltI
      have hS1 := HS.out i hlt (c1, c2) hc wr hB
      have hlen := HLEN.out l i hR
      have HR := Lib.hid hR
      have HL := Lib.hid hL
      have HB := Lib.hid hB
      cases hst : Cou.stepF a i (c1, c2) with
      | none =>
        rw [hst] at hS1
        unfold stepV at hS1
        have HS1 := Lib.hid hS1
        have HR2 := Lib.hid (hR.skip fun t _ e => by rw [hst] at e; cases e)
        clear hS1 hR hL hB hst
        go_wp2_with (go_at_call 18; (with_reducible refine (HS1.out.mono ?_)); rintro e w5 ⟨rfl, hb5⟩; have HB5 := Lib.hid hb5; clear hb5)
        go_roundg (n - (i + 1))
        case measure => omega
        case rel => exact ⟨i + 1, l, by omega, by omega, by go_num, HR2.out, HL.out.on (Ba HB5.out _), Bt HB.out (Ba HB5.out _)⟩
      | some t =>
        rw [hst] at hS1
        unfold stepV at hS1
        obtain ⟨t1, t2⟩ := t
        dsimp only at hS1
        have HS1 := Lib.hid hS1
        have hD1 := HD.out i hlt
        cases htb : a.drawn.testBit i with
        | false =>
          rw [htb] at hD1
          have HD1 := Lib.hid hD1
          have HR2 := Lib.hid (hR.skip fun t e _ => by rw [htb] at e; cases e)
          clear hS1 hR hL hB hst hD1 htb
          go_upto_region 6 with (go_at_call 18; (with_reducible refine (HS1.out.mono ?_)); rintro e w5 ⟨rfl, hb5⟩; have HB5 := Lib.hid hb5; clear hb5)
          obtain ⟨w6, hw6⟩ : ∃ w6 : World, w5.alloc (.cells #[.int .i64 t1, .int .i64 t2] 28) = w6 := ⟨_, rfl⟩
          have hB6 : Below wr.heap.size wr w6 := by rw [← hw6]; exact Ba HB5.out _
          rw [hw6]
          have HB6 := Lib.hid hB6
          clear k0 k1 k2 k3 k4 hw6 hB6
          obtain ⟨k0, k1, k2, _, _⟩ := HX.out w6 (Bt HB.out HB6.out)
          go_wp2_with (go_at_call 26; (with_reducible refine ((HD1.out _).mono ?_)); rintro e w7 ⟨rfl, hb7⟩; have HB7 := Lib.hid (Bt HB6.out hb7); clear hb7)
          go_roundg (n - (i + 1))
          case measure => omega
          case rel => exact ⟨i + 1, l, by omega, by omega, by go_num, HR2.out, HL.out.on HB7.out, Bt HB.out HB7.out⟩
        | true =>
          rw [htb] at hD1
          have HD1 := Lib.hid hD1
          have HR2 := Lib.hid (hR.add htb hst)
          clear hS1 hR hL hB hst hD1 htb
          go_upto_region 6 with (go_at_call 18; (with_reducible refine (HS1.out.mono ?_)); rintro e w5 ⟨rfl, hb5⟩; have HB5 := Lib.hid hb5; clear hb5)
          obtain ⟨w6, hw6⟩ : ∃ w6 : World, w5.alloc (.cells #[.int .i64 t1, .int .i64 t2] 28) = w6 := ⟨_, rfl⟩
          obtain ⟨tb, htb⟩ : ∃ tb, w5.heap.size = tb := ⟨_, rfl⟩
          have hB6 : Below wr.heap.size wr w6 := by rw [← hw6]; exact Ba HB5.out _
          have T6 : Blk w6 tb 28 #[.int .i64 t1, .int .i64 t2] := by rw [← hw6, ← htb]; exact Blk.new _ _ _
          rw [hw6, htb]
          have HB6 := Lib.hid hB6
          have HT6 := Lib.hid T6
          clear k0 k1 k2 k3 k4 hw6 hB6 T6 htb
          obtain ⟨k0, k1, k2, _, _⟩ := HX.out w6 (Bt HB.out HB6.out)
          have hBs : B ≤ w1.heap.size := by omega
          go_wp2_with (first
            | (go_at_call 26; (with_reducible refine ((HD1.out _).mono ?_)); rintro e w7 ⟨rfl, hb7⟩; have HB7 := Lib.hid (Bt HB6.out hb7); have T7 := HT6.out.below hb7 HT6.out.lt; have m0 := T7.cell 0; have m1 := T7.cell 1; simp only [List.getElem?_toArray, List.getElem?_cons_zero, List.getElem?_cons_succ] at m0 m1; clear hb7 T7)
            | (go_at_call 39; (with_reducible refine ((add_new (Nat.le_trans hBs (Bt HB.out HB7.out).size) u5 l (t1, t2) (HL.out.on HB7.out) hlen).mono ?_)); rintro e w8 ⟨v8, rfl, hs8, hb8⟩; have HB8 := Lib.hid (Bt HB7.out hb8); have HS8 := Lib.hid hs8; clear hb8 hs8))
          go_roundg (n - (i + 1))
          case measure => omega
          case rel => exact ⟨i + 1, _, by omega, by omega, by go_num, HR2.out, HS8.out, Bt HB.out HB8.out⟩
    · obtain rfl : n = i := by omega
      have dlt : decide ((n : Int) < n) = false := decide_eq_false (by omega)
      have HR : Hid (Cou.R2 a (c1, c2) l) := Lib.hid (by rw [← HN.out] at hR; exact hR)
      have HL := Lib.hid hL
      have HB := Lib.hid hB
      clear hR hL hB
      obtain ⟨wo, rfl⟩ : ∃ wo : World, wo = wr := ⟨_, rfl⟩
      go_wp2_with fail
      go_loopg [5, 9] 1025 (fun gg s5 s9 wr => ∃ (l : List Cou.Ct) (again : Bool), s9 = .bool again ∧ Aside (again = true → Cou.R2 a (c1, c2) l) ∧ Aside (again = false → Cou.R3 a (c1, c2) l.length 0 l) ∧ Aside (again = true → 1025 - l.length ≤ gg) ∧ Aside (SlN B wr s5 l) ∧ Aside (Below w1.heap.size w1 wr))
      case atStart => exact ⟨l, true, rfl, (fun _ => HR.out), (fun h => by cases h), (fun _ => by omega), HL.out, HB.out⟩
      case round =>
        clear HR HL HB k0 k1 k2 k3 k4 dlt
        obtain ⟨l2, again, rfl, hR2, hR3, hg2, hL, hB⟩ := hrel
        replace hB : Below w1.heap.size w1 wr := hB
        replace hL : SlN B wr u5 l2 := hL
        replace hR2 : again = true → Cou.R2 a (c1, c2) l2 := hR2
        replace hR3 : again = false → Cou.R3 a (c1, c2) l2.length 0 l2 := hR3
        replace hg2 : again = true → 1025 - l2.length ≤ gk := hg2
        cases again with
        | false =>
          have HR := Lib.hid (hR3 rfl)
          have HL := Lib.hid hL
          have HB := Lib.hid hB
          clear hR2 hR3 hg2 hL hB
          go_wp2_with fail
          go_ret
          exact ⟨_, l2, rfl, by rw [HBB.out]; exact HL.out, HR.out.two.srt, HR.out.done, Bt HB1.out HB.out⟩
        | true =>
          have HR := Lib.hid (hR2 rfl)
          have hg3 := hg2 rfl
          have hlen2 := HLEN.out l2 _ (hR2 rfl)
          have HL := Lib.hid hL
          have HB := Lib.hid hB
          clear hR2 hR3 hg2 hL hB
          obtain ⟨wo2, rfl⟩ : ∃ wo2 : World, wo2 = wr := ⟨_, rfl⟩
          go_wp2_with fail
          go_loopg [5, 9, 10] 1025 (fun gg s5 s9 s10 wr => ∃ (l : List Cou.Ct) (again : Bool) (k : Nat), s9 = .bool again ∧ s10 = .int .i64 k ∧ k ≤ 1025 ∧ Aside (again = false → k ≤ l.length ∧ Cou.R3 a (c1, c2) k 0 l ∧ l.length - k ≤ gg ∧ l2.length ≤ l.length) ∧ Aside (again = true → Cou.R2 a (c1, c2) l ∧ l2.length < l.length) ∧ Aside (SlN B wr s5 l) ∧ Aside (Below w1.heap.size w1 wr))
          case atStart => exact ⟨l2, false, 0, rfl, rfl, by omega, (fun _ => ⟨by omega, Cou.R3.start HR.out, by omega, Nat.le_refl _⟩), (fun h => by cases h), HL.out, HB.out⟩
          case round =>
            clear HR HL HB
            obtain ⟨l3, again, k, rfl, rfl, hk, hM, hG, hL, hB⟩ := hrel
            replace hB : Below w1.heap.size w1 wr := hB
            replace hL : SlN B wr u5 l3 := hL
            replace hM : again = false → k ≤ l3.length ∧ Cou.R3 a (c1, c2) k 0 l3 ∧ l3.length - k ≤ gk ∧ l2.length ≤ l3.length := hM
            replace hG : again = true → Cou.R2 a (c1, c2) l3 ∧ l2.length < l3.length := hG
            obtain ⟨A5, c5, rfl, hc5, hm5, hat5⟩ := id hL.open
            obtain ⟨ll, hll⟩ : ∃ ll, l3.length = ll := ⟨_, rfl⟩
            rw [hll] at hL hM hG hc5 hm5 ⊢
            have HLL := Lib.hid hll
            have hmI : (ll : Int) ≤ 9223372036854775807 := by omega
            cases again with
            | true =>
              obtain ⟨hr, hgrow⟩ := hG rfl
              have hlen3 := HLEN.out l3 _ hr
              have HR := Lib.hid hr
              have HL := Lib.hid hL
              have HB := Lib.hid hB
              clear hM hG hL hB hr hat5 hll
              by_cases hkl : k < ll
              · have d1 : decide ((k : Int) < ll) = true := decide_eq_true (by omega)
                have d2 : decide (k < ll) = true := decide_eq_true hkl
                go_wp2_with fail
                go_roundg (1025 - ll)
                case measure => rw [HLL.out] at hlen3; omega
                case rel => exact ⟨l3, true, rfl, (fun _ => HR.out), (fun h => by cases h), (fun _ => by rw [HLL.out]; omega), (by rw [HLL.out] at *; exact HL.out), HB.out⟩
              · have d1 : decide ((k : Int) < ll) = false := decide_eq_false (by omega)
                have d2 : decide (k < ll) = false := decide_eq_false hkl
                go_wp2_with fail
                go_roundg (1025 - ll)
                case measure => rw [HLL.out] at hlen3; omega
                case rel => exact ⟨l3, true, rfl, (fun _ => HR.out), (fun h => by cases h), (fun _ => by rw [HLL.out]; omega), (by rw [HLL.out] at *; exact HL.out), HB.out⟩
            | false =>
              obtain ⟨hkl, hr3, hgk, hge⟩ := hM rfl
              have hlen3 := HLEN.out l3 _ hr3.two
              rw [hll] at hlen3
              by_cases hklt : k < ll
              · have d1 : decide ((k : Int) < ll) = true := decide_eq_true (by omega)
                have d2 : decide (k < ll) = true := decide_eq_true hklt
                have hk3 : k < l3.length := by rw [hll]; exact hklt
                have hx : l3[k]? = some l3[k] := List.getElem?_eq_getElem hk3
                obtain ⟨⟨x1, x2⟩, hxx⟩ : ∃ x, l3[k] = x := ⟨_, rfl⟩
                rw [hxx] at hx
                have hxs := HSM.out (x1, x2) (hr3.two.hop _ (List.mem_of_getElem? hx))
                have HXE := Lib.hid hx
                have HR := Lib.hid hr3
                have HL := Lib.hid hL
                have HB := Lib.hid hB
                clear hM hG hL hB hr3 hat5 hll hx hxx hk3
                obtain ⟨wo3, rfl⟩ : ∃ wo3 : World, wo3 = wr := ⟨_, rfl⟩
                go_wp2_with fail
                go_loopg [5, 9, 11] (n + 1) (fun gg s5 s9 s11 wr => ∃ (l : List Cou.Ct) (again : Bool) (i : Nat), s9 = .bool again ∧ s11 = .int .i64 i ∧ i ≤ n ∧ Aside (again = false → l = l3 ∧ Cou.R3 a (c1, c2) k i l3 ∧ n - i ≤ gg) ∧ Aside (again = true → Cou.R2 a (c1, c2) l ∧ l2.length < l.length) ∧ Aside (SlN B wr s5 l) ∧ Aside (Below w1.heap.size w1 wr))
                case atStart => exact ⟨l3, false, 0, rfl, rfl, by omega, (fun _ => ⟨rfl, HR.out, by omega⟩), (fun h => by cases h), HL.out, HB.out⟩
                case round =>
                  clear HR HL HB
                  obtain ⟨l4, again, i, rfl, rfl, hi, hI, hG, hL, hB⟩ := hrel
                  replace hB : Below w1.heap.size w1 wr := hB
                  replace hL : SlN B wr u5 l4 := hL
                  replace hI : again = false → l4 = l3 ∧ Cou.R3 a (c1, c2) k i l3 ∧ n - i ≤ gk := hI
                  replace hG : again = true → Cou.R2 a (c1, c2) l4 ∧ l2.length < l4.length := hG
                  obtain ⟨q0, q1, q2, _, _⟩ := HX.out wr hB
                  cases again with
                  | true =>
                    obtain ⟨hr, hgrow⟩ := hG rfl
                    have HR := Lib.hid hr
                    have HL := Lib.hid hL
                    have HB := Lib.hid hB
                    clear hI hG hL hB hr
                    by_cases hin : i < n
                    · have e1 : decide ((i : Int) < n) = true := decide_eq_true (by omega)
                      have e2 : decide (i < n) = true := decide_eq_true hin
                      go_wp2_with fail
                      go_roundg (ll - (k + 1))
                      case measure => omega
                      case rel => exact ⟨l4, true, k + 1, rfl, by go_num, by omega, (fun h => by cases h), (fun _ => ⟨HR.out, hgrow⟩), HL.out, HB.out⟩
                    · have e1 : decide ((i : Int) < n) = false := decide_eq_false (by omega)
                      have e2 : decide (i < n) = false := decide_eq_false hin
                      go_wp2_with fail
                      go_roundg (ll - (k + 1))
                      case measure => omega
                      case rel => exact ⟨l4, true, k + 1, rfl, by go_num, by omega, (fun h => by cases h), (fun _ => ⟨HR.out, hgrow⟩), HL.out, HB.out⟩
                  | false =>
                    obtain ⟨rfl, hr3, hgi⟩ := hI rfl
                    by_cases hin : i < n
                    · have hinI : (i : Int) < n := by omega
                      have e1 : decide ((i : Int) < n) = true := decide_eq_true hinI
                      have e2 : decide (i < n) = true := decide_eq_true hin
                      obtain ⟨A6, c6, rfl, _, _, hat6⟩ := id hL.open
                      have hk3 : k < l4.length := by rw [HLL.out]; exact hklt
                      obtain ⟨ad6, rfl, hf6, hfl6⟩ := hat6 k hk3
                      have hxk : l4[k] = (x1, x2) := by
                        have := HXE.out
                        rw [List.getElem?_eq_getElem hk3] at this
                        exact Option.some.inj this
                      rw [hxk] at hfl6
                      rw [HLL.out] at hL ⊢
                      have f0 := hfl6.f0 rfl
                      have f1 := hfl6.f1 rfl
                      have hf6b : (ad6.add (k * 2)).block < wr.heap.size := by rw [block_of_add]; exact hf6.2
                      have hkI : (k : Int) < ll := by omega
                      have hS1 := HS.out i hin (x1, x2) hxs
                      obtain ⟨ad, rfl, _⟩ := HT.out i hin wr hB
                      have HR := Lib.hid hr3
                      have HL := Lib.hid hL
                      have HB := Lib.hid hB
                      cases hst : Cou.stepF a i (x1, x2) with
                      | none =>
                        rw [hst] at hS1
                        unfold stepV at hS1
                        have HS1 := Lib.hid hS1
                        have HST := Lib.hid hst
                        clear hI hG hL hB hr3 hat6 hfl6 hxk hk3 hf6 hS1 hst
                        go_upto_region 17 with fail
                        go_cut [12, 13] from 62 to 71 (fun s12 s13 wx => ∃ tb, s12 = .pointer (some ⟨tb, 0, none⟩) ∧ s13 = .bool false ∧ Blk wx tb 28 #[.int .i64 0, .int .i64 0] ∧ Below wr.heap.size wr wx)
                        case first =>
                          as_aux_lemma =>
                          have q0' : ∀ o, (wr.alloc o).cell? ⟨B, 0, none⟩ = _ := fun o => (HX.out (wr.alloc o) (HB.out.alloc HB.out.size o)).1
                          have q1' : ∀ o, (wr.alloc o).cell? ⟨B, 1, none⟩ = _ := fun o => (HX.out (wr.alloc o) (HB.out.alloc HB.out.size o)).2.1
                          have q2' : ∀ o, (wr.alloc o).cell? ⟨B, 2, none⟩ = _ := fun o => (HX.out (wr.alloc o) (HB.out.alloc HB.out.size o)).2.2.1
                          have f0' : ∀ o, (wr.alloc o).cell? (ad6.add (k * 2)) = _ := fun o => ((B0 wr).alloc (Nat.le_refl _) o |>.cell (p := ad6.add (k * 2)) hf6b).trans f0
                          have f1' : ∀ o, (wr.alloc o).cell? ⟨(ad6.add (k * 2)).block, (ad6.add (k * 2)).off + 1, none⟩ = _ := fun o => ((B0 wr).alloc (Nat.le_refl _) o |>.cell (p := ⟨(ad6.add (k * 2)).block, (ad6.add (k * 2)).off + 1, none⟩) hf6b).trans f1
                          go_region_with (go_at_call 18; (with_reducible refine ((HS1.out _ (by first | exact HB.out.drew | exact (HB.out.alloc HB.out.size _).drew)).mono ?_)); rintro e w5 ⟨rfl, hb5⟩; (try (have T5 := (Blk.new wr 28 #[.int .i64 0, .int .i64 0]).drew.below hb5 (Blk.new wr 28 #[.int .i64 0, .int .i64 0]).drew.lt; have fz5 := T5.frozen; have z50 := T5.cell 0; have z51 := T5.cell 1; simp only [List.getElem?_toArray, List.getElem?_cons_zero, List.getElem?_cons_succ] at z50 z51; have HT5 := Lib.hid T5; clear T5)); have HB5 := Lib.hid hb5; clear hb5)
                          all_goals (go_wp2_with fail; go_meet)
                          all_goals (first
                            | exact ⟨_, rfl, rfl, Blk.new _ _ _, Ba (Bt (B0 wr).drew HB5.out) _⟩
                            | exact ⟨_, rfl, rfl, blk_two HT5.out _ _, Bs (Bs (Bt (Ba (B0 wr) _).drew HB5.out) _ (Nat.le_refl _)) _ (Nat.le_refl _)⟩)
                        case rest =>
                          as_aux_lemma =>
                          obtain ⟨tb, rfl, rfl, T6, hb6⟩ := hcut
                          have hBc := Bt HB.out hb6
                          have HB6 := Lib.hid hb6
                          have HT6 := Lib.hid T6
                          clear q0 q1 q2 f0 f1 T6 hb6
                          obtain ⟨q0, q1, q2, _, _⟩ := HX.out wc hBc
                          have HBc := Lib.hid hBc
                          clear hBc
                          go_wp2_with fail
                          go_roundg (n - (i + 1))
                          case measure => omega
                          case rel => exact ⟨l4, false, i + 1, rfl, by go_num, by omega, (fun _ => ⟨rfl, HR.out.skip HXE.out (fun t _ _ e => by rw [HST.out] at e; cases e), by omega⟩), (fun h => by cases h), HL.out.on HB6.out, HBc.out⟩
                      | some t =>
                        obtain ⟨t1, t2⟩ := t
                        rw [hst] at hS1
                        unfold stepV at hS1
                        dsimp only at hS1
                        have HS1 := Lib.hid hS1
                        have HST := Lib.hid hst
                        clear hI hG hL hB hr3 hat6 hfl6 hxk hk3 hf6 hS1 hst
                        go_upto_region 17 with fail
                        go_cut [12, 13] from 62 to 71 (fun s12 s13 wx => ∃ tb, s12 = .pointer (some ⟨tb, 0, none⟩) ∧ s13 = .bool true ∧ Blk wx tb 28 #[.int .i64 t1, .int .i64 t2] ∧ Below wr.heap.size wr wx)
                        case first =>
                          as_aux_lemma =>
                          have q0' : ∀ o, (wr.alloc o).cell? ⟨B, 0, none⟩ = _ := fun o => (HX.out (wr.alloc o) (HB.out.alloc HB.out.size o)).1
                          have q1' : ∀ o, (wr.alloc o).cell? ⟨B, 1, none⟩ = _ := fun o => (HX.out (wr.alloc o) (HB.out.alloc HB.out.size o)).2.1
                          have q2' : ∀ o, (wr.alloc o).cell? ⟨B, 2, none⟩ = _ := fun o => (HX.out (wr.alloc o) (HB.out.alloc HB.out.size o)).2.2.1
                          have f0' : ∀ o, (wr.alloc o).cell? (ad6.add (k * 2)) = _ := fun o => ((B0 wr).alloc (Nat.le_refl _) o |>.cell (p := ad6.add (k * 2)) hf6b).trans f0
                          have f1' : ∀ o, (wr.alloc o).cell? ⟨(ad6.add (k * 2)).block, (ad6.add (k * 2)).off + 1, none⟩ = _ := fun o => ((B0 wr).alloc (Nat.le_refl _) o |>.cell (p := ⟨(ad6.add (k * 2)).block, (ad6.add (k * 2)).off + 1, none⟩) hf6b).trans f1
                          go_region_with (go_at_call 18; (with_reducible refine ((HS1.out _ (by first | exact HB.out.drew | exact (HB.out.alloc HB.out.size _).drew)).mono ?_)); rintro e w5 ⟨rfl, hb5⟩; (try (have T5 := (Blk.new wr 28 #[.int .i64 0, .int .i64 0]).drew.below hb5 (Blk.new wr 28 #[.int .i64 0, .int .i64 0]).drew.lt; have fz5 := T5.frozen; have z50 := T5.cell 0; have z51 := T5.cell 1; simp only [List.getElem?_toArray, List.getElem?_cons_zero, List.getElem?_cons_succ] at z50 z51; have HT5 := Lib.hid T5; clear T5)); have HB5 := Lib.hid hb5; clear hb5)
                          all_goals (go_wp2_with fail; go_meet)
                          all_goals (first
                            | exact ⟨_, rfl, rfl, Blk.new _ _ _, Ba (Bt (B0 wr).drew HB5.out) _⟩
                            | exact ⟨_, rfl, rfl, blk_two HT5.out _ _, Bs (Bs (Bt (Ba (B0 wr) _).drew HB5.out) _ (Nat.le_refl _)) _ (Nat.le_refl _)⟩)
                        case rest =>
                          as_aux_lemma =>
                          obtain ⟨tb, rfl, rfl, T6, hb6⟩ := hcut
                          have hBc := Bt HB.out hb6
                          have HB6 := Lib.hid hb6
                          have HT6 := Lib.hid T6
                          clear q0 q1 q2 f0 f1 T6 hb6
                          obtain ⟨q0, q1, q2, _, _⟩ := HX.out wc hBc
                          have HBc := Lib.hid hBc
                          clear hBc
                          have hD1 := HD.out i hin
                          cases htb : a.drawn.testBit i with
                          | false =>
                            rw [htb] at hD1
                            have HD1 := Lib.hid hD1
                            have HTB := Lib.hid htb
                            clear hD1 htb
                            go_wp2_with (go_at_call 26; (with_reducible refine ((HD1.out _).mono ?_)); rintro e w7 ⟨rfl, hb7⟩; have HB7 := Lib.hid hb7; clear hb7)
                            go_roundg (n - (i + 1))
                            case measure => omega
                            case rel => exact ⟨l4, false, i + 1, rfl, by go_num, by omega, (fun _ => ⟨rfl, HR.out.skip HXE.out (fun t e _ _ => by rw [HTB.out] at e; cases e), by omega⟩), (fun h => by cases h), HL.out.on (Bt HB6.out HB7.out), Bt HBc.out HB7.out⟩
                          | true =>
                            rw [htb] at hD1
                            have HD1 := Lib.hid hD1
                            have HTB := Lib.hid htb
                            clear hD1 htb
                            cases hth : Cou.thruF a i with
                            | false =>
                              have HTH := Lib.hid hth
                              clear hth
                              go_wp2_with (go_at_call 26; (with_reducible refine ((HD1.out _).mono ?_)); rintro e w7 ⟨rfl, hb7⟩; obtain ⟨_, r1, _, _, _⟩ := HX.out w7 (Bt HBc.out hb7); obtain ⟨ad', had, r4⟩ := HT.out i hin w7 (Bt HBc.out hb7); cases had; rw [HTH.out] at r4; have HB7 := Lib.hid hb7; clear hb7)
                              go_roundg (n - (i + 1))
                              case measure => omega
                              case rel => exact ⟨l4, false, i + 1, rfl, by go_num, by omega, (fun _ => ⟨rfl, HR.out.skip HXE.out (fun t _ e _ => by rw [HTH.out] at e; cases e), by omega⟩), (fun h => by cases h), HL.out.on (Bt HB6.out HB7.out), Bt HBc.out HB7.out⟩
                            | true =>
                              have HTH := Lib.hid hth
                              clear hth
                              have hBs : B ≤ w1.heap.size := by omega
                              have hl10 : l4.length ≤ 1024 := by rw [HLL.out]; exact hlen3
                              have hnew := fun e => (Cou.newF_true (l := l4) (c := (t1, t2)) e)
                              have hold := fun e => (Cou.newF_false (l := l4) (c := (t1, t2)) e)
                              have HNW := Lib.hid hnew
                              have HOL := Lib.hid hold
                              clear hnew hold
                              go_wp2_with (first
                                | (go_at_call 26; (with_reducible refine ((HD1.out _).mono ?_)); rintro e w7 ⟨rfl, hb7⟩; obtain ⟨_, r1, _, _, _⟩ := HX.out w7 (Bt HBc.out hb7); obtain ⟨ad', had, r4⟩ := HT.out i hin w7 (Bt HBc.out hb7); cases had; rw [HTH.out] at r4; have T7 := HT6.out.below hb7 HT6.out.lt; have m0 := T7.cell 0; have m1 := T7.cell 1; simp only [List.getElem?_toArray, List.getElem?_cons_zero, List.getElem?_cons_succ] at m0 m1; have HB7 := Lib.hid hb7; clear hb7 T7)
                                | (go_at_call 39; (with_reducible refine ((add_new (Nat.le_trans hBs (Bt HBc.out HB7.out).size) _ l4 (t1, t2) (HL.out.on (Bt HB6.out HB7.out)) hl10).mono ?_)); rintro e w8 ⟨v8, rfl, hs8, hb8⟩; have HB8 := Lib.hid hb8; have HS8 := Lib.hid hs8; clear hb8 hs8))
                              go_roundg (n - (i + 1))
                              case measure => omega
                              case rel => exact ⟨Cou.addF l4 (t1, t2), Cou.newF l4 (t1, t2), i + 1, rfl, by go_num, by omega, (fun e => ⟨(HOL.out e).2, HR.out.skip HXE.out (fun t' _ _ e' => by rw [HST.out] at e'; cases e'; exact (HOL.out e).1), by omega⟩), (fun e => ⟨HR.out.grow HXE.out HTB.out HTH.out HST.out, by rw [HNW.out e, HLL.out]; omega⟩), HS8.out, Bt (Bt HBc.out HB7.out) HB8.out⟩
                    · obtain rfl : n = i := by omega
                      have e1 : decide ((n : Int) < n) = false := decide_eq_false (by omega)
                      have e2 : decide (n < n) = false := decide_eq_false (by omega)
                      have HR : Hid (Cou.R3 a (c1, c2) (k + 1) 0 l4) := Lib.hid (by rw [← HN.out] at hr3; exact hr3.next)
                      have HL := Lib.hid hL
                      have HB := Lib.hid hB
                      clear hI hG hL hB hr3
                      go_wp2_with fail
                      go_roundg (ll - (k + 1))
                      case measure => omega
                      case rel => exact ⟨l4, false, k + 1, rfl, by go_num, by omega, (fun _ => ⟨by rw [HLL.out]; omega, HR.out, by rw [HLL.out]; omega, by rw [HLL.out]; exact hge⟩), (fun h => by cases h), HL.out, HB.out⟩
              · have d1 : decide ((k : Int) < ll) = false := decide_eq_false (by omega)
                have d2 : decide (k < ll) = false := decide_eq_false hklt
                obtain rfl : ll = k := by omega
                have HR : Hid (Cou.R3 a (c1, c2) l3.length 0 l3) := Lib.hid (by rw [hll]; exact hr3)
                have HL := Lib.hid hL
                have HB := Lib.hid hB
                clear hM hG hL hB hr3 hat5 hll
                go_wp2_with fail
                go_roundg 0
                case measure => omega
                case rel => exact ⟨l3, false, rfl, (fun h => by cases h), (fun _ => HR.out), (fun h => by cases h), HL.out, HB.out⟩
end Go.Proofs.YtnkjhppjjklgfaaDoor
