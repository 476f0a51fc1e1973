/- Walks over chain: Least. -/
import Derived.Test.YtahlfndlkfoikaaDoorId
import Derived.Test.YtahlfndlkfoikaaDoorIb
import Derived.Test.YtahlfndlkfoikaaDoorRegW
namespace Go.Proofs.YtahlfndlkfoikaaDoor
open Go Go.RowKit Go.Shelf
namespace Cha
/-- What Least answers. -/
def leastR (a : Cou.Ac) (key c : Cou.Ct) : Int × Option Ch := if beginF a [key, c] = 0 then (0, leastF a key c) else (beginF a [key, c], none)
end Cha
/-- What holds behind each operation of a drawn region. -/
def FLQ (bx sb qb : Nat) (ad : Addr) (n c9 i : Nat) (Au : Option Addr) (nu cu : Nat) (x1 x2 : Int) (j : Nat) (s : Nat → Value) (_w : World) : Prop :=
  match j with
  | 0 => s 46 = .func (.func 57) #[] #[.pointer (some ⟨bx, 0, none⟩), .pointer (some ⟨sb, 0, none⟩), .pointer (some ⟨qb, 0, none⟩)]
  | 1 => s 47 = .slice (some ad) n c9
  | 2 => s 48 = .int .i64 (i : Nat)
  | 3 => s 49 = .pointer (some (ad.add (i * 3)))
  | 4 => s 50 = .agg #[.slice Au nu cu, .int .i64 x1, .int .i64 x2]
  | 5 => s 51 = .slice (some ad) n c9
  | 6 => s 52 = .int .i64 (i : Nat)
  | 7 => s 53 = .pointer (some (ad.add (i * 3)))
  | 8 => s 54 = .pointer (some ⟨(ad.add (i * 3)).block, (ad.add (i * 3)).off + 1, none⟩)
  | 9 => s 55 = .agg #[.int .i64 x1, .int .i64 x2]
  | _ => True
def VLQ (j : Nat) : List Nat := match j with
  | 0 => [46] | 1 => [47] | 2 => [48] | 3 => [49] | 4 => [50] | 5 => [51] | 6 => [52] | 7 => [53] | 8 => [54] | 9 => [55] | _ => []
def ELQ (j : Nat) : Bool := j == 0 || j == 4 || j == 9
theorem FLQ_V (bx sb qb : Nat) (ad : Addr) (n c9 i : Nat) (Au : Option Addr) (nu cu : Nat) (x1 x2 : Int) (j : Nat) (s s' : Nat → Value) (w : World) (h : ∀ t, t ∈ VLQ j → s' t = s t) (hF : FLQ bx sb qb ad n c9 i Au nu cu x1 x2 j s w) : FLQ bx sb qb ad n c9 i Au nu cu x1 x2 j s' w := by
  match j with
  | 0 => unfold FLQ at hF ⊢; simp only at hF ⊢; rw [h 46 (by simp [VLQ])]; exact hF
  | 1 => unfold FLQ at hF ⊢; simp only at hF ⊢; rw [h 47 (by simp [VLQ])]; exact hF
  | 2 => unfold FLQ at hF ⊢; simp only at hF ⊢; rw [h 48 (by simp [VLQ])]; exact hF
  | 3 => unfold FLQ at hF ⊢; simp only at hF ⊢; rw [h 49 (by simp [VLQ])]; exact hF
  | 4 => unfold FLQ at hF ⊢; simp only at hF ⊢; rw [h 50 (by simp [VLQ])]; exact hF
  | 5 => unfold FLQ at hF ⊢; simp only at hF ⊢; rw [h 51 (by simp [VLQ])]; exact hF
  | 6 => unfold FLQ at hF ⊢; simp only at hF ⊢; rw [h 52 (by simp [VLQ])]; exact hF
  | 7 => unfold FLQ at hF ⊢; simp only at hF ⊢; rw [h 53 (by simp [VLQ])]; exact hF
  | 8 => unfold FLQ at hF ⊢; simp only at hF ⊢; rw [h 54 (by simp [VLQ])]; exact hF
  | 9 => unfold FLQ at hF ⊢; simp only at hF ⊢; rw [h 55 (by simp [VLQ])]; exact hF
  | _ + 10 => trivial
theorem FLQ_below (bx sb qb : Nat) (ad : Addr) (n c9 i : Nat) (Au : Option Addr) (nu cu : Nat) (x1 x2 : Int) (j : Nat) (s : Nat → Value) (w w' : World) (_hb : Below w.heap.size w w') (hF : FLQ bx sb qb ad n c9 i Au nu cu x1 x2 j s w) : FLQ bx sb qb ad n c9 i Au nu cu x1 x2 j s w' := by
  match j with
  | 0 => exact hF
  | 1 => exact hF
  | 2 => exact hF
  | 3 => exact hF
  | 4 => exact hF
  | 5 => exact hF
  | 6 => exact hF
  | 7 => exact hF
  | 8 => exact hF
  | 9 => exact hF
  | _ + 10 => trivial
set_option maxRecDepth 100000 in
set_option maxHeartbeats 8000000 in
theorem Least_any (a : Cou.Ac) (vd vc : Value) (hdr : a.drawn < 2 ^ 64) (key c : Cou.Ct) (w : World) (F : Nat → Prop) (hA : AcAt F w vd vc a) :
    Calls Tryd.prog 31 #[.agg #[vd, vc, .int .u64 a.drawn], .agg #[.int .i64 key.1, .int .i64 key.2], .agg #[.int .i64 c.1, .int .i64 c.2]] w fun e w' => ∃ u, e = .returned (.tuple #[.agg #[u, .int .i64 ((Cha.leastR a key c).2.getD ([], (0, 0))).2.1, .int .i64 ((Cha.leastR a key c).2.getD ([], (0, 0))).2.2], .bool (Cha.leastR a key c).2.isSome, .int .i64 (Cha.leastR a key c).1]) ∧ SlI (fun b => b < w'.heap.size) w' u ((Cha.leastR a key c).2.getD ([], (0, 0))).1 ∧ Below w.heap.size w w' := by
  obtain ⟨Ad, cd, hvd, -, -⟩ := id hA.dv.open
  obtain ⟨Ac, cc, hvc, -, -⟩ := id hA.cp.open
  subst hvd hvc
  have hF := hA.inW
  obtain ⟨dl, hdl⟩ : ∃ dl, a.divs.length = dl := ⟨_, rfl⟩
  obtain ⟨cl, hcl⟩ : ∃ cl, a.cps.length = cl := ⟨_, rfl⟩
  rw [hdl, hcl] at hA ⊢
  have HBG := Lib.hid (fun W (hb : Below w.heap.size w W) pv pl (hP : SlCt (fun b => b < W.heap.size) W pv pl) => begin_any a (.slice Ad dl cd) (.slice Ac cl cc) hdr pv pl W (fun b => b < W.heap.size) (hA.onB hF hb).all hP)
  obtain ⟨k1, k2⟩ := key
  obtain ⟨t1, t2⟩ := c
  obtain ⟨w1, hw1⟩ : ∃ w1 : World, (((w.alloc (.cells #[.slice Ad dl cd, .slice Ac cl cc, .int .u64 a.drawn] 33)).alloc (.cells #[.int .i64 k1, .int .i64 k2] 36)).alloc (.cells #[.int .i64 t1, .int .i64 t2] 36)).alloc (.cells #[.slice none 0 0, .int .i64 0, .int .i64 0] 56) = w1 := ⟨_, rfl⟩
  obtain ⟨bx, hbx⟩ : ∃ bx, w.heap.size = bx := ⟨_, rfl⟩
  obtain ⟨b1, hb1⟩ : ∃ b1, bx + 1 = b1 := ⟨_, rfl⟩
  obtain ⟨b2, hb2⟩ : ∃ b2, b1 + 1 = b2 := ⟨_, rfl⟩
  obtain ⟨b6, hb6⟩ : ∃ b6, b2 + 1 = b6 := ⟨_, rfl⟩
  have KX : Blk w1 bx 33 #[.slice Ad dl cd, .slice Ac cl cc, .int .u64 a.drawn] := by
    rw [← hw1, ← hbx]; exact (((Blk.new _ _ _).alloc _).alloc _).alloc _
  have KK : Blk w1 b1 36 #[.int .i64 k1, .int .i64 k2] := by
    have := ((Blk.new (w.alloc (.cells #[.slice Ad dl cd, .slice Ac cl cc, .int .u64 a.drawn] 33)) 36 #[.int .i64 k1, .int .i64 k2]).alloc (.cells #[.int .i64 t1, .int .i64 t2] 36)).alloc (.cells #[.slice none 0 0, .int .i64 0, .int .i64 0] 56)
    rw [hw1] at this
    rw [← hb1, ← hbx]; simpa using this
  have KC : Blk w1 b2 36 #[.int .i64 t1, .int .i64 t2] := by
    have := (Blk.new ((w.alloc (.cells #[.slice Ad dl cd, .slice Ac cl cc, .int .u64 a.drawn] 33)).alloc (.cells #[.int .i64 k1, .int .i64 k2] 36)) 36 #[.int .i64 t1, .int .i64 t2]).alloc (.cells #[.slice none 0 0, .int .i64 0, .int .i64 0] 56)
    rw [hw1] at this
    rw [← hb2, ← hb1, ← hbx]; simpa using this
  have KR : Blk w1 b6 56 #[.slice none 0 0, .int .i64 0, .int .i64 0] := by
    have := Blk.new (((w.alloc (.cells #[.slice Ad dl cd, .slice Ac cl cc, .int .u64 a.drawn] 33)).alloc (.cells #[.int .i64 k1, .int .i64 k2] 36)).alloc (.cells #[.int .i64 t1, .int .i64 t2] 36)) 56 #[.slice none 0 0, .int .i64 0, .int .i64 0]
    rw [hw1] at this
    rw [← hb6, ← hb2, ← hb1, ← hbx]; simpa using this
  have B1 : Below w.heap.size w w1 := by rw [← hw1]; exact Ba (Ba (Ba (Ba (B0 w) _) _) _) _
  have HK := Lib.hid (fun W (hb : Below w1.heap.size w1 W) => (show (W.cell? ⟨bx, 0, none⟩ = some (.slice Ad dl cd) ∧ W.cell? ⟨bx, 1, none⟩ = some (.slice Ac cl cc) ∧ W.cell? ⟨bx, 2, none⟩ = some (.int .u64 a.drawn)) ∧ (W.cell? ⟨b1, 0, none⟩ = some (.int .i64 k1) ∧ W.cell? ⟨b1, 1, none⟩ = some (.int .i64 k2)) ∧ W.cell? ⟨b2, 0, none⟩ = some (.int .i64 t1) ∧ W.cell? ⟨b2, 1, none⟩ = some (.int .i64 t2) from
    ⟨⟨(Bc hb KX.lt).trans (KX.cell 0), (Bc hb KX.lt).trans (KX.cell 1), (Bc hb KX.lt).trans (KX.cell 2)⟩, ⟨(Bc hb KK.lt).trans (KK.cell 0), (Bc hb KK.lt).trans (KK.cell 1)⟩, (Bc hb KC.lt).trans (KC.cell 0), (Bc hb KC.lt).trans (KC.cell 1)⟩))
  have HKX := Lib.hid KX
  have HKK := Lib.hid KK
  have HKC := Lib.hid KC
  have HKR := Lib.hid KR
  have HB1 := Lib.hid B1
  have HW1 := Lib.hid hw1
  have HBX := Lib.hid hbx
  have HE1 := Lib.hid hb1
  have HE2 := Lib.hid hb2
  have HE6 := Lib.hid hb6
  have HAC := Lib.hid (hA.on B1)
  have hbg := HBG.out _ (Bt B1 (Ba (B0 w1) (.cells #[.int .i64 k1, .int .i64 k2, .int .i64 t1, .int .i64 t2] 36))) _ _ (slCt_two w1 (k1, k2) (t1, t2))
  obtain ⟨⟨c0, c1, c2⟩, ⟨c3, c4⟩, c5, c6⟩ := HK.out w1 (B0 w1)
  clear hA hF B1 hw1 hbx hb1 hb2 hb6 HBG KX KK KC KR
  dsimp only
  by_cases hbe : Cha.beginF a [(k1, k2), (t1, t2)] = 0
  · obtain ⟨hrt, hwk, -⟩ := Cha.begin_two hbe
    have hok := Cou.right_ok hrt
    have hin := Cha.wrong_inA hwk
    have hz : Cha.leastR a (k1, k2) (t1, t2) = (0, Cha.leastF a (k1, k2) (t1, t2)) := by unfold Cha.leastR; rw [if_pos hbe]
    rw [hz]
    rw [hbe] at hbg
    have HBE := Lib.hid hbg
    have hk := inA_cts hok hin
    have HOK := Lib.hid hok
    obtain ⟨res, hres⟩ : ∃ res, Cha.leastF a (k1, k2) (t1, t2) = res := ⟨_, rfl⟩
    rw [hres]
    have HRES := Lib.hid hres
    clear hbe hbg hin hrt hwk hz hres
    dsimp only
    have hmm := @run_makeMap Tryd.prog
    go_enter Tryd.func31, Tryd.ntmps31
    go_upto_region 1 with fail
    rw [HW1.out, HBX.out, HE1.out, HE2.out, HE6.out]
    go_upto_region 4 with (go_at_call 38; (with_reducible refine (HBE.out.mono ?_)); rintro e w2 ⟨rfl, hb2⟩; have HB2 := Lib.hid (Bt (Ba (B0 w1) _) hb2); clear c0 c1 c2 c3 c4 c5 c6; obtain ⟨⟨c0, c1, c2⟩, ⟨c3, c4⟩, c5, c6⟩ := HK.out w2 HB2.out; clear hb2)
    obtain ⟨mb, hmb⟩ : ∃ mb, w2.heap.size = mb := ⟨_, rfl⟩
    obtain ⟨sb, hsb⟩ : ∃ sb, mb + 1 = sb := ⟨_, rfl⟩
    obtain ⟨qb, hqb⟩ : ∃ qb, sb + 1 = qb := ⟨_, rfl⟩
    obtain ⟨w3, hw3⟩ : ∃ w3 : World, ((w2.alloc (.map #[] 0)).alloc (.cells #[.map (some mb)] 104)).alloc (.cells #[.slice none 0 0] 67) = w3 := ⟨_, rfl⟩
    have B3 : Below w2.heap.size w2 w3 := by rw [← hw3]; exact Ba (Ba (Ba (B0 w2) _) _) _
    have hs3 : w3.heap.size = qb + 1 := by rw [← hw3, ← hqb, ← hsb, ← hmb]; simp
    have HB3 : Hid (Below w1.heap.size w1 w3) := Lib.hid (Bt HB2.out B3)
    have hL3 : LSt bx sb qb mb (qb + 1) (.slice Ad dl cd) (.slice Ac cl cc) a.drawn (.slice none 0 0) [] w3 := by
      refine ⟨HKX.out.below HB3.out HKX.out.lt, ?_, ?_, OwnL.nil, ?_, by omega⟩
      · have := (Blk.new (w2.alloc (.map #[] 0)) 104 #[.map (some mb)]).alloc (.cells #[.slice none 0 0] 67)
        rw [hw3] at this
        rw [← hsb, ← hmb]
        simpa [hmb] using this
      · have := Blk.new ((w2.alloc (.map #[] 0)).alloc (.cells #[.map (some mb)] 104)) 67 #[.slice none 0 0]
        rw [hw3] at this
        rw [← hqb, ← hsb, ← hmb]
        simpa [hmb] using this
      · refine ⟨[], ?_, by simp, by simp [Cha.ends]⟩
        have h1 := MapAt.made w2
        rw [hmb] at h1
        exact h1.of_block (w' := w3) (by rw [← hw3]; exact (Below.heap_alloc _ _ _ (by simp; omega)).trans (Below.heap_alloc _ _ _ (by simp; omega)))
    have hlord : LOrd bx sb qb mb (qb + 1) := by
      have h1 := HKX.out.lt
      have h2 := HB2.out.size
      exact ⟨by omega, by omega, by omega, by omega⟩
    have hfar : b1 < mb ∧ b2 < mb ∧ b6 < mb ∧ bx < mb ∧ w1.heap.size ≤ mb := by
      have h1 := HKK.out.lt
      have h2 := HKC.out.lt
      have h3 := HKR.out.lt
      have h4 := HKX.out.lt
      have h5 := HB2.out.size
      exact ⟨by omega, by omega, by omega, by omega, by omega⟩
    have HAD := Lib.hid (fun W (hb : Below mb w3 W) (x : List Int) (xv : Value) (x2 at_ : Cou.Ct) (hat : CtS at_) (hxl : x.length ≤ 100000) (hx : SlI (IsC W) W xv x) v Q (hQl : Q.length ≤ 5000) (hQs : ∀ t ∈ Cha.ends Q, CtS t) (hq : LSt bx sb qb mb (qb + 1) (.slice Ad dl cd) (.slice Ac cl cc) a.drawn v Q W) =>
      least1_any a HOK.out (.slice Ad dl cd) (.slice Ac cl cc) hdr (fun b => b < W.heap.size) xv x x2 hxl at_ hat bx sb qb mb (qb + 1) hlord v Q hQl hQs W (by
        have h1 : Below w1.heap.size w1 W := HB3.out.trans (hb.mono hfar.2.2.2.2)
        exact (HAC.out.on h1).all) hx hq)
    have HKT := Lib.hid (fun W (hb : Below mb w3 W) => (show (W.cell? ⟨b2, 0, none⟩ = some (.int .i64 t1) ∧ W.cell? ⟨b2, 1, none⟩ = some (.int .i64 t2)) ∧ Blk W b6 56 #[.slice none 0 0, .int .i64 0, .int .i64 0] from by
      have h1 : Below w1.heap.size w1 W := HB3.out.trans (hb.mono hfar.2.2.2.2)
      exact ⟨(HK.out W h1).2.2, HKR.out.below h1 HKR.out.lt⟩))
    have HBW := Lib.hid (fun W (hb : Below mb w3 W) => Bt HB1.out (show Below w1.heap.size w1 W from HB3.out.trans (hb.mono hfar.2.2.2.2)))
    have HL3 := Lib.hid hL3
    have HST0 := Lib.hid (Cha.least_start a (k1, k2))
    have HFAR := Lib.hid hfar
    have HRF := Lib.hid (fun W (b : Nat) (hb : IsC W b) => hb.lt)
    have HW3 := Lib.hid hw3
    have HMB := Lib.hid hmb
    have HSB := Lib.hid hsb
    have HQB := Lib.hid hqb
    have HLO := Lib.hid hlord
    clear hfar hL3 hs3 B3 hlord hw3 hmb hsb hqb
    have hc0 := HAD.out w3 (Below.refl _ _) [] (.slice none 0 0) (0, 0) (k1, k2) hk (by simp) Sl.nil_ _ [] (by simp) (by simp [Cha.ends]) HL3.out
    have HC0 := Lib.hid hc0
    clear hc0
    go_upto_region 7 with fail
    rw [HMB.out, HSB.out, HQB.out]
    try rw [HW3.out]
    clear hmm HW3 HMB HSB HQB c0 c1 c2 c3 c4 c5 c6 HW1
    obtain ⟨-, ⟨c3, c4⟩, -⟩ := HK.out w3 HB3.out
    go_wp2_with (go_at_call 57; (with_reducible refine (HC0.out.mono ?_)); rintro e w4 ⟨⟨r4, rfl⟩, v4, hl4, hb4⟩; have HL4 := Lib.hid hl4; have HB4 := Lib.hid hb4; clear hl4 hb4 c3 c4)
    clear HC0
    go_loopg [13] 1025 (fun gg s13 wr => ∃ (i : Nat) (v' : Value) (Q : List Cha.Ch), i ≤ 1024 ∧ 1025 - i ≤ gg ∧ s13 = .int .i64 i ∧ Aside (Cha.LI a (k1, k2) i 0 Q) ∧ Aside (Cha.leastQ a (t1, t2) (1025 - i) i Q = res) ∧ Aside (LSt bx sb qb mb (qb + 1) (.slice Ad dl cd) (.slice Ac cl cc) a.drawn v' Q wr) ∧ Aside (Below mb w3 wr))
    case atStart => exact ⟨0, v4, _, by omega, by omega, rfl, HST0.out, (show Aside _ from by show _ = _; exact HRES.out), HL4.out, HB4.out⟩
    case round =>
      obtain ⟨i, v', Q, hi, hg, rfl, HLI, HE, HL, HB⟩ := hrel
      replace HLI : Hid (Cha.LI a (k1, k2) i 0 Q) := Lib.hid HLI
      replace HE : Hid (Cha.leastQ a (t1, t2) (1025 - i) i Q = res) := Lib.hid HE
      replace HL : Hid (LSt bx sb qb mb (qb + 1) (.slice Ad dl cd) (.slice Ac cl cc) a.drawn v' Q wr) := Lib.hid HL
      replace HB : Hid (Below mb w3 wr) := Lib.hid HB
      have hlen := HLI.out.len HOK.out
      have hile := HLI.out.le
      have hsl := HL.out.own.sl (F := fun b => b < wr.heap.size) (by omega) fun b _ h _ => h
      obtain ⟨A9, c9, rfl, -, -, hat⟩ := hsl
      have m0 := HL.out.que.cell 0
      simp only [List.getElem?_toArray, List.getElem?_cons_zero] at m0
      obtain ⟨⟨q0, q1⟩, hK6⟩ := HKT.out wr HB.out
      have HK6 := Lib.hid hK6
      have he := HE.out
      rw [show 1025 - i = (1025 - (i + 1)) + 1 by omega, Cha.leastQ] at he
      obtain ⟨n, hn⟩ : ∃ n, Q.length = n := ⟨_, rfl⟩
      rw [hn] at m0 hlen hile
      have HN := Lib.hid hn
      clear hK6 HE hn
      by_cases hlt : i < n
      · have hltI : (i : Int) < n := by omega
        have hiQ : i < Q.length := by rw [HN.out]; exact hlt
        obtain ⟨ad, cs9, rfl, hb9, -, ⟨u, rfl, hu⟩, hfl⟩ := hat i hiQ
        rw [List.getElem?_eq_getElem hiQ] at he
        have hgs := HLI.out.step HOK.out (List.getElem?_eq_getElem hiQ)
        obtain ⟨ts, hch, -, -⟩ := HLI.out.ch _ (List.getElem_mem hiQ)
        have hxl : Q[i].1.length ≤ 100000 := by
          have h1 := hch.len
          have h2 := hch.short HOK.out
          omega
        have hxin := inA_cts HOK.out (HLI.out.inA HOK.out Q[i].2 (List.mem_map.2 ⟨_, List.getElem_mem hiQ, rfl⟩))
        dsimp only at he
        have hadd : ∀ W, Below wr.heap.size wr W → ∀ x2, _ := fun W hb x2 => HAD.out W (HB.out.trans (hb.mono (Nat.le_of_lt HL.out.map.lt))) Q[i].1 u x2 Q[i].2 hxin hxl ((SlI.keep hu (Agree.below hb fun b h => h.lt)).mono fun b h => h.below hb) _ Q (by rw [HN.out]; omega) (fun t ht => inA_cts HOK.out (HLI.out.inA HOK.out t ht)) (HL.out.keep hb)
        obtain ⟨Au, cu, hue, -, -⟩ := SlI.open hu
        obtain ⟨nu, hnu⟩ : ∃ nu, Q[i].1.length = nu := ⟨_, rfl⟩
        rw [hnu] at hue
        subst hue
        have HADD := Lib.hid hadd
        have HGS := Lib.hid hgs.1
        have HU := Lib.hid hu
        have p0 := hfl.f0 rfl
        have p1 := hfl.f1 rfl
        have p2 := hfl.f2 rfl
        clear hat hadd hgs hu hfl hch hxl hxin hb9 hnu HLI
        obtain ⟨x, hx⟩ : ∃ x, Q[i] = x := ⟨_, rfl⟩
        rw [hx] at he HADD HGS HU p1 p2
        clear hx hiQ
        obtain ⟨xs, x1, x2⟩ := x
        dsimp only at p1 p2 HU
        by_cases hxe : (x1, x2) = (t1, t2)
        · rw [if_pos hxe] at he
          injection hxe with hx1 hx2
          subst hx1 hx2
          clear HADD HGS HRES
          subst he
          go_upto_region 11 with fail
          go_quiet (fail)
          generalize hw5 : World.drewN wr _ = w5
          have hb5 : Below wr.heap.size wr w5 := by rw [← hw5]; exact below_drewN (B0 wr) _
          have p0' : w5.cell? (ad.add (i * 3)) = some (.slice Au nu cu) := by rw [← hw5]; exact p0
          have p1' : w5.cell? ⟨(ad.add (i * 3)).block, (ad.add (i * 3)).off + 1, none⟩ = some (.int .i64 x1) := by rw [← hw5]; exact p1
          have p2' : w5.cell? ⟨(ad.add (i * 3)).block, (ad.add (i * 3)).off + 2, none⟩ = some (.int .i64 x2) := by rw [← hw5]; exact p2
          have m0' : w5.cell? ⟨qb, 0, none⟩ = some (.slice (some ad) n c9) := by rw [← hw5]; exact m0
          have K5 := HK6.out.below hb5 HK6.out.lt
          have r0 := K5.cell 0
          have r1 := K5.cell 1
          have r2 := K5.cell 2
          have f0 := K5.frozen 0
          have f1 := K5.frozen 1
          have f2 := K5.frozen 2
          simp only [List.getElem?_toArray, List.getElem?_cons_zero, List.getElem?_cons_succ] at r0 r1 r2
          have HK5 := Lib.hid K5
          have HB5 := Lib.hid hb5
          clear hw5 hb5 p0 p1 p2 m0 K5 q0 q1
          go_wp2_with fail
          have hK7 := ((HK5.out.set_ 0 (.slice Au nu cu)).set_ 1 (.int .i64 x1)).set_ 2 (.int .i64 x2)
          obtain ⟨w7, hw7⟩ : ∃ w7 : World, ((w5.setCell ⟨b6, 0, none⟩ (.slice Au nu cu)).setCell ⟨b6, 1, none⟩ (.int .i64 x1)).setCell ⟨b6, 2, none⟩ (.int .i64 x2) = w7 := ⟨_, rfl⟩
          have hle : w.heap.size ≤ b6 := by have h1 := HBX.out; have h2 := HE1.out; have h3 := HE2.out; have h4 := HE6.out; omega
          have hB7 : Below w.heap.size w w7 := by rw [← hw7]; exact Bs (Bs (Bs (Bt (HBW.out wr HB.out) HB5.out) _ hle) _ hle) _ hle
          have hs1 : w5.grownBy (w5.setCell ⟨b6, 0, none⟩ (.slice Au nu cu)) (some b6) := only_setCell (World.grownBy.refl w5 _) (.inl rfl) _
          have hs2 : w5.grownBy ((w5.setCell ⟨b6, 0, none⟩ (.slice Au nu cu)).setCell ⟨b6, 1, none⟩ (.int .i64 x1)) (some b6) := only_setCell hs1 (.inl rfl) _
          have hsr : w5.grownBy (((w5.setCell ⟨b6, 0, none⟩ (.slice Au nu cu)).setCell ⟨b6, 1, none⟩ (.int .i64 x1)).setCell ⟨b6, 2, none⟩ (.int .i64 x2)) (some b6) := only_setCell hs2 (.inl rfl) _
          rw [hw7] at hsr
          clear hs1 hs2
          have hno : ∀ b, IsC w5 b → some b ≠ some b6 := by
            rintro b ⟨cs', hb | hb⟩ e
            · injection e with e
              subst e
              have h := HK5.out
              unfold Blk at h hb
              rw [h] at hb
              injection hb with hb
              injection hb with _ hb
              exact absurd hb (by decide)
            · injection e with e
              subst e
              have h := HK5.out
              unfold Blk at h hb
              rw [h] at hb
              injection hb with hb
              injection hb with _ hb
              exact absurd hb (by decide)
          have hU5 : SlI (IsC w5) w5 (.slice Au nu cu) xs := (SlI.keep HU.out (Agree.below HB5.out fun b h => h.lt)).mono fun b h => h.below HB5.out
          have hU7 : SlI (fun b => b < w7.heap.size) w7 (.slice Au nu cu) xs := (SlI.keep hU5 (Agree.grown hsr fun b hb => ⟨hb.lt, hno b hb⟩)).mono fun b hb => (hb.grown hsr (hno b hb)).lt
          rw [hw7] at hK7 ⊢
          have g0 := hK7.cell 0
          have g1 := hK7.cell 1
          have g2 := hK7.cell 2
          simp at g0 g1 g2
          refine bodyPost_ret (v := .tuple #[.agg #[.slice Au nu cu, .int .i64 x1, .int .i64 x2], .bool true, .int .i64 0]) (by simp [results, Tryd.f31, go_sem, g0, g1, g2]) rfl ?_
          exact ⟨_, rfl, hU7, hB7⟩
        · rw [if_neg hxe] at he
          have HE2 := Lib.hid he
          clear he
          have HNX : Hid (Cha.LI a (k1, k2) (i + 1) 0 (Cha.addF a Q xs (x1, x2))) := HGS
          have hi2 : i + 1 ≤ 1024 := by
            have h1 := HNX.out.len HOK.out
            have h2 := HNX.out.le
            omega
          have HAD2 := Lib.hid (fun W (hb : Below wr.heap.size wr W) => HADD.out W hb (x1, x2))
          dsimp only at HAD2
          by_cases h1 : x1 = t1
          · subst h1
            have h2 : (x2 == t2) = false := by simpa using hxe
            clear hxe HADD HGS
            go_upto_region 11 with fail
            go_quiet (fail)
            generalize hw5 : World.drewN wr _ = w5
            have hb5 : Below wr.heap.size wr w5 := by rw [← hw5]; exact below_drewN (B0 wr) _
            have hp0 : w5.cell? (ad.add (i * 3)) = some (.slice Au nu cu) := by rw [← hw5]; exact p0
            have hp1 : w5.cell? ⟨(ad.add (i * 3)).block, (ad.add (i * 3)).off + 1, none⟩ = some (.int .i64 x1) := by rw [← hw5]; exact p1
            have hp2 : w5.cell? ⟨(ad.add (i * 3)).block, (ad.add (i * 3)).off + 2, none⟩ = some (.int .i64 x2) := by rw [← hw5]; exact p2
            have hm0 : w5.cell? ⟨qb, 0, none⟩ = some (.slice (some ad) n c9) := by rw [← hw5]; exact m0
            have hl0 : (ad.add (i * 3)).block < w5.heap.size := World.block_lt_of_cell? _ _ hp0
            have hl1 : qb < w5.heap.size := World.block_lt_of_cell? _ _ hm0
            have HS := Lib.hid (fun W (hb : Below w5.heap.size w5 W) => (show W.cell? ⟨qb, 0, none⟩ = some (.slice (some ad) n c9) ∧ W.cell? (ad.add (i * 3)) = some (.slice Au nu cu) ∧ W.cell? ⟨(ad.add (i * 3)).block, (ad.add (i * 3)).off + 1, none⟩ = some (.int .i64 x1) ∧ W.cell? ⟨(ad.add (i * 3)).block, (ad.add (i * 3)).off + 2, none⟩ = some (.int .i64 x2) from
              ⟨(Bc hb hl1).trans hm0, (hb.cell (p := ad.add (i * 3)) hl0).trans hp0, (Bc hb hl0).trans hp1, (Bc hb hl0).trans hp2⟩))
            have HB5 := Lib.hid hb5
            clear hw5 hb5 hp0 hp1 hp2 hm0 hl0 hl1 p0 p1 p2 m0 q0 q1
            have hBB : ∀ (L : Nat → Bool) (i : Nat) (W W' : World), Below W.heap.size W W' → Below w5.heap.size w5 W → Below w5.heap.size w5 W' := fun _ _ _ _ hb h => Bt h hb
            go_upto_region 13 with fail
            refine region_blocks (by kernel_rfl) ?_
            refine from_lawW 10 ELQ (fun _ W => Below w5.heap.size w5 W) (FLQ bx sb qb ad n c9 i Au nu cu x1 x2) VLQ (by kernel_rfl) rfl (FLQ_V _ _ _ _ _ _ _ _ _ _ _ _) (by kernel_rfl) (by kernel_rfl) ((B0 w5).drew) ⟨?_, ?_, ?_, ?_, ?_, ?_, ?_, ?_, ?_, ?_, trivial⟩ ?_
            · refine OpFactW.value rfl (FLQ_below _ _ _ _ _ _ _ _ _ _ _ _) hBB fun L a w2 hl hf D hb => ?_
              have h0 : sl a 12 = .func (.func 57) #[] #[.pointer (some ⟨bx, 0, none⟩), .pointer (some ⟨sb, 0, none⟩), .pointer (some ⟨qb, 0, none⟩)] := hf 12 (by kernel_rfl)
              refine ⟨.func (.func 57) #[] #[.pointer (some ⟨bx, 0, none⟩), .pointer (some ⟨sb, 0, none⟩), .pointer (some ⟨qb, 0, none⟩)], w2, ?_, B0 _, fun s _ h => h 46 rfl⟩
              unfold sl at h0
              simp [go_sem, h0]
            · refine OpFactW.value rfl (FLQ_below _ _ _ _ _ _ _ _ _ _ _ _) hBB fun L a w2 hl hf D hb => ?_
              have h0 : sl a 11 = .pointer (some ⟨qb, 0, none⟩) := hf 11 (by kernel_rfl)
              have es := HS.out w2 hb
              refine ⟨.slice (some ad) n c9, w2, ?_, B0 _, fun s _ h => h 47 rfl⟩
              unfold sl at h0
              simp at h0
              simp [go_sem, h0, es]
            · refine OpFactW.value rfl (FLQ_below _ _ _ _ _ _ _ _ _ _ _ _) hBB fun L a w2 hl hf D hb => ?_
              have h0 : sl a 13 = .int .i64 (i : Nat) := hf 13 (by kernel_rfl)
              refine ⟨.int .i64 (i : Nat), w2, ?_, B0 _, fun s _ h => h 48 rfl⟩
              unfold sl at h0
              simp [go_sem, h0]
            · refine OpFactW.value rfl (FLQ_below _ _ _ _ _ _ _ _ _ _ _ _) hBB fun L a w2 hl hf D hb => ?_
              have h1 : sl a 47 = .slice (some ad) n c9 := D 1 (by kernel_rfl)
              have h2 : sl a 48 = .int .i64 (i : Nat) := D 2 (by kernel_rfl)
              refine ⟨.pointer (some (ad.add (i * 3))), w2, ?_, B0 _, fun s _ h => h 49 rfl⟩
              unfold sl at h1 h2
              simp at h1 h2
              simp [go_sem, h1, h2, hltI]
            · refine OpFactW.value rfl (FLQ_below _ _ _ _ _ _ _ _ _ _ _ _) hBB fun L a w2 hl hf D hb => ?_
              have h0 : sl a 49 = .pointer (some (ad.add (i * 3))) := D 3 (by kernel_rfl)
              have es := HS.out w2 hb
              refine ⟨.agg #[.slice Au nu cu, .int .i64 x1, .int .i64 x2], w2, ?_, B0 _, fun s _ h => h 50 rfl⟩
              unfold sl at h0
              simp at h0
              simp [go_sem, h0, es]
            · refine OpFactW.value rfl (FLQ_below _ _ _ _ _ _ _ _ _ _ _ _) hBB fun L a w2 hl hf D hb => ?_
              have h0 : sl a 11 = .pointer (some ⟨qb, 0, none⟩) := hf 11 (by kernel_rfl)
              have es := HS.out w2 hb
              refine ⟨.slice (some ad) n c9, w2, ?_, B0 _, fun s _ h => h 51 rfl⟩
              unfold sl at h0
              simp at h0
              simp [go_sem, h0, es]
            · refine OpFactW.value rfl (FLQ_below _ _ _ _ _ _ _ _ _ _ _ _) hBB fun L a w2 hl hf D hb => ?_
              have h0 : sl a 13 = .int .i64 (i : Nat) := hf 13 (by kernel_rfl)
              refine ⟨.int .i64 (i : Nat), w2, ?_, B0 _, fun s _ h => h 52 rfl⟩
              unfold sl at h0
              simp [go_sem, h0]
            · refine OpFactW.value rfl (FLQ_below _ _ _ _ _ _ _ _ _ _ _ _) hBB fun L a w2 hl hf D hb => ?_
              have h1 : sl a 51 = .slice (some ad) n c9 := D 5 (by kernel_rfl)
              have h2 : sl a 52 = .int .i64 (i : Nat) := D 6 (by kernel_rfl)
              refine ⟨.pointer (some (ad.add (i * 3))), w2, ?_, B0 _, fun s _ h => h 53 rfl⟩
              unfold sl at h1 h2
              simp at h1 h2
              simp [go_sem, h1, h2, hltI]
            · refine OpFactW.value rfl (FLQ_below _ _ _ _ _ _ _ _ _ _ _ _) hBB fun L a w2 hl hf D hb => ?_
              have h1 : sl a 53 = .pointer (some (ad.add (i * 3))) := D 7 (by kernel_rfl)
              refine ⟨.pointer (some ⟨(ad.add (i * 3)).block, (ad.add (i * 3)).off + 1, none⟩), w2, ?_, B0 _, fun s _ h => h 54 rfl⟩
              unfold sl at h1
              simp at h1
              simp [go_sem, h1]
            · refine OpFactW.value rfl (FLQ_below _ _ _ _ _ _ _ _ _ _ _ _) hBB fun L a w2 hl hf D hb => ?_
              have h0 : sl a 54 = .pointer (some ⟨(ad.add (i * 3)).block, (ad.add (i * 3)).off + 1, none⟩) := D 8 (by kernel_rfl)
              have es := HS.out w2 hb
              refine ⟨.agg #[.int .i64 x1, .int .i64 x2], w2, ?_, B0 _, fun s _ h => h 55 rfl⟩
              unfold sl at h0
              simp at h0
              simp [go_sem, h0, es]
            intro L y w6 hb6 hF6
            have h46 : y 46 = .func (.func 57) #[] #[.pointer (some ⟨bx, 0, none⟩), .pointer (some ⟨sb, 0, none⟩), .pointer (some ⟨qb, 0, none⟩)] := hF6 0 (by decide) rfl
            have h50 : y 50 = .agg #[.slice Au nu cu, .int .i64 x1, .int .i64 x2] := hF6 4 (by decide) rfl
            have h55 : y 55 = .agg #[.int .i64 x1, .int .i64 x2] := hF6 9 (by decide) rfl
            have HB6 := Lib.hid (Bt HB5.out hb6)
            clear hF6 hb6 HS
            rw [aft10 (d0 := 46) (d1 := 47) (d2 := 48) (d3 := 49) (d4 := 50) (d5 := 51) (d6 := 52) (d7 := 53) (d8 := 54) (d9 := 55) (by kernel_rfl) rfl]
            rw [h46, h50, h55]
            simp only [List.set_cons_succ, List.set_cons_zero]
            refine from_list 11 (by kernel_rfl) (by simp only [List.take_succ_cons, List.take_zero, List.drop_succ_cons, List.drop_zero]; exact rfl) ?_
            (intro Q' hQ' hX; clear hX)
            go_wp2_with (go_at_call 57; (with_reducible refine ((HAD2.out _ HB6.out).mono ?_)); rintro e w7 ⟨⟨r5, rfl⟩, v5, hl5, hb7⟩; have HL5 := Lib.hid hl5; have HB7 := Lib.hid ((HB.out.trans (HB6.out.mono (Nat.le_of_lt HL.out.map.lt))).trans hb7); clear hl5 hb7)
            refine from_end rfl ?_
            go_wp2_with fail
            go_roundg (1025 - (i + 1))
            case measure => omega
            case rel => exact ⟨i + 1, v5, _, hi2, by omega, by go_num, HNX.out, HE2.out, HL5.out, HB7.out⟩
          · have h2 : (x1 == t1) = false := by simpa using h1
            clear hxe HADD HGS h1
            go_upto_region 11 with fail
            go_quiet (fail)
            generalize hw5 : World.drewN wr _ = w5
            have hb5 : Below wr.heap.size wr w5 := by rw [← hw5]; exact below_drewN (B0 wr) _
            have hp0 : w5.cell? (ad.add (i * 3)) = some (.slice Au nu cu) := by rw [← hw5]; exact p0
            have hp1 : w5.cell? ⟨(ad.add (i * 3)).block, (ad.add (i * 3)).off + 1, none⟩ = some (.int .i64 x1) := by rw [← hw5]; exact p1
            have hp2 : w5.cell? ⟨(ad.add (i * 3)).block, (ad.add (i * 3)).off + 2, none⟩ = some (.int .i64 x2) := by rw [← hw5]; exact p2
            have hm0 : w5.cell? ⟨qb, 0, none⟩ = some (.slice (some ad) n c9) := by rw [← hw5]; exact m0
            have hl0 : (ad.add (i * 3)).block < w5.heap.size := World.block_lt_of_cell? _ _ hp0
            have hl1 : qb < w5.heap.size := World.block_lt_of_cell? _ _ hm0
            have HS := Lib.hid (fun W (hb : Below w5.heap.size w5 W) => (show W.cell? ⟨qb, 0, none⟩ = some (.slice (some ad) n c9) ∧ W.cell? (ad.add (i * 3)) = some (.slice Au nu cu) ∧ W.cell? ⟨(ad.add (i * 3)).block, (ad.add (i * 3)).off + 1, none⟩ = some (.int .i64 x1) ∧ W.cell? ⟨(ad.add (i * 3)).block, (ad.add (i * 3)).off + 2, none⟩ = some (.int .i64 x2) from
              ⟨(Bc hb hl1).trans hm0, (hb.cell (p := ad.add (i * 3)) hl0).trans hp0, (Bc hb hl0).trans hp1, (Bc hb hl0).trans hp2⟩))
            have HB5 := Lib.hid hb5
            clear hw5 hb5 hp0 hp1 hp2 hm0 hl0 hl1 p0 p1 p2 m0 q0 q1
            have hBB : ∀ (L : Nat → Bool) (i : Nat) (W W' : World), Below W.heap.size W W' → Below w5.heap.size w5 W → Below w5.heap.size w5 W' := fun _ _ _ _ hb h => Bt h hb
            go_upto_region 13 with fail
            refine region_blocks (by kernel_rfl) ?_
            refine from_lawW 10 ELQ (fun _ W => Below w5.heap.size w5 W) (FLQ bx sb qb ad n c9 i Au nu cu x1 x2) VLQ (by kernel_rfl) rfl (FLQ_V _ _ _ _ _ _ _ _ _ _ _ _) (by kernel_rfl) (by kernel_rfl) ((B0 w5).drew) ⟨?_, ?_, ?_, ?_, ?_, ?_, ?_, ?_, ?_, ?_, trivial⟩ ?_
            · refine OpFactW.value rfl (FLQ_below _ _ _ _ _ _ _ _ _ _ _ _) hBB fun L a w2 hl hf D hb => ?_
              have h0 : sl a 12 = .func (.func 57) #[] #[.pointer (some ⟨bx, 0, none⟩), .pointer (some ⟨sb, 0, none⟩), .pointer (some ⟨qb, 0, none⟩)] := hf 12 (by kernel_rfl)
              refine ⟨.func (.func 57) #[] #[.pointer (some ⟨bx, 0, none⟩), .pointer (some ⟨sb, 0, none⟩), .pointer (some ⟨qb, 0, none⟩)], w2, ?_, B0 _, fun s _ h => h 46 rfl⟩
              unfold sl at h0
              simp [go_sem, h0]
            · refine OpFactW.value rfl (FLQ_below _ _ _ _ _ _ _ _ _ _ _ _) hBB fun L a w2 hl hf D hb => ?_
              have h0 : sl a 11 = .pointer (some ⟨qb, 0, none⟩) := hf 11 (by kernel_rfl)
              have es := HS.out w2 hb
              refine ⟨.slice (some ad) n c9, w2, ?_, B0 _, fun s _ h => h 47 rfl⟩
              unfold sl at h0
              simp at h0
              simp [go_sem, h0, es]
            · refine OpFactW.value rfl (FLQ_below _ _ _ _ _ _ _ _ _ _ _ _) hBB fun L a w2 hl hf D hb => ?_
              have h0 : sl a 13 = .int .i64 (i : Nat) := hf 13 (by kernel_rfl)
              refine ⟨.int .i64 (i : Nat), w2, ?_, B0 _, fun s _ h => h 48 rfl⟩
              unfold sl at h0
              simp [go_sem, h0]
            · refine OpFactW.value rfl (FLQ_below _ _ _ _ _ _ _ _ _ _ _ _) hBB fun L a w2 hl hf D hb => ?_
              have h1 : sl a 47 = .slice (some ad) n c9 := D 1 (by kernel_rfl)
              have h2 : sl a 48 = .int .i64 (i : Nat) := D 2 (by kernel_rfl)
              refine ⟨.pointer (some (ad.add (i * 3))), w2, ?_, B0 _, fun s _ h => h 49 rfl⟩
              unfold sl at h1 h2
              simp at h1 h2
              simp [go_sem, h1, h2, hltI]
            · refine OpFactW.value rfl (FLQ_below _ _ _ _ _ _ _ _ _ _ _ _) hBB fun L a w2 hl hf D hb => ?_
              have h0 : sl a 49 = .pointer (some (ad.add (i * 3))) := D 3 (by kernel_rfl)
              have es := HS.out w2 hb
              refine ⟨.agg #[.slice Au nu cu, .int .i64 x1, .int .i64 x2], w2, ?_, B0 _, fun s _ h => h 50 rfl⟩
              unfold sl at h0
              simp at h0
              simp [go_sem, h0, es]
            · refine OpFactW.value rfl (FLQ_below _ _ _ _ _ _ _ _ _ _ _ _) hBB fun L a w2 hl hf D hb => ?_
              have h0 : sl a 11 = .pointer (some ⟨qb, 0, none⟩) := hf 11 (by kernel_rfl)
              have es := HS.out w2 hb
              refine ⟨.slice (some ad) n c9, w2, ?_, B0 _, fun s _ h => h 51 rfl⟩
              unfold sl at h0
              simp at h0
              simp [go_sem, h0, es]
            · refine OpFactW.value rfl (FLQ_below _ _ _ _ _ _ _ _ _ _ _ _) hBB fun L a w2 hl hf D hb => ?_
              have h0 : sl a 13 = .int .i64 (i : Nat) := hf 13 (by kernel_rfl)
              refine ⟨.int .i64 (i : Nat), w2, ?_, B0 _, fun s _ h => h 52 rfl⟩
              unfold sl at h0
              simp [go_sem, h0]
            · refine OpFactW.value rfl (FLQ_below _ _ _ _ _ _ _ _ _ _ _ _) hBB fun L a w2 hl hf D hb => ?_
              have h1 : sl a 51 = .slice (some ad) n c9 := D 5 (by kernel_rfl)
              have h2 : sl a 52 = .int .i64 (i : Nat) := D 6 (by kernel_rfl)
              refine ⟨.pointer (some (ad.add (i * 3))), w2, ?_, B0 _, fun s _ h => h 53 rfl⟩
              unfold sl at h1 h2
              simp at h1 h2
              simp [go_sem, h1, h2, hltI]
            · refine OpFactW.value rfl (FLQ_below _ _ _ _ _ _ _ _ _ _ _ _) hBB fun L a w2 hl hf D hb => ?_
              have h1 : sl a 53 = .pointer (some (ad.add (i * 3))) := D 7 (by kernel_rfl)
              refine ⟨.pointer (some ⟨(ad.add (i * 3)).block, (ad.add (i * 3)).off + 1, none⟩), w2, ?_, B0 _, fun s _ h => h 54 rfl⟩
              unfold sl at h1
              simp at h1
              simp [go_sem, h1]
            · refine OpFactW.value rfl (FLQ_below _ _ _ _ _ _ _ _ _ _ _ _) hBB fun L a w2 hl hf D hb => ?_
              have h0 : sl a 54 = .pointer (some ⟨(ad.add (i * 3)).block, (ad.add (i * 3)).off + 1, none⟩) := D 8 (by kernel_rfl)
              have es := HS.out w2 hb
              refine ⟨.agg #[.int .i64 x1, .int .i64 x2], w2, ?_, B0 _, fun s _ h => h 55 rfl⟩
              unfold sl at h0
              simp at h0
              simp [go_sem, h0, es]
            intro L y w6 hb6 hF6
            have h46 : y 46 = .func (.func 57) #[] #[.pointer (some ⟨bx, 0, none⟩), .pointer (some ⟨sb, 0, none⟩), .pointer (some ⟨qb, 0, none⟩)] := hF6 0 (by decide) rfl
            have h50 : y 50 = .agg #[.slice Au nu cu, .int .i64 x1, .int .i64 x2] := hF6 4 (by decide) rfl
            have h55 : y 55 = .agg #[.int .i64 x1, .int .i64 x2] := hF6 9 (by decide) rfl
            have HB6 := Lib.hid (Bt HB5.out hb6)
            clear hF6 hb6 HS
            rw [aft10 (d0 := 46) (d1 := 47) (d2 := 48) (d3 := 49) (d4 := 50) (d5 := 51) (d6 := 52) (d7 := 53) (d8 := 54) (d9 := 55) (by kernel_rfl) rfl]
            rw [h46, h50, h55]
            simp only [List.set_cons_succ, List.set_cons_zero]
            refine from_list 11 (by kernel_rfl) (by simp only [List.take_succ_cons, List.take_zero, List.drop_succ_cons, List.drop_zero]; exact rfl) ?_
            (intro Q' hQ' hX; clear hX)
            go_wp2_with (go_at_call 57; (with_reducible refine ((HAD2.out _ HB6.out).mono ?_)); rintro e w7 ⟨⟨r5, rfl⟩, v5, hl5, hb7⟩; have HL5 := Lib.hid hl5; have HB7 := Lib.hid ((HB.out.trans (HB6.out.mono (Nat.le_of_lt HL.out.map.lt))).trans hb7); clear hl5 hb7)
            refine from_end rfl ?_
            go_wp2_with fail
            go_roundg (1025 - (i + 1))
            case measure => omega
            case rel => exact ⟨i + 1, v5, _, hi2, by omega, by go_num, HNX.out, HE2.out, HL5.out, HB7.out⟩
      · obtain rfl : i = n := by omega
        rw [List.getElem?_eq_none (by rw [HN.out]; exact Nat.le_refl _)] at he
        clear HRES
        subst he
        have K5 := HK6.out
        have r0 := K5.cell 0
        have r1 := K5.cell 1
        have r2 := K5.cell 2
        have f0 := K5.frozen 0
        have f1 := K5.frozen 1
        have f2 := K5.frozen 2
        simp only [List.getElem?_toArray, List.getElem?_cons_zero, List.getElem?_cons_succ] at r0 r1 r2
        clear K5 hat HLI
        go_wp2_with fail
        have hK7 := ((HK6.out.set_ 0 (.slice none 0 0)).set_ 1 (.int .i64 0)).set_ 2 (.int .i64 0)
        obtain ⟨w7, hw7⟩ : ∃ w7 : World, ((wr.setCell ⟨b6, 0, none⟩ (.slice none 0 0)).setCell ⟨b6, 1, none⟩ (.int .i64 0)).setCell ⟨b6, 2, none⟩ (.int .i64 0) = w7 := ⟨_, rfl⟩
        have hle : w.heap.size ≤ b6 := by have h1 := HBX.out; have h2 := HE1.out; have h3 := HE2.out; have h4 := HE6.out; omega
        have hB7 : Below w.heap.size w w7 := by rw [← hw7]; exact Bs (Bs (Bs (HBW.out wr HB.out) _ hle) _ hle) _ hle
        rw [hw7] at hK7 ⊢
        have g0 := hK7.cell 0
        have g1 := hK7.cell 1
        have g2 := hK7.cell 2
        simp at g0 g1 g2
        refine bodyPost_ret (v := .tuple #[.agg #[.slice none 0 0, .int .i64 0, .int .i64 0], .bool false, .int .i64 0]) (by simp [results, Tryd.f31, go_sem, g0, g1, g2]) rfl ?_
        exact ⟨_, rfl, Sl.nil_, hB7⟩
  · have HZ : Hid (Cha.leastR a (k1, k2) (t1, t2) = (Cha.beginF a [(k1, k2), (t1, t2)], none)) := Lib.hid (by unfold Cha.leastR; rw [if_neg hbe])
    have d1 : (Cha.beginF a [(k1, k2), (t1, t2)] != 0) = true := by simpa using hbe
    have HBE := Lib.hid hbg
    clear hbe hbg
    generalize Cha.beginF a [(k1, k2), (t1, t2)] = er at *
    go_enter Tryd.func31, Tryd.ntmps31
    go_upto_region 1 with fail
    rw [HW1.out, HBX.out, HE1.out, HE2.out, HE6.out]
    go_wp2_with (go_at_call 38; (with_reducible refine (HBE.out.mono ?_)); rintro e w2 ⟨rfl, hb2⟩; have HB2 := Lib.hid (Bt (Ba (B0 w1) _) hb2); have K2 := HKR.out.below HB2.out HKR.out.lt; have r0 := K2.cell 0; have r1 := K2.cell 1; have r2 := K2.cell 2; have f0 := K2.frozen 0; have f1 := K2.frozen 1; have f2 := K2.frozen 2; have HK2 := Lib.hid K2; simp only [List.getElem?_toArray, List.getElem?_cons_zero, List.getElem?_cons_succ] at r0 r1 r2; clear K2 hb2)
    have hK3 := ((HK2.out.set_ 0 (.slice none 0 0)).set_ 1 (.int .i64 0)).set_ 2 (.int .i64 0)
    obtain ⟨w3, hw3⟩ : ∃ w3 : World, ((w2.setCell ⟨b6, 0, none⟩ (.slice none 0 0)).setCell ⟨b6, 1, none⟩ (.int .i64 0)).setCell ⟨b6, 2, none⟩ (.int .i64 0) = w3 := ⟨_, rfl⟩
    have hle : w.heap.size ≤ b6 := by have h1 := HBX.out; have h2 := HE1.out; have h3 := HE2.out; have h4 := HE6.out; omega
    have hB3 : Below w.heap.size w w3 := by rw [← hw3]; exact Bs (Bs (Bs (Bt HB1.out HB2.out) _ hle) _ hle) _ hle
    rw [hw3] at hK3 ⊢
    have g0 := hK3.cell 0
    have g1 := hK3.cell 1
    have g2 := hK3.cell 2
    simp at g0 g1 g2
    refine bodyPost_ret (v := .tuple #[.agg #[.slice none 0 0, .int .i64 0, .int .i64 0], .bool false, .int .i64 er]) (by simp [results, Tryd.f31, go_sem, g0, g1, g2]) rfl ?_
    rw [HZ.out]
    exact ⟨_, rfl, Sl.nil_, hB3⟩
end Go.Proofs.YtahlfndlkfoikaaDoor
