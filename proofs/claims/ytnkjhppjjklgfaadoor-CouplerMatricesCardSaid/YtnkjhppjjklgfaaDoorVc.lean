/- Walks over coupler: contacts as a row of its own; Back. -/
import Derived.Test.YtnkjhppjjklgfaaDoorVb
import Derived.Test.YtnkjhppjjklgfaaDoorKm
namespace Go.Proofs.YtnkjhppjjklgfaaDoor
open Go Go.RowKit Go.Shelf
set_option maxRecDepth 100000 in
set_option maxHeartbeats 2000000 in
theorem contacts_own (a : Cou.Ac) (hok : Cou.Ok a) (vd vc : Value) (w : World) (F : Nat → Prop) (hA : AcAt F w vd vc a) :
    Calls Tryd.prog 41 #[.agg #[vd, vc, .int .u64 a.drawn]] w fun e w' => ∃ v, e = .returned v ∧ OwnL w.heap.size 28 2 CtC w' v (Cou.ctsF 0 a.divs) ∧ Below w.heap.size w w' := by
  obtain ⟨Ad, cd, rfl, hd1, hdat⟩ := id hA.dv.open
  have hF := hA.inW
  have hdv := hok.div
  have hlen : (Cou.ctsF 0 a.divs).length ≤ 1024 := by
    have := Cou.ctsF_len (d := 0) hdv
    have := hok.nd
    omega
  clear hA
  go_enter Tryd.func41, Tryd.ntmps41
  go_wp2_with fail
  obtain ⟨w1, hw1⟩ : ∃ w1 : World, w.alloc (.cells #[.slice Ad a.divs.length cd, vc, .int .u64 a.drawn] 34) = w1 := ⟨_, rfl⟩
  have B1 : Below w.heap.size w w1 := by rw [← hw1]; exact Ba (B0 w) _
  rw [hw1]
  clear hw1
  have HB1 := Lib.hid B1
  clear B1
  have hnd := hok.nd
  go_loopg [3, 10] a.divs.length (fun gg s3 s10 wr => ∃ (k : Nat) (out : List Cou.Ct), k ≤ a.divs.length ∧ a.divs.length - k ≤ gg ∧ s10 = .int .i64 k ∧ Aside (OwnL w.heap.size 28 2 CtC wr s3 out) ∧ Aside (out ++ Cou.ctsF k (a.divs.drop k) = Cou.ctsF 0 a.divs) ∧ Aside (Below w.heap.size w wr))
  case atStart => exact ⟨0, [], by omega, by omega, rfl, OwnL.nil, by rw [List.drop_zero]; rfl, HB1.out⟩
  case round =>
    obtain ⟨k, out, hk, hg, rfl, HO, HE, HB⟩ := hrel
    by_cases hlt : k < a.divs.length
    · have hki : decide ((k : Int) < a.divs.length) = true := decide_eq_true (by omega)
      have hkl : (k : Int) < a.divs.length := by omega
      obtain ⟨ad, rfl, hfb, hfl⟩ := hdat k hlt
      have hfb2 : (ad.add (k * 2)).block < w.heap.size := by rw [block_of_add]; exact hF _ hfb
      have hfl2 := hfl.below HB hfb2
      have f0 := hfl2.f0 rfl
      have f1 := hfl2.f1 rfl
      have hdk := hdv a.divs[k] (List.getElem_mem hlt)
      have hE2 : out ++ (Cou.keysF k a.divs[k].1 (a.divs[k].2 + 1 - a.divs[k].1).toNat ++ Cou.ctsF (k + 1) (a.divs.drop (k + 1))) = Cou.ctsF 0 a.divs := by
        rw [← HE, List.drop_eq_getElem_cons hlt, Cou.ctsF]
      generalize a.divs[k] = x at *
      obtain ⟨lo, hi⟩ := x
      dsimp only at f0 f1 hdk hE2
      have HEx := Lib.hid hE2
      have HOx := Lib.hid HO
      have HBx := Lib.hid HB
      clear HE HO HB hE2 hfl hfl2 HB1
      go_wp2_with fail
      obtain ⟨bx, hbx⟩ : ∃ bx, wr.heap.size = bx := ⟨_, rfl⟩
      obtain ⟨w2, hw2⟩ : ∃ w2 : World, wr.alloc (.cells #[.int .i64 lo, .int .i64 hi] 58) = w2 := ⟨_, rfl⟩
      have hBb : Blk w2 bx 58 #[.int .i64 lo, .int .i64 hi] := by rw [← hw2, ← hbx]; exact Blk.new _ _ _
      have hOb : OwnL w.heap.size 28 2 CtC w2 u3 out := by rw [← hw2]; exact HOx.out.alloc _ fun _ _ h => h
      have hWb : Below w.heap.size w w2 := by rw [← hw2]; exact Ba HBx.out _
      rw [hw2, hbx]
      obtain ⟨n, hn⟩ : ∃ n, (hi + 1 - lo).toNat = n := ⟨_, rfl⟩
      rw [hn] at HEx
      have hn1 : lo + (n : Int) = hi + 1 := by omega
      have hn2 : n ≤ 128 := by omega
      clear hw2 hbx HOx HBx hn f0 f1
      have HBb := Lib.hid hBb
      have HOb := Lib.hid hOb
      have HWb := Lib.hid hWb
      clear hBb hOb hWb
      go_loopg [3, 6] n (fun gg s3 s6 wr2 => ∃ (j : Nat) (out2 : List Cou.Ct), j ≤ n ∧ n - j ≤ gg ∧ s6 = .int .i64 (lo + j) ∧ Aside (OwnL w.heap.size 28 2 CtC wr2 s3 out2) ∧ Aside (out2 ++ (Cou.keysF k (lo + j) (n - j) ++ Cou.ctsF (k + 1) (a.divs.drop (k + 1))) = Cou.ctsF 0 a.divs) ∧ Aside (Blk wr2 bx 58 #[.int .i64 lo, .int .i64 hi]) ∧ Aside (Below w.heap.size w wr2))
      case atStart => exact ⟨0, out, by omega, by omega, by simp, HOb.out, (show Aside _ from by show _ = _; simpa using HEx.out), HBb.out, HWb.out⟩
      case round =>
        clear HOb HEx HBb HWb
        obtain ⟨j, out2, hj, hg2, rfl, HO2, HE2, HB2, HW2⟩ := hrel
        have b1 := HB2.cell 1
        simp only [List.getElem?_toArray, List.getElem?_cons_zero, List.getElem?_cons_succ] at b1
        by_cases hjl : j < n
        · have hkj : decide (lo + (j : Int) ≤ hi) = true := decide_eq_true (by omega)
          obtain ⟨cs, q1, q2, q3⟩ := id HO2
          have hol : out2.length ≤ 1024 := by
            have := congrArg List.length HE2
            simp only [List.length_append] at this
            omega
          have he3 : (out2 ++ [((k : Int), lo + (j : Int))]) ++ (Cou.keysF k (lo + (j + 1 : Nat)) (n - (j + 1)) ++ Cou.ctsF (k + 1) (a.divs.drop (k + 1))) = Cou.ctsF 0 a.divs := by
            rw [← HE2, show n - j = (n - (j + 1)) + 1 by omega, Cou.keysF, show lo + ((j + 1 : Nat) : Int) = lo + j + 1 by omega]
            simp
          have hbs := HW2.size
          have H3 := Lib.hid he3
          have HB3 := Lib.hid HB2
          have HW3 := Lib.hid HW2
          have HQ1 := Lib.hid q1
          have HQ2 := Lib.hid q2
          have HQ3 := Lib.hid q3
          have HL3 := Lib.hid HO2.lt
          clear HE2 HB2 HW2 HO2 q1 q2 q3 he3
          go_wp2_with (at_builtin; refine wpList_appS elemCt (by omega) rfl _ _ rfl w.heap.size _ out2.length _ rfl (HQ3.out.alloc _) ⟨wr.heap.size, 0, none⟩ 1 [.int .i64 (k : Int), .int .i64 (lo + (j : Int))] rfl rfl (Flds.new wr _ _) (by simp [Value.oneCell']) (by omega) (by omega) (by simp; omega) ?_; intro g cap w8 hown8 hg8 hgg; have HO8 := Lib.hid hown8; have HG8 := Lib.hid hg8; clear hown8 hg8 hgg)
          go_roundg (n - (j + 1))
          case measure => omega
          case rel =>
            refine ⟨j + 1, out2 ++ [((k : Int), lo + (j : Int))], by omega, by omega, by go_num, OwnL.snoc HQ1.out HQ2.out rfl rfl (fun _ _ h => h) HO8.out, H3.out, ((HB3.out.alloc _).grown HG8.out fun e => ?_), (Ba HW3.out _).grown HG8.out (by simp; omega) fun b e => (HL3.out b e).1⟩
            exact own_ne HQ3.out HB3.out (by decide) e.symm
        · have hkj : decide (lo + (j : Int) ≤ hi) = false := decide_eq_false (by omega)
          have hjn : j = n := by omega
          subst hjn
          have he3 : out2 ++ Cou.ctsF (k + 1) (a.divs.drop (k + 1)) = Cou.ctsF 0 a.divs := by rw [← HE2, Nat.sub_self]; simp [Cou.keysF]
          have H3 := Lib.hid he3
          have HO3 := Lib.hid HO2
          have HW3 := Lib.hid HW2
          clear HE2 HB2 HW2 HO2 he3
          go_wp2_with fail
          go_roundg (a.divs.length - (k + 1))
          case measure => omega
          case rel => exact ⟨k + 1, out2, by omega, by omega, by go_num, HO3.out, H3.out, HW3.out⟩
    · have hki : decide ((k : Int) < a.divs.length) = false := decide_eq_false (by omega)
      have hkk : k = a.divs.length := by omega
      subst hkk
      have he : out = Cou.ctsF 0 a.divs := by rw [← HE, List.drop_length]; simp [Cou.ctsF]
      subst he
      have HOx := Lib.hid HO
      have HBx := Lib.hid HB
      clear HE HO HB hdat HB1
      go_wp2_with fail
      go_ret
      exact ⟨_, rfl, HOx.out, HBx.out⟩
theorem SlCt.bnd2 {F : Nat → Prop} {w : World} {v : Value} {l : List Cou.Ct} (h : SlCt F w v l) : SlCt (fun b => b < w.heap.size) w v l := by
  obtain ⟨A, c, hv, hc, hl, hat⟩ := h
  refine ⟨A, c, hv, hc, hl, fun i hi => ?_⟩
  obtain ⟨ad, cs, e, hf, hk, hr, hfl⟩ := hat i hi
  refine ⟨ad, cs, e, ?_, hk, hr, hfl⟩
  have := World.block_lt_of_cell? _ _ (hfl 0 (cs[0]'(by omega)) (List.getElem?_eq_getElem _))
  rwa [block_of_add, block_of_add] at this
namespace Cou
/-- Does a contact come back? -/
noncomputable def comesB (a : Ac) (c : Ct) : Bool := @decide (Hop a [c] c) (Classical.propDecidable _)
theorem comesB_iff {a : Ac} {c : Ct} : comesB a c = true ↔ Hop a [c] c := by unfold comesB; exact @decide_eq_true_iff _ (Classical.propDecidable _)
end Cou
/-- An action's box in memory, as whatever leaves a row alone keeps it. -/
structure ActB (w : World) (B : Nat) (F : Nat → Prop) (vd vc : Value) (a : Cou.Ac) : Prop where
  blk : Blk w B 34 #[vd, vc, .int .u64 a.drawn]
  act : AcAt F w vd vc a
  tab : Tab64 w
theorem ActB.grown {w w' : World} {B : Nat} {F : Nat → Prop} {vd vc : Value} {a : Cou.Ac} (h : ActB w B F vd vc a) {row : Option Nat} (hg : w.grownBy w' row) (h1 : some B ≠ row) (h2 : ∀ b, F b → some b ≠ row) (h3 : some 0 ≠ row) (hgl : 0 < w.heap.size) : ActB w' B F vd vc a :=
  ⟨h.blk.grown hg h1, ⟨fun b hb => Nat.lt_of_lt_of_le (h.act.inW b hb) hg.size, h.act.dv.keep (Agree.grown hg fun b hb => ⟨h.act.inW b hb, h2 b hb⟩), h.act.cp.keep (Agree.grown hg fun b hb => ⟨h.act.inW b hb, h2 b hb⟩)⟩, fun i hi => (World.cell?_of_block (hg.block _ hgl h3)).trans (h.tab i hi)⟩
set_option maxRecDepth 100000 in
set_option maxHeartbeats 2000000 in
theorem back1_any (a : Cou.Ac) (hok : Cou.Ok a) (vd vc : Value) (_hdr : a.drawn < 2 ^ 64) (c : Cou.Ct) (hc : CtS c) (B : Nat) (w : World) (F : Nat → Prop) (hA : ActB w B F vd vc a) (hg : 0 < w.heap.size) :
    Calls Tryd.prog 43 (#[ctV c] ++ #[.pointer (some ⟨B, 0, none⟩)]) w fun e w' => e = .returned (.bool (!Cou.comesB a c)) ∧ Below w.heap.size w w' := by
  obtain ⟨c1, c2⟩ := c
  have hFF := hA.act.inW
  have HRE := Lib.hid (fun W (hb : Below w.heap.size w W) pv (hP : SlCt (fun b => b < W.heap.size) W pv [(c1, c2)]) => reach_any a hok vd vc pv [(c1, c2)] (fun p hp => by simp only [List.mem_singleton] at hp; subst hp; exact hc) W (fun b => b < W.heap.size) ⟨fun b h => h, (hA.act.onB hFF hb).dv.mono (hA.act.onB hFF hb).inW, (hA.act.onB hFF hb).cp.mono (hA.act.onB hFF hb).inW⟩ hP (hA.tab.below hb) (fun b h => h) (Nat.lt_of_lt_of_le hg hb.size))
  have HX := Lib.hid (fun W (hb : Below w.heap.size w W) => (show W.cell? ⟨B, 0, none⟩ = some vd ∧ W.cell? ⟨B, 1, none⟩ = some vc ∧ W.cell? ⟨B, 2, none⟩ = some (.int .u64 a.drawn) from
    ⟨(Bc hb hA.blk.lt).trans (hA.blk.cell 0), (Bc hb hA.blk.lt).trans (hA.blk.cell 1), (Bc hb hA.blk.lt).trans (hA.blk.cell 2)⟩))
  obtain ⟨Ad, cd, rfl, _, _⟩ := id hA.act.dv.open
  obtain ⟨Ac, cc, rfl, _, _⟩ := id hA.act.cp.open
  obtain ⟨w1, hw1⟩ : ∃ w1 : World, w.alloc (.cells #[.int .i64 c1, .int .i64 c2] 28) = w1 := ⟨_, rfl⟩
  obtain ⟨bx, hbx⟩ : ∃ bx, w.heap.size = bx := ⟨_, rfl⟩
  have C1 : Blk w1 bx 28 #[.int .i64 c1, .int .i64 c2] := by rw [← hw1, ← hbx]; exact Blk.new _ _ _
  have B1 : Below w.heap.size w w1 := by rw [← hw1]; exact Ba (B0 w) _
  have HY := Lib.hid (fun W (hb : Below w1.heap.size w1 W) => (show W.cell? ⟨bx, 0, none⟩ = some (.int .i64 c1) ∧ W.cell? ⟨bx, 1, none⟩ = some (.int .i64 c2) from ⟨(Bc hb C1.lt).trans (C1.cell 0), (Bc hb C1.lt).trans (C1.cell 1)⟩))
  have HCN := Lib.hid (fun (v : Value) (l : List Cou.Ct) W (hS : SlCt (fun b => b < W.heap.size) W v l) => contains_ct v l (c1, c2) W _ (fun _ h => h) hS)
  have HB1 := Lib.hid B1
  have HW1 := Lib.hid hw1
  have HBX := Lib.hid hbx
  clear hA C1 B1 hw1 hbx
  have hone : ∀ W : World, SlCt (fun b => b < (W.alloc (.cells #[.int .i64 c1, .int .i64 c2] 28)).drew.heap.size) (W.alloc (.cells #[.int .i64 c1, .int .i64 c2] 28)).drew (.slice (some ⟨W.heap.size, 0, none⟩) 1 1) [(c1, c2)] := fun W => by
    refine ⟨some ⟨W.heap.size, 0, none⟩, 1, rfl, by simp, by simp, fun i hi => ?_⟩
    have hi0 : i = 0 := by simpa using hi
    subst hi0
    exact ⟨⟨W.heap.size, 0, none⟩, [.int .i64 c1, .int .i64 c2], rfl, by simp, rfl, rfl, by simpa [Addr.add] using (show Flds (W.alloc (.cells #[.int .i64 c1, .int .i64 c2] 28)).drew ⟨W.heap.size, 0, none⟩ [.int .i64 c1, .int .i64 c2] from Flds.new W [.int .i64 c1, .int .i64 c2] 28)⟩
  have hba : Below w1.heap.size w1 (w1.alloc (.cells #[.int .i64 c1, .int .i64 c2] 28)).drew := (Ba (B0 w1) _).drew
  have HR1 := Lib.hid (HRE.out _ (Bt HB1.out hba) _ (hone w1))
  obtain ⟨x0, x1, x2⟩ := HX.out w1 HB1.out
  obtain ⟨y0, y1⟩ := HY.out w1 (B0 w1)
  clear hone
  show Calls _ _ #[.agg #[.int .i64 c1, .int .i64 c2], .pointer (some ⟨B, 0, none⟩)] _ _
  go_enter Tryd.func43, Tryd.ntmps43
  go_upto_region 1 with fail
  rw [HW1.out, HBX.out]
  go_region_held3 (fun w' => Below w1.heap.size w1 w' ∧ (w'.cell? ⟨B, 0, none⟩ = some (.slice Ad a.divs.length cd) ∧ w'.cell? ⟨B, 1, none⟩ = some (.slice Ac a.cps.length cc) ∧ w'.cell? ⟨B, 2, none⟩ = some (.int .u64 a.drawn)) ∧ w'.cell? ⟨bx, 0, none⟩ = some (.int .i64 c1) ∧ w'.cell? ⟨bx, 1, none⟩ = some (.int .i64 c2))
    (first | exact ⟨(B0 w1).drew, HX.out _ HB1.out.drew, HY.out _ (B0 w1).drew⟩ | exact ⟨hba, HX.out _ (Bt HB1.out hba), HY.out _ hba⟩ | exact ⟨hbn, HX.out _ (Bt HB1.out hbn), HY.out _ hbn⟩)
    (first
      | (go_at_call 38; (with_reducible refine (HR1.out.mono ?_)); rintro e w3 ⟨v3, l3, rfl, hs3, _, hm3, hb3⟩; have hbn := Bt hba hb3; have HS3 := Lib.hid (SlCt.bnd2 hs3); have HM3 := Lib.hid hm3; clear hs3 hm3)
      | (go_at_call 44; (with_reducible refine ((HCN.out v3 l3 _ HS3.out).mono ?_)); rintro e w4 ⟨rfl, hb4⟩; have hbn := Bt hbn hb4))
  have hd : decide ((c1, c2) ∈ l3) = Cou.comesB a (c1, c2) := Bool.eq_iff_iff.2 (by rw [decide_eq_true_eq, Cou.comesB_iff]; exact HM3.out _)
  have HD := Lib.hid hd
  clear x0 x1 x2 y0 y1 hd
  generalize decide ((c1, c2) ∈ l3) = bb at *
  go_wp2_with fail
  go_ret
  exact ⟨by rw [← HD.out]; rfl, Bt HB1.out hbn⟩
end Go.Proofs.YtnkjhppjjklgfaaDoor
