/- Walks over coupler: an action in memory; in, step, contact. -/
import Derived.Test.YtnkjhppjjklgfaaDoorRows
import Derived.Test.YtnkjhppjjklgfaaDoorRegion
import Derived.Test.YtnkjhppjjklgfaaDoorKq
import Derived.Deep.RegionHeld3
import Derived.BigQuiet
import Derived.BigGuardPart
import Derived.Deep.CutRange
import Derived.Deep.OwnRows
import Derived.Laws.BitsAllLaws
import Derived.WalkKit
import Derived.WalkSpells
import Derived.WalkLawsBesides
import Derived.StillTactics
import Derived.LoopTactic
import Derived.Deep.LoopGhost
import Derived.Outline
import Derived.Handy
import Derived.Shelf.Abstract
namespace Go.Proofs.YtnkjhppjjklgfaaDoor
open Go Go.RowKit
/-- The cells of a compass, of a coupler, of a contact. -/
def CmpC (_ : World) (cs : List Value) (x : Int × Int) : Prop := cs = [.int .i64 x.1, .int .i64 x.2]
def CplC (_ : World) (cs : List Value) (x : Cou.Cpl) : Prop := cs = [.string x.name, .int .i64 x.from_, .int .i64 x.to, .int .i64 x.shift, .bool x.thru]
abbrev SlD (F : Nat → Prop) (w : World) (v : Value) (l : List (Int × Int)) : Prop := Sl F 2 CmpC w v l
abbrev SlCp (F : Nat → Prop) (w : World) (v : Value) (l : List Cou.Cpl) : Prop := Sl F 5 CplC w v l
theorem SlD.keep {F : Nat → Prop} {w w' : World} {v : Value} {l : List (Int × Int)} (h : SlD F w v l) (ha : Agree F w w') : SlD F w' v l := Sl.keep h ha fun _ _ hr => hr
theorem SlCp.keep {F : Nat → Prop} {w w' : World} {v : Value} {l : List Cou.Cpl} (h : SlCp F w v l) (ha : Agree F w w') : SlCp F w' v l := Sl.keep h ha fun _ _ hr => hr
theorem SlD.open {F : Nat → Prop} {w : World} {v : Value} {l : List (Int × Int)} (h : SlD F w v l) : ∃ A c, v = .slice A l.length c ∧ l.length ≤ c ∧
    ∀ i (hi : i < l.length), ∃ ad, A = some ad ∧ F ad.block ∧ Flds w (ad.add (i * 2)) [.int .i64 l[i].1, .int .i64 l[i].2] := by
  obtain ⟨A, c, hv, hc, _, hi⟩ := h
  refine ⟨A, c, hv, hc, fun i hil => ?_⟩
  obtain ⟨ad, cs, hA, hF, hk, hr, hcell⟩ := hi i hil
  unfold CmpC at hr
  subst hr
  exact ⟨ad, hA, hF, hcell⟩
theorem SlCp.open {F : Nat → Prop} {w : World} {v : Value} {l : List Cou.Cpl} (h : SlCp F w v l) : ∃ A c, v = .slice A l.length c ∧ l.length ≤ c ∧
    ∀ i (hi : i < l.length), ∃ ad, A = some ad ∧ F ad.block ∧ Flds w (ad.add (i * 5)) [.string l[i].name, .int .i64 l[i].from_, .int .i64 l[i].to, .int .i64 l[i].shift, .bool l[i].thru] := by
  obtain ⟨A, c, hv, hc, _, hi⟩ := h
  refine ⟨A, c, hv, hc, fun i hil => ?_⟩
  obtain ⟨ad, cs, hA, hF, hk, hr, hcell⟩ := hi i hil
  unfold CplC at hr
  subst hr
  exact ⟨ad, hA, hF, hcell⟩
/-- An action in memory. -/
structure AcAt (F : Nat → Prop) (w : World) (vd vc : Value) (a : Cou.Ac) : Prop where
  inW : ∀ b, F b → b < w.heap.size
  dv : SlD F w vd a.divs
  cp : SlCp F w vc a.cps
theorem AcAt.on {F : Nat → Prop} {w w' : World} {vd vc : Value} {a : Cou.Ac} (h : AcAt F w vd vc a) (hb : Below w.heap.size w w') : AcAt F w' vd vc a :=
  ⟨fun b q => Nat.lt_of_lt_of_le (h.inW b q) hb.size, h.dv.keep (Agree.below hb h.inW), h.cp.keep (Agree.below hb h.inW)⟩
/-- It lies wherever what lies below B lies. -/
theorem AcAt.onB {F : Nat → Prop} {B : Nat} {w w' : World} {vd vc : Value} {a : Cou.Ac} (h : AcAt F w vd vc a) (hF : ∀ b, F b → b < B) (hb : Below B w w') : AcAt F w' vd vc a :=
  ⟨fun b q => Nat.lt_of_lt_of_le (h.inW b q) hb.size, h.dv.keep (Agree.below hb hF), h.cp.keep (Agree.below hb hF)⟩
theorem in_any (lo hi key : Int) (w : World) : Calls Tryd.prog 59 #[.agg #[.int .i64 lo, .int .i64 hi], .int .i64 key] w fun e w' => e = .returned (.bool (Cou.inB (lo, hi) key)) ∧ Below w.heap.size w w' := by
  by_cases h1 : lo ≤ key
  · have d1 : decide (lo ≤ key) = true := decide_eq_true h1
    by_cases h2 : key ≤ hi
    · have d2 : decide (key ≤ hi) = true := decide_eq_true h2
      have hz : Cou.inB (lo, hi) key = true := by unfold Cou.inB; rw [d1, d2]; rfl
      rw [hz]
      clear hz h1 h2
      go_enter Tryd.func59, Tryd.ntmps59
      go_wp2
      go_ret
      exact ⟨rfl, Ba (B0 w) _⟩
    · have d2 : decide (key ≤ hi) = false := decide_eq_false h2
      have hz : Cou.inB (lo, hi) key = false := by unfold Cou.inB; rw [d2, Bool.and_false]
      rw [hz]
      clear hz h1 h2
      go_enter Tryd.func59, Tryd.ntmps59
      go_wp2
      go_ret
      exact ⟨rfl, Ba (B0 w) _⟩
  · have d1 : decide (lo ≤ key) = false := decide_eq_false h1
    have hz : Cou.inB (lo, hi) key = false := by unfold Cou.inB; rw [d1, Bool.false_and]
    rw [hz]
    clear hz h1
    go_enter Tryd.func59, Tryd.ntmps59
    go_wp2
    go_ret
    exact ⟨rfl, Ba (B0 w) _⟩
/-- What step answers. -/
def stepV : Option Cou.Ct → Value
  | some t => .tuple #[.agg #[.int .i64 t.1, .int .i64 t.2], .bool true]
  | none => .tuple #[.agg #[.int .i64 0, .int .i64 0], .bool false]
set_option maxRecDepth 100000 in
set_option maxHeartbeats 4000000 in
theorem step_any (a : Cou.Ac) (hok : Cou.Ok a) (vd vc : Value) (i : Nat) (hi : i < a.cps.length) (c : Cou.Ct) (hc : -1000 ≤ c.2 ∧ c.2 ≤ 1000) (dr : Int) (w : World) (F : Nat → Prop) (hA : AcAt F w vd vc a) :
    Calls Tryd.prog 40 #[.agg #[vd, vc, .int .u64 dr], .int .i64 i, .agg #[.int .i64 c.1, .int .i64 c.2]] w fun e w' => e = .returned (stepV (Cou.stepF a i c)) ∧ Below w.heap.size w w' := by
  obtain ⟨Ad, cd, rfl, _, had⟩ := hA.dv.open
  obtain ⟨Ac, cc, rfl, _, hac⟩ := hA.cp.open
  obtain ⟨ad, rfl, hf, hfl⟩ := hac i hi
  have hx := hok.cp a.cps[i] (List.getElem_mem hi)
  have hFF := hA.inW
  have hz : Cou.stepF a i c = if a.cps[i].from_ = c.1 ∧ Cou.inB (a.divs.getD a.cps[i].to.toNat (0, -1)) (c.2 + a.cps[i].shift) = true then some (a.cps[i].to, c.2 + a.cps[i].shift) else none := by
    unfold Cou.stepF; rw [List.getElem?_eq_getElem hi]
  obtain ⟨tn, htn, htl⟩ : ∃ tn : Nat, a.cps[i].to = tn ∧ tn < a.divs.length := ⟨a.cps[i].to.toNat, by omega, by omega⟩
  obtain ⟨ad2, rfl, hf2, hfl2⟩ := had tn htl
  rw [show a.divs.getD a.cps[i].to.toNat (0, -1) = a.divs[tn] by rw [htn, Int.toNat_natCast, List.getD_eq_getElem?_getD, List.getElem?_eq_getElem htl]; rfl] at hz
  have HZ := Lib.hid hz
  clear hA had hac hz
  rw [htn] at hfl HZ
  have hsh : -127 ≤ a.cps[i].shift ∧ a.cps[i].shift ≤ 127 := ⟨hx.2.2.2.2.1, hx.2.2.2.2.2⟩
  clear hx htn
  have htlI : (tn : Int) < a.divs.length := by omega
  have hiI : (i : Int) < a.cps.length := by omega
  generalize a.cps[i] = x at *
  obtain ⟨name, frm, to_, sh, th⟩ := x
  generalize a.divs[tn] = y at *
  obtain ⟨lo, hi2⟩ := y
  dsimp only at hfl HZ hsh hfl2
  obtain ⟨c1, c2⟩ := c
  dsimp only at HZ hc ⊢
  have q0 := hfl.f0 rfl
  have q1 := hfl.f1 rfl
  have q2 := hfl.f2 rfl
  have q3 := hfl.f3 rfl
  have q4 := hfl.f4 rfl
  have r0 := hfl2.f0 rfl
  have r1 := hfl2.f1 rfl
  have hfb : (ad.add (i * 5)).block < w.heap.size := by rw [block_of_add]; exact hFF _ hf
  have hfb2 : (ad2.add (tn * 2)).block < w.heap.size := by rw [block_of_add]; exact hFF _ hf2
  generalize a.divs.length = dl at *
  generalize a.cps.length = cl at *
  clear hfl hfl2
  go_enter Tryd.func40, Tryd.ntmps40
  go_upto_region 1 with fail
  obtain ⟨w1, hw1⟩ : ∃ w1 : World, ((w.alloc (.cells #[.slice (some ad2) dl cd, .slice (some ad) cl cc, .int .u64 dr] 34)).alloc (.cells #[.int .i64 c1, .int .i64 c2] 28)).alloc (.cells #[.int .i64 0, .int .i64 0] 28) = w1 := ⟨_, rfl⟩
  have e0 : w1.cell? ⟨w.heap.size, 0, none⟩ = some (.slice (some ad2) dl cd) := by rw [← hw1]; simp [go_sem]
  have e1 : w1.cell? ⟨w.heap.size, 1, none⟩ = some (.slice (some ad) cl cc) := by rw [← hw1]; simp [go_sem]
  have g0 : w1.cell? ⟨w.heap.size + 1, 0, none⟩ = some (.int .i64 c1) := by rw [← hw1]; simp [go_sem]
  have g1 : w1.cell? ⟨w.heap.size + 1, 1, none⟩ = some (.int .i64 c2) := by rw [← hw1]; simp [go_sem]
  have k0 : Blk w1 (w.heap.size + 1 + 1) 28 #[.int .i64 0, .int .i64 0] := by
    have := Blk.new ((w.alloc (.cells #[.slice (some ad2) dl cd, .slice (some ad) cl cc, .int .u64 dr] 34)).alloc (.cells #[.int .i64 c1, .int .i64 c2] 28)) 28 #[.int .i64 0, .int .i64 0]
    rw [hw1] at this
    simpa using this
  have l1 : w.heap.size + 2 < w1.heap.size := by rw [← hw1]; simp
  have hB1 : Below w.heap.size w w1 := by rw [← hw1]; exact Ba (Ba (Ba (B0 w) _) _) _
  replace q0 := (hB1.cell (p := ad.add (i * 5)) hfb).trans q0
  replace q1 := (hB1.cell (p := ⟨(ad.add (i * 5)).block, (ad.add (i * 5)).off + 1, none⟩) hfb).trans q1
  replace q2 := (hB1.cell (p := ⟨(ad.add (i * 5)).block, (ad.add (i * 5)).off + 2, none⟩) hfb).trans q2
  replace q3 := (hB1.cell (p := ⟨(ad.add (i * 5)).block, (ad.add (i * 5)).off + 3, none⟩) hfb).trans q3
  replace q4 := (hB1.cell (p := ⟨(ad.add (i * 5)).block, (ad.add (i * 5)).off + 4, none⟩) hfb).trans q4
  replace r0 := (hB1.cell (p := ad2.add (tn * 2)) hfb2).trans r0
  replace r1 := (hB1.cell (p := ⟨(ad2.add (tn * 2)).block, (ad2.add (tn * 2)).off + 1, none⟩) hfb2).trans r1
  rw [hw1]
  clear hw1
  have HB1 := Lib.hid hB1
  have l2 : w.heap.size + 1 < w1.heap.size := by omega
  have l3 : w.heap.size < w1.heap.size := by omega
  clear hB1
  go_upto_region 3 with fail
  have l4 : (ad.add (i * 5)).block < w1.heap.size := Nat.lt_of_lt_of_le hfb (Nat.le_of_lt l3)
  have l5 : (ad2.add (tn * 2)).block < w1.heap.size := Nat.lt_of_lt_of_le hfb2 (Nat.le_of_lt l3)
  obtain ⟨w2, hw2⟩ : ∃ w2 : World, (w1.alloc (.cells #[.string name, .int .i64 frm, .int .i64 tn, .int .i64 sh, .bool th] 72)).alloc (.cells #[.int .i64 tn, .int .i64 (c2 + sh)] 28) = w2 := ⟨_, rfl⟩
  have hb12 : Below w1.heap.size w1 w2 := by rw [← hw2]; exact Ba (Ba (B0 w1) _) _
  have x1 : w2.cell? ⟨w1.heap.size, 1, none⟩ = some (.int .i64 frm) := by rw [← hw2]; simp [go_sem]
  have x2 : w2.cell? ⟨w1.heap.size, 2, none⟩ = some (.int .i64 tn) := by rw [← hw2]; simp [go_sem]
  have y0 : w2.cell? ⟨w1.heap.size + 1, 0, none⟩ = some (.int .i64 tn) := by rw [← hw2]; simp [go_sem]
  have y1 : w2.cell? ⟨w1.heap.size + 1, 1, none⟩ = some (.int .i64 (c2 + sh)) := by rw [← hw2]; simp [go_sem]
  have l6 : w1.heap.size + 1 < w2.heap.size := by rw [← hw2]; simp
  replace e0 := (Bc hb12 l3).trans e0
  replace g0 := (Bc hb12 l2).trans g0
  replace k0 := k0.below hb12 k0.lt
  replace r0 := (hb12.cell (p := ad2.add (tn * 2)) l5).trans r0
  replace r1 := (hb12.cell (p := ⟨(ad2.add (tn * 2)).block, (ad2.add (tn * 2)).off + 1, none⟩) l5).trans r1
  replace l5 : (ad2.add (tn * 2)).block < w2.heap.size := Nat.lt_of_lt_of_le l5 hb12.size
  have HB2 := Lib.hid (Bt HB1.out hb12)
  rw [hw2]
  have K0 := Lib.hid k0
  obtain ⟨p1, hp1⟩ : ∃ p1, w1.heap.size = p1 := ⟨_, rfl⟩
  obtain ⟨p0, hp0⟩ : ∃ p0, w.heap.size + 1 = p0 := ⟨_, rfl⟩
  rw [hp1] at x1 x2 y0 y1 l6 ⊢
  have l7 : p0 + 1 < w2.heap.size := by omega
  have l8 : w.heap.size < w2.heap.size := by omega
  have l9 : w.heap.size ≤ p0 := by omega
  rw [hp0] at g0 K0 ⊢
  clear hw2 hb12 k0 q0 q1 q2 q3 q4 g1 e1 l2 l3 l4 HB1 hp1 hp0
  by_cases hfc : frm = c1
  · have d1 : (frm != c1) = false := by simp [hfc]
    have hHI := in_any lo hi2 (c2 + sh) w2.drew
    have hZ2 : Cou.inB (lo, hi2) (c2 + sh) = true → Cou.stepF a i (c1, c2) = some ((tn : Int), c2 + sh) := fun h => by rw [HZ.out, if_pos ⟨hfc, h⟩]
    have hZ3 : Cou.inB (lo, hi2) (c2 + sh) = false → Cou.stepF a i (c1, c2) = none := fun h => by rw [HZ.out, if_neg (by rw [h]; simp)]
    have HI := Lib.hid hHI
    clear hHI hfc HZ
    cases hin : Cou.inB (lo, hi2) (c2 + sh) with
    | true =>
      have HZ := Lib.hid (hZ2 hin)
      rw [hin] at HI
      clear hZ2 hZ3 hin
      go_region_held3 (fun w' => Below w2.heap.size w2 w' ∧ w'.cell? ⟨p1, 1, none⟩ = some (.int .i64 frm) ∧ w'.cell? ⟨p0, 0, none⟩ = some (.int .i64 c1) ∧ w'.cell? ⟨w.heap.size, 0, none⟩ = some (.slice (some ad2) dl cd) ∧ w'.cell? ⟨p1, 2, none⟩ = some (.int .i64 tn) ∧ w'.cell? ⟨p1 + 1, 1, none⟩ = some (.int .i64 (c2 + sh)) ∧ w'.cell? (ad2.add (tn * 2)) = some (.int .i64 lo) ∧ w'.cell? ⟨(ad2.add (tn * 2)).block, (ad2.add (tn * 2)).off + 1, none⟩ = some (.int .i64 hi2))
        (first | exact ⟨(B0 _).drew, x1, g0, e0, x2, y1, r0, r1⟩ | exact ⟨hbn, (Bc hbn (Nat.lt_of_succ_lt l6)).trans x1, (Bc hbn (Nat.lt_of_succ_lt l7)).trans g0, (Bc hbn l8).trans e0, (Bc hbn (Nat.lt_of_succ_lt l6)).trans x2, (Bc hbn l6).trans y1, (hbn.cell (p := ad2.add (tn * 2)) l5).trans r0, (hbn.cell (p := ⟨(ad2.add (tn * 2)).block, (ad2.add (tn * 2)).off + 1, none⟩) l5).trans r1⟩)
        ((go_at_call 59; (with_reducible refine (HI.out.mono ?_)); rintro e w3 ⟨rfl, hb3⟩; have hbn := Bt (B0 w2).drew hb3))
      have kk := K0.out.below hbn K0.out.lt
      have f0 := kk.frozen
      have k0 := kk.cell 0
      have k1 := kk.cell 1
      simp at k0 k1
      have z0 := (Bc hbn l6).trans y0
      have z1 := (Bc hbn l6).trans y1
      go_wp2_with fail
      refine bodyPost_ret (v := .tuple #[.agg #[.int .i64 tn, .int .i64 (c2 + sh)], .bool true]) ?_ rfl ⟨by rw [HZ.out]; rfl, Bs (Bs (Bt HB2.out hbn) _ (by simp; omega)) _ (by simp; omega)⟩
      have m0 : ((w3.setCell ⟨p0 + 1, 0, none⟩ (.int .i64 tn)).setCell ⟨p0 + 1, 1, none⟩ (.int .i64 (c2 + sh))).cell? ⟨p0 + 1, 0, none⟩ = some (.int .i64 tn) := by
        have := ((kk.set_ 0 (.int .i64 tn)).set_ 1 (.int .i64 (c2 + sh))).cell 0
        simpa using this
      have m1 : ((w3.setCell ⟨p0 + 1, 0, none⟩ (.int .i64 tn)).setCell ⟨p0 + 1, 1, none⟩ (.int .i64 (c2 + sh))).cell? ⟨p0 + 1, 1, none⟩ = some (.int .i64 (c2 + sh)) := by
        have := ((kk.set_ 0 (.int .i64 tn)).set_ 1 (.int .i64 (c2 + sh))).cell 1
        simpa using this
      clear K0 kk HB2 HI HZ
      simp [results, Tryd.f40, go_sem, m0, m1]
    | false =>
      have HZ := Lib.hid (hZ3 hin)
      rw [hin] at HI
      clear hZ2 hZ3 hin
      go_region_held3 (fun w' => Below w2.heap.size w2 w' ∧ w'.cell? ⟨p1, 1, none⟩ = some (.int .i64 frm) ∧ w'.cell? ⟨p0, 0, none⟩ = some (.int .i64 c1) ∧ w'.cell? ⟨w.heap.size, 0, none⟩ = some (.slice (some ad2) dl cd) ∧ w'.cell? ⟨p1, 2, none⟩ = some (.int .i64 tn) ∧ w'.cell? ⟨p1 + 1, 1, none⟩ = some (.int .i64 (c2 + sh)) ∧ w'.cell? (ad2.add (tn * 2)) = some (.int .i64 lo) ∧ w'.cell? ⟨(ad2.add (tn * 2)).block, (ad2.add (tn * 2)).off + 1, none⟩ = some (.int .i64 hi2))
        (first | exact ⟨(B0 _).drew, x1, g0, e0, x2, y1, r0, r1⟩ | exact ⟨hbn, (Bc hbn (Nat.lt_of_succ_lt l6)).trans x1, (Bc hbn (Nat.lt_of_succ_lt l7)).trans g0, (Bc hbn l8).trans e0, (Bc hbn (Nat.lt_of_succ_lt l6)).trans x2, (Bc hbn l6).trans y1, (hbn.cell (p := ad2.add (tn * 2)) l5).trans r0, (hbn.cell (p := ⟨(ad2.add (tn * 2)).block, (ad2.add (tn * 2)).off + 1, none⟩) l5).trans r1⟩)
        ((go_at_call 59; (with_reducible refine (HI.out.mono ?_)); rintro e w3 ⟨rfl, hb3⟩; have hbn := Bt (B0 w2).drew hb3))
      have kk := K0.out.below hbn K0.out.lt
      have f0 := kk.frozen
      have k0 := kk.cell 0
      have k1 := kk.cell 1
      simp at k0 k1
      go_wp2_with fail
      refine bodyPost_ret (v := .tuple #[.agg #[.int .i64 0, .int .i64 0], .bool false]) ?_ rfl ⟨by rw [HZ.out]; rfl, Bs (Bs (Bt HB2.out hbn) _ (by simp; omega)) _ (by simp; omega)⟩
      have m0 : ((w3.setCell ⟨p0 + 1, 0, none⟩ (.int .i64 0)).setCell ⟨p0 + 1, 1, none⟩ (.int .i64 0)).cell? ⟨p0 + 1, 0, none⟩ = some (.int .i64 0) := by
        have := ((kk.set_ 0 (.int .i64 0)).set_ 1 (.int .i64 0)).cell 0
        simpa using this
      have m1 : ((w3.setCell ⟨p0 + 1, 0, none⟩ (.int .i64 0)).setCell ⟨p0 + 1, 1, none⟩ (.int .i64 0)).cell? ⟨p0 + 1, 1, none⟩ = some (.int .i64 0) := by
        have := ((kk.set_ 0 (.int .i64 0)).set_ 1 (.int .i64 0)).cell 1
        simpa using this
      clear K0 kk HB2 HI HZ
      simp [results, Tryd.f40, go_sem, m0, m1]
  · have d1 : (frm != c1) = true := by simpa using hfc
    have hz : Cou.stepF a i (c1, c2) = none := by rw [HZ.out, if_neg (fun h => hfc h.1)]
    have HZ2 := Lib.hid hz
    clear hfc HZ hz
    go_region
    all_goals
      have kk := K0.out
      have f0 := kk.frozen
      have k0 := kk.cell 0
      have k1 := kk.cell 1
      simp at k0 k1
      go_wp2_with fail
      refine bodyPost_ret (v := .tuple #[.agg #[.int .i64 0, .int .i64 0], .bool false]) ?_ rfl ⟨by rw [HZ2.out]; rfl, Bs (Bs HB2.out.drew _ (by simp; omega)) _ (by simp; omega)⟩
      have m0 : (w2.setCell ⟨p0 + 1, 0, none⟩ (.int .i64 0)).cell? ⟨p0 + 1, 0, none⟩ = some (.int .i64 0) := by
        have := (kk.set_ 0 (.int .i64 0)).cell 0
        simpa using this
      have m1 : ((w2.setCell ⟨p0 + 1, 0, none⟩ (.int .i64 0)).setCell ⟨p0 + 1, 1, none⟩ (.int .i64 0)).cell? ⟨p0 + 1, 1, none⟩ = some (.int .i64 0) := by
        have := ((kk.set_ 0 (.int .i64 0)).set_ 1 (.int .i64 0)).cell 1
        simpa using this
      clear K0 kk HB2 HZ2
      simp [results, Tryd.f40, go_sem, m0, m1]
end Go.Proofs.YtnkjhppjjklgfaaDoor
