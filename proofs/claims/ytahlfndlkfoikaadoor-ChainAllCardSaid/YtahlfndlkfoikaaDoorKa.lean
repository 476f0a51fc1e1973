/- Walks over coupler: an action in memory; in, step, contact. Walks over coupler: TrailingZeros64; the iterator over the drawn couplers. Walks over coupler: the map of seen contacts; a row of contacts; an append within a round. -/
import Derived.Test.YtahlfndlkfoikaaDoorRows
import Derived.Test.YtahlfndlkfoikaaDoorRegion
import Derived.Test.YtahlfndlkfoikaaDoorKp
import Derived.Deep.RegionHeld3
import Derived.BigQuiet
import Derived.BigGuardPart
import Derived.Deep.CutRange
import Derived.Deep.OwnRows
import Derived.Laws.BitsAllLaws
import Derived.WalkKit
import Derived.WalkSpells
import Derived.WalkLawsBesides
import Derived.StillTactics
import Derived.LoopTactic
import Derived.Deep.LoopGhost
import Derived.Outline
import Derived.Handy
import Derived.Shelf.Abstract
import Derived.Test.YtahlfndlkfoikaaDoorCovP
import Derived.Shelf.Spec.TrailingZeros
import Derived.RangeFuncWrites
import Derived.RangeFuncCalls
import Derived.RangeFuncLeaves
import Derived.OwnWalkIn
import Derived.TacticsInMore
import Derived.LoopNIn
import Derived.LoopIn
import Derived.Maps.OwnIn
import Derived.DeepKeys3
import Derived.Maps.AppendAt
namespace Go.Proofs.YtahlfndlkfoikaaDoor
open Go Go.RowKit
/-- The cells of a compass, of a coupler, of a contact. -/
def CmpC (_ : World) (cs : List Value) (x : Int × Int) : Prop := cs = [.int .i64 x.1, .int .i64 x.2]
def CplC (_ : World) (cs : List Value) (x : Cou.Cpl) : Prop := cs = [.string x.name, .int .i64 x.from_, .int .i64 x.to, .int .i64 x.shift, .bool x.thru]
abbrev SlD (F : Nat → Prop) (w : World) (v : Value) (l : List (Int × Int)) : Prop := Sl F 2 CmpC w v l
abbrev SlCp (F : Nat → Prop) (w : World) (v : Value) (l : List Cou.Cpl) : Prop := Sl F 5 CplC w v l
theorem SlD.keep {F : Nat → Prop} {w w' : World} {v : Value} {l : List (Int × Int)} (h : SlD F w v l) (ha : Agree F w w') : SlD F w' v l := Sl.keep h ha fun _ _ hr => hr
theorem SlCp.keep {F : Nat → Prop} {w w' : World} {v : Value} {l : List Cou.Cpl} (h : SlCp F w v l) (ha : Agree F w w') : SlCp F w' v l := Sl.keep h ha fun _ _ hr => hr
theorem SlD.open {F : Nat → Prop} {w : World} {v : Value} {l : List (Int × Int)} (h : SlD F w v l) : ∃ A c, v = .slice A l.length c ∧ l.length ≤ c ∧
    ∀ i (hi : i < l.length), ∃ ad, A = some ad ∧ F ad.block ∧ Flds w (ad.add (i * 2)) [.int .i64 l[i].1, .int .i64 l[i].2] := by
  obtain ⟨A, c, hv, hc, _, hi⟩ := h
  refine ⟨A, c, hv, hc, fun i hil => ?_⟩
  obtain ⟨ad, cs, hA, hF, hk, hr, hcell⟩ := hi i hil
  unfold CmpC at hr
  subst hr
  exact ⟨ad, hA, hF, hcell⟩
theorem SlCp.open {F : Nat → Prop} {w : World} {v : Value} {l : List Cou.Cpl} (h : SlCp F w v l) : ∃ A c, v = .slice A l.length c ∧ l.length ≤ c ∧
    ∀ i (hi : i < l.length), ∃ ad, A = some ad ∧ F ad.block ∧ Flds w (ad.add (i * 5)) [.string l[i].name, .int .i64 l[i].from_, .int .i64 l[i].to, .int .i64 l[i].shift, .bool l[i].thru] := by
  obtain ⟨A, c, hv, hc, _, hi⟩ := h
  refine ⟨A, c, hv, hc, fun i hil => ?_⟩
  obtain ⟨ad, cs, hA, hF, hk, hr, hcell⟩ := hi i hil
  unfold CplC at hr
  subst hr
  exact ⟨ad, hA, hF, hcell⟩
/-- An action in memory. -/
structure AcAt (F : Nat → Prop) (w : World) (vd vc : Value) (a : Cou.Ac) : Prop where
  inW : ∀ b, F b → b < w.heap.size
  dv : SlD F w vd a.divs
  cp : SlCp F w vc a.cps
theorem AcAt.on {F : Nat → Prop} {w w' : World} {vd vc : Value} {a : Cou.Ac} (h : AcAt F w vd vc a) (hb : Below w.heap.size w w') : AcAt F w' vd vc a :=
  ⟨fun b q => Nat.lt_of_lt_of_le (h.inW b q) hb.size, h.dv.keep (Agree.below hb h.inW), h.cp.keep (Agree.below hb h.inW)⟩
/-- It lies wherever what lies below B lies. -/
theorem AcAt.onB {F : Nat → Prop} {B : Nat} {w w' : World} {vd vc : Value} {a : Cou.Ac} (h : AcAt F w vd vc a) (hF : ∀ b, F b → b < B) (hb : Below B w w') : AcAt F w' vd vc a :=
  ⟨fun b q => Nat.lt_of_lt_of_le (h.inW b q) hb.size, h.dv.keep (Agree.below hb hF), h.cp.keep (Agree.below hb hF)⟩
theorem in_any (lo hi key : Int) (w : World) : Calls Tryd.prog 64 #[.agg #[.int .i64 lo, .int .i64 hi], .int .i64 key] w fun e w' => e = .returned (.bool (Cou.inB (lo, hi) key)) ∧ Below w.heap.size w w' := by
  by_cases h1 : lo ≤ key
  · have d1 : decide (lo ≤ key) = true := decide_eq_true h1
    by_cases h2 : key ≤ hi
    · have d2 : decide (key ≤ hi) = true := decide_eq_true h2
      have hz : Cou.inB (lo, hi) key = true := by unfold Cou.inB; rw [d1, d2]; rfl
      rw [hz]
      clear hz h1 h2
      go_enter Tryd.func64, Tryd.ntmps64
      go_wp2
      go_ret
      exact ⟨rfl, Ba (B0 w) _⟩
    · have d2 : decide (key ≤ hi) = false := decide_eq_false h2
      have hz : Cou.inB (lo, hi) key = false := by unfold Cou.inB; rw [d2, Bool.and_false]
      rw [hz]
      clear hz h1 h2
      go_enter Tryd.func64, Tryd.ntmps64
      go_wp2
      go_ret
      exact ⟨rfl, Ba (B0 w) _⟩
  · have d1 : decide (lo ≤ key) = false := decide_eq_false h1
    have hz : Cou.inB (lo, hi) key = false := by unfold Cou.inB; rw [d1, Bool.false_and]
    rw [hz]
    clear hz h1
    go_enter Tryd.func64, Tryd.ntmps64
    go_wp2
    go_ret
    exact ⟨rfl, Ba (B0 w) _⟩
/-- What step answers. -/
def stepV : Option Cou.Ct → Value
  | some t => .tuple #[.agg #[.int .i64 t.1, .int .i64 t.2], .bool true]
  | none => .tuple #[.agg #[.int .i64 0, .int .i64 0], .bool false]
set_option maxRecDepth 100000 in
set_option maxHeartbeats 4000000 in
theorem step_any (a : Cou.Ac) (hok : Cou.Ok a) (vd vc : Value) (i : Nat) (hi : i < a.cps.length) (c : Cou.Ct) (hc : -1000 ≤ c.2 ∧ c.2 ≤ 1000) (dr : Int) (w : World) (F : Nat → Prop) (hA : AcAt F w vd vc a) :
    Calls Tryd.prog 67 #[.agg #[vd, vc, .int .u64 dr], .int .i64 i, .agg #[.int .i64 c.1, .int .i64 c.2]] w fun e w' => e = .returned (stepV (Cou.stepF a i c)) ∧ Below w.heap.size w w' := by
  obtain ⟨Ad, cd, rfl, _, had⟩ := hA.dv.open
  obtain ⟨Ac, cc, rfl, _, hac⟩ := hA.cp.open
  obtain ⟨ad, rfl, hf, hfl⟩ := hac i hi
  have hx := hok.cp a.cps[i] (List.getElem_mem hi)
  have hFF := hA.inW
  have hz : Cou.stepF a i c = if a.cps[i].from_ = c.1 ∧ Cou.inB (a.divs.getD a.cps[i].to.toNat (0, -1)) (c.2 + a.cps[i].shift) = true then some (a.cps[i].to, c.2 + a.cps[i].shift) else none := by
    unfold Cou.stepF; rw [List.getElem?_eq_getElem hi]
  obtain ⟨tn, htn, htl⟩ : ∃ tn : Nat, a.cps[i].to = tn ∧ tn < a.divs.length := ⟨a.cps[i].to.toNat, by omega, by omega⟩
  obtain ⟨ad2, rfl, hf2, hfl2⟩ := had tn htl
  rw [show a.divs.getD a.cps[i].to.toNat (0, -1) = a.divs[tn] by rw [htn, Int.toNat_natCast, List.getD_eq_getElem?_getD, List.getElem?_eq_getElem htl]; rfl] at hz
  have HZ := Lib.hid hz
  clear hA had hac hz
  rw [htn] at hfl HZ
  have hsh : -127 ≤ a.cps[i].shift ∧ a.cps[i].shift ≤ 127 := ⟨hx.2.2.2.2.1, hx.2.2.2.2.2⟩
  clear hx htn
  have htlI : (tn : Int) < a.divs.length := by omega
  have hiI : (i : Int) < a.cps.length := by omega
  generalize a.cps[i] = x at *
  obtain ⟨name, frm, to_, sh, th⟩ := x
  generalize a.divs[tn] = y at *
  obtain ⟨lo, hi2⟩ := y
  dsimp only at hfl HZ hsh hfl2
  obtain ⟨c1, c2⟩ := c
  dsimp only at HZ hc ⊢
  have q0 := hfl.f0 rfl
  have q1 := hfl.f1 rfl
  have q2 := hfl.f2 rfl
  have q3 := hfl.f3 rfl
  have q4 := hfl.f4 rfl
  have r0 := hfl2.f0 rfl
  have r1 := hfl2.f1 rfl
  have hfb : (ad.add (i * 5)).block < w.heap.size := by rw [block_of_add]; exact hFF _ hf
  have hfb2 : (ad2.add (tn * 2)).block < w.heap.size := by rw [block_of_add]; exact hFF _ hf2
  generalize a.divs.length = dl at *
  generalize a.cps.length = cl at *
  clear hfl hfl2
  go_enter Tryd.func67, Tryd.ntmps67
  go_upto_region 1 with fail
  obtain ⟨w1, hw1⟩ : ∃ w1 : World, ((w.alloc (.cells #[.slice (some ad2) dl cd, .slice (some ad) cl cc, .int .u64 dr] 33)).alloc (.cells #[.int .i64 c1, .int .i64 c2] 36)).alloc (.cells #[.int .i64 0, .int .i64 0] 36) = w1 := ⟨_, rfl⟩
  have e0 : w1.cell? ⟨w.heap.size, 0, none⟩ = some (.slice (some ad2) dl cd) := by rw [← hw1]; simp [go_sem]
  have e1 : w1.cell? ⟨w.heap.size, 1, none⟩ = some (.slice (some ad) cl cc) := by rw [← hw1]; simp [go_sem]
  have g0 : w1.cell? ⟨w.heap.size + 1, 0, none⟩ = some (.int .i64 c1) := by rw [← hw1]; simp [go_sem]
  have g1 : w1.cell? ⟨w.heap.size + 1, 1, none⟩ = some (.int .i64 c2) := by rw [← hw1]; simp [go_sem]
  have k0 : Blk w1 (w.heap.size + 1 + 1) 36 #[.int .i64 0, .int .i64 0] := by
    have := Blk.new ((w.alloc (.cells #[.slice (some ad2) dl cd, .slice (some ad) cl cc, .int .u64 dr] 33)).alloc (.cells #[.int .i64 c1, .int .i64 c2] 36)) 36 #[.int .i64 0, .int .i64 0]
    rw [hw1] at this
    simpa using this
  have l1 : w.heap.size + 2 < w1.heap.size := by rw [← hw1]; simp
  have hB1 : Below w.heap.size w w1 := by rw [← hw1]; exact Ba (Ba (Ba (B0 w) _) _) _
  replace q0 := (hB1.cell (p := ad.add (i * 5)) hfb).trans q0
  replace q1 := (hB1.cell (p := ⟨(ad.add (i * 5)).block, (ad.add (i * 5)).off + 1, none⟩) hfb).trans q1
  replace q2 := (hB1.cell (p := ⟨(ad.add (i * 5)).block, (ad.add (i * 5)).off + 2, none⟩) hfb).trans q2
  replace q3 := (hB1.cell (p := ⟨(ad.add (i * 5)).block, (ad.add (i * 5)).off + 3, none⟩) hfb).trans q3
  replace q4 := (hB1.cell (p := ⟨(ad.add (i * 5)).block, (ad.add (i * 5)).off + 4, none⟩) hfb).trans q4
  replace r0 := (hB1.cell (p := ad2.add (tn * 2)) hfb2).trans r0
  replace r1 := (hB1.cell (p := ⟨(ad2.add (tn * 2)).block, (ad2.add (tn * 2)).off + 1, none⟩) hfb2).trans r1
  rw [hw1]
  clear hw1
  have HB1 := Lib.hid hB1
  have l2 : w.heap.size + 1 < w1.heap.size := by omega
  have l3 : w.heap.size < w1.heap.size := by omega
  clear hB1
  go_upto_region 3 with fail
  have l4 : (ad.add (i * 5)).block < w1.heap.size := Nat.lt_of_lt_of_le hfb (Nat.le_of_lt l3)
  have l5 : (ad2.add (tn * 2)).block < w1.heap.size := Nat.lt_of_lt_of_le hfb2 (Nat.le_of_lt l3)
  obtain ⟨w2, hw2⟩ : ∃ w2 : World, (w1.alloc (.cells #[.string name, .int .i64 frm, .int .i64 tn, .int .i64 sh, .bool th] 46)).alloc (.cells #[.int .i64 tn, .int .i64 (c2 + sh)] 36) = w2 := ⟨_, rfl⟩
  have hb12 : Below w1.heap.size w1 w2 := by rw [← hw2]; exact Ba (Ba (B0 w1) _) _
  have x1 : w2.cell? ⟨w1.heap.size, 1, none⟩ = some (.int .i64 frm) := by rw [← hw2]; simp [go_sem]
  have x2 : w2.cell? ⟨w1.heap.size, 2, none⟩ = some (.int .i64 tn) := by rw [← hw2]; simp [go_sem]
  have y0 : w2.cell? ⟨w1.heap.size + 1, 0, none⟩ = some (.int .i64 tn) := by rw [← hw2]; simp [go_sem]
  have y1 : w2.cell? ⟨w1.heap.size + 1, 1, none⟩ = some (.int .i64 (c2 + sh)) := by rw [← hw2]; simp [go_sem]
  have l6 : w1.heap.size + 1 < w2.heap.size := by rw [← hw2]; simp
  replace e0 := (Bc hb12 l3).trans e0
  replace g0 := (Bc hb12 l2).trans g0
  replace k0 := k0.below hb12 k0.lt
  replace r0 := (hb12.cell (p := ad2.add (tn * 2)) l5).trans r0
  replace r1 := (hb12.cell (p := ⟨(ad2.add (tn * 2)).block, (ad2.add (tn * 2)).off + 1, none⟩) l5).trans r1
  replace l5 : (ad2.add (tn * 2)).block < w2.heap.size := Nat.lt_of_lt_of_le l5 hb12.size
  have HB2 := Lib.hid (Bt HB1.out hb12)
  rw [hw2]
  have K0 := Lib.hid k0
  obtain ⟨p1, hp1⟩ : ∃ p1, w1.heap.size = p1 := ⟨_, rfl⟩
  obtain ⟨p0, hp0⟩ : ∃ p0, w.heap.size + 1 = p0 := ⟨_, rfl⟩
  rw [hp1] at x1 x2 y0 y1 l6 ⊢
  have l7 : p0 + 1 < w2.heap.size := by omega
  have l8 : w.heap.size < w2.heap.size := by omega
  have l9 : w.heap.size ≤ p0 := by omega
  rw [hp0] at g0 K0 ⊢
  clear hw2 hb12 k0 q0 q1 q2 q3 q4 g1 e1 l2 l3 l4 HB1 hp1 hp0
  by_cases hfc : frm = c1
  · have d1 : (frm != c1) = false := by simp [hfc]
    have hHI := in_any lo hi2 (c2 + sh) w2.drew
    have hZ2 : Cou.inB (lo, hi2) (c2 + sh) = true → Cou.stepF a i (c1, c2) = some ((tn : Int), c2 + sh) := fun h => by rw [HZ.out, if_pos ⟨hfc, h⟩]
    have hZ3 : Cou.inB (lo, hi2) (c2 + sh) = false → Cou.stepF a i (c1, c2) = none := fun h => by rw [HZ.out, if_neg (by rw [h]; simp)]
    have HI := Lib.hid hHI
    clear hHI hfc HZ
    cases hin : Cou.inB (lo, hi2) (c2 + sh) with
    | true =>
      have HZ := Lib.hid (hZ2 hin)
      rw [hin] at HI
      clear hZ2 hZ3 hin
      go_region_held3 (fun w' => Below w2.heap.size w2 w' ∧ w'.cell? ⟨p1, 1, none⟩ = some (.int .i64 frm) ∧ w'.cell? ⟨p0, 0, none⟩ = some (.int .i64 c1) ∧ w'.cell? ⟨w.heap.size, 0, none⟩ = some (.slice (some ad2) dl cd) ∧ w'.cell? ⟨p1, 2, none⟩ = some (.int .i64 tn) ∧ w'.cell? ⟨p1 + 1, 1, none⟩ = some (.int .i64 (c2 + sh)) ∧ w'.cell? (ad2.add (tn * 2)) = some (.int .i64 lo) ∧ w'.cell? ⟨(ad2.add (tn * 2)).block, (ad2.add (tn * 2)).off + 1, none⟩ = some (.int .i64 hi2))
        (first | exact ⟨(B0 _).drew, x1, g0, e0, x2, y1, r0, r1⟩ | exact ⟨hbn, (Bc hbn (Nat.lt_of_succ_lt l6)).trans x1, (Bc hbn (Nat.lt_of_succ_lt l7)).trans g0, (Bc hbn l8).trans e0, (Bc hbn (Nat.lt_of_succ_lt l6)).trans x2, (Bc hbn l6).trans y1, (hbn.cell (p := ad2.add (tn * 2)) l5).trans r0, (hbn.cell (p := ⟨(ad2.add (tn * 2)).block, (ad2.add (tn * 2)).off + 1, none⟩) l5).trans r1⟩)
        ((go_at_call 64; (with_reducible refine (HI.out.mono ?_)); rintro e w3 ⟨rfl, hb3⟩; have hbn := Bt (B0 w2).drew hb3))
      have kk := K0.out.below hbn K0.out.lt
      have f0 := kk.frozen
      have k0 := kk.cell 0
      have k1 := kk.cell 1
      simp at k0 k1
      have z0 := (Bc hbn l6).trans y0
      have z1 := (Bc hbn l6).trans y1
      go_wp2_with fail
      refine bodyPost_ret (v := .tuple #[.agg #[.int .i64 tn, .int .i64 (c2 + sh)], .bool true]) ?_ rfl ⟨by rw [HZ.out]; rfl, Bs (Bs (Bt HB2.out hbn) _ (by simp; omega)) _ (by simp; omega)⟩
      have m0 : ((w3.setCell ⟨p0 + 1, 0, none⟩ (.int .i64 tn)).setCell ⟨p0 + 1, 1, none⟩ (.int .i64 (c2 + sh))).cell? ⟨p0 + 1, 0, none⟩ = some (.int .i64 tn) := by
        have := ((kk.set_ 0 (.int .i64 tn)).set_ 1 (.int .i64 (c2 + sh))).cell 0
        simpa using this
      have m1 : ((w3.setCell ⟨p0 + 1, 0, none⟩ (.int .i64 tn)).setCell ⟨p0 + 1, 1, none⟩ (.int .i64 (c2 + sh))).cell? ⟨p0 + 1, 1, none⟩ = some (.int .i64 (c2 + sh)) := by
        have := ((kk.set_ 0 (.int .i64 tn)).set_ 1 (.int .i64 (c2 + sh))).cell 1
        simpa using this
      clear K0 kk HB2 HI HZ
      simp [results, Tryd.f67, go_sem, m0, m1]
    | false =>
      have HZ := Lib.hid (hZ3 hin)
      rw [hin] at HI
      clear hZ2 hZ3 hin
      go_region_held3 (fun w' => Below w2.heap.size w2 w' ∧ w'.cell? ⟨p1, 1, none⟩ = some (.int .i64 frm) ∧ w'.cell? ⟨p0, 0, none⟩ = some (.int .i64 c1) ∧ w'.cell? ⟨w.heap.size, 0, none⟩ = some (.slice (some ad2) dl cd) ∧ w'.cell? ⟨p1, 2, none⟩ = some (.int .i64 tn) ∧ w'.cell? ⟨p1 + 1, 1, none⟩ = some (.int .i64 (c2 + sh)) ∧ w'.cell? (ad2.add (tn * 2)) = some (.int .i64 lo) ∧ w'.cell? ⟨(ad2.add (tn * 2)).block, (ad2.add (tn * 2)).off + 1, none⟩ = some (.int .i64 hi2))
        (first | exact ⟨(B0 _).drew, x1, g0, e0, x2, y1, r0, r1⟩ | exact ⟨hbn, (Bc hbn (Nat.lt_of_succ_lt l6)).trans x1, (Bc hbn (Nat.lt_of_succ_lt l7)).trans g0, (Bc hbn l8).trans e0, (Bc hbn (Nat.lt_of_succ_lt l6)).trans x2, (Bc hbn l6).trans y1, (hbn.cell (p := ad2.add (tn * 2)) l5).trans r0, (hbn.cell (p := ⟨(ad2.add (tn * 2)).block, (ad2.add (tn * 2)).off + 1, none⟩) l5).trans r1⟩)
        ((go_at_call 64; (with_reducible refine (HI.out.mono ?_)); rintro e w3 ⟨rfl, hb3⟩; have hbn := Bt (B0 w2).drew hb3))
      have kk := K0.out.below hbn K0.out.lt
      have f0 := kk.frozen
      have k0 := kk.cell 0
      have k1 := kk.cell 1
      simp at k0 k1
      go_wp2_with fail
      refine bodyPost_ret (v := .tuple #[.agg #[.int .i64 0, .int .i64 0], .bool false]) ?_ rfl ⟨by rw [HZ.out]; rfl, Bs (Bs (Bt HB2.out hbn) _ (by simp; omega)) _ (by simp; omega)⟩
      have m0 : ((w3.setCell ⟨p0 + 1, 0, none⟩ (.int .i64 0)).setCell ⟨p0 + 1, 1, none⟩ (.int .i64 0)).cell? ⟨p0 + 1, 0, none⟩ = some (.int .i64 0) := by
        have := ((kk.set_ 0 (.int .i64 0)).set_ 1 (.int .i64 0)).cell 0
        simpa using this
      have m1 : ((w3.setCell ⟨p0 + 1, 0, none⟩ (.int .i64 0)).setCell ⟨p0 + 1, 1, none⟩ (.int .i64 0)).cell? ⟨p0 + 1, 1, none⟩ = some (.int .i64 0) := by
        have := ((kk.set_ 0 (.int .i64 0)).set_ 1 (.int .i64 0)).cell 1
        simpa using this
      clear K0 kk HB2 HI HZ
      simp [results, Tryd.f67, go_sem, m0, m1]
  · have d1 : (frm != c1) = true := by simpa using hfc
    have hz : Cou.stepF a i (c1, c2) = none := by rw [HZ.out, if_neg (fun h => hfc h.1)]
    have HZ2 := Lib.hid hz
    clear hfc HZ hz
    go_region
    all_goals
      have kk := K0.out
      have f0 := kk.frozen
      have k0 := kk.cell 0
      have k1 := kk.cell 1
      simp at k0 k1
      go_wp2_with fail
      refine bodyPost_ret (v := .tuple #[.agg #[.int .i64 0, .int .i64 0], .bool false]) ?_ rfl ⟨by rw [HZ2.out]; rfl, Bs (Bs HB2.out.drew _ (by simp; omega)) _ (by simp; omega)⟩
      have m0 : (w2.setCell ⟨p0 + 1, 0, none⟩ (.int .i64 0)).cell? ⟨p0 + 1, 0, none⟩ = some (.int .i64 0) := by
        have := (kk.set_ 0 (.int .i64 0)).cell 0
        simpa using this
      have m1 : ((w2.setCell ⟨p0 + 1, 0, none⟩ (.int .i64 0)).setCell ⟨p0 + 1, 1, none⟩ (.int .i64 0)).cell? ⟨p0 + 1, 1, none⟩ = some (.int .i64 0) := by
        have := ((kk.set_ 0 (.int .i64 0)).set_ 1 (.int .i64 0)).cell 1
        simpa using this
      clear K0 kk HB2 HZ2
      simp [results, Tryd.f67, go_sem, m0, m1]
end Go.Proofs.YtahlfndlkfoikaaDoor
namespace Go.Proofs.YtahlfndlkfoikaaDoor
open Go Go.RowKit Go.Shelf
attribute [local go_sem] Oper.semAt_some
/-- The table of TrailingZeros64 lies in its variable. -/
def Tab64 (w : World) : Prop := TabAt 0 Lib.deBruijn64tab w
theorem Tab64.below {w w' : World} (h : Tab64 w) (hb : Below w.heap.size w w') : Tab64 w' := fun j hj => (hb.cell (p := ⟨0, j, none⟩) (World.block_lt_of_cell? _ _ (h j hj))).trans (h j hj)
theorem Tab64.onB {B : Nat} {w w' : World} (h : Tab64 w) (hB : 0 < B) (hb : Below B w w') : Tab64 w' := fun j hj => (hb.cell (p := ⟨0, j, none⟩) hB).trans (h j hj)
set_option maxHeartbeats 1000000 in
theorem tz64_core (x k idx : Nat) (w : World) (hx0 : ((x : Int) == 0) = false)
    (key : IntKind.u64.wrap (bits BinOp.and IntKind.u64 (x : Int) (IntKind.u64.wrap (-(x : Int))) * 285870213051353865) / 288230376151711744 = (idx : Int))
    (hi : idx < 64) (hk : k < 64) (hcell : w.cell? ⟨0, idx, none⟩ = some (.int .u8 k)) :
    Calls Tryd.prog 46 #[.int .u64 x] w fun e w' => e = .returned (.int .i64 k) ∧ w = w' := by
  go_enter Tryd.func46, Tryd.ntmps46
  go_wp2_with (simp only [key])
  go_ret
  exact ⟨rfl, rfl⟩
theorem tz64_any (x : Nat) (h0 : x ≠ 0) (hx : x < 18446744073709551616) (w : World) (hT : Tab64 w) :
    Calls Tryd.prog 46 #[.int .u64 x] w fun e w' => e = .returned (.int .i64 (Hit.tz x : Nat)) ∧ w = w' := by
  obtain ⟨hlow, hk⟩ := Lib.lowest_bit 64 x h0 hx
  obtain ⟨hi, hd⟩ := Lib.deBruijn64_at _ hk
  have hcell := hT _ (by exact hi)
  rw [hd] at hcell
  rw [Hit.tz_ctz 64 x (by decide) h0 hx]
  exact tz64_core x _ _ w (by simp; omega) (tz64_key x _ hx h0 hlow) hi hk hcell
set_option maxRecDepth 100000 in
set_option maxHeartbeats 2000000 in
theorem drawn1_in (n : Nat) (hn : 1 ≤ n) (m : Nat) (hm64 : m ≤ 64) (l Bn n₀ : Nat) (hg : 0 < n₀) (x : Nat) (hx : x < 2 ^ m) (J Jx : List (Fin m) → World → Prop)
    (hY : ∀ pre (i : Fin m) W, J pre W → pre.length < 64 → YieldAt Fence.wide (n - 1) Tryd.prog l #[.int .i64 (i.val : Int)] W fun e W' =>
      (e = .returned (.bool true) ∧ J (pre ++ [i]) W' ∧ Below n₀ W W') ∨ (e = .returned (.bool false) ∧ Jx (pre ++ [i]) W'))
    (W : World) (hT : Tab64 W) (hc : W.cell? ⟨Bn, 2, none⟩ = some (.int .u64 x)) (h0 : J [] W) :
    CallsIn Fence.wide n Tryd.prog 77 #[.func (.yield l) #[] #[], .pointer (some ⟨Bn, 0, none⟩)] W fun e W' => (∃ v, e = .returned v) ∧
      ((∃ ys : List (Fin m), ys.map Fin.val = Hit.members x ∧ J ys W') ∨ (∃ pre : List (Fin m), True ∧ Jx pre W')) := by
  have h264 : 2 ^ m ≤ 18446744073709551616 := Nat.pow_le_pow_right (n := 2) (by decide) hm64
  have hml : (Hit.members x).length ≤ 64 := Nat.le_trans (List.length_filter_le _ _) (by simp)
  refine callsIn_of_wp Tryd.func77 rfl trivial ?_ rfl
  simp only [Tryd.ntmps77, List.size_toArray, List.length_cons, List.length_nil, Nat.reduceAdd, Nat.reduceSub, Array.replicate_succ, Array.replicate_zero, List.push_toArray, List.append_toArray, List.nil_append, List.cons_append]
  gi_wp2
  gi_loopw [3] (fun p wr => ∃ (pre : List (Fin m)) (r : Nat), p = .int .u64 r ∧ r < 2 ^ m ∧ pre.map Fin.val ++ Hit.members r = Hit.members x ∧ J pre wr ∧ Tab64 wr)
    (fun p wr => (intOf p).toNat)
  case atStart => exact ⟨[], x, rfl, hx, rfl, h0, hT⟩
  case round =>
    obtain ⟨pre, r, rfl, hrm, hm, hJs, hTr⟩ := hrel
    have hr : r < 18446744073709551616 := Nat.lt_of_lt_of_le hrm h264
    by_cases hr0 : r = 0
    · subst hr0
      have e : Hit.members 0 = [] := by decide
      have h0' : ((0 : Int) != 0) = false := rfl
      rw [e, List.append_nil] at hm
      gi_wp2
      go_end0
      exact ⟨⟨_, rfl⟩, .inl ⟨pre, hm, hJs⟩⟩
    · have h0' : ((r : Int) != 0) = true := by simp; omega
      have h1 : (1 : Int) ≤ r := by omega
      obtain ⟨hs, hlt⟩ := Hit.members_step 64 r (by decide) hr0 hr
      rw [← Hit.tz_ctz 64 r (by decide) hr0 hr] at hs
      have hq64 : Hit.tz r < m := Hit.members_lt hrm _ (by rw [hs]; simp)
      have hand := Hit.u64_and r (r - 1) hr (by omega)
      rw [show ((r - 1 : Nat) : Int) = (r : Int) - 1 from by omega] at hand
      have hC := tz64_any r hr0 hr wr hTr
      have hpl : pre.length < 64 := by
        have := congrArg List.length hm
        rw [hs] at this
        simp at this
        omega
      obtain ⟨fn, tmps, assign, body, hy, hR⟩ := hY pre ⟨Hit.tz r, hq64⟩ wr hJs hpl
      dsimp only at hy
      gi_wp2_with (refine ⟨trivial, ?_⟩; refine (callsIn_wide.2 hC).mono ?_; rintro e w' ⟨rfl, rfl⟩)
      refine hR.mono ?_
      rintro e W3 (⟨rfl, hJ3, hk3⟩ | ⟨rfl, hJx3⟩)
      · gi_wp2
        go_roundw
        case rel => exact ⟨pre ++ [⟨Hit.tz r, hq64⟩], r &&& (r - 1), rfl, Nat.lt_of_le_of_lt Nat.and_le_left hrm, by rw [← hm, hs]; simp, hJ3, hTr.onB hg hk3⟩
        case measure => simp [intOf]; omega
      · gi_wp2
        refine bodyPost_ret (results_none rfl _ _ _) rfl ?_
        exact ⟨⟨_, rfl⟩, .inr ⟨pre ++ [⟨Hit.tz r, hq64⟩], trivial, hJx3⟩⟩
/-- a.drawn(): the receiver is boxed; the function value captures the box. -/
theorem drawn_any (vd vc : Value) (dr : Int) (hd : ∃ A m c, vd = .slice A m c) (hc : ∃ A m c, vc = .slice A m c) (w : World) :
    Calls Tryd.prog 66 #[.agg #[vd, vc, .int .u64 dr]] w fun e w' => e = .returned (.func (.func 77) #[] #[.pointer (some ⟨w.heap.size, 0, none⟩)]) ∧ w' = w.alloc (.cells #[vd, vc, .int .u64 dr] 33) := by
  obtain ⟨A, m, c, rfl⟩ := hd
  obtain ⟨B, k, d, rfl⟩ := hc
  go_enter Tryd.func66, Tryd.ntmps66
  go_wp2
  go_ret
  exact ⟨rfl, rfl⟩
/-- The iterator that drawn hands back. -/
theorem drawn_stops (n : Nat) (hn : 1 ≤ n) (m : Nat) (hm64 : m ≤ 64) (Bn n₀ : Nat) (hg : 0 < n₀) (x : Nat) (hx : x < 2 ^ m) (w : World) (hBn : Bn < w.heap.size) (hT : Tab64 w) (hc : w.cell? ⟨Bn, 2, none⟩ = some (.int .u64 x)) :
    SeqStopsK Fence.wide n Tryd.prog 77 #[.pointer (some ⟨Bn, 0, none⟩)] (fun i : Fin m => #[Value.int .i64 (i.val : Int)]) (Below n₀) (fun ys => ys.map Fin.val = Hit.members x) (fun _ => True) 64 w := fun l J Jx W hW _ _ hY h0 =>
  (drawn1_in n hn m hm64 l Bn n₀ hg x hx J Jx hY W (hT.below hW) ((hW.cell (p := ⟨Bn, 2, none⟩) hBn).trans hc) h0).mono fun _ _ ⟨h1, h2⟩ => ⟨h1, h2⟩
end Go.Proofs.YtahlfndlkfoikaaDoor
namespace Go.Proofs.YtahlfndlkfoikaaDoor
open Go Go.RowKit
open Go.Maps (Keyed)
/-- A contact as a value. -/
def ctV (c : Cou.Ct) : Value := .agg #[.int .i64 c.1, .int .i64 c.2]
def CtC (_ : World) (cs : List Value) (c : Cou.Ct) : Prop := cs = [.int .i64 c.1, .int .i64 c.2]
abbrev SlCt (F : Nat → Prop) (w : World) (v : Value) (l : List Cou.Ct) : Prop := Sl F 2 CtC w v l
theorem ctV_inj {a b : Cou.Ct} (h : ctV a = ctV b) : a = b := by
  unfold ctV at h
  simp at h
  exact Prod.ext h.1 h.2
theorem keyKC : Keyed Tryd.prog 36 := Keyed.of_law (deep_law (m := 2) (by decide) (by kernel_rfl) (by kernel_rfl) (by kernel_rfl))
/-- Small numbers. -/
def CtS (c : Cou.Ct) : Prop := -1000 ≤ c.1 ∧ c.1 ≤ 1000 ∧ -1000 ≤ c.2 ∧ c.2 ≤ 1000
theorem wf_i64 {a : Int} (h : -1000 ≤ a ∧ a ≤ 1000) : (Lit.int .i64 a).wf = true := by
  have := wf_wrap .i64 a
  rwa [show IntKind.i64.wrap a = a by simp [IntKind.wrap, IntKind.bits, IntKind.signed]; omega] at this
theorem ctV_key {c : Cou.Ct} (hc : CtS c) : ∃ kl, keyOf Tryd.prog 36 (ctV c) = some kl := by
  have ht := Tryd.underlying36
  have hu : Tryd.prog.underlying 3 = some (.int .i64) := Tryd.underlying3
  have hc2 : Tryd.prog.cellsOf 36 = 2 := by kernel_rfl
  have hcu : Tryd.prog.cellsOf 3 = 1 := by kernel_rfl
  have hk : Tryd.prog.keyType 36 = true := by kernel_rfl
  have h1 : 1 ≤ Tryd.prog.types.size := of_decide_eq_true (by kernel_rfl)
  obtain ⟨d, hd⟩ : ∃ d, Tryd.prog.types.size = d + 1 := ⟨Tryd.prog.types.size - 1, by omega⟩
  have wa := wf_i64 ⟨hc.1, hc.2.1⟩
  have wb := wf_i64 hc.2.2
  have hfm : (ctV c).formed Tryd.prog 36 = true := by simp [ctV, Value.formed, ht, hc2]
  have hl : Tryd.prog.keyLits (Tryd.prog.types.size + 1) 36 (ctV c).cells.toList = some [.int .i64 c.1, .int .i64 c.2] := by
    rw [hd]
    unfold Program.keyLits
    simp only [ht, ctV, Value.cells, hc2]
    simp [Program.keyLits, hu, hcu, wa, wb]
  refine ⟨.string (keyBytes [.int .i64 c.1, .int .i64 c.2]), ?_⟩
  unfold keyOf
  rw [ht]
  simp only [hk, hfm, Bool.and_self, if_true, hl, Option.map_some]
/-- The map of the contacts that have been seen. -/
def SeenC (l : List Cou.Ct) (mb : Nat) (w : World) : Prop := ∃ es, MapAt w mb es ∧ (∀ p ∈ es, ∃ c ∈ l, p = (ctV c, .bool true)) ∧ ∀ c ∈ l, (ctV c, .bool true) ∈ es
theorem zeroBo (w : World) : (zeroValue 4).run Tryd.prog w = .ok (.bool false) w := by kernel_rfl
theorem seenC_look {l : List Cou.Ct} {mb : Nat} {w : World} (h : SeenC l mb w) (hl : ∀ c ∈ l, CtS c) (c : Cou.Ct) (hc : CtS c) :
    (Instr.lookup 104 (.map (some mb)) (ctV c) false).run Tryd.prog w = .ok (.bool (decide (c ∈ l))) w := by
  obtain ⟨es, h1, h2, h3⟩ := h
  have hk : ∀ p ∈ es, ∃ kl, keyOf Tryd.prog 36 p.1 = some kl := fun p hp => by
    obtain ⟨j, hj, rfl⟩ := h2 p hp
    exact ctV_key (hl j hj)
  obtain ⟨kl, hkl⟩ := ctV_key hc
  rcases run_lookup_at false keyKC Tryd.underlying104 (zeroBo w) h1 hk hkl with ⟨q, q2⟩ | ⟨v, hv, q⟩
  · have : decide (c ∈ l) = false := by
      rw [decide_eq_false_iff_not]
      intro hm
      exact absurd rfl (q2 _ (h3 c hm))
    rw [this]; exact q
  · obtain ⟨j, hj, e⟩ := h2 _ hv
    have e1 : c = j := ctV_inj (congrArg Prod.fst e)
    have e2 : v = .bool true := congrArg Prod.snd e
    subst e1
    rw [e2] at q
    rw [decide_eq_true hj]; exact q
theorem seenC_store {l : List Cou.Ct} {mb : Nat} {w : World} (h : SeenC l mb w) (hl : ∀ c ∈ l, CtS c) (c : Cou.Ct) (hc : CtS c) :
    ∃ w', (Instr.mapUpdate 104 (.map (some mb)) (ctV c) (.bool true)).run Tryd.prog w = .ok () w' ∧ SeenC (l ++ [c]) mb w' ∧ w.grownBy w' (some mb) := by
  obtain ⟨es, h1, h2, h3⟩ := h
  have hk : ∀ p ∈ es, ∃ kl, keyOf Tryd.prog 36 p.1 = some kl := fun p hp => by
    obtain ⟨j, hj, rfl⟩ := h2 p hp
    exact ctV_key (hl j hj)
  obtain ⟨kl, hkl⟩ := ctV_key hc
  obtain ⟨w', es', q1, q2, q3, q4, q5, q6⟩ := run_update_at keyKC Tryd.underlying104 h1 hk (val := .bool true) hkl
  refine ⟨w', q1, ⟨es', q2, fun p hp => ?_, fun j hj => ?_⟩, q3⟩
  · rcases q4 p hp with rfl | hp
    · exact ⟨c, by simp, rfl⟩
    · obtain ⟨j, hj, rfl⟩ := h2 p hp
      exact ⟨j, by simp [hj], rfl⟩
  · rcases List.mem_append.1 hj with hj | hj
    · obtain ⟨v, hv⟩ := q6 _ (h3 j hj)
      rcases q4 _ hv with e | hp
      · have e2 : v = .bool true := congrArg Prod.snd e
        rw [e2] at hv
        exact hv
      · obtain ⟨j', _, e⟩ := h2 _ hp
        have e2 : v = .bool true := congrArg Prod.snd e
        rw [e2] at hv
        exact hv
    · simp only [List.mem_singleton] at hj
      subst hj
      exact q5
theorem SeenC.lt {l : List Cou.Ct} {mb : Nat} {w : World} (h : SeenC l mb w) : mb < w.heap.size := by
  obtain ⟨es, h1, _⟩ := h
  exact h1.lt
theorem SeenC.of_block {l : List Cou.Ct} {mb : Nat} {w w' : World} (h : SeenC l mb w) (e : w'.heap[mb]? = w.heap[mb]?) : SeenC l mb w' := by
  obtain ⟨es, h1, h2⟩ := h
  exact ⟨es, h1.of_block e, h2⟩
theorem infoCt : (Tryd.prog.info? 36).map (fun i => (i.zero, i.size, i.bytes)) = some (some (.agg #[.int .i64 0, .int .i64 0]), 2, 16) := by kernel_rfl
theorem elemCt : ElemN Tryd.prog 38 36 2 16 := ⟨Tryd.underlying38, by
  obtain ⟨i, hi, hz, hs, hb⟩ := info_parts infoCt
  exact ⟨i, _, hi, hz, hs, hb, rfl⟩⟩
section
variable {F : Fence} {m : Nat} {P : Program} {ops : Array Oper} {rest : List Oper} {o : Oper} {a : Act} {Q : Exit → Act → World → Prop} {w : World}
/-- An append to a row of one's own, within a fence. -/
theorem wpListIn_appS {t e : TypeId} {k bytes : Nat} (E : ElemN P t e k bytes) (hk : 0 < k) (hgd : o.guard = none) (s x : Operand) (ho : o.op = .call { callee := .builtin .append, args := #[s, x], argTypes := #[t, t] })
    (base : Nat) (v : Value) (n : Nat) (xs : List Value) (hs : a.eval s = v) (hown : w.ownsRow base e k v n xs) (ad : Addr) (c : Nat) (news : List Value) (hx : a.eval x = .slice (some ad) 1 c)
    (hl : news.length = k) (hnews : Flds w ad news) (h1 : ∀ u ∈ news, u.oneCell' = true) (hn : n + 1 ≤ 1000000000) (hb : bytes ≤ 1000) (hbase : base ≤ w.heap.size)
    (h : ∀ g cap w', w'.ownsRow base e k (.slice (some ⟨g, 0, none⟩) (n + 1) cap) (n + 1) (xs ++ news) → w.grownBy w' v.ownBlock → (some g = v.ownBlock ∨ g = w.heap.size) → wpListIn F m P ops Q rest (a.put o.dst (.slice (some ⟨g, 0, none⟩) (n + 1) cap)) w') : wpListIn F m P ops Q (o :: rest) a w := by
  refine wpListIn_plain hgd fun K hK' => ?_
  obtain ⟨ht, i, z, hi, hz, hsz, hby, hzs⟩ := E
  obtain ⟨v', w', hrun, h2, h3, _, h5⟩ := run_append_own_at (P := P) w base t o.type e i z k bytes ht hi hz hsz hby hzs hk v n xs hown ad 1 c news (by omega) hnews h1
    (by unfold maxLen; omega) (by have : (n + 1) * bytes ≤ 1000000000 * 1000 := Nat.mul_le_mul hn hb
                                  omega) hbase
  obtain ⟨g, cap, rfl⟩ := own_lit h2
  unfold Oper.wpIn
  refine ⟨?_, ?_⟩
  · simp [Oper.about, ho, resolve, Target.leads, Sem.run_pure]
  · rw [Oper.semAt_plain F _ _ (by rw [ho]; intro c hc'; cases hc')]
    simp [execOp, ho, resolve, invoke, builtin, hs, hx, hrun, Result.andThen]
    exact hK' _ _ (h g cap w' h2 h3 (by simpa [Value.ownBlock] using h5))
end
/-- The state of the closure 'take': the action's box, the queue's box, the map, its box; the queue. -/
structure QSt (ab qb mb sb base : Nat) (vd vc : Value) (dr : Nat) (v : Value) (Q : List Cou.Ct) (w : World) : Prop where
  act : Blk w ab 33 #[vd, vc, .int .u64 dr]
  seen : Blk w sb 104 #[.map (some mb)]
  que : Blk w qb 38 #[v]
  own : OwnL base 36 2 CtC w v Q
  map : SeenC Q mb w
  big : base ≤ w.heap.size
/-- The blocks lie in order. -/
structure QOrd (ab qb mb sb base : Nat) : Prop where
  aq : ab < qb
  qm : qb < mb
  ms : mb < sb
  sb_ : sb < base
section
variable {ab qb mb sb base : Nat} {vd vc : Value} {dr : Nat} {v : Value} {Q : List Cou.Ct} {w w' : World}
theorem QSt.keep (h : QSt ab qb mb sb base vd vc dr v Q w) (hb : Below w.heap.size w w') : QSt ab qb mb sb base vd vc dr v Q w' :=
  ⟨h.act.below hb h.act.lt, h.seen.below hb h.seen.lt, h.que.below hb h.que.lt, h.own.keep rfl (fun _ hx => hx.kept (row := none) (only_of_below hb _) (by cases hv : v.ownBlock <;> simp)) fun _ _ hr => hr, h.map.of_block (hb.block _ h.map.lt), Nat.le_trans h.big hb.size⟩
theorem Blk.not_turned {b : Nat} {t : TypeId} {cs : Array Value} {row : Option Nat} (h : Blk w b t cs) (hr : ∀ r, row = some r → ∃ o : Obj, w.heap[r]? = some o ∧ o.isCells = false) : some b ≠ row := fun e => by
  obtain ⟨o, ho, hc⟩ := hr b e.symm
  have h2 : w.heap[b]? = some (.cells cs t (0, 0)) := h
  rw [h2] at ho
  injection ho with ho
  subst ho
  cases hc
/-- A turn of a block that is no cells, and lies beyond the map. -/
theorem QSt.turn {row : Option Nat} (h : QSt ab qb mb sb base vd vc dr v Q w) (hg : w.grownBy w' row) (hr : ∀ r, row = some r → mb < r ∧ ∃ o : Obj, w.heap[r]? = some o ∧ o.isCells = false) : QSt ab qb mb sb base vd vc dr v Q w' := by
  have hr' : ∀ r, row = some r → ∃ o : Obj, w.heap[r]? = some o ∧ o.isCells = false := fun r e => (hr r e).2
  refine ⟨h.act.grown hg (h.act.not_turned hr'), h.seen.grown hg (h.seen.not_turned hr'), h.que.grown hg (h.que.not_turned hr'), h.own.keep rfl (fun xs hx => hx.kept hg ?_) fun _ _ hr => hr, h.map.of_block (hg.block _ h.map.lt fun e => ?_), Nat.le_trans h.big hg.size⟩
  · cases hv : v.ownBlock with
    | none => exact .inl rfl
    | some g =>
      refine .inr fun e => ?_
      rcases hx.2 with ⟨q, _⟩ | ⟨g', cap, cur, hv2, _, hh, _⟩
      · rw [q] at hv; cases hv
      · rw [hv2] at hv
        injection hv with hv
        subst hv
        obtain ⟨o, ho, hc⟩ := hr' _ e.symm
        rw [hh] at ho
        injection ho with ho
        subst ho
        cases hc
  · have := (hr mb e.symm).1; omega
end
end Go.Proofs.YtahlfndlkfoikaaDoor
