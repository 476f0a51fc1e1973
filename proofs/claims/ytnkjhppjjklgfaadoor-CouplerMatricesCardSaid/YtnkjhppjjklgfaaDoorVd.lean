/- Walks over coupler: Back. -/
import Derived.Test.YtnkjhppjjklgfaaDoorVc
namespace Go.Proofs.YtnkjhppjjklgfaaDoor
open Go Go.RowKit Go.Shelf
set_option maxRecDepth 100000 in
set_option maxHeartbeats 4000000 in
theorem Back_ok (a : Cou.Ac) (hr : Cou.rightF a = 0) (vd vc : Value) (hdr : a.drawn < 2 ^ 64) (w : World) (F : Nat → Prop) (hA : AcAt F w vd vc a) (hT : Tab64 w) (hg : 0 < w.heap.size) :
    Calls Tryd.prog 20 #[.agg #[vd, vc, .int .u64 a.drawn]] w fun e w' => ∃ v, e = .returned (.tuple #[v, .int .i64 0]) ∧ SlCt (fun b => w.heap.size ≤ b ∧ b < w'.heap.size) w' v ((Cou.ctsF 0 a.divs).filter (Cou.comesB a)) ∧ Below w.heap.size w w' := by
  have hok := Cou.right_ok hr
  have hFF := hA.inW
  obtain ⟨w1, hw1⟩ : ∃ w1 : World, w.alloc (.cells #[vd, vc, .int .u64 a.drawn] 34) = w1 := ⟨_, rfl⟩
  obtain ⟨B, hBB⟩ : ∃ B, w.heap.size = B := ⟨_, rfl⟩
  have AB : Blk w1 B 34 #[vd, vc, .int .u64 a.drawn] := by rw [← hw1, ← hBB]; exact Blk.new _ _ _
  have B1 : Below w.heap.size w w1 := by rw [← hw1]; exact Ba (B0 w) _
  have HRT := Lib.hid (right_any a vd vc hdr w1 F (hA.onB hFF B1))
  rw [hr] at HRT
  have HCN := Lib.hid (fun W (hb : Below w1.heap.size w1 W) => contacts_own a hok vd vc W F (hA.onB hFF (Bt B1 hb)))
  have hlen : (Cou.ctsF 0 a.divs).length ≤ 1000000 := by
    have := Cou.ctsF_len (d := 0) hok.div
    have := hok.nd
    omega
  have HDE : Hid (∀ (w2 w3 : World) (v3 : Value), Below w1.heap.size w1 w2 → Below w2.heap.size w2 w3 → OwnL w2.heap.size 28 2 CtC w3 v3 (Cou.ctsF 0 a.divs) →
      Calls Tryd.prog 42 #[v3, .func (.func 43) #[] #[.pointer (some ⟨B, 0, none⟩)]] w3 fun e w' => ∃ v', e = .returned v' ∧ SlCt (fun b => w2.heap.size ≤ b ∧ b < w'.heap.size) w' v' ((Cou.ctsF 0 a.divs).filter (Cou.comesB a)) ∧ Below w.heap.size w w') := Lib.hid fun w2 w3 v3 hb2 hb3 hO => by
    have hw3 : Below w1.heap.size w1 w3 := Bt hb2 hb3
    have hrow : ∀ b, v3.ownBlock = some b → w1.heap.size ≤ b := fun b e => Nat.le_trans hb2.size (hO.lt b e).1
    have hAct : ActB w3 B F vd vc a := ⟨AB.below hw3 AB.lt, hA.onB hFF (Bt B1 hw3), (hT.below (Bt B1 hw3))⟩
    have h := deletef_ct (fun c => !Cou.comesB a c) (Cou.ctsF 0 a.divs) hlen 43 #[.pointer (some ⟨B, 0, none⟩)] (enters_of Tryd.func43 (by kernel_rfl) rfl) w2.heap.size v3 w3 hO (fun W x hx hW => by
      refine back1_any a hok vd vc hdr x (inA_small hok (Cou.ctsF_inA.1 hx)) B W F (hAct.grown hW (fun e => ?_) (fun b hb e => ?_) (fun e => ?_) (Nat.lt_of_lt_of_le hg (Bt B1 hw3).size)) (Nat.lt_of_lt_of_le hg (Nat.le_trans (Bt B1 hw3).size hW.size))
      · have := hrow B e.symm
        have := AB.lt
        omega
      · have := hrow b e.symm
        have := hFF b hb
        have := B1.size
        omega
      · have := hrow _ e.symm
        have := B1.size
        omega)
    refine h.mono ?_
    rintro e w' ⟨v', rfl, hs, hgr⟩
    simp only [Bool.not_not] at hs
    refine ⟨v', rfl, hs, (Bt B1 hw3).grown hgr (Bt B1 hw3).size fun k e => ?_⟩
    have := hrow k e
    have := B1.size
    omega
  have x0 := AB.cell 0
  have x1 := AB.cell 1
  have x2 := AB.cell 2
  simp only [List.getElem?_toArray, List.getElem?_cons_zero, List.getElem?_cons_succ] at x0 x1 x2
  have HAB := Lib.hid AB
  have HB1 := Lib.hid B1
  have HW1 := Lib.hid hw1
  have HBB := Lib.hid hBB
  clear hA hT AB B1 hw1 hBB hok hr hlen
  go_enter Tryd.func20, Tryd.ntmps20
  go_upto_region 1 with fail
  rw [HW1.out, HBB.out]
  go_wp2_with (first
    | (go_at_call 35; (with_reducible refine (HRT.out.mono ?_)); rintro e w2 ⟨rfl, hb2⟩; have A2 := HAB.out.below hb2 HAB.out.lt; have y0 := A2.cell 0; have y1 := A2.cell 1; have y2 := A2.cell 2; simp only [List.getElem?_toArray, List.getElem?_cons_zero, List.getElem?_cons_succ] at y0 y1 y2; have HB2 := Lib.hid hb2; clear hb2 A2)
    | (go_at_call 41; (with_reducible refine ((HCN.out _ HB2.out).mono ?_)); rintro e w3 ⟨v3, rfl, hO3, hb3⟩; have HD3 := Lib.hid (HDE.out w2 w3 v3 HB2.out hb3 hO3); have HB23 := HB2.out.size; clear hO3 hb3)
    | (go_at_call 42; (with_reducible refine (HD3.out.mono ?_)); rintro e w4 ⟨v4, rfl, hs4, hb4⟩; have HS4 := Lib.hid hs4; have HB4 := Lib.hid hb4; clear hs4 hb4))
  go_ret2
  exact ⟨v4, rfl, Sl.mono HS4.out fun b h => ⟨by have := HB1.out.size; have := h.1; omega, h.2⟩, HB4.out⟩
end Go.Proofs.YtnkjhppjjklgfaaDoor
