/- Walks over chain: the closure of Cut that asks whether a contact is reached. -/
import Derived.Test.YtahlfndlkfoikaaDoorEd
import Derived.Test.YtahlfndlkfoikaaDoorEl
import Derived.Test.YtahlfndlkfoikaaDoorKi
import Derived.Test.YtahlfndlkfoikaaDoorVa
namespace Go.Proofs.YtahlfndlkfoikaaDoor
open Go Go.RowKit Go.Shelf
/-- The boxes of Cut. -/
structure CutSt (w : World) (bA bK bC : Nat) (F : Nat → Prop) (vd vc : Value) (a : Cou.Ac) (key c : Cou.Ct) : Prop where
  act : Blk w bA 33 #[vd, vc, .int .u64 a.drawn]
  key : Blk w bK 36 #[.int .i64 key.1, .int .i64 key.2]
  con : Blk w bC 36 #[.int .i64 c.1, .int .i64 c.2]
  at_ : AcAt F w vd vc a
  tab : Tab64 w
  g : 0 < w.heap.size
theorem CutSt.below {w w' : World} {bA bK bC : Nat} {F : Nat → Prop} {vd vc : Value} {a : Cou.Ac} {key c : Cou.Ct} (h : CutSt w bA bK bC F vd vc a key c) (hb : Below w.heap.size w w') : CutSt w' bA bK bC F vd vc a key c :=
  ⟨h.act.below hb h.act.lt, h.key.below hb h.key.lt, h.con.below hb h.con.lt, h.at_.onB h.at_.inW hb, h.tab.below hb, Nat.lt_of_lt_of_le h.g hb.size⟩
namespace Cha
theorem right_cut {a : Cou.Ac} (h : Cou.rightF a = 0) (wo : Nat) : Cou.rightF (cutA a wo) = 0 := by
  have hok := Cou.right_ok h
  have hd : (cutA a wo).drawn < 2 ^ a.cps.length := (Ok.cut hok wo).drawn
  unfold Cou.rightF at h ⊢
  split at h
  · rename_i hc
    rw [if_pos (show Cou.checkF (cutA a wo).divs (cutA a wo).cps = 0 from hc)]
    rw [if_pos]
    rw [Nat.shiftRight_eq_div_pow]
    exact Nat.div_eq_of_lt hd
  · rename_i hc; exact absurd h hc
end Cha
set_option maxRecDepth 100000 in
set_option maxHeartbeats 2000000 in
theorem reached_any (a : Cou.Ac) (hr : Cou.rightF a = 0) (vd vc : Value) (key c : Cou.Ct) (hkw : Cou.wrongF a key = 0) (bA bK bC wo : Nat) (hwo : wo < 2 ^ 64) (w : World) (F : Nat → Prop) (hS : CutSt w bA bK bC F vd vc a key c) :
    Calls Tryd.prog 45 #[.int .u64 wo, .pointer (some ⟨bA, 0, none⟩), .pointer (some ⟨bK, 0, none⟩), .pointer (some ⟨bC, 0, none⟩)] w fun e w' => e = .returned (.bool (Cha.reachB a key c wo)) ∧ Below w.heap.size w w' := by
  have hok := Cou.right_ok hr
  have hd64 : a.drawn < 2 ^ 64 := Nat.lt_of_lt_of_le hok.drawn (Nat.pow_le_pow_right (by decide) (by have := hok.nc; omega))
  have hdc : (Cha.cutA a wo).drawn < 2 ^ 64 := Hit.andn_lt hd64
  obtain ⟨Ad, cd, hvd, -, -⟩ := id hS.at_.dv.open
  obtain ⟨Ac, cc, hvc, -, -⟩ := id hS.at_.cp.open
  subst hvd hvc
  have hF := hS.at_.inW
  have hRE := fun W (hb : Below w.heap.size w W) => Reach_any (Cha.cutA a wo) (.slice Ad a.divs.length cd) (.slice Ac a.cps.length cc) hdc key W F ⟨fun b h => Nat.lt_of_lt_of_le (hF b h) hb.size, (hS.at_.onB hF hb).dv, (hS.at_.onB hF hb).cp⟩ (hS.tab.below hb) (Nat.lt_of_lt_of_le hS.g hb.size)
  have he : reachErr (Cha.cutA a wo) key = 0 := by
    unfold reachErr
    rw [if_pos (Cha.right_cut hr wo)]
    exact hkw
  rw [he] at hRE
  have hand : bits .andNot .u64 (a.drawn : Int) (wo : Int) = ((Hit.andn a.drawn wo : Nat) : Int) := Hit.u64_andn a.drawn wo hd64 hwo
  have HRB := Lib.hid (fun (l : List Cou.Ct) (hl : ∀ t, t ∈ l ↔ Cou.Hop (Cha.cutA a wo) [key] t) => (show decide (c ∈ l) = Cha.reachB a key c wo from Bool.eq_iff_iff.2 (by rw [decide_eq_true_eq, hl, Cha.reachB_iff hok])))
  have hdd : (Cha.cutA a wo).drawn = Hit.andn a.drawn wo := rfl
  rw [hdd] at hRE
  obtain ⟨d, hd⟩ : ∃ d, Hit.andn a.drawn wo = d := ⟨_, rfl⟩
  rw [hd] at hRE hand
  have HRE := Lib.hid hRE
  have HCN := Lib.hid (fun (v : Value) (l : List Cou.Ct) W (hS : SlCt (fun b => b < W.heap.size) W v l) => contains_ct v l c W _ (fun _ h => h) hS)
  obtain ⟨dl, hdl⟩ : ∃ dl, a.divs.length = dl := ⟨_, rfl⟩
  obtain ⟨cl, hcl⟩ : ∃ cl, a.cps.length = cl := ⟨_, rfl⟩
  rw [hdl, hcl] at hS HRE
  obtain ⟨k1, k2⟩ := key
  obtain ⟨c1, c2⟩ := c
  have HX := Lib.hid (fun W (hb : Below w.heap.size w W) => (show (W.cell? ⟨bA, 0, none⟩ = some (.slice Ad dl cd) ∧ W.cell? ⟨bA, 1, none⟩ = some (.slice Ac cl cc) ∧ W.cell? ⟨bA, 2, none⟩ = some (.int .u64 a.drawn)) ∧ (W.cell? ⟨bK, 0, none⟩ = some (.int .i64 k1) ∧ W.cell? ⟨bK, 1, none⟩ = some (.int .i64 k2)) ∧ W.cell? ⟨bC, 0, none⟩ = some (.int .i64 c1) ∧ W.cell? ⟨bC, 1, none⟩ = some (.int .i64 c2) from
    ⟨⟨(Bc hb hS.act.lt).trans (hS.act.cell 0), (Bc hb hS.act.lt).trans (hS.act.cell 1), (Bc hb hS.act.lt).trans (hS.act.cell 2)⟩, ⟨(Bc hb hS.key.lt).trans (hS.key.cell 0), (Bc hb hS.key.lt).trans (hS.key.cell 1)⟩, (Bc hb hS.con.lt).trans (hS.con.cell 0), (Bc hb hS.con.lt).trans (hS.con.cell 1)⟩))
  obtain ⟨⟨x0, x1, x2⟩, -, -, -⟩ := HX.out w (B0 w)
  obtain ⟨w1, hw1⟩ : ∃ w1 : World, w.alloc (.cells #[.slice Ad dl cd, .slice Ac cl cc, .int .u64 a.drawn] 33) = w1 := ⟨_, rfl⟩
  obtain ⟨bx, hbx⟩ : ∃ bx, w.heap.size = bx := ⟨_, rfl⟩
  have K1 : Blk w1 bx 33 #[.slice Ad dl cd, .slice Ac cl cc, .int .u64 a.drawn] := by rw [← hw1, ← hbx]; exact Blk.new _ _ _
  have B1 : Below w.heap.size w w1 := by rw [← hw1]; exact Ba (B0 w) _
  have K2 := K1.set_ 2 (.int .u64 d)
  obtain ⟨w2, hw2⟩ : ∃ w2 : World, w1.setCell ⟨bx, 2, none⟩ (.int .u64 d) = w2 := ⟨_, rfl⟩
  rw [hw2] at K2
  have B2 : Below w.heap.size w w2 := by rw [← hw2]; exact Bs B1 _ (by rw [← hbx]; exact Nat.le_refl _)
  have y2 := K1.cell 2
  have f2 := K1.frozen 2
  have z0 := K2.cell 0
  have z1 := K2.cell 1
  have z2 := K2.cell 2
  simp at y2 z0 z1 z2
  obtain ⟨-, ⟨u0, u1⟩, -, -⟩ := HX.out w2 B2
  have HW1 := Lib.hid hw1
  have HW2 := Lib.hid hw2
  have HBX := Lib.hid hbx
  have HB2 := Lib.hid B2
  have HR2 := Lib.hid (HRE.out w2 B2)
  clear hS hRE K1 K2 B1 B2 hw1 hw2 hbx hd he hdd hdc hF HRE hdl hcl hr hkw hok
  dsimp only at HR2
  go_enter Tryd.func45, Tryd.ntmps45
  go_upto_region 2 with fail
  rw [HW1.out, HBX.out]
  go_upto_region 3 with fail
  rw [HW2.out]
  clear y2 f2 x0 x1 x2
  go_wp2_with (first
    | (go_at_call 25; (with_reducible refine (HR2.out.mono ?_)); rintro e w3 ⟨v3, l3, rfl, hs3, -, hm3, hb3⟩; have HS3 := Lib.hid (SlCt.bnd3 hs3); have HM3 := Lib.hid (hm3 rfl).2; have HB3 := Lib.hid (Bt HB2.out hb3); obtain ⟨-, -, v0, v1⟩ := HX.out w3 HB3.out; clear hs3 hm3 hb3)
    | (go_at_call 41; (with_reducible refine ((HCN.out v3 l3 _ HS3.out).mono ?_)); rintro e w4 ⟨rfl, hb4⟩; have HB4 := Lib.hid (Bt HB3.out hb4); clear hb4))
  go_ret
  exact ⟨by rw [← HRB.out l3 HM3.out]; rfl, HB4.out⟩
end Go.Proofs.YtahlfndlkfoikaaDoor
