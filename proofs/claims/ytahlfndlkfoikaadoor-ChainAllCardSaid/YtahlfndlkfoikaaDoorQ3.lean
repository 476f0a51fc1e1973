/- Walks over chain: the closure of Cut that asks whether a contact is reached. Walks over chain: the closure of Cut that seeks. Walks over chain: Cut. Walks over chain's statements: example, known. The statement of comparing chains, walked. -/
import Derived.Test.YtahlfndlkfoikaaDoorQ1
import Derived.Test.YtahlfndlkfoikaaDoorEl
import Derived.Test.YtahlfndlkfoikaaDoorKi
import Derived.Test.YtahlfndlkfoikaaDoorVa
import Derived.Test.YtahlfndlkfoikaaDoorRegW
import Derived.Test.YtahlfndlkfoikaaDoorEg
import Derived.Test.YtahlfndlkfoikaaDoorEi
import Derived.Test.YtahlfndlkfoikaaDoorEk
import Derived.Test.YtahlfndlkfoikaaDoorFb
namespace Go.Proofs.YtahlfndlkfoikaaDoor
open Go Go.RowKit Go.Shelf
/-- The boxes of Cut. -/
structure CutSt (w : World) (bA bK bC : Nat) (F : Nat → Prop) (vd vc : Value) (a : Cou.Ac) (key c : Cou.Ct) : Prop where
  act : Blk w bA 33 #[vd, vc, .int .u64 a.drawn]
  key : Blk w bK 36 #[.int .i64 key.1, .int .i64 key.2]
  con : Blk w bC 36 #[.int .i64 c.1, .int .i64 c.2]
  at_ : AcAt F w vd vc a
  tab : Tab64 w
  g : 0 < w.heap.size
theorem CutSt.below {w w' : World} {bA bK bC : Nat} {F : Nat → Prop} {vd vc : Value} {a : Cou.Ac} {key c : Cou.Ct} (h : CutSt w bA bK bC F vd vc a key c) (hb : Below w.heap.size w w') : CutSt w' bA bK bC F vd vc a key c :=
  ⟨h.act.below hb h.act.lt, h.key.below hb h.key.lt, h.con.below hb h.con.lt, h.at_.onB h.at_.inW hb, h.tab.below hb, Nat.lt_of_lt_of_le h.g hb.size⟩
namespace Cha
theorem right_cut {a : Cou.Ac} (h : Cou.rightF a = 0) (wo : Nat) : Cou.rightF (cutA a wo) = 0 := by
  have hok := Cou.right_ok h
  have hd : (cutA a wo).drawn < 2 ^ a.cps.length := (Ok.cut hok wo).drawn
  unfold Cou.rightF at h ⊢
  split at h
  · rename_i hc
    rw [if_pos (show Cou.checkF (cutA a wo).divs (cutA a wo).cps = 0 from hc)]
    rw [if_pos]
    rw [Nat.shiftRight_eq_div_pow]
    exact Nat.div_eq_of_lt hd
  · rename_i hc; exact absurd h hc
end Cha
set_option maxRecDepth 100000 in
set_option maxHeartbeats 2000000 in
theorem reached_any (a : Cou.Ac) (hr : Cou.rightF a = 0) (vd vc : Value) (key c : Cou.Ct) (hkw : Cou.wrongF a key = 0) (bA bK bC wo : Nat) (hwo : wo < 2 ^ 64) (w : World) (F : Nat → Prop) (hS : CutSt w bA bK bC F vd vc a key c) :
    Calls Tryd.prog 45 #[.int .u64 wo, .pointer (some ⟨bA, 0, none⟩), .pointer (some ⟨bK, 0, none⟩), .pointer (some ⟨bC, 0, none⟩)] w fun e w' => e = .returned (.bool (Cha.reachB a key c wo)) ∧ Below w.heap.size w w' := by
  have hok := Cou.right_ok hr
  have hd64 : a.drawn < 2 ^ 64 := Nat.lt_of_lt_of_le hok.drawn (Nat.pow_le_pow_right (by decide) (by have := hok.nc; omega))
  have hdc : (Cha.cutA a wo).drawn < 2 ^ 64 := Hit.andn_lt hd64
  obtain ⟨Ad, cd, hvd, -, -⟩ := id hS.at_.dv.open
  obtain ⟨Ac, cc, hvc, -, -⟩ := id hS.at_.cp.open
  subst hvd hvc
  have hF := hS.at_.inW
  have hRE := fun W (hb : Below w.heap.size w W) => Reach_any (Cha.cutA a wo) (.slice Ad a.divs.length cd) (.slice Ac a.cps.length cc) hdc key W F ⟨fun b h => Nat.lt_of_lt_of_le (hF b h) hb.size, (hS.at_.onB hF hb).dv, (hS.at_.onB hF hb).cp⟩ (hS.tab.below hb) (Nat.lt_of_lt_of_le hS.g hb.size)
  have he : reachErr (Cha.cutA a wo) key = 0 := by
    unfold reachErr
    rw [if_pos (Cha.right_cut hr wo)]
    exact hkw
  rw [he] at hRE
  have hand : bits .andNot .u64 (a.drawn : Int) (wo : Int) = ((Hit.andn a.drawn wo : Nat) : Int) := Hit.u64_andn a.drawn wo hd64 hwo
  have HRB := Lib.hid (fun (l : List Cou.Ct) (hl : ∀ t, t ∈ l ↔ Cou.Hop (Cha.cutA a wo) [key] t) => (show decide (c ∈ l) = Cha.reachB a key c wo from Bool.eq_iff_iff.2 (by rw [decide_eq_true_eq, hl, Cha.reachB_iff hok])))
  have hdd : (Cha.cutA a wo).drawn = Hit.andn a.drawn wo := rfl
  rw [hdd] at hRE
  obtain ⟨d, hd⟩ : ∃ d, Hit.andn a.drawn wo = d := ⟨_, rfl⟩
  rw [hd] at hRE hand
  have HRE := Lib.hid hRE
  have HCN := Lib.hid (fun (v : Value) (l : List Cou.Ct) W (hS : SlCt (fun b => b < W.heap.size) W v l) => contains_ct v l c W _ (fun _ h => h) hS)
  obtain ⟨dl, hdl⟩ : ∃ dl, a.divs.length = dl := ⟨_, rfl⟩
  obtain ⟨cl, hcl⟩ : ∃ cl, a.cps.length = cl := ⟨_, rfl⟩
  rw [hdl, hcl] at hS HRE
  obtain ⟨k1, k2⟩ := key
  obtain ⟨c1, c2⟩ := c
  have HX := Lib.hid (fun W (hb : Below w.heap.size w W) => (show (W.cell? ⟨bA, 0, none⟩ = some (.slice Ad dl cd) ∧ W.cell? ⟨bA, 1, none⟩ = some (.slice Ac cl cc) ∧ W.cell? ⟨bA, 2, none⟩ = some (.int .u64 a.drawn)) ∧ (W.cell? ⟨bK, 0, none⟩ = some (.int .i64 k1) ∧ W.cell? ⟨bK, 1, none⟩ = some (.int .i64 k2)) ∧ W.cell? ⟨bC, 0, none⟩ = some (.int .i64 c1) ∧ W.cell? ⟨bC, 1, none⟩ = some (.int .i64 c2) from
    ⟨⟨(Bc hb hS.act.lt).trans (hS.act.cell 0), (Bc hb hS.act.lt).trans (hS.act.cell 1), (Bc hb hS.act.lt).trans (hS.act.cell 2)⟩, ⟨(Bc hb hS.key.lt).trans (hS.key.cell 0), (Bc hb hS.key.lt).trans (hS.key.cell 1)⟩, (Bc hb hS.con.lt).trans (hS.con.cell 0), (Bc hb hS.con.lt).trans (hS.con.cell 1)⟩))
  obtain ⟨⟨x0, x1, x2⟩, -, -, -⟩ := HX.out w (B0 w)
  obtain ⟨w1, hw1⟩ : ∃ w1 : World, w.alloc (.cells #[.slice Ad dl cd, .slice Ac cl cc, .int .u64 a.drawn] 33) = w1 := ⟨_, rfl⟩
  obtain ⟨bx, hbx⟩ : ∃ bx, w.heap.size = bx := ⟨_, rfl⟩
  have K1 : Blk w1 bx 33 #[.slice Ad dl cd, .slice Ac cl cc, .int .u64 a.drawn] := by rw [← hw1, ← hbx]; exact Blk.new _ _ _
  have B1 : Below w.heap.size w w1 := by rw [← hw1]; exact Ba (B0 w) _
  have K2 := K1.set_ 2 (.int .u64 d)
  obtain ⟨w2, hw2⟩ : ∃ w2 : World, w1.setCell ⟨bx, 2, none⟩ (.int .u64 d) = w2 := ⟨_, rfl⟩
  rw [hw2] at K2
  have B2 : Below w.heap.size w w2 := by rw [← hw2]; exact Bs B1 _ (by rw [← hbx]; exact Nat.le_refl _)
  have y2 := K1.cell 2
  have f2 := K1.frozen 2
  have z0 := K2.cell 0
  have z1 := K2.cell 1
  have z2 := K2.cell 2
  simp at y2 z0 z1 z2
  obtain ⟨-, ⟨u0, u1⟩, -, -⟩ := HX.out w2 B2
  have HW1 := Lib.hid hw1
  have HW2 := Lib.hid hw2
  have HBX := Lib.hid hbx
  have HB2 := Lib.hid B2
  have HR2 := Lib.hid (HRE.out w2 B2)
  clear hS hRE K1 K2 B1 B2 hw1 hw2 hbx hd he hdd hdc hF HRE hdl hcl hr hkw hok
  dsimp only at HR2
  go_enter Tryd.func45, Tryd.ntmps45
  go_upto_region 2 with fail
  rw [HW1.out, HBX.out]
  go_upto_region 3 with fail
  rw [HW2.out]
  clear y2 f2 x0 x1 x2
  go_wp2_with (first
    | (go_at_call 25; (with_reducible refine (HR2.out.mono ?_)); rintro e w3 ⟨v3, l3, rfl, hs3, -, hm3, hb3⟩; have HS3 := Lib.hid (SlCt.bnd3 hs3); have HM3 := Lib.hid (hm3 rfl).2; have HB3 := Lib.hid (Bt HB2.out hb3); obtain ⟨-, -, v0, v1⟩ := HX.out w3 HB3.out; clear hs3 hm3 hb3)
    | (go_at_call 41; (with_reducible refine ((HCN.out v3 l3 _ HS3.out).mono ?_)); rintro e w4 ⟨rfl, hb4⟩; have HB4 := Lib.hid (Bt HB3.out hb4); clear hb4))
  go_ret
  exact ⟨by rw [← HRB.out l3 HM3.out]; rfl, HB4.out⟩
end Go.Proofs.YtahlfndlkfoikaaDoor
namespace Go.Proofs.YtahlfndlkfoikaaDoor
open Go Go.RowKit Go.Shelf
/-- What holds behind each operation of a drawn region. -/
def FK (_bR _bO _bS i L lf wo o n cO : Nat) (adO : Addr) (fv : Value) (j : Nat) (s : Nat → Value) (_w : World) : Prop :=
  match j with
  | 0 => s 27 = fv
  | 1 => s 28 = .int .i64 i
  | 2 => s 29 = .int .i64 ((i + 1 : Nat) : Int)
  | 3 => s 30 = .int .i64 L
  | 4 => s 31 = .int .i64 lf
  | 5 => s 32 = .int .u64 wo
  | 6 => s 33 = .slice (some adO) n cO
  | 7 => s 34 = .int .i64 i
  | 8 => s 35 = .pointer (some (adO.add i))
  | 9 => s 36 = .int .i64 o
  | 10 => s 37 = .int .u64 ((Hit.bit o : Nat) : Int)
  | 11 => s 38 = .int .u64 ((wo ||| Hit.bit o : Nat) : Int)
  | _ => True
def VK (j : Nat) : List Nat := match j with
  | 0 => [27] | 1 => [28] | 2 => [29] | 3 => [30] | 4 => [31] | 5 => [32] | 6 => [33] | 7 => [34] | 8 => [35] | 9 => [36] | 10 => [37] | 11 => [38] | _ => []
def EK (j : Nat) : Bool := j == 0 || j == 2 || j == 4 || j == 11
theorem FK_V (_bR _bO _bS i L lf wo o n cO : Nat) (adO : Addr) (fv : Value) (j : Nat) (s s' : Nat → Value) (w : World) (h : ∀ t, t ∈ VK j → s' t = s t) (hF : FK _bR _bO _bS i L lf wo o n cO adO fv j s w) : FK _bR _bO _bS i L lf wo o n cO adO fv j s' w := by
  match j with
  | 0 => unfold FK at hF ⊢; simp only at hF ⊢; rw [h 27 (by simp [VK])]; exact hF
  | 1 => unfold FK at hF ⊢; simp only at hF ⊢; rw [h 28 (by simp [VK])]; exact hF
  | 2 => unfold FK at hF ⊢; simp only at hF ⊢; rw [h 29 (by simp [VK])]; exact hF
  | 3 => unfold FK at hF ⊢; simp only at hF ⊢; rw [h 30 (by simp [VK])]; exact hF
  | 4 => unfold FK at hF ⊢; simp only at hF ⊢; rw [h 31 (by simp [VK])]; exact hF
  | 5 => unfold FK at hF ⊢; simp only at hF ⊢; rw [h 32 (by simp [VK])]; exact hF
  | 6 => unfold FK at hF ⊢; simp only at hF ⊢; rw [h 33 (by simp [VK])]; exact hF
  | 7 => unfold FK at hF ⊢; simp only at hF ⊢; rw [h 34 (by simp [VK])]; exact hF
  | 8 => unfold FK at hF ⊢; simp only at hF ⊢; rw [h 35 (by simp [VK])]; exact hF
  | 9 => unfold FK at hF ⊢; simp only at hF ⊢; rw [h 36 (by simp [VK])]; exact hF
  | 10 => unfold FK at hF ⊢; simp only at hF ⊢; rw [h 37 (by simp [VK])]; exact hF
  | 11 => unfold FK at hF ⊢; simp only at hF ⊢; rw [h 38 (by simp [VK])]; exact hF
  | _ + 12 => trivial
theorem FK_below (_bR _bO _bS i L lf wo o n cO : Nat) (adO : Addr) (fv : Value) (j : Nat) (s : Nat → Value) (w w' : World) (_hb : Below w.heap.size w w') (hF : FK _bR _bO _bS i L lf wo o n cO adO fv j s w) : FK _bR _bO _bS i L lf wo o n cO adO fv j s w' := by
  match j with
  | 0 => exact hF
  | 1 => exact hF
  | 2 => exact hF
  | 3 => exact hF
  | 4 => exact hF
  | 5 => exact hF
  | 6 => exact hF
  | 7 => exact hF
  | 8 => exact hF
  | 9 => exact hF
  | 10 => exact hF
  | 11 => exact hF
  | _ + 12 => trivial
theorem Cha.skF_len {R : Nat → Bool} {on : List Nat} : ∀ (left i wo : Nat) (l : List Nat), Cha.skF R on left i wo = some l → l.length = left
  | 0, i, wo, l, h => by
    rw [Cha.skF] at h
    split at h
    · cases h
    · injection h with h; subst h; rfl
  | left + 1, i, wo, l, h => by
    rw [Cha.skF] at h
    obtain ⟨j, _, hj⟩ := List.exists_of_findSome?_eq_some h
    cases hs : Cha.skF R on left (i + j + 1) (wo ||| Hit.bit (on.getD (i + j) 0)) with
    | none => rw [hs] at hj; cases hj
    | some m =>
      rw [hs] at hj
      injection hj with hj
      subst hj
      simp [Cha.skF_len left _ _ m hs]
/-- Numbers as ints. -/
abbrev intN (l : List Nat) : List Int := l.map fun x : Nat => (x : Int)
/-- What seek answers. -/
def SeekP (r : Option (List Nat)) (v : Value) (w : World) : Prop := match r with
  | none => v = .slice none 0 0
  | some l => (∃ ad c, v = .slice (some ad) l.length c) ∧ SlI (fun b => b < w.heap.size) w v (intN l)
/-- The boxes of seek. -/
structure SeekSt (w : World) (bA bK bC bR bO bS : Nat) (F : Nat → Prop) (vd vc : Value) (a : Cou.Ac) (key c : Cou.Ct) (FO : Nat → Prop) (vO : Value) (on : List Nat) : Prop where
  cut : CutSt w bA bK bC F vd vc a key c
  re : Blk w bR 92 #[.func (.func 45) #[] #[.pointer (some ⟨bA, 0, none⟩), .pointer (some ⟨bK, 0, none⟩), .pointer (some ⟨bC, 0, none⟩)]]
  bo : Blk w bO 27 #[vO]
  sk : Blk w bS 93 #[.func (.func 47) #[] #[.pointer (some ⟨bR, 0, none⟩), .pointer (some ⟨bO, 0, none⟩), .pointer (some ⟨bS, 0, none⟩)]]
  row : SlI FO w vO (intN on)
  inW : ∀ b, FO b → b < w.heap.size
theorem SeekSt.below {w w' : World} {bA bK bC bR bO bS : Nat} {F : Nat → Prop} {vd vc : Value} {a : Cou.Ac} {key c : Cou.Ct} {FO : Nat → Prop} {vO : Value} {on : List Nat} (h : SeekSt w bA bK bC bR bO bS F vd vc a key c FO vO on) (hb : Below w.heap.size w w') : SeekSt w' bA bK bC bR bO bS F vd vc a key c FO vO on :=
  ⟨h.cut.below hb, h.re.below hb h.re.lt, h.bo.below hb h.bo.lt, h.sk.below hb h.sk.lt, SlI.keep h.row (Agree.below hb h.inW), fun b q => Nat.lt_of_lt_of_le (h.inW b q) hb.size⟩
theorem infI : ∃ i z, Tryd.prog.info? 3 = some i ∧ i.zero = some z ∧ i.size = 1 ∧ i.bytes = 8 ∧ z.cells.size = 1 := elemIn.hi
theorem infI_ht : Tryd.prog.underlying 27 = some (.slice 3) := elemIn.ht
theorem own_one (w : World) (u : Value) (e : TypeId) : (w.alloc (.cells #[u] e)).ownsRow w.heap.size e 1 (.slice (some ⟨w.heap.size, 0, none⟩) 1 1) 1 [u] :=
  ⟨rfl, .inr ⟨w.heap.size, 1, #[u], rfl, Nat.le_refl _, heap_alloc_new w _, Nat.le_refl _, by unfold maxLen; decide, rfl, rfl⟩⟩
set_option maxRecDepth 100000 in
set_option maxHeartbeats 4000000 in
theorem seek_any (a : Cou.Ac) (hr : Cou.rightF a = 0) (vd vc : Value) (key c : Cou.Ct) (hkw : Cou.wrongF a key = 0) (bA bK bC bR bO bS : Nat) (on : List Nat) (hon : on.length ≤ 64) (ho64 : ∀ x ∈ on, x < 64) (vO : Value) (F FO : Nat → Prop) : ∀ (left : Nat), left ≤ 100 → ∀ (from_ : Nat), from_ ≤ 100 → ∀ (wo : Nat), wo < 2 ^ 64 → ∀ (w : World), SeekSt w bA bK bC bR bO bS F vd vc a key c FO vO on →
    Calls Tryd.prog 47 #[.int .i64 from_, .int .i64 left, .int .u64 wo, .pointer (some ⟨bR, 0, none⟩), .pointer (some ⟨bO, 0, none⟩), .pointer (some ⟨bS, 0, none⟩)] w fun e w' => ∃ v, e = .returned v ∧ SeekP (Cha.skF (Cha.reachB a key c) on left from_ wo) v w' ∧ Below w.heap.size w w'
  | 0, _, from_, hf, wo, hwo, w, hS => by
    have hcall := reached_any a hr vd vc key c hkw bA bK bC wo hwo w F hS.cut
    have r0 := hS.re.cell 0
    simp only [List.getElem?_toArray, List.getElem?_cons_zero] at r0
    have hz : Cha.skF (Cha.reachB a key c) on 0 from_ wo = if Cha.reachB a key c wo then none else some [] := rfl
    have HZ := Lib.hid hz
    clear hS hz
    cases hb : Cha.reachB a key c wo with
    | true =>
      rw [hb] at hcall
      have HC := Lib.hid hcall
      rw [hb] at HZ
      clear hcall hb
      go_enter Tryd.func47, Tryd.ntmps47
      go_wp2_with (go_at_call 45; (with_reducible refine (HC.out.mono ?_)); rintro e w2 ⟨rfl, hb2⟩; have HB2 := Lib.hid hb2; clear hb2)
      go_ret
      exact ⟨_, rfl, by rw [HZ.out]; rfl, HB2.out⟩
    | false =>
      rw [hb] at hcall
      have HC := Lib.hid hcall
      rw [hb] at HZ
      clear hcall hb
      go_enter Tryd.func47, Tryd.ntmps47
      go_wp2_with (go_at_call 45; (with_reducible refine (HC.out.mono ?_)); rintro e w2 ⟨rfl, hb2⟩; have HB2 := Lib.hid hb2; clear hb2)
      go_ret
      refine ⟨_, rfl, ?_, Ba HB2.out _⟩
      rw [HZ.out]
      exact ⟨⟨_, _, rfl⟩, ⟨_, 0, rfl, by simp, by simp, fun i hi => absurd hi (by simp)⟩⟩
  | lf + 1, hl, from_, hf, wo, hwo, w, hS => by
    have IH := Lib.hid (fun i (hi : i ≤ 100) wo2 (h2 : wo2 < 2 ^ 64) W hW => seek_any a hr vd vc key c hkw bA bK bC bR bO bS on hon ho64 vO F FO lf (by omega) i hi wo2 h2 W hW)
    obtain ⟨AO, cO, hvO, hcO, _, hat⟩ := hS.row.open
    obtain ⟨n, hn⟩ : ∃ n, on.length = n := ⟨_, rfl⟩
    have hnm : (intN on).length = n := by simp [hn]
    rw [hnm] at hvO hcO
    have HN := Lib.hid hn
    have HAT := Lib.hid hat
    have HS := Lib.hid (fun W (hb : Below w.heap.size w W) => hS.below hb)
    have HINW := Lib.hid hS.inW
    rw [hn] at hon
    clear hat hn hnm hS
    obtain ⟨L, hL⟩ : ∃ L, lf + 1 = L := ⟨_, rfl⟩
    have HSK := Lib.hid (fun i (h : i + L ≤ n) => (show Cha.skF (Cha.reachB a key c) on L i wo = match Cha.skF (Cha.reachB a key c) on lf (i + 1) (wo ||| Hit.bit (on.getD i 0)) with | some l => some (on.getD i 0 :: l) | none => Cha.skF (Cha.reachB a key c) on L (i + 1) wo from by
      subst hL
      exact Cha.skF_step (by rw [HN.out]; exact h)))
    have HEN := Lib.hid (fun i (h : n < i + L) => (show Cha.skF (Cha.reachB a key c) on L i wo = none from by
      subst hL
      exact Cha.skF_end (by rw [HN.out]; exact h)))
    rw [hL] at hl ⊢
    have hL0 : ((L : Int) == 0) = false := by simp; omega
    have e4 : IntKind.i64.wrap ((L : Int) - 1) = (lf : Int) := by
      rw [show ((L : Int) - 1) = (lf : Int) by omega]
      simp [IntKind.wrap, IntKind.bits, IntKind.signed]
      omega
    have HL := Lib.hid hL
    clear hL
    obtain ⟨⟨c0, -, -, -, -, -⟩, d0, d1, d2, -, -⟩ := id (HS.out w (B0 w))
    clear c0 d0 d1 d2
    go_enter Tryd.func47, Tryd.ntmps47
    go_wp2_with fail
    go_loopg [10] 300 (fun gg s10 wr => ∃ i : Nat, i ≤ 201 ∧ 201 - i ≤ gg ∧ s10 = .int .i64 i ∧ Aside (Cha.skF (Cha.reachB a key c) on L i wo = Cha.skF (Cha.reachB a key c) on L from_ wo) ∧ Aside (Below w.heap.size w wr))
    case atStart => exact ⟨from_, by omega, by omega, rfl, rfl, B0 w⟩
    case round =>
      obtain ⟨i, hi, hg, rfl, HE, HB⟩ := hrel
      replace HE := Lib.hid HE
      replace HB := Lib.hid HB
      have hst := HS.out wr HB.out
      have o0 := hst.bo.cell 0
      simp only [List.getElem?_toArray, List.getElem?_cons_zero] at o0
      rw [hvO] at o0
      by_cases hin2 : i + L ≤ n
      · have hcond : decide ((i : Int) + L ≤ n) = true := decide_eq_true (by omega)
        have hcond2 : decide (i + L ≤ n) = true := decide_eq_true hin2
        have hcond3 : (i : Int) + L ≤ n := by omega
        have hil : i < n := by have := HL.out; omega
        have hin : (i : Int) < n := by omega
        have hion : i < on.length := by rw [HN.out]; exact hil
        have hgd : on.getD i 0 = on[i] := by rw [List.getD_eq_getElem?_getD, List.getElem?_eq_getElem hion]; rfl
        obtain ⟨adO, hAO, hfO, hcell⟩ := HAT.out i (by simpa using hion)
        rw [List.getElem_map] at hcell
        have ho := ho64 on[i] (List.getElem_mem hion)
        have hsk := HSK.out i hin2
        rw [hgd] at hsk
        obtain ⟨o, hoo⟩ : ∃ o, on[i] = o := ⟨_, rfl⟩
        rw [hoo] at hcell ho hsk
        subst hAO
        have hfb : (adO.add i).block < w.heap.size := by rw [block_of_add]; exact HINW.out _ hfO
        have HS8 := Lib.hid (fun W (hb : Below wr.heap.size wr W) => (show W.cell? ⟨bS, 0, none⟩ = some (.func (.func 47) #[] #[.pointer (some ⟨bR, 0, none⟩), .pointer (some ⟨bO, 0, none⟩), .pointer (some ⟨bS, 0, none⟩)]) ∧ W.cell? ⟨bO, 0, none⟩ = some (.slice (some adO) n cO) ∧ W.cell? (adO.add i) = some (.int .i64 o) from
          ⟨(Bc hb hst.sk.lt).trans (hst.sk.cell 0), (Bc hb hst.bo.lt).trans o0, ((Bt HB.out hb).cell (p := adO.add i) hfb).trans hcell⟩))
        have hor := Hit.u64_or wo (Hit.bit o) hwo (Hit.bit_lt ho)
        have hwo2 : wo ||| Hit.bit o < 2 ^ 64 := Nat.or_lt_two_pow hwo (Hit.bit_lt ho)
        have hih := fun W (hb : Below wr.heap.size wr W) => IH.out (i + 1) (by omega) (wo ||| Hit.bit o) hwo2 W (hst.below hb)
        have e2 : IntKind.i64.wrap ((i : Int) + 1) = ((i + 1 : Nat) : Int) := by
          simp [IntKind.wrap, IntKind.bits, IntKind.signed]
          omega
        have hsh : IntKind.u64.wrap ((2 : Int) ^ o) = ((Hit.bit o : Nat) : Int) := by
          have := Hit.shl_u64 o ho
          rwa [Nat.min_eq_left (by omega), Int.one_mul] at this
        have hBB : ∀ (L : Nat → Bool) (i : Nat) (W W' : World), Below W.heap.size W W' → Below wr.heap.size wr W → Below wr.heap.size wr W' := fun _ _ _ _ hb h => Bt h hb
        have HS := HS8
        have HSKI := Lib.hid hsk
        have HIH := Lib.hid hih
        clear hst hcell hfO hfb hgd hion hsk hoo hih HS8
        go_upto_region 8 with fail
        refine region_blocks (by kernel_rfl) ?_
        refine from_lawW 12 EK (fun _ W => Below wr.heap.size wr W) (FK bR bO bS i L lf wo o n cO adO (.func (.func 47) #[] #[.pointer (some ⟨bR, 0, none⟩), .pointer (some ⟨bO, 0, none⟩), .pointer (some ⟨bS, 0, none⟩)])) VK (by kernel_rfl) rfl (FK_V _ _ _ _ _ _ _ _ _ _ _ _) (by kernel_rfl) (by kernel_rfl) ((B0 wr).drew) ⟨?_, ?_, ?_, ?_, ?_, ?_, ?_, ?_, ?_, ?_, ?_, ?_, trivial⟩ ?_
        · refine OpFactW.value rfl (FK_below _ _ _ _ _ _ _ _ _ _ _ _) hBB fun _ a wx hl hf D hb => ?_
          have h0 : sl a 5 = .pointer (some ⟨bS, 0, none⟩) := hf 5 (by kernel_rfl)
          have es := HS.out wx hb
          refine ⟨(.func (.func 47) #[] #[.pointer (some ⟨bR, 0, none⟩), .pointer (some ⟨bO, 0, none⟩), .pointer (some ⟨bS, 0, none⟩)]), wx, ?_, B0 _, fun s _ h => h 27 rfl⟩
          unfold sl at h0
          simp at h0
          simp [go_sem, h0, es]
        · refine OpFactW.value rfl (FK_below _ _ _ _ _ _ _ _ _ _ _ _) hBB fun _ a wx hl hf D hb => ?_
          have h0 : sl a 10 = .int .i64 i := hf 10 (by kernel_rfl)
          refine ⟨.int .i64 i, wx, ?_, B0 _, fun s _ h => h 28 rfl⟩
          unfold sl at h0
          simp [go_sem, h0]
        · refine OpFactW.value rfl (FK_below _ _ _ _ _ _ _ _ _ _ _ _) hBB fun _ a wx hl hf D hb => ?_
          have h1 : sl a 28 = .int .i64 i := D 1 (by kernel_rfl)
          refine ⟨.int .i64 ((i + 1 : Nat) : Int), wx, ?_, B0 _, fun s _ h => h 29 rfl⟩
          unfold sl at h1
          simp at h1
          simp [go_sem, h1, e2]
        · refine OpFactW.value rfl (FK_below _ _ _ _ _ _ _ _ _ _ _ _) hBB fun _ a wx hl hf D hb => ?_
          have h0 : sl a 1 = .int .i64 L := hf 1 (by kernel_rfl)
          refine ⟨.int .i64 L, wx, ?_, B0 _, fun s _ h => h 30 rfl⟩
          unfold sl at h0
          simp [go_sem, h0]
        · refine OpFactW.value rfl (FK_below _ _ _ _ _ _ _ _ _ _ _ _) hBB fun _ a wx hl hf D hb => ?_
          have h1 : sl a 30 = .int .i64 L := D 3 (by kernel_rfl)
          refine ⟨.int .i64 lf, wx, ?_, B0 _, fun s _ h => h 31 rfl⟩
          unfold sl at h1
          simp at h1
          simp [go_sem, h1, e4]
        · refine OpFactW.value rfl (FK_below _ _ _ _ _ _ _ _ _ _ _ _) hBB fun _ a wx hl hf D hb => ?_
          have h0 : sl a 2 = .int .u64 wo := hf 2 (by kernel_rfl)
          refine ⟨.int .u64 wo, wx, ?_, B0 _, fun s _ h => h 32 rfl⟩
          unfold sl at h0
          simp [go_sem, h0]
        · refine OpFactW.value rfl (FK_below _ _ _ _ _ _ _ _ _ _ _ _) hBB fun _ a wx hl hf D hb => ?_
          have h0 : sl a 4 = .pointer (some ⟨bO, 0, none⟩) := hf 4 (by kernel_rfl)
          have es := HS.out wx hb
          refine ⟨.slice (some adO) n cO, wx, ?_, B0 _, fun s _ h => h 33 rfl⟩
          unfold sl at h0
          simp at h0
          simp [go_sem, h0, es]
        · refine OpFactW.value rfl (FK_below _ _ _ _ _ _ _ _ _ _ _ _) hBB fun _ a wx hl hf D hb => ?_
          have h0 : sl a 10 = .int .i64 i := hf 10 (by kernel_rfl)
          refine ⟨.int .i64 i, wx, ?_, B0 _, fun s _ h => h 34 rfl⟩
          unfold sl at h0
          simp [go_sem, h0]
        · refine OpFactW.value rfl (FK_below _ _ _ _ _ _ _ _ _ _ _ _) hBB fun _ a wx hl hf D hb => ?_
          have h1 : sl a 33 = .slice (some adO) n cO := D 6 (by kernel_rfl)
          have h2 : sl a 34 = .int .i64 i := D 7 (by kernel_rfl)
          refine ⟨.pointer (some (adO.add i)), wx, ?_, B0 _, fun s _ h => h 35 rfl⟩
          unfold sl at h1 h2
          simp at h1 h2
          simp [go_sem, h1, h2, hin]
        · refine OpFactW.value rfl (FK_below _ _ _ _ _ _ _ _ _ _ _ _) hBB fun _ a wx hl hf D hb => ?_
          have h0 : sl a 35 = .pointer (some (adO.add i)) := D 8 (by kernel_rfl)
          have es := HS.out wx hb
          refine ⟨.int .i64 o, wx, ?_, B0 _, fun s _ h => h 36 rfl⟩
          unfold sl at h0
          simp at h0
          simp [go_sem, h0, es]
        · refine OpFactW.value rfl (FK_below _ _ _ _ _ _ _ _ _ _ _ _) hBB fun _ a wx hl hf D hb => ?_
          have h1 : sl a 36 = .int .i64 o := D 9 (by kernel_rfl)
          refine ⟨.int .u64 ((Hit.bit o : Nat) : Int), wx, ?_, B0 _, fun s _ h => h 37 rfl⟩
          unfold sl at h1
          simp at h1
          simp [go_sem, h1, hsh]
        · refine OpFactW.value rfl (FK_below _ _ _ _ _ _ _ _ _ _ _ _) hBB fun _ a wx hl hf D hb => ?_
          have h1 : sl a 32 = .int .u64 wo := D 5 (by kernel_rfl)
          have h2 : sl a 37 = .int .u64 ((Hit.bit o : Nat) : Int) := D 10 (by kernel_rfl)
          refine ⟨.int .u64 ((wo ||| Hit.bit o : Nat) : Int), wx, ?_, B0 _, fun s _ h => h 38 rfl⟩
          unfold sl at h1 h2
          simp at h1 h2
          simp [go_sem, h1, h2, hor]
        · intro L9 y w9 hb9 hF9
          have h27 : y 27 = .func (.func 47) #[] #[.pointer (some ⟨bR, 0, none⟩), .pointer (some ⟨bO, 0, none⟩), .pointer (some ⟨bS, 0, none⟩)] := hF9 0 (by decide) rfl
          have h29 : y 29 = .int .i64 ((i + 1 : Nat) : Int) := hF9 2 (by decide) rfl
          have h31 : y 31 = .int .i64 lf := hF9 4 (by decide) rfl
          have h38 : y 38 = .int .u64 ((wo ||| Hit.bit o : Nat) : Int) := hF9 11 (by decide) rfl
          have HC := Lib.hid (HIH.out w9 hb9)
          have HB9 := Lib.hid hb9
          clear hF9 hb9 HIH
          rw [aft12 (d0 := 27) (d1 := 28) (d2 := 29) (d3 := 30) (d4 := 31) (d5 := 32) (d6 := 33) (d7 := 34) (d8 := 35) (d9 := 36) (d10 := 37) (d11 := 38) (by kernel_rfl) rfl]
          rw [h27, h29, h31, h38]
          simp only [List.set_cons_succ, List.set_cons_zero]
          refine from_list 14 (by kernel_rfl) (by simp only [List.take_succ_cons, List.take_zero, List.drop_succ_cons, List.drop_zero]; exact rfl) ?_
          (intro Q' hQ' hX; clear hX)
          have hski := HSKI.out
          have hc := HC.out
          rw [show ((i + 1 : Nat) : Int) = (i : Int) + 1 by omega] at hc
          cases hsr : Cha.skF (Cha.reachB a key c) on lf (i + 1) (wo ||| Hit.bit o) with
          | none =>
            rw [hsr] at hski hc
            have HC2 := Lib.hid hc
            have HE2 : Hid (Cha.skF (Cha.reachB a key c) on L (i + 1) wo = Cha.skF (Cha.reachB a key c) on L from_ wo) := Lib.hid (by rw [← HE.out, hski])
            clear hski hc hsr HC HSKI HE
            go_wp2_with (go_at_call 47; (with_reducible refine (HC2.out.mono ?_)); rintro e w2 ⟨v, rfl, hv, hb2⟩; have hv2 : v = .slice none 0 0 := hv; clear hv; subst hv2; have HB2 := Lib.hid (Bt HB.out (Bt HB9.out hb2)); clear hb2)
            refine from_end rfl ?_
            go_wp2_with fail
            go_roundg (201 - (i + 1))
            case measure => omega
            case rel => exact ⟨i + 1, by omega, by omega, by go_num, HE2.out, HB2.out⟩
          | some l =>
            rw [hsr] at hski hc
            have HC2 := Lib.hid hc
            have HE2 : Hid (Cha.skF (Cha.reachB a key c) on L from_ wo = some (o :: l)) := Lib.hid (by rw [← HE.out, hski])
            have hll : l.length ≤ 100 := by have := Cha.skF_len lf _ _ l hsr; have := HL.out; omega
            clear hski hc hsr HC HSKI HE
            go_wp2_with (go_at_call 47; (with_reducible refine (HC2.out.mono ?_)); rintro e w2 ⟨v, rfl, hv, hb2⟩; obtain ⟨⟨av, cv, rfl⟩, hvs⟩ := hv; have HVS := Lib.hid hvs; have HB2 := Lib.hid (Bt HB9.out hb2); clear hb2 hvs)
            refine from_end rfl ?_
            obtain ⟨s0, s1, s2⟩ := HS.out w2 HB2.out
            obtain ⟨m, hm⟩ : ∃ m, l.length = m := ⟨_, rfl⟩
            have hvr := HVS.out
            rw [hm] at hvr hll
            have HRD := Lib.hid (SlI.reads hvr (B := w2.heap.size) fun _ h => h)
            rw [hm]
            clear hvr
            go_wp2_with (at_builtin; refine wpList_append_any _ rfl _ _ _ rfl w2.heap.size 3 infI.choose infI.choose_spec.choose 1 8 infI_ht infI.choose_spec.choose_spec.1 infI.choose_spec.choose_spec.2.1 infI.choose_spec.choose_spec.2.2.1 infI.choose_spec.choose_spec.2.2.2.1 infI.choose_spec.choose_spec.2.2.2.2 (by omega) (.slice (some ⟨w2.heap.size, 0, none⟩) 1 1) 1 [.int .i64 o] rfl (own_one w2 _ _) w2.heap.size (some av) m cv _ rfl (HRD.out.below (Ba (B0 w2) _)) (by intro u hu; obtain ⟨x, _, rfl⟩ := List.mem_map.1 hu; rfl) (by unfold maxLen; omega) (by omega) (by simp) ?_; intro v' w7 hown7 hg7 hgg; have HO7 := Lib.hid hown7; have HG7 := Lib.hid hg7; clear hown7 hg7 hgg)
            go_ret
            refine ⟨_, rfl, ?_, ?_⟩
            · rw [HE2.out]
              have h7 := HO7.out
              rw [show [Value.int .i64 (o : Int)] ++ inCs (intN l) = inCs (intN (o :: l)) from rfl, show 1 + m = (intN (o :: l)).length by simp [hm]; omega] at h7
              have hs := slI_own h7 (by simp; omega)
              obtain ⟨g, cap, hv⟩ : ∃ g cap, v' = .slice (some ⟨g, 0, none⟩) (intN (o :: l)).length cap := by
                have := own_lit (n := l.length) (by simpa using h7)
                simpa using this
              subst hv
              exact ⟨⟨⟨g, 0, none⟩, cap, by simp⟩, Sl.mono hs fun b h => h.lt⟩
            · exact (Bt HB.out (Ba HB2.out _)).grown HG7.out (by have := (Bt HB.out HB2.out).size; simp; omega) fun b h => by
                simp [Value.ownBlock] at h
                have := (Bt HB.out HB2.out).size
                omega
      · have hcond : decide ((i : Int) + L ≤ n) = false := decide_eq_false (by omega)
        have hcond2 : decide (i + L ≤ n) = false := decide_eq_false hin2
        have hcond3 : ¬ (i : Int) + L ≤ n := by omega
        have HZ : Hid (Cha.skF (Cha.reachB a key c) on L from_ wo = none) := Lib.hid (by rw [← HE.out]; exact HEN.out i (by omega))
        clear hst
        go_wp2_with fail
        go_ret
        exact ⟨_, rfl, by rw [HZ.out]; rfl, HB.out⟩
end Go.Proofs.YtahlfndlkfoikaaDoor
namespace Go.Proofs.YtahlfndlkfoikaaDoor
open Go Go.RowKit Go.Shelf
theorem inCs_snoc (l : List Nat) (x : Nat) : inCs (intN (l ++ [x])) = inCs (intN l) ++ [.int .i64 x] := by simp [inCs]
/-- What holds behind each operation of a drawn region. -/
def FC (base k lim : Nat) (vO : Value) (pre : List Nat) (r t : Nat) (j : Nat) (s : Nat → Value) (w : World) : Prop :=
  match j with
  | 0 => s 35 = vO
  | 1 => s 36 = .int .u64 r
  | 2 => s 37 = .int .i64 t
  | 3 => ∃ g, s 38 = .slice (some ⟨g, 0, none⟩) 1 1 ∧ g < w.heap.size ∧ lim < g ∧ Flds w ⟨g, 0, none⟩ [.int .i64 t]
  | 4 => ∃ g c, s 39 = .slice (some ⟨g, 0, none⟩) (k + 1) c ∧ w.ownsRow base 3 1 (.slice (some ⟨g, 0, none⟩) (k + 1) c) (k + 1) (inCs (intN (pre ++ [t])))
  | _ => True
def VC (j : Nat) : List Nat := match j with
  | 0 => [35] | 1 => [36] | 2 => [37] | 3 => [38] | 4 => [39] | _ => []
def EC (j : Nat) : Bool := j == 4
theorem FC_V (base k lim : Nat) (vO : Value) (pre : List Nat) (r t : Nat) (j : Nat) (s s' : Nat → Value) (w : World) (h : ∀ t, t ∈ VC j → s' t = s t) (hF : FC base k lim vO pre r t j s w) : FC base k lim vO pre r t j s' w := by
  match j with
  | 0 => unfold FC at hF ⊢; simp only at hF ⊢; rw [h 35 (by simp [VC])]; exact hF
  | 1 => unfold FC at hF ⊢; simp only at hF ⊢; rw [h 36 (by simp [VC])]; exact hF
  | 2 => unfold FC at hF ⊢; simp only at hF ⊢; rw [h 37 (by simp [VC])]; exact hF
  | 3 => unfold FC at hF ⊢; simp only at hF ⊢; rw [h 38 (by simp [VC])]; exact hF
  | 4 => unfold FC at hF ⊢; simp only at hF ⊢; rw [h 39 (by simp [VC])]; exact hF
  | _ + 5 => trivial
theorem FC_below (base k lim : Nat) (vO : Value) (pre : List Nat) (r t : Nat) (j : Nat) (s : Nat → Value) (w w' : World) (hb : Below w.heap.size w w') (hF : FC base k lim vO pre r t j s w) : FC base k lim vO pre r t j s w' := by
  match j with
  | 0 => exact hF
  | 1 => exact hF
  | 2 => exact hF
  | 3 => obtain ⟨g, q1, q2, q3, q4⟩ := hF; exact ⟨g, q1, Nat.lt_of_lt_of_le q2 hb.size, q3, q4.below hb q2⟩
  | 4 => obtain ⟨g, c, q1, q2⟩ := hF; exact ⟨g, c, q1, q2.kept (row := none) (only_of_below hb none) (.inr (by simp [Value.ownBlock]))⟩
  | _ + 5 => trivial
/-- A row of two contacts. -/
theorem slCt_two (W : World) (x y : Cou.Ct) : SlCt (fun b => b < (W.alloc (.cells #[.int .i64 x.1, .int .i64 x.2, .int .i64 y.1, .int .i64 y.2] 36)).heap.size) (W.alloc (.cells #[.int .i64 x.1, .int .i64 x.2, .int .i64 y.1, .int .i64 y.2] 36)) (.slice (some ⟨W.heap.size, 0, none⟩) 2 2) [x, y] := by
  have hfl := Flds.new W [.int .i64 x.1, .int .i64 x.2, .int .i64 y.1, .int .i64 y.2] 36
  refine ⟨some ⟨W.heap.size, 0, none⟩, 2, rfl, by simp, by simp, fun i hi => ?_⟩
  have hi2 : i = 0 ∨ i = 1 := by simp at hi; omega
  rcases hi2 with rfl | rfl
  · refine ⟨⟨W.heap.size, 0, none⟩, [.int .i64 x.1, .int .i64 x.2], rfl, by simp, rfl, rfl, fun j u hu => ?_⟩
    have hj : j = 0 ∨ j = 1 := by
      have := (List.getElem?_eq_some_iff.1 hu).1
      simp at this; omega
    rcases hj with rfl | rfl
    · exact hfl 0 u (by simpa using hu)
    · exact hfl 1 u (by simpa using hu)
  · refine ⟨⟨W.heap.size, 0, none⟩, [.int .i64 y.1, .int .i64 y.2], rfl, by simp, rfl, rfl, fun j u hu => ?_⟩
    have hj : j = 0 ∨ j = 1 := by
      have := (List.getElem?_eq_some_iff.1 hu).1
      simp at this; omega
    rcases hj with rfl | rfl
    · exact hfl 2 u (by simpa using hu)
    · exact hfl 3 u (by simpa using hu)
namespace Cha
/-- What Cut answers. -/
def cutR (a : Cou.Ac) (key c : Cou.Ct) : Int × List Nat := if beginF a [key, c] = 0 then (if reachB a key c 0 = true then (if 16 < (Hit.members a.drawn).length then (4, []) else (0, (cutL (reachB a key c) (Hit.members a.drawn)).getD [])) else (18, [])) else (beginF a [key, c], [])
theorem begin_two {a : Cou.Ac} {x c : Cou.Ct} (h : beginF a [x, c] = 0) : Cou.rightF a = 0 ∧ Cou.wrongF a x = 0 ∧ Cou.wrongF a c = 0 := by
  unfold beginF at h
  split at h
  · rename_i hr
    unfold wrongsF at h
    split at h
    · rename_i h1
      unfold wrongsF at h
      split at h
      · rename_i h2
        exact ⟨hr, h1, h2⟩
      · rename_i q; exact absurd h q
    · rename_i q; exact absurd h q
  · rename_i q; exact absurd h q
end Cha
namespace Cha
theorem reach_all {a : Cou.Ac} (hok : Cou.Ok a) (hd : a.drawn < 2 ^ 64) (key c : Cou.Ct) : reachB a key c (orL (Hit.members a.drawn) 0) = false := by
  cases h : reachB a key c (orL (Hit.members a.drawn) 0) with
  | false => rfl
  | true =>
    exfalso
    have he : orL (Hit.members a.drawn) 0 = a.drawn := Nat.eq_of_testBit_eq fun i => by
      rw [Bool.eq_iff_iff, orL_test, Hit.mem_members]
      constructor
      · rintro ⟨_, h⟩; exact h
      · intro h
        refine ⟨?_, h⟩
        rcases Nat.lt_or_ge i 64 with q | q
        · exact q
        · rw [Nat.testBit_lt_two_pow (Nat.lt_of_lt_of_le hd (Nat.pow_le_pow_right (by decide) q))] at h; cases h
    rw [he] at h
    have hh := (reachB_iff hok).1 h
    have h0 : ∀ i, (cutA a a.drawn).drawn.testBit i = false := fun i => by
      show (Hit.andn a.drawn a.drawn).testBit i = false
      rw [Hit.andn_test]; cases a.drawn.testBit i <;> rfl
    cases hh with
    | first _ h2 _ => rw [h0] at h2; cases h2
    | more _ h2 _ _ => rw [h0] at h2; cases h2
theorem find_range {α : Type} {f : Nat → Option α} {l : α} : ∀ (n k : Nat), k < n → (∀ j, j < k → f j = none) → f k = some l → (List.range n).findSome? f = some l
  | 0, k, h, _, _ => absurd h (by omega)
  | n + 1, k, h, h1, h2 => by
    rw [List.range_succ, List.findSome?_append]
    by_cases e : k = n
    · subst e
      have : (List.range k).findSome? f = none := List.findSome?_eq_none_iff.2 fun j hj => h1 j (List.mem_range.1 hj)
      rw [this]
      simp [h2]
    · rw [find_range n k (by omega) h1 h2]; rfl
end Cha
set_option maxRecDepth 100000 in
set_option maxHeartbeats 4000000 in
theorem Cut_any (a : Cou.Ac) (vd vc : Value) (hdr : a.drawn < 2 ^ 64) (key c : Cou.Ct) (w : World) (F : Nat → Prop) (hA : AcAt F w vd vc a) (hT : Tab64 w) (hg : 0 < w.heap.size) :
    Calls Tryd.prog 18 #[.agg #[vd, vc, .int .u64 a.drawn], .agg #[.int .i64 key.1, .int .i64 key.2], .agg #[.int .i64 c.1, .int .i64 c.2]] w fun e w' => ∃ v, e = .returned (.tuple #[v, .int .i64 (Cha.cutR a key c).1]) ∧ SlI (fun b => b < w'.heap.size) w' v (intN (Cha.cutR a key c).2) ∧ Below w.heap.size w w' := by
  obtain ⟨Ad, cd, hvd, -, -⟩ := id hA.dv.open
  obtain ⟨Ac, cc, hvc, -, -⟩ := id hA.cp.open
  subst hvd hvc
  have hF := hA.inW
  obtain ⟨dl, hdl⟩ : ∃ dl, a.divs.length = dl := ⟨_, rfl⟩
  obtain ⟨cl, hcl⟩ : ∃ cl, a.cps.length = cl := ⟨_, rfl⟩
  rw [hdl, hcl] at hA ⊢
  have HBG := Lib.hid (fun W (hb : Below w.heap.size w W) pv pl (hP : SlCt (fun b => b < W.heap.size) W pv pl) => begin_any a (.slice Ad dl cd) (.slice Ac cl cc) hdr pv pl W (fun b => b < W.heap.size) (hA.onB hF hb).all hP)
  obtain ⟨k1, k2⟩ := key
  obtain ⟨t1, t2⟩ := c
  obtain ⟨w1, hw1⟩ : ∃ w1 : World, ((w.alloc (.cells #[.slice Ad dl cd, .slice Ac cl cc, .int .u64 a.drawn] 33)).alloc (.cells #[.int .i64 k1, .int .i64 k2] 36)).alloc (.cells #[.int .i64 t1, .int .i64 t2] 36) = w1 := ⟨_, rfl⟩
  obtain ⟨bA, hbA⟩ : ∃ bx, w.heap.size = bx := ⟨_, rfl⟩
  obtain ⟨bK, hbK⟩ : ∃ b1, bA + 1 = b1 := ⟨_, rfl⟩
  obtain ⟨bC, hbC⟩ : ∃ b2, bK + 1 = b2 := ⟨_, rfl⟩
  have KA : Blk w1 bA 33 #[.slice Ad dl cd, .slice Ac cl cc, .int .u64 a.drawn] := by
    rw [← hw1, ← hbA]; exact ((Blk.new _ _ _).alloc _).alloc _
  have KK : Blk w1 bK 36 #[.int .i64 k1, .int .i64 k2] := by
    have := (Blk.new (w.alloc (.cells #[.slice Ad dl cd, .slice Ac cl cc, .int .u64 a.drawn] 33)) 36 #[.int .i64 k1, .int .i64 k2]).alloc (.cells #[.int .i64 t1, .int .i64 t2] 36)
    rw [hw1] at this
    rw [← hbK, ← hbA]; simpa using this
  have KC : Blk w1 bC 36 #[.int .i64 t1, .int .i64 t2] := by
    have := Blk.new ((w.alloc (.cells #[.slice Ad dl cd, .slice Ac cl cc, .int .u64 a.drawn] 33)).alloc (.cells #[.int .i64 k1, .int .i64 k2] 36)) 36 #[.int .i64 t1, .int .i64 t2]
    rw [hw1] at this
    rw [← hbC, ← hbK, ← hbA]; simpa using this
  have B1 : Below w.heap.size w w1 := by rw [← hw1]; exact Ba (Ba (Ba (B0 w) _) _) _
  have hst : CutSt w1 bA bK bC F (.slice Ad dl cd) (.slice Ac cl cc) a (k1, k2) (t1, t2) := ⟨KA, KK, KC, hA.onB hF B1, hT.below B1, Nat.lt_of_lt_of_le hg B1.size⟩
  have HST := Lib.hid hst
  have HK := Lib.hid (fun W (hb : Below w1.heap.size w1 W) => (show (W.cell? ⟨bA, 0, none⟩ = some (.slice Ad dl cd) ∧ W.cell? ⟨bA, 1, none⟩ = some (.slice Ac cl cc) ∧ W.cell? ⟨bA, 2, none⟩ = some (.int .u64 a.drawn)) ∧ (W.cell? ⟨bK, 0, none⟩ = some (.int .i64 k1) ∧ W.cell? ⟨bK, 1, none⟩ = some (.int .i64 k2)) ∧ W.cell? ⟨bC, 0, none⟩ = some (.int .i64 t1) ∧ W.cell? ⟨bC, 1, none⟩ = some (.int .i64 t2) from
    ⟨⟨(Bc hb KA.lt).trans (KA.cell 0), (Bc hb KA.lt).trans (KA.cell 1), (Bc hb KA.lt).trans (KA.cell 2)⟩, ⟨(Bc hb KK.lt).trans (KK.cell 0), (Bc hb KK.lt).trans (KK.cell 1)⟩, (Bc hb KC.lt).trans (KC.cell 0), (Bc hb KC.lt).trans (KC.cell 1)⟩))
  obtain ⟨⟨c0, c1, c2⟩, ⟨c3, c4⟩, c5, c6⟩ := HK.out w1 (B0 w1)
  have HB1 := Lib.hid B1
  have HW1 := Lib.hid hw1
  have HA := Lib.hid hbA
  have HKe := Lib.hid hbK
  have HCe := Lib.hid hbC
  have hbg := HBG.out _ (Bt B1 (Ba (B0 w1) (.cells #[.int .i64 k1, .int .i64 k2, .int .i64 t1, .int .i64 t2] 36))) _ _ (slCt_two w1 (k1, k2) (t1, t2))
  clear hA hF hT hg B1 hw1 hbA hbK hbC KA KK KC hst hdl hcl HBG
  dsimp only
  by_cases hbe : Cha.beginF a [(k1, k2), (t1, t2)] = 0
  · obtain ⟨hr, hkw, hcw⟩ := Cha.begin_two hbe
    have hok := Cou.right_ok hr
    have hz : Cha.cutR a (k1, k2) (t1, t2) = if Cha.reachB a (k1, k2) (t1, t2) 0 = true then (if 16 < (Hit.members a.drawn).length then (4, []) else (0, (Cha.cutL (Cha.reachB a (k1, k2) (t1, t2)) (Hit.members a.drawn)).getD [])) else (18, []) := by unfold Cha.cutR; rw [if_pos hbe]
    have HZ := Lib.hid hz
    rw [hbe] at hbg
    have HBE := Lib.hid hbg
    have HRE := Lib.hid (fun (wo : Nat) (hwo : wo < 2 ^ 64) W (hb : Below w1.heap.size w1 W) => reached_any a hr (.slice Ad dl cd) (.slice Ac cl cc) (k1, k2) (t1, t2) hkw bA bK bC wo hwo W F (HST.out.below hb))
    have HR := Lib.hid (show Cou.rightF a = 0 ∧ Cou.wrongF a (k1, k2) = 0 from ⟨hr, hkw⟩)
    have HOK := Lib.hid hok
    clear hbe hbg hr hkw hcw hok hz
    have hcall : ∀ (W : World) (_ : Below w1.heap.size w1 W), Calls Tryd.prog 45 #[.int .u64 0, .pointer (some ⟨bA, 0, none⟩), .pointer (some ⟨bK, 0, none⟩), .pointer (some ⟨bC, 0, none⟩)] W fun e w' => e = .returned (.bool (Cha.reachB a (k1, k2) (t1, t2) 0)) ∧ Below W.heap.size W w' := fun W hb => HRE.out 0 (by omega) W hb
    have hstf := fun (W : World) (p : Addr) (f : Fn) (t : Array Value) (c : Array Value) => run_store Tryd.prog W p (.func f t c) .plain rfl
    go_enter Tryd.func18, Tryd.ntmps18
    go_upto_region 1 with fail
    rw [HW1.out, HA.out, HKe.out, HCe.out]
    go_upto_region 4 with (go_at_call 38; (with_reducible refine (HBE.out.mono ?_)); rintro e w2 ⟨rfl, hb2⟩; have HB2 := Lib.hid (Bt (Ba (B0 w1) _) hb2); clear hb2 c0 c1 c2 c3 c4 c5 c6)
    obtain ⟨bR, hbR⟩ : ∃ bR, w2.heap.size = bR := ⟨_, rfl⟩
    obtain ⟨w3, hw3⟩ : ∃ w3 : World, w2.alloc (.cells #[.func (.func 45) #[] #[.pointer (some ⟨bA, 0, none⟩), .pointer (some ⟨bK, 0, none⟩), .pointer (some ⟨bC, 0, none⟩)]] 92) = w3 := ⟨_, rfl⟩
    have KR : Blk w3 bR 92 #[.func (.func 45) #[] #[.pointer (some ⟨bA, 0, none⟩), .pointer (some ⟨bK, 0, none⟩), .pointer (some ⟨bC, 0, none⟩)]] := by rw [← hw3, ← hbR]; exact Blk.new _ _ _
    have HB3 : Hid (Below w1.heap.size w1 w3) := Lib.hid (by rw [← hw3]; exact Ba HB2.out _)
    have r0 := KR.cell 0
    simp only [List.getElem?_toArray, List.getElem?_cons_zero] at r0
    have HKR := Lib.hid KR
    go_upto_region 5 with fail
    try rw [hw3]
    try rw [hbR]
    clear hw3 hbR KR
    cases hre : Cha.reachB a (k1, k2) (t1, t2) 0 with
    | false =>
      rw [hre] at hcall
      have HC := Lib.hid hcall
      have HZ2 : Hid (Cha.cutR a (k1, k2) (t1, t2) = (18, [])) := Lib.hid (by rw [HZ.out, hre]; rfl)
      clear hcall hre
      go_wp2_with (go_at_call 45; (with_reducible refine ((HC.out _ HB3.out).mono ?_)); rintro e w4 ⟨rfl, hb4⟩; have HB4 := Lib.hid (Bt HB3.out hb4); clear hb4)
      go_ret2
      rw [HZ2.out]
      exact ⟨_, rfl, Sl.nil_, Bt HB1.out HB4.out⟩
    | true =>
      rw [hre] at hcall
      have HC := Lib.hid hcall
      have HZ2 := HZ.out
      rw [hre, if_pos rfl] at HZ2
      have HZ2 := Lib.hid HZ2
      have HRT := Lib.hid hre
      clear hcall hre HZ
      go_upto_region 7 with (go_at_call 45; (with_reducible refine ((HC.out _ HB3.out).mono ?_)); rintro e w4 ⟨rfl, hb4⟩; have HB4 := Lib.hid (Bt HB3.out hb4); have HR4 := Lib.hid (HKR.out.below hb4 HKR.out.lt); clear hb4 r0)
      have hmem : (Hit.members a.drawn).length ≤ 64 := Nat.le_trans (List.length_filter_le _ _) (by simp)
      obtain ⟨bO, hbO⟩ : ∃ bO, w4.heap.size = bO := ⟨_, rfl⟩
      have HBOL : Hid (w1.heap.size ≤ bO) := Lib.hid (by rw [← hbO]; exact HB4.out.size)
      obtain ⟨w5, hw5⟩ : ∃ w5 : World, w4.alloc (.cells #[.slice none 0 0] 27) = w5 := ⟨_, rfl⟩
      have KO : Blk w5 bO 27 #[.slice none 0 0] := by rw [← hw5, ← hbO]; exact Blk.new _ _ _
      have HB5 : Hid (Below w1.heap.size w1 w5) := Lib.hid (by rw [← hw5]; exact Ba HB4.out _)
      have HR5 := Lib.hid (show Blk w5 bR _ _ from by rw [← hw5]; exact HR4.out.alloc _)
      have HS5 : Hid (w5.heap.size = bO + 1) := Lib.hid (by rw [← hw5, ← hbO]; simp)
      have HKO := Lib.hid KO
      obtain ⟨⟨c0, c1, c2⟩, -, -, -⟩ := HK.out w5 HB5.out
      go_upto_region 8 with fail
      try rw [hw5]
      try rw [hbO]
      clear hw5 hbO KO
      go_wp2_with fail
      obtain ⟨B5, hB5⟩ : ∃ B5, w5.heap.size = B5 := ⟨_, rfl⟩
      have HB5e : Hid (B5 = bO + 1) := Lib.hid (by rw [← hB5]; exact HS5.out)
      have HBASE2 : Hid (w1.heap.size ≤ B5) := Lib.hid (by rw [← hB5]; exact HB5.out.size)
      have HTZ0 := Lib.hid (fun r (h0 : r ≠ 0) (hr : r < 18446744073709551616) W (hb : Below w1.heap.size w1 W) => tz64_any r h0 hr W (HST.out.tab.below hb))
      clear hB5 c0 c1 c2 HC HRE HBE
      go_loopg [11] (a.drawn + 1) (fun gg s11 wr => ∃ (r : Nat) (pre : List Nat) (vO : Value), s11 = .int .u64 r ∧ r < gg ∧ r < 2 ^ 64 ∧ Aside (pre ++ Hit.members r = Hit.members a.drawn) ∧ Aside (Blk wr bO 27 #[vO]) ∧ Aside (wr.ownsRow B5 3 1 vO pre.length (inCs (intN pre))) ∧ Aside (Below w1.heap.size w1 wr) ∧ Aside (Blk wr bR 92 #[.func (.func 45) #[] #[.pointer (some ⟨bA, 0, none⟩), .pointer (some ⟨bK, 0, none⟩), .pointer (some ⟨bC, 0, none⟩)]]))
      case atStart => exact ⟨a.drawn, [], _, rfl, by omega, hdr, rfl, HKO.out, World.ownsRow_nil _ _ _ _, HB5.out, HR5.out⟩
      case round =>
        obtain ⟨r, pre, vO, rfl, hg, hr64, HM, HKB, HOW, HB, HRB⟩ := hrel
        replace HM := Lib.hid HM
        replace HKB := Lib.hid HKB
        replace HOW := Lib.hid HOW
        replace HB := Lib.hid HB
        replace HRB := Lib.hid HRB
        obtain ⟨AO, cO, rfl⟩ : ∃ A c, vO = .slice A pre.length c := by
          rcases HOW.out.2 with ⟨e, e2⟩ | ⟨g, cap, cur, e, _⟩
          · exact ⟨none, 0, by rw [e, e2]⟩
          · exact ⟨_, _, e⟩
        have o0 := HKB.out.cell 0
        have of0 := HKB.out.frozen 0
        simp only [List.getElem?_toArray, List.getElem?_cons_zero] at o0
        have hpl : pre.length ≤ 64 := by
          have := congrArg List.length HM.out
          rw [List.length_append] at this
          omega
        clear HKO HB5 HR5 HS5
        by_cases hr0 : r = 0
        · subst hr0
          have hpre : pre = Hit.members a.drawn := by
            have h1 := HM.out
            rw [show Hit.members 0 = [] by decide, List.append_nil] at h1
            exact h1
          have h0' : (((0 : Nat) : Int) != 0) = false := rfl
          rw [← hpre] at hmem
          have HZ2 := HZ2.out
          rw [← hpre] at HZ2
          have HZ2 := Lib.hid HZ2
          have HPRE := Lib.hid hpre
          clear hpre
          obtain ⟨n, hn⟩ : ∃ n, pre.length = n := ⟨_, rfl⟩
          have HN := Lib.hid hn
          rw [hn] at o0 hmem hpl
          have how := HOW.out
          rw [hn] at how
          have HOW := Lib.hid how
          have hkb := HKB.out
          rw [hn] at hkb
          have HKB := Lib.hid hkb
          clear how hkb of0
          by_cases hbig : 16 < n
          · have d1 : decide ((16 : Int) < n) = true := decide_eq_true (by omega)
            have d2 : decide (16 < n) = true := decide_eq_true hbig
            have HZ3 : Hid (Cha.cutR a (k1, k2) (t1, t2) = (4, [])) := Lib.hid (by rw [HZ2.out, HN.out, if_pos hbig])
            clear hn hbig
            go_wp2_with fail
            go_ret2
            rw [HZ3.out]
            exact ⟨_, rfl, Sl.nil_, Bt HB1.out HB.out⟩
          · have d1 : decide ((16 : Int) < n) = false := decide_eq_false (by omega)
            have d2 : decide (16 < n) = false := decide_eq_false hbig
            have HZ3 : Hid (Cha.cutR a (k1, k2) (t1, t2) = (0, (Cha.cutL (Cha.reachB a (k1, k2) (t1, t2)) pre).getD [])) := Lib.hid (by rw [HZ2.out, HN.out, if_neg hbig])
            have hn1 : 1 ≤ n := by
              rcases Nat.eq_zero_or_pos n with e | e
              · exfalso
                have hp : pre = [] := List.eq_nil_of_length_eq_zero (by rw [HN.out]; exact e)
                have := Cha.reach_all HOK.out hdr (k1, k2) (t1, t2)
                rw [← HPRE.out, hp, show Cha.orL [] 0 = 0 from rfl, HRT.out] at this
                cases this
              · exact e
            have hrow : SlI (IsC wr) wr (.slice AO n cO) (intN pre) := slI_own (l := intN pre) (by rw [List.length_map, HN.out]; exact HOW.out) (by rw [List.length_map, HN.out]; omega)
            obtain ⟨bS, hbS⟩ : ∃ bS, wr.heap.size = bS := ⟨_, rfl⟩
            obtain ⟨w7, hw7⟩ : ∃ w7 : World, wr.alloc (.cells #[.nilFunc] 93) = w7 := ⟨_, rfl⟩
            have K7 : Blk w7 bS 93 #[.nilFunc] := by rw [← hw7, ← hbS]; exact Blk.new _ _ _
            have B7 : Below wr.heap.size wr w7 := by rw [← hw7]; exact Ba (B0 wr) _
            obtain ⟨w8, hw8⟩ : ∃ w8 : World, w7.setCell ⟨bS, 0, none⟩ (.func (.func 47) #[] #[.pointer (some ⟨bR, 0, none⟩), .pointer (some ⟨bO, 0, none⟩), .pointer (some ⟨bS, 0, none⟩)]) = w8 := ⟨_, rfl⟩
            have K8 : Blk w8 bS 93 #[.func (.func 47) #[] #[.pointer (some ⟨bR, 0, none⟩), .pointer (some ⟨bO, 0, none⟩), .pointer (some ⟨bS, 0, none⟩)]] := by rw [← hw8]; simpa using K7.set_ 0 (.func (.func 47) #[] #[.pointer (some ⟨bR, 0, none⟩), .pointer (some ⟨bO, 0, none⟩), .pointer (some ⟨bS, 0, none⟩)])
            have B8 : Below wr.heap.size wr w8 := by rw [← hw8]; exact Bs B7 _ (by rw [← hbS]; exact Nat.le_refl _)
            have hss : SeekSt w8 bA bK bC bR bO bS F (.slice Ad dl cd) (.slice Ac cl cc) a (k1, k2) (t1, t2) (IsC wr) (.slice AO n cO) pre :=
              ⟨HST.out.below (Bt HB.out B8), HRB.out.below B8 HRB.out.lt, HKB.out.below B8 HKB.out.lt, K8, SlI.keep hrow (Agree.below B8 fun b h => h.lt), fun b h => Nat.lt_of_lt_of_le h.lt B8.size⟩
            have HSE := Lib.hid (fun (m : Nat) (hm : m ≤ 64) W (hb : Below w8.heap.size w8 W) => (show Calls Tryd.prog 47 #[.int .i64 0, .int .i64 m, .int .u64 0, .pointer (some ⟨bR, 0, none⟩), .pointer (some ⟨bO, 0, none⟩), .pointer (some ⟨bS, 0, none⟩)] W fun e w' => ∃ v, e = .returned v ∧ SeekP (Cha.skF (Cha.reachB a (k1, k2) (t1, t2)) pre m 0 0) v w' ∧ Below W.heap.size W w' from
              seek_any a HR.out.1 (.slice Ad dl cd) (.slice Ac cl cc) (k1, k2) (t1, t2) HR.out.2 bA bK bC bR bO bS pre (by rw [HN.out]; exact hmem) (by rw [HPRE.out]; intro x hx; exact (Hit.mem_members.1 hx).1) (.slice AO n cO) F (IsC wr) m (by omega) 0 (by omega) 0 (by omega) W (hss.below hb)))
            have HB8 := Lib.hid (Bt HB.out B8)
            have s0 := K8.cell 0
            simp only [List.getElem?_toArray, List.getElem?_cons_zero] at s0
            have HSS := Lib.hid (fun W (hb : Below w8.heap.size w8 W) => (show W.cell? ⟨bS, 0, none⟩ = some _ from (Bc hb K8.lt).trans s0))
            have kc7 := K7.cell 0
            have kf7 := K7.frozen 0
            simp only [List.getElem?_toArray, List.getElem?_cons_zero] at kc7
            have HW7 := Lib.hid hw7
            have HW8 := Lib.hid hw8
            have HBS := Lib.hid hbS
            have HTOT := Lib.hid (Cha.skF_total (R := Cha.reachB a (k1, k2) (t1, t2)) (on := pre) n 0 0 (by rw [HN.out]; omega) (by rw [List.drop_zero, HPRE.out]; exact Cha.reach_all HOK.out hdr (k1, k2) (t1, t2)))
            clear hn hbig hrow hss K7 B7 K8 B8 hw7 hw8 hbS HRT HST HR HTZ0 HOW HM HKB HRB
            go_upto_region 15 with fail
            rw [HW7.out, HBS.out]
            go_upto_region 16 with fail
            rw [HW8.out]
            clear kc7 kf7 o0 s0 hstf
            go_wp2_with fail
            go_loopg [13] n (fun gg s13 wx => ∃ m : Nat, 1 ≤ m ∧ m ≤ n ∧ n + 1 - m ≤ gg ∧ s13 = .int .i64 m ∧ Aside (∀ j, j < m - 1 → Cha.skF (Cha.reachB a (k1, k2) (t1, t2)) pre (j + 1) 0 0 = none) ∧ Aside (Below w8.heap.size w8 wx))
            case atStart => exact ⟨1, by omega, by omega, by omega, rfl, fun j hj => absurd hj (by omega), B0 w8⟩
            case round =>
              clear hg
              obtain ⟨m, hm1, hmn, hg, rfl, HNO, HBx⟩ := hrel
              replace HNO := Lib.hid HNO
              replace HBx := Lib.hid HBx
              have s0 := HSS.out _ HBx.out
              have hse := HSE.out m (by omega) _ HBx.out
              cases hsk : Cha.skF (Cha.reachB a (k1, k2) (t1, t2)) pre m 0 0 with
              | none =>
                have hlt : m < n := by
                  rcases Nat.lt_or_ge m n with q | q
                  · exact q
                  · have : m = n := by omega
                    rw [this, HTOT.out] at hsk
                    cases hsk
                rw [hsk] at hse
                have HSE2 := Lib.hid hse
                have HNO2 : Hid (∀ j, j < m + 1 - 1 → Cha.skF (Cha.reachB a (k1, k2) (t1, t2)) pre (j + 1) 0 0 = none) := Lib.hid fun j hj => by
                  by_cases e : j = m - 1
                  · rw [show j + 1 = m by omega]; exact hsk
                  · exact HNO.out j (by omega)
                clear hse hsk HNO
                go_wp2_with (go_at_call 47; (with_reducible refine (HSE2.out.mono ?_)); rintro e w9 ⟨v, rfl, hv, hb9⟩; have hv2 : v = .slice none 0 0 := hv; clear hv; subst hv2; have HB9 := Lib.hid (Bt HBx.out hb9); clear hb9)
                go_roundg (n + 1 - (m + 1))
                case measure => omega
                case rel => exact ⟨m + 1, by omega, by omega, by omega, by go_num, HNO2.out, HB9.out⟩
              | some l =>
                rw [hsk] at hse
                have HSE2 := Lib.hid hse
                have HZ4 : Hid (Cha.cutR a (k1, k2) (t1, t2) = (0, l)) := Lib.hid (by
                  rw [HZ3.out]
                  unfold Cha.cutL
                  rw [Cha.find_range pre.length (m - 1) (by rw [HN.out]; omega) (fun j hj => HNO.out j hj) (by rw [show m - 1 + 1 = m by omega]; exact hsk)]
                  rfl)
                clear hse hsk HNO
                go_wp2_with (go_at_call 47; (with_reducible refine (HSE2.out.mono ?_)); rintro e w9 ⟨v, rfl, hv, hb9⟩; obtain ⟨⟨av, cv, rfl⟩, hvs⟩ := hv; have HVS := Lib.hid hvs; have HB9 := Lib.hid (Bt HBx.out hb9); clear hb9 hvs)
                go_ret2
                rw [HZ4.out]
                exact ⟨_, rfl, HVS.out, Bt HB1.out (Bt HB8.out HB9.out)⟩
        · have h0' : ((r : Int) != 0) = true := by simp; omega
          have h1 : (1 : Int) ≤ r := by omega
          have hr' : r < 18446744073709551616 := hr64
          obtain ⟨hs, hlt⟩ := Hit.members_step 64 r (by decide) hr0 hr'
          rw [← Hit.tz_ctz 64 r (by decide) hr0 hr'] at hs
          have hand := Hit.u64_and r (r - 1) hr' (by omega)
          rw [show ((r - 1 : Nat) : Int) = (r : Int) - 1 from by omega] at hand
          have HTZ := Lib.hid (fun W hb => HTZ0.out r hr0 hr' W hb)
          have HM2 : Hid ((pre ++ [Hit.tz r]) ++ Hit.members (r &&& (r - 1)) = Hit.members a.drawn) := Lib.hid (by rw [← HM.out, hs]; simp)
          obtain ⟨k, hk⟩ : ∃ k, pre.length = k := ⟨_, rfl⟩
          have HLN := Lib.hid hk
          rw [hk] at o0 hpl
          have how := HOW.out
          rw [hk] at how
          have HOW := Lib.hid how
          have hkb := HKB.out
          rw [hk] at hkb
          have HKB := Lib.hid hkb
          obtain ⟨vO, hvO⟩ : ∃ vO, Value.slice AO k cO = vO := ⟨_, rfl⟩
          have hBB : ∀ (L : Nat → Bool) (i : Nat) (W W' : World), Below W.heap.size W W' → (Below w1.heap.size w1 W ∧ Blk W bO 27 #[vO] ∧ Blk W bR 92 #[.func (.func 45) #[] #[.pointer (some ⟨bA, 0, none⟩), .pointer (some ⟨bK, 0, none⟩), .pointer (some ⟨bC, 0, none⟩)]] ∧ (L 4 = false → W.ownsRow B5 3 1 vO k (inCs (intN pre)))) → (Below w1.heap.size w1 W' ∧ Blk W' bO 27 #[vO] ∧ Blk W' bR 92 #[.func (.func 45) #[] #[.pointer (some ⟨bA, 0, none⟩), .pointer (some ⟨bK, 0, none⟩), .pointer (some ⟨bC, 0, none⟩)]] ∧ ((fun j => L j || j == i) 4 = false → W'.ownsRow B5 3 1 vO k (inCs (intN pre)))) :=
            fun L i W W' hb ⟨r1, r2, r4, r3⟩ => ⟨Bt r1 hb, r2.below hb r2.lt, r4.below hb r4.lt, fun h => (r3 (by simp only [Bool.or_eq_false_iff] at h; exact h.1)).kept (row := none) (only_of_below hb none) (by cases hv : vO.ownBlock <;> simp)⟩
          have HBASE := Lib.hid (show Below w1.heap.size w1 wr.drew ∧ Blk wr.drew bO 27 #[vO] ∧ Blk wr.drew bR 92 #[.func (.func 45) #[] #[.pointer (some ⟨bA, 0, none⟩), .pointer (some ⟨bK, 0, none⟩), .pointer (some ⟨bC, 0, none⟩)]] ∧ ((false : Bool) = false → wr.drew.ownsRow B5 3 1 vO k (inCs (intN pre))) from ⟨HB.out.drew, by rw [← hvO]; exact HKB.out, HRB.out, fun _ => by rw [← hvO]; exact HOW.out⟩)
          clear hs hk how hkb o0 of0 HM
          go_upto_region 11 with fail
          refine region_blocks (by kernel_rfl) ?_
          refine from_lawW 5 EC (fun L W => Below w1.heap.size w1 W ∧ Blk W bO 27 #[vO] ∧ Blk W bR 92 #[.func (.func 45) #[] #[.pointer (some ⟨bA, 0, none⟩), .pointer (some ⟨bK, 0, none⟩), .pointer (some ⟨bC, 0, none⟩)]] ∧ (L 4 = false → W.ownsRow B5 3 1 vO k (inCs (intN pre)))) (FC B5 k bO vO pre r (Hit.tz r)) VC (by kernel_rfl) rfl (FC_V _ _ _ _ _ _ _) (by kernel_rfl) (by kernel_rfl) HBASE.out ⟨?_, ?_, ?_, ?_, ?_, trivial⟩ ?_
          · refine OpFactW.value rfl (FC_below _ _ _ _ _ _ _) hBB fun L a wx hl hf D hb => ?_
            have h0 : sl a 10 = .pointer (some ⟨bO, 0, none⟩) := hf 10 (by kernel_rfl)
            have es := hb.2.1.cell 0
            simp only [List.getElem?_toArray, List.getElem?_cons_zero] at es
            refine ⟨vO, wx, ?_, B0 _, fun s _ h => h 35 rfl⟩
            unfold sl at h0
            simp at h0
            simp [go_sem, h0, es]
          · refine OpFactW.value rfl (FC_below _ _ _ _ _ _ _) hBB fun L a wx hl hf D hb => ?_
            have h0 : sl a 11 = .int .u64 r := hf 11 (by kernel_rfl)
            refine ⟨.int .u64 r, wx, ?_, B0 _, fun s _ h => h 36 rfl⟩
            unfold sl at h0
            simp [go_sem, h0]
          · refine OpFactW.call rfl (FC_below _ _ _ _ _ _ _) hBB fun L a wx hl hf D hb => ?_
            have h1 : sl a 36 = .int .u64 r := D 1 (by kernel_rfl)
            refine ⟨46, #[.int .u64 r], ?_, (HTZ.out wx hb.1).mono ?_⟩
            · unfold sl at h1
              simp at h1
              simp [go_sem, h1]
            · rintro e w' ⟨rfl, rfl⟩
              exact ⟨_, rfl, B0 _, fun s _ h => h 37 rfl⟩
          · refine OpFactW.value rfl (FC_below _ _ _ _ _ _ _) hBB fun L a wx hl hf D hb => ?_
            have h1 : sl a 37 = .int .i64 (Hit.tz r : Nat) := D 2 (by kernel_rfl)
            refine ⟨.slice (some ⟨wx.heap.size, 0, none⟩) 1 1, wx.alloc (.cells #[.int .i64 (Hit.tz r : Nat)] 3), ?_, Ba (B0 _) _, fun s _ h => ⟨_, h 38 rfl, by simp, hb.2.1.lt, Flds.new wx _ _⟩⟩
            unfold sl at h1
            simp at h1
            simp [go_sem, h1]
          · refine OpFactW.write rfl fun L a wx hl hf D hb => ?_
            have h1 : sl a 35 = vO := D 0 (by kernel_rfl)
            obtain ⟨g, h2, _, _, hfl⟩ : ∃ g, sl a 38 = .slice (some ⟨g, 0, none⟩) 1 1 ∧ g < wx.heap.size ∧ bO < g ∧ Flds wx ⟨g, 0, none⟩ [.int .i64 (Hit.tz r : Nat)] := D 3 (by kernel_rfl)
            obtain ⟨hbb, hz, hR, hO⟩ := hb
            have p3 := hO hl
            obtain ⟨ht0, i0, z0, hi0, hz0, hsz0, hby0, hzs0⟩ := elemIn
            obtain ⟨v', w', hrun, q2, q3, _, q5⟩ := run_append_own_at (P := Tryd.prog) wx B5 27 27 3 i0 z0 1 8 ht0 hi0 hz0 hsz0 hby0 hzs0 (by omega) vO k _ p3 ⟨g, 0, none⟩ 1 1 [.int .i64 (Hit.tz r : Nat)] rfl hfl (by simp [Value.oneCell']) (by unfold maxLen; omega) (by omega) (by have := hz.lt; have := HB5e.out; omega)
            obtain ⟨g', cap', rfl⟩ := own_lit q2
            refine ⟨.slice (some ⟨g', 0, none⟩) (k + 1) cap', w', ?_, ⟨Bg hbb p3 HBASE2.out q3, hz.grown q3 (fun e => own_blk_ne p3 hz (by decide) e.symm), hR.grown q3 (fun e => own_blk_ne p3 hR (by decide) e.symm), fun h => absurd h (by simp)⟩, fun j hj hE hF => ?_, fun s _ h => ⟨g', cap', h 39 rfl, by rw [inCs_snoc]; exact q2⟩⟩
            · unfold sl at h1 h2
              simp at h1 h2
              unfold execOp
              simp [resolve, invoke, builtin, Act.eval, h1, h2, hrun]
            · match j with
              | 0 => exact hF
              | 1 => exact hF
              | 2 => exact hF
              | 3 => exact hE.elim (fun h => absurd h (by decide)) fun h => absurd h (Bool.eq_false_iff.1 (by kernel_rfl))
              | 4 => exact absurd rfl hj
              | _ + 5 => trivial
          · intro L9 y w8 hb8 hF8
            obtain ⟨g8, c8, h39, hO8⟩ : ∃ g c, y 39 = .slice (some ⟨g, 0, none⟩) (k + 1) c ∧ w8.ownsRow B5 3 1 (.slice (some ⟨g, 0, none⟩) (k + 1) c) (k + 1) (inCs (intN (pre ++ [Hit.tz r]))) := hF8 4 (by decide) rfl
            obtain ⟨r1, r2, r3, -⟩ := hb8
            have HR1 := Lib.hid r1
            have HR2 := Lib.hid r2
            have HR3 := Lib.hid r3
            have HO8 := Lib.hid hO8
            have f0 := r2.frozen 0
            have z0 := r2.cell 0
            simp only [List.getElem?_toArray, List.getElem?_cons_zero] at z0
            clear hF8 r1 r2 r3 hO8 HBASE hBB
            rw [aft5 (d0 := 35) (d1 := 36) (d2 := 37) (d3 := 38) (d4 := 39) (by kernel_rfl) rfl]
            rw [h39]
            simp only [List.set_cons_succ, List.set_cons_zero]
            refine from_list 6 (by kernel_rfl) (by simp only [List.take_succ_cons, List.take_zero, List.drop_succ_cons, List.drop_zero]; exact rfl) ?_
            (intro Q' hQ' hX; clear hX)
            go_wp2_with fail
            refine from_end rfl ?_
            go_wp2_with fail
            have hK9 : Blk (w8.setCell ⟨bO, 0, none⟩ (.slice (some ⟨g8, 0, none⟩) (k + 1) c8)) bO 27 #[.slice (some ⟨g8, 0, none⟩) (k + 1) c8] := by simpa using HR2.out.set_ 0 (.slice (some ⟨g8, 0, none⟩) (k + 1) c8)
            have hne : bR ≠ bO := HR3.out.ne_ HR2.out (by decide)
            have HNE := Lib.hid hne
            have HK9 := Lib.hid hK9
            clear hne hK9 f0 z0
            go_roundg ((r &&& (r - 1)) + 1)
            case measure => omega
            case rel =>
              refine ⟨r &&& (r - 1), pre ++ [Hit.tz r], _, rfl, by omega, by omega, HM2.out, HK9.out, ?_, ?_, HR3.out.far HNE.out _⟩
              · have h9 := HO8.out.kept (row := some bO) (only_setCell (World.grownBy.refl w8 _) (p := ⟨bO, 0, none⟩) (.inl rfl) (.slice (some ⟨g8, 0, none⟩) (k + 1) c8)) (.inr (own_blk_ne HO8.out HR2.out (by decide)))
                rw [List.length_append, HLN.out]
                exact h9
              · exact Bs HR1.out _ HBOL.out
  · have HZ : Hid (Cha.cutR a (k1, k2) (t1, t2) = (Cha.beginF a [(k1, k2), (t1, t2)], [])) := Lib.hid (by unfold Cha.cutR; rw [if_neg hbe])
    have d1 : (Cha.beginF a [(k1, k2), (t1, t2)] != 0) = true := by simpa using hbe
    have HBE := Lib.hid hbg
    clear hbe hbg
    generalize Cha.beginF a [(k1, k2), (t1, t2)] = er at *
    go_enter Tryd.func18, Tryd.ntmps18
    go_upto_region 1 with fail
    rw [HW1.out, HA.out, HKe.out, HCe.out]
    go_wp2_with (go_at_call 38; (with_reducible refine (HBE.out.mono ?_)); rintro e w2 ⟨rfl, hb2⟩; have HB2 := Lib.hid (Bt (Ba (B0 w1) _) hb2); clear hb2)
    go_ret2
    rw [HZ.out]
    exact ⟨_, rfl, Sl.nil_, Bt HB1.out HB2.out⟩
end Go.Proofs.YtahlfndlkfoikaaDoor
namespace Go.Proofs.YtahlfndlkfoikaaDoor
open Go Go.RowKit Go.Shelf
namespace Cou
/-- The action of the example. -/
def exA (thr : Bool) : Ac := ⟨[(36, 60), (36, 60)], [⟨⟨#[97]⟩, 0, 1, 0, false⟩, ⟨⟨#[98]⟩, 1, 1, 12, thr⟩], 3⟩
theorem ex_right (thr : Bool) : rightF (exA thr) = 0 := by cases thr <;> decide

end Cou
abbrev exD : Array Value := #[.int .i64 36, .int .i64 60, .int .i64 36, .int .i64 60]
abbrev exC (thr : Bool) : Array Value := #[.string ⟨#[97]⟩, .int .i64 0, .int .i64 1, .int .i64 0, .bool false, .string ⟨#[98]⟩, .int .i64 1, .int .i64 1, .int .i64 12, .bool thr]
theorem flds_blk {W : World} {g : Nat} {t : TypeId} {cs : Array Value} (h : Blk W g t cs) (o : Nat) (us : List Value) (hu : ∀ j u, us[j]? = some u → cs[o + j]? = some u) : Flds W ((⟨g, 0, none⟩ : Addr).add o) us := fun j u hj => by
  have e : ((⟨g, 0, none⟩ : Addr).add o).add j = ⟨g, o + j, none⟩ := by
    unfold Addr.add
    split <;> split <;> simp_all
  rw [e, h.cell (o + j)]
  exact hu j u hj
theorem exAt (thr : Bool) {W : World} {g1 g2 : Nat} (h1 : Blk W g1 62 exD) (h2 : Blk W g2 46 (exC thr)) : AcAt (fun b => b = g1 ∨ b = g2) W (.slice (some ⟨g1, 0, none⟩) 2 2) (.slice (some ⟨g2, 0, none⟩) 2 2) (Cou.exA thr) := by
  refine ⟨fun b hb => ?_, ⟨some ⟨g1, 0, none⟩, 2, rfl, by simp [Cou.exA], by simp [Cou.exA], fun i hi => ?_⟩, ⟨some ⟨g2, 0, none⟩, 2, rfl, by simp [Cou.exA], by simp [Cou.exA], fun i hi => ?_⟩⟩
  · rcases hb with rfl | rfl
    · exact h1.lt
    · exact h2.lt
  · have hi2 : i = 0 ∨ i = 1 := by simp [Cou.exA] at hi; omega
    rcases hi2 with rfl | rfl
    · exact ⟨⟨g1, 0, none⟩, [.int .i64 36, .int .i64 60], rfl, .inl rfl, rfl, rfl, flds_blk h1 0 _ fun j u hj => by
        match j, hj with
        | 0, hj => simpa using hj
        | 1, hj => simpa using hj⟩
    · exact ⟨⟨g1, 0, none⟩, [.int .i64 36, .int .i64 60], rfl, .inl rfl, rfl, rfl, flds_blk h1 2 _ fun j u hj => by
        match j, hj with
        | 0, hj => simpa using hj
        | 1, hj => simpa using hj⟩
  · have hi2 : i = 0 ∨ i = 1 := by simp [Cou.exA] at hi; omega
    rcases hi2 with rfl | rfl
    · exact ⟨⟨g2, 0, none⟩, [.string ⟨#[97]⟩, .int .i64 0, .int .i64 1, .int .i64 0, .bool false], rfl, .inr rfl, rfl, rfl, flds_blk h2 0 _ fun j u hj => by
        match j, hj with
        | 0, hj => simpa using hj
        | 1, hj => simpa using hj
        | 2, hj => simpa using hj
        | 3, hj => simpa using hj
        | 4, hj => simpa using hj⟩
    · exact ⟨⟨g2, 0, none⟩, [.string ⟨#[98]⟩, .int .i64 1, .int .i64 1, .int .i64 12, .bool thr], rfl, .inr rfl, rfl, rfl, flds_blk h2 5 _ fun j u hj => by
        match j, hj with
        | 0, hj => simpa using hj
        | 1, hj => simpa using hj
        | 2, hj => simpa using hj
        | 3, hj => simpa using hj
        | 4, hj => simpa using hj⟩
theorem example_any (w : World) :
    Calls Tryd.prog 37 #[] w fun e w' => e = .returned (.agg #[.slice (some ⟨w.heap.size + 1, 0, none⟩) 2 2, .slice (some ⟨w.heap.size + 1 + 1, 0, none⟩) 2 2, .int .u64 3]) ∧ Blk w' (w.heap.size + 1) 62 exD ∧ Blk w' (w.heap.size + 1 + 1) 46 (exC true) ∧ Below w.heap.size w w' := by
  go_enter Tryd.func37, Tryd.ntmps37
  go_wp2_with fail
  refine bodyPost_ret (v := .agg #[.slice (some ⟨w.heap.size + 1, 0, none⟩) 2 2, .slice (some ⟨w.heap.size + 1 + 1, 0, none⟩) 2 2, .int .u64 3]) ?_ rfl ?_
  · simp [results, Tryd.f37, go_sem]
  · refine ⟨rfl, ?_, ?_, Ba (Ba (Ba (B0 w) _) _) _⟩
    · have := (Blk.new (w.alloc (.cells #[.slice (some ⟨w.heap.size + 1, 0, none⟩) 2 2, .slice (some ⟨w.heap.size + 1 + 1, 0, none⟩) 2 2, .int .u64 3] 33)) 62 exD).alloc (.cells (exC true) 46)
      simpa using this
    · have := Blk.new ((w.alloc (.cells #[.slice (some ⟨w.heap.size + 1, 0, none⟩) 2 2, .slice (some ⟨w.heap.size + 1 + 1, 0, none⟩) 2 2, .int .u64 3] 33)).alloc (.cells exD 62)) 46 (exC true)
      simpa using this

/-- The chains of the example. -/
def exL : List Cha.Ch := [([0], (1, 36)), ([0, 1], (1, 48)), ([0, 1, 1], (1, 60))]
/-- The text of the example. -/
def exS : ByteArray := ⟨#[67, 50, 32, 97, 32, 67, 50, 32, 98, 32, 67, 51]⟩
theorem ex_all : Cha.allR (Cou.exA true) (0, 36) = (0, exL) := by decide +kernel
theorem ex_cut : Cha.cutR (Cou.exA true) (0, 36) (1, 48) = (0, [0]) := by decide +kernel
theorem ex_fol : Cha.folR (Cou.exA true) (0, 36) [1] = (24, []) := by decide +kernel
theorem ex_text : Cha.textR (Cou.exA true) (0, 36) [0, 1] = (0, exS) := by decide +kernel
/-- A block of ints reads as a list. -/
theorem slI_blk {W : World} {g : Nat} {cs : Array Value} (h : Blk W g 3 cs) (l : List Int) (hc : cs = (inCs l).toArray) {n : Nat} (hn : l.length = n := by rfl) (hl : l.length ≤ 1000 := by decide) : SlI (fun b => b < W.heap.size) W (.slice (some ⟨g, 0, none⟩) n n) l := by
  subst hc hn
  refine ⟨some ⟨g, 0, none⟩, l.length, rfl, Nat.le_refl _, by omega, fun i hi => ⟨⟨g, 0, none⟩, [.int .i64 l[i]], rfl, h.lt, rfl, rfl, fun j u hu => ?_⟩⟩
  have hj : j = 0 := by
    have := (List.getElem?_eq_some_iff.1 hu).1
    simpa using this
  subst hj
  have e : (((⟨g, 0, none⟩ : Addr).add (i * 1)).add 0) = ⟨g, i, none⟩ := by unfold Addr.add; split <;> simp_all
  rw [e, h.cell i]
  simp only [List.getElem?_cons_zero, Option.some.injEq] at hu
  subst hu
  simp [inCs, hi]
/-- What holds behind each operation of a drawn region. -/
def FK1 (_bk : Nat) (j : Nat) (s : Nat → Value) (w : World) : Prop :=
  match j with
  | 0 => ∃ g1 g2, s 12 = .agg #[.slice (some ⟨g1, 0, none⟩) 2 2, .slice (some ⟨g2, 0, none⟩) 2 2, .int .u64 3] ∧ Blk w g1 62 exD ∧ Blk w g2 46 (exC true)
  | 1 => s 13 = .agg #[.int .i64 0, .int .i64 36]
  | 2 => ∃ v, s 14 = .tuple #[v, .int .i64 0] ∧ OwnCh 0 w v exL
  | 3 => ∃ v, s 11 = .tuple #[v, .int .i64 0] ∧ OwnCh 0 w v exL
  | 4 => ∃ v, s 15 = v ∧ OwnCh 0 w v exL
  | 5 => s 16 = .int .i64 0
  | 6 => ∃ v, s 2 = v ∧ OwnCh 0 w v exL
  | 7 => s 3 = .int .i64 0
  | _ => True
def VK1 (j : Nat) : List Nat := match j with
  | 0 => [12] | 1 => [13] | 2 => [14] | 3 => [11] | 4 => [15] | 5 => [16] | 6 => [2] | 7 => [3] | _ => []
def EK1 (j : Nat) : Bool := j == 6 || j == 7
theorem FK1_V (_bk : Nat) (j : Nat) (s s' : Nat → Value) (w : World) (h : ∀ t, t ∈ VK1 j → s' t = s t) (hF : FK1 _bk j s w) : FK1 _bk j s' w := by
  match j with
  | 0 => unfold FK1 at hF ⊢; simp only at hF ⊢; rw [h 12 (by simp [VK1])]; exact hF
  | 1 => unfold FK1 at hF ⊢; simp only at hF ⊢; rw [h 13 (by simp [VK1])]; exact hF
  | 2 => unfold FK1 at hF ⊢; simp only at hF ⊢; rw [h 14 (by simp [VK1])]; exact hF
  | 3 => unfold FK1 at hF ⊢; simp only at hF ⊢; rw [h 11 (by simp [VK1])]; exact hF
  | 4 => unfold FK1 at hF ⊢; simp only at hF ⊢; rw [h 15 (by simp [VK1])]; exact hF
  | 5 => unfold FK1 at hF ⊢; simp only at hF ⊢; rw [h 16 (by simp [VK1])]; exact hF
  | 6 => unfold FK1 at hF ⊢; simp only at hF ⊢; rw [h 2 (by simp [VK1])]; exact hF
  | 7 => unfold FK1 at hF ⊢; simp only at hF ⊢; rw [h 3 (by simp [VK1])]; exact hF
  | _ + 8 => trivial
theorem FK1_below (_bk : Nat) (j : Nat) (s : Nat → Value) (w w' : World) (hb : Below w.heap.size w w') (hF : FK1 _bk j s w) : FK1 _bk j s w' := by
  match j with
  | 0 => obtain ⟨g1, g2, q1, q2, q3⟩ := hF; exact ⟨g1, g2, q1, q2.below hb q2.lt, q3.below hb q3.lt⟩
  | 1 => exact hF
  | 2 => obtain ⟨v, q1, q2⟩ := hF; exact ⟨v, q1, q2.below hb⟩
  | 3 => obtain ⟨v, q1, q2⟩ := hF; exact ⟨v, q1, q2.below hb⟩
  | 4 => obtain ⟨v, q1, q2⟩ := hF; exact ⟨v, q1, q2.below hb⟩
  | 5 => exact hF
  | 6 => obtain ⟨v, q1, q2⟩ := hF; exact ⟨v, q1, q2.below hb⟩
  | 7 => exact hF
  | _ + 8 => trivial
/-- What holds behind each operation of a drawn region. -/
def FK2 (_bk : Nat) (j : Nat) (s : Nat → Value) (w : World) : Prop :=
  match j with
  | 0 => ∃ g1 g2, s 18 = .agg #[.slice (some ⟨g1, 0, none⟩) 2 2, .slice (some ⟨g2, 0, none⟩) 2 2, .int .u64 3] ∧ Blk w g1 62 exD ∧ Blk w g2 46 (exC true)
  | 1 => s 19 = .agg #[.int .i64 0, .int .i64 36]
  | 2 => s 20 = .agg #[.int .i64 1, .int .i64 48]
  | 3 => ∃ v, s 21 = .tuple #[v, .int .i64 0] ∧ SlI (fun b => b < w.heap.size) w v [0]
  | 4 => ∃ v, s 17 = .tuple #[v, .int .i64 0] ∧ SlI (fun b => b < w.heap.size) w v [0]
  | 5 => ∃ v, s 22 = v ∧ SlI (fun b => b < w.heap.size) w v [0]
  | 6 => s 23 = .int .i64 0
  | 7 => ∃ v, s 4 = v ∧ SlI (fun b => b < w.heap.size) w v [0]
  | 8 => s 5 = .int .i64 0
  | _ => True
def VK2 (j : Nat) : List Nat := match j with
  | 0 => [18] | 1 => [19] | 2 => [20] | 3 => [21] | 4 => [17] | 5 => [22] | 6 => [23] | 7 => [4] | 8 => [5] | _ => []
def EK2 (j : Nat) : Bool := j == 7 || j == 8
theorem FK2_V (_bk : Nat) (j : Nat) (s s' : Nat → Value) (w : World) (h : ∀ t, t ∈ VK2 j → s' t = s t) (hF : FK2 _bk j s w) : FK2 _bk j s' w := by
  match j with
  | 0 => unfold FK2 at hF ⊢; simp only at hF ⊢; rw [h 18 (by simp [VK2])]; exact hF
  | 1 => unfold FK2 at hF ⊢; simp only at hF ⊢; rw [h 19 (by simp [VK2])]; exact hF
  | 2 => unfold FK2 at hF ⊢; simp only at hF ⊢; rw [h 20 (by simp [VK2])]; exact hF
  | 3 => unfold FK2 at hF ⊢; simp only at hF ⊢; rw [h 21 (by simp [VK2])]; exact hF
  | 4 => unfold FK2 at hF ⊢; simp only at hF ⊢; rw [h 17 (by simp [VK2])]; exact hF
  | 5 => unfold FK2 at hF ⊢; simp only at hF ⊢; rw [h 22 (by simp [VK2])]; exact hF
  | 6 => unfold FK2 at hF ⊢; simp only at hF ⊢; rw [h 23 (by simp [VK2])]; exact hF
  | 7 => unfold FK2 at hF ⊢; simp only at hF ⊢; rw [h 4 (by simp [VK2])]; exact hF
  | 8 => unfold FK2 at hF ⊢; simp only at hF ⊢; rw [h 5 (by simp [VK2])]; exact hF
  | _ + 9 => trivial
theorem FK2_below (_bk : Nat) (j : Nat) (s : Nat → Value) (w w' : World) (hb : Below w.heap.size w w') (hF : FK2 _bk j s w) : FK2 _bk j s w' := by
  match j with
  | 0 => obtain ⟨g1, g2, q1, q2, q3⟩ := hF; exact ⟨g1, g2, q1, q2.below hb q2.lt, q3.below hb q3.lt⟩
  | 1 => exact hF
  | 2 => exact hF
  | 3 => obtain ⟨v, q1, q2⟩ := hF; exact ⟨v, q1, (SlI.keep q2 (Agree.below hb fun b h => h)).mono fun b h => Nat.lt_of_lt_of_le h hb.size⟩
  | 4 => obtain ⟨v, q1, q2⟩ := hF; exact ⟨v, q1, (SlI.keep q2 (Agree.below hb fun b h => h)).mono fun b h => Nat.lt_of_lt_of_le h hb.size⟩
  | 5 => obtain ⟨v, q1, q2⟩ := hF; exact ⟨v, q1, (SlI.keep q2 (Agree.below hb fun b h => h)).mono fun b h => Nat.lt_of_lt_of_le h hb.size⟩
  | 6 => exact hF
  | 7 => obtain ⟨v, q1, q2⟩ := hF; exact ⟨v, q1, (SlI.keep q2 (Agree.below hb fun b h => h)).mono fun b h => Nat.lt_of_lt_of_le h hb.size⟩
  | 8 => exact hF
  | _ + 9 => trivial
/-- What holds behind each operation of a drawn region. -/
def FK3 (_bk : Nat) (j : Nat) (s : Nat → Value) (w : World) : Prop :=
  match j with
  | 0 => ∃ g1 g2, s 25 = .agg #[.slice (some ⟨g1, 0, none⟩) 2 2, .slice (some ⟨g2, 0, none⟩) 2 2, .int .u64 3] ∧ Blk w g1 62 exD ∧ Blk w g2 46 (exC true)
  | 1 => s 26 = .agg #[.int .i64 0, .int .i64 36]
  | 2 => ∃ g, s 27 = .slice (some ⟨g, 0, none⟩) 1 1 ∧ Blk w g 3 #[.int .i64 1]
  | 3 => ∃ v, s 28 = .tuple #[v, .int .i64 24] ∧ (0 = 0 ∨ w = w)
  | 4 => ∃ v, s 24 = .tuple #[v, .int .i64 24] ∧ (0 = 0 ∨ w = w)
  | 5 => ∃ v, s 29 = v ∧ (0 = 0 ∨ w = w)
  | 6 => s 30 = .int .i64 24
  | 7 => ∃ v, s 6 = v ∧ (0 = 0 ∨ w = w)
  | 8 => s 7 = .int .i64 24
  | _ => True
def VK3 (j : Nat) : List Nat := match j with
  | 0 => [25] | 1 => [26] | 2 => [27] | 3 => [28] | 4 => [24] | 5 => [29] | 6 => [30] | 7 => [6] | 8 => [7] | _ => []
def EK3 (j : Nat) : Bool := j == 7 || j == 8
theorem FK3_V (_bk : Nat) (j : Nat) (s s' : Nat → Value) (w : World) (h : ∀ t, t ∈ VK3 j → s' t = s t) (hF : FK3 _bk j s w) : FK3 _bk j s' w := by
  match j with
  | 0 => unfold FK3 at hF ⊢; simp only at hF ⊢; rw [h 25 (by simp [VK3])]; exact hF
  | 1 => unfold FK3 at hF ⊢; simp only at hF ⊢; rw [h 26 (by simp [VK3])]; exact hF
  | 2 => unfold FK3 at hF ⊢; simp only at hF ⊢; rw [h 27 (by simp [VK3])]; exact hF
  | 3 => unfold FK3 at hF ⊢; simp only at hF ⊢; rw [h 28 (by simp [VK3])]; exact hF
  | 4 => unfold FK3 at hF ⊢; simp only at hF ⊢; rw [h 24 (by simp [VK3])]; exact hF
  | 5 => unfold FK3 at hF ⊢; simp only at hF ⊢; rw [h 29 (by simp [VK3])]; exact hF
  | 6 => unfold FK3 at hF ⊢; simp only at hF ⊢; rw [h 30 (by simp [VK3])]; exact hF
  | 7 => unfold FK3 at hF ⊢; simp only at hF ⊢; rw [h 6 (by simp [VK3])]; exact hF
  | 8 => unfold FK3 at hF ⊢; simp only at hF ⊢; rw [h 7 (by simp [VK3])]; exact hF
  | _ + 9 => trivial
theorem FK3_below (_bk : Nat) (j : Nat) (s : Nat → Value) (w w' : World) (hb : Below w.heap.size w w') (hF : FK3 _bk j s w) : FK3 _bk j s w' := by
  match j with
  | 0 => obtain ⟨g1, g2, q1, q2, q3⟩ := hF; exact ⟨g1, g2, q1, q2.below hb q2.lt, q3.below hb q3.lt⟩
  | 1 => exact hF
  | 2 => obtain ⟨g, q1, q2⟩ := hF; exact ⟨g, q1, q2.below hb q2.lt⟩
  | 3 => obtain ⟨v, q1, q2⟩ := hF; exact ⟨v, q1, q2.elim (fun _ => .inl rfl) (fun _ => .inl rfl)⟩
  | 4 => obtain ⟨v, q1, q2⟩ := hF; exact ⟨v, q1, q2.elim (fun _ => .inl rfl) (fun _ => .inl rfl)⟩
  | 5 => obtain ⟨v, q1, q2⟩ := hF; exact ⟨v, q1, q2.elim (fun _ => .inl rfl) (fun _ => .inl rfl)⟩
  | 6 => exact hF
  | 7 => obtain ⟨v, q1, q2⟩ := hF; exact ⟨v, q1, q2.elim (fun _ => .inl rfl) (fun _ => .inl rfl)⟩
  | 8 => exact hF
  | _ + 9 => trivial
/-- What holds behind each operation of a drawn region. -/
def FK4 (_bk : Nat) (j : Nat) (s : Nat → Value) (w : World) : Prop :=
  match j with
  | 0 => ∃ g1 g2, s 32 = .agg #[.slice (some ⟨g1, 0, none⟩) 2 2, .slice (some ⟨g2, 0, none⟩) 2 2, .int .u64 3] ∧ Blk w g1 62 exD ∧ Blk w g2 46 (exC true)
  | 1 => s 33 = .agg #[.int .i64 0, .int .i64 36]
  | 2 => ∃ g, s 34 = .slice (some ⟨g, 0, none⟩) 2 2 ∧ Blk w g 3 #[.int .i64 0, .int .i64 1]
  | 3 => ∃ v, s 35 = .tuple #[v, .int .i64 0] ∧ (v = .string exS ∧ (0 = 0 ∨ w = w))
  | 4 => ∃ v, s 31 = .tuple #[v, .int .i64 0] ∧ (v = .string exS ∧ (0 = 0 ∨ w = w))
  | 5 => ∃ v, s 36 = v ∧ (v = .string exS ∧ (0 = 0 ∨ w = w))
  | 6 => s 37 = .int .i64 0
  | 7 => ∃ v, s 8 = v ∧ (v = .string exS ∧ (0 = 0 ∨ w = w))
  | 8 => s 9 = .int .i64 0
  | _ => True
def VK4 (j : Nat) : List Nat := match j with
  | 0 => [32] | 1 => [33] | 2 => [34] | 3 => [35] | 4 => [31] | 5 => [36] | 6 => [37] | 7 => [8] | 8 => [9] | _ => []
def EK4 (j : Nat) : Bool := j == 7 || j == 8
theorem FK4_V (_bk : Nat) (j : Nat) (s s' : Nat → Value) (w : World) (h : ∀ t, t ∈ VK4 j → s' t = s t) (hF : FK4 _bk j s w) : FK4 _bk j s' w := by
  match j with
  | 0 => unfold FK4 at hF ⊢; simp only at hF ⊢; rw [h 32 (by simp [VK4])]; exact hF
  | 1 => unfold FK4 at hF ⊢; simp only at hF ⊢; rw [h 33 (by simp [VK4])]; exact hF
  | 2 => unfold FK4 at hF ⊢; simp only at hF ⊢; rw [h 34 (by simp [VK4])]; exact hF
  | 3 => unfold FK4 at hF ⊢; simp only at hF ⊢; rw [h 35 (by simp [VK4])]; exact hF
  | 4 => unfold FK4 at hF ⊢; simp only at hF ⊢; rw [h 31 (by simp [VK4])]; exact hF
  | 5 => unfold FK4 at hF ⊢; simp only at hF ⊢; rw [h 36 (by simp [VK4])]; exact hF
  | 6 => unfold FK4 at hF ⊢; simp only at hF ⊢; rw [h 37 (by simp [VK4])]; exact hF
  | 7 => unfold FK4 at hF ⊢; simp only at hF ⊢; rw [h 8 (by simp [VK4])]; exact hF
  | 8 => unfold FK4 at hF ⊢; simp only at hF ⊢; rw [h 9 (by simp [VK4])]; exact hF
  | _ + 9 => trivial
theorem FK4_below (_bk : Nat) (j : Nat) (s : Nat → Value) (w w' : World) (hb : Below w.heap.size w w') (hF : FK4 _bk j s w) : FK4 _bk j s w' := by
  match j with
  | 0 => obtain ⟨g1, g2, q1, q2, q3⟩ := hF; exact ⟨g1, g2, q1, q2.below hb q2.lt, q3.below hb q3.lt⟩
  | 1 => exact hF
  | 2 => obtain ⟨g, q1, q2⟩ := hF; exact ⟨g, q1, q2.below hb q2.lt⟩
  | 3 => obtain ⟨v, q1, q2⟩ := hF; exact ⟨v, q1, ⟨q2.1, .inl rfl⟩⟩
  | 4 => obtain ⟨v, q1, q2⟩ := hF; exact ⟨v, q1, ⟨q2.1, .inl rfl⟩⟩
  | 5 => obtain ⟨v, q1, q2⟩ := hF; exact ⟨v, q1, ⟨q2.1, .inl rfl⟩⟩
  | 6 => exact hF
  | 7 => obtain ⟨v, q1, q2⟩ := hF; exact ⟨v, q1, ⟨q2.1, .inl rfl⟩⟩
  | 8 => exact hF
  | _ + 9 => trivial
set_option maxRecDepth 100000 in
set_option maxHeartbeats 4000000 in
theorem known_any (w : World) (hT : Tab64 w) (hg : 0 < w.heap.size) (hP : TabP w) :
    Calls Tryd.prog 11 #[] w fun e w' => e = .returned (.bool true) ∧ Below w.heap.size w w' := by
  have HT0 := Lib.hid (fun W (hb : Below w.heap.size w W) => (show Tab64 W ∧ 0 < W.heap.size ∧ TabP W from ⟨hT.below hb, Nat.lt_of_lt_of_le hg hb.size, hP.below hb⟩))
  obtain ⟨bk, hbk⟩ : ∃ bk, w.heap.size = bk := ⟨_, rfl⟩
  obtain ⟨w1, hw1⟩ : ∃ w1 : World, w.alloc (.cells #[.int .i64 0, .int .i64 36] 36) = w1 := ⟨_, rfl⟩
  have KK : Blk w1 bk 36 #[.int .i64 0, .int .i64 36] := by rw [← hw1, ← hbk]; exact Blk.new _ _ _
  have B1 : Below w.heap.size w w1 := by rw [← hw1]; exact Ba (B0 w) _
  have HKK := Lib.hid (fun W (hb : Below w1.heap.size w1 W) => (show W.cell? ⟨bk, 0, none⟩ = some (.int .i64 0) ∧ W.cell? ⟨bk, 1, none⟩ = some (.int .i64 36) from ⟨(Bc hb KK.lt).trans (KK.cell 0), (Bc hb KK.lt).trans (KK.cell 1)⟩))
  have HB1 := Lib.hid B1
  have HW1 := Lib.hid hw1
  have HBK := Lib.hid hbk
  clear hT hg hP KK B1 hw1 hbk
  have HT1 := Lib.hid (fun W (hb : Below w1.heap.size w1 W) => HT0.out W (Bt HB1.out hb))
  go_enter Tryd.func11, Tryd.ntmps11
  go_upto_region 2 with fail
  rw [HW1.out, HBK.out]
  have hBB : ∀ (L : Nat → Bool) (i : Nat) (W W' : World), Below W.heap.size W W' → Below w1.heap.size w1 W → Below w1.heap.size w1 W' := fun _ _ _ _ hb h => Bt h hb
  have HK := HKK
  refine region_blocks (by kernel_rfl) ?_
  refine from_lawW 8 EK1 (fun _ W => Below w1.heap.size w1 W) (FK1 bk) VK1 (by kernel_rfl) rfl (FK1_V _) (by kernel_rfl) (by kernel_rfl) ((B0 w1).drew) ⟨?_, ?_, ?_, ?_, ?_, ?_, ?_, ?_, trivial⟩ ?_
  · refine OpFactW.call rfl (FK1_below _) hBB fun L a wx hl hf D hb => ?_
    refine ⟨37, #[], ?_, (example_any wx).mono ?_⟩
    · simp [go_sem]
    · rintro e w' ⟨rfl, h1, h2, hb2⟩
      exact ⟨_, rfl, hb2, fun s _ h => ⟨_, _, h 12 rfl, h1, h2⟩⟩
  · refine OpFactW.value rfl (FK1_below _) hBB fun L a wx hl hf D hb => ?_
    have h0 : sl a 1 = .pointer (some ⟨bk, 0, none⟩) := hf 1 (by kernel_rfl)
    have es := HK.out wx hb
    refine ⟨.agg #[.int .i64 0, .int .i64 36], wx, ?_, B0 _, fun s _ h => h 13 rfl⟩
    unfold sl at h0
    simp at h0
    simp [go_sem, h0, es]
  · refine OpFactW.call rfl (FK1_below _) hBB fun L a wx hl hf D hb => ?_
    obtain ⟨g1, g2, h1, k1, k2⟩ : ∃ g1 g2, sl a 12 = .agg #[.slice (some ⟨g1, 0, none⟩) 2 2, .slice (some ⟨g2, 0, none⟩) 2 2, .int .u64 3] ∧ Blk wx g1 62 exD ∧ Blk wx g2 46 (exC true) := D 0 (by kernel_rfl)
    have h2 : sl a 13 = .agg #[.int .i64 0, .int .i64 36] := D 1 (by kernel_rfl)
    refine ⟨29, #[.agg #[.slice (some ⟨g1, 0, none⟩) 2 2, .slice (some ⟨g2, 0, none⟩) 2 2, .int .u64 3], .agg #[.int .i64 0, .int .i64 36]], ?_, (All_any (Cou.exA true) _ _ (by decide) (0, 36) wx _ (exAt true k1 k2)).mono ?_⟩
    · unfold sl at h1 h2
      simp at h1 h2
      simp [go_sem, h1, h2]
    · rintro e w' ⟨v, rfl, hO, hb2⟩
      rw [ex_all] at hO
      exact ⟨_, rfl, hb2, fun s _ h => ⟨v, by rw [h 14 rfl, ex_all], OwnCh.more hO (Nat.zero_le _)⟩⟩
  · refine OpFactW.value rfl (FK1_below _) hBB fun L a wx hl hf D hb => ?_
    obtain ⟨v, h1, q⟩ : ∃ v, sl a 14 = .tuple #[v, .int .i64 0] ∧ OwnCh 0 wx v exL := D 2 (by kernel_rfl)
    refine ⟨.tuple #[v, .int .i64 0], wx, ?_, B0 _, fun s _ h => ⟨v, h 11 rfl, q⟩⟩
    unfold sl at h1
    simp at h1
    simp [go_sem, h1]
  · refine OpFactW.value rfl (FK1_below _) hBB fun L a wx hl hf D hb => ?_
    obtain ⟨v, h1, q⟩ : ∃ v, sl a 11 = .tuple #[v, .int .i64 0] ∧ OwnCh 0 wx v exL := D 3 (by kernel_rfl)
    refine ⟨v, wx, ?_, B0 _, fun s _ h => ⟨v, h 15 rfl, q⟩⟩
    unfold sl at h1
    simp at h1
    simp [go_sem, h1]
  · refine OpFactW.value rfl (FK1_below _) hBB fun L a wx hl hf D hb => ?_
    obtain ⟨v, h1, q⟩ : ∃ v, sl a 11 = .tuple #[v, .int .i64 0] ∧ OwnCh 0 wx v exL := D 3 (by kernel_rfl)
    refine ⟨.int .i64 0, wx, ?_, B0 _, fun s _ h => h 16 rfl⟩
    unfold sl at h1
    simp at h1
    simp [go_sem, h1]
  · refine OpFactW.value rfl (FK1_below _) hBB fun L a wx hl hf D hb => ?_
    obtain ⟨v, h1, q⟩ : ∃ v, sl a 15 = v ∧ OwnCh 0 wx v exL := D 4 (by kernel_rfl)
    refine ⟨v, wx, ?_, B0 _, fun s _ h => ⟨v, h 2 rfl, q⟩⟩
    unfold sl at h1
    simp at h1
    simp [go_sem, h1]
  · refine OpFactW.value rfl (FK1_below _) hBB fun L a wx hl hf D hb => ?_
    have h1 : sl a 16 = .int .i64 0 := D 5 (by kernel_rfl)
    refine ⟨.int .i64 0, wx, ?_, B0 _, fun s _ h => h 3 rfl⟩
    unfold sl at h1
    simp at h1
    simp [go_sem, h1]
  · intro L1 y w2 hb2 hF2
    obtain ⟨v2, h2, hO2⟩ : ∃ v, y 2 = v ∧ OwnCh 0 w2 v exL := hF2 6 (by decide) rfl
    have h3 : y 3 = .int .i64 0 := hF2 7 (by decide) rfl
    have HO2 := Lib.hid hO2
    have HB2 := Lib.hid hb2
    have HT2 := Lib.hid (fun W (hb : Below w2.heap.size w2 W) => HT1.out W (Bt HB2.out hb))
    have HK2 := Lib.hid (fun W (hb : Below w2.heap.size w2 W) => HKK.out W (Bt HB2.out hb))
    clear hF2 hb2 hO2 hBB
    rw [aft8 (d0 := 12) (d1 := 13) (d2 := 14) (d3 := 11) (d4 := 15) (d5 := 16) (d6 := 2) (d7 := 3) (by kernel_rfl) rfl]
    rw [h2, h3]
    simp only [List.set_cons_succ, List.set_cons_zero]
    refine from_end rfl ?_
    go_upto_region 3 with fail
    have hBB : ∀ (L : Nat → Bool) (i : Nat) (W W' : World), Below W.heap.size W W' → Below w2.heap.size w2 W → Below w2.heap.size w2 W' := fun _ _ _ _ hb h => Bt h hb
    have HK := HK2
    have HT := HT2
    refine region_blocks (by kernel_rfl) ?_
    refine from_lawW 9 EK2 (fun _ W => Below w2.heap.size w2 W) (FK2 bk) VK2 (by kernel_rfl) rfl (FK2_V _) (by kernel_rfl) (by kernel_rfl) ((B0 w2).drew) ⟨?_, ?_, ?_, ?_, ?_, ?_, ?_, ?_, ?_, trivial⟩ ?_
    · refine OpFactW.call rfl (FK2_below _) hBB fun L a wx hl hf D hb => ?_
      refine ⟨37, #[], ?_, (example_any wx).mono ?_⟩
      · simp [go_sem]
      · rintro e w' ⟨rfl, h1, h2, hb2⟩
        exact ⟨_, rfl, hb2, fun s _ h => ⟨_, _, h 18 rfl, h1, h2⟩⟩
    · refine OpFactW.value rfl (FK2_below _) hBB fun L a wx hl hf D hb => ?_
      have h0 : sl a 1 = .pointer (some ⟨bk, 0, none⟩) := hf 1 (by kernel_rfl)
      have es := HK.out wx hb
      refine ⟨.agg #[.int .i64 0, .int .i64 36], wx, ?_, B0 _, fun s _ h => h 19 rfl⟩
      unfold sl at h0
      simp at h0
      simp [go_sem, h0, es]
    · refine OpFactW.value rfl (FK2_below _) hBB fun L a wx hl hf D hb => ?_
      refine ⟨.agg #[.int .i64 1, .int .i64 48], wx, ?_, B0 _, fun s _ h => h 20 rfl⟩
      simp [go_sem]
    · refine OpFactW.call rfl (FK2_below _) hBB fun L a wx hl hf D hb => ?_
      obtain ⟨g1, g2, h1, k1, k2⟩ : ∃ g1 g2, sl a 18 = .agg #[.slice (some ⟨g1, 0, none⟩) 2 2, .slice (some ⟨g2, 0, none⟩) 2 2, .int .u64 3] ∧ Blk wx g1 62 exD ∧ Blk wx g2 46 (exC true) := D 0 (by kernel_rfl)
      have h2 : sl a 19 = .agg #[.int .i64 0, .int .i64 36] := D 1 (by kernel_rfl)
      have h3 : sl a 20 = .agg #[.int .i64 1, .int .i64 48] := D 2 (by kernel_rfl)
      refine ⟨18, #[.agg #[.slice (some ⟨g1, 0, none⟩) 2 2, .slice (some ⟨g2, 0, none⟩) 2 2, .int .u64 3], .agg #[.int .i64 0, .int .i64 36], .agg #[.int .i64 1, .int .i64 48]], ?_, (Cut_any (Cou.exA true) _ _ (by decide) (0, 36) (1, 48) wx _ (exAt true k1 k2) (HT.out wx hb).1 (HT.out wx hb).2.1).mono ?_⟩
      · unfold sl at h1 h2 h3
        simp at h1 h2 h3
        simp [go_sem, h1, h2, h3]
      · rintro e w' ⟨v, rfl, hO, hb2⟩
        rw [ex_cut] at hO
        exact ⟨_, rfl, hb2, fun s _ h => ⟨v, by rw [h 21 rfl, ex_cut], hO⟩⟩
    · refine OpFactW.value rfl (FK2_below _) hBB fun L a wx hl hf D hb => ?_
      obtain ⟨v, h1, q⟩ : ∃ v, sl a 21 = .tuple #[v, .int .i64 0] ∧ SlI (fun b => b < wx.heap.size) wx v [0] := D 3 (by kernel_rfl)
      refine ⟨.tuple #[v, .int .i64 0], wx, ?_, B0 _, fun s _ h => ⟨v, h 17 rfl, q⟩⟩
      unfold sl at h1
      simp at h1
      simp [go_sem, h1]
    · refine OpFactW.value rfl (FK2_below _) hBB fun L a wx hl hf D hb => ?_
      obtain ⟨v, h1, q⟩ : ∃ v, sl a 17 = .tuple #[v, .int .i64 0] ∧ SlI (fun b => b < wx.heap.size) wx v [0] := D 4 (by kernel_rfl)
      refine ⟨v, wx, ?_, B0 _, fun s _ h => ⟨v, h 22 rfl, q⟩⟩
      unfold sl at h1
      simp at h1
      simp [go_sem, h1]
    · refine OpFactW.value rfl (FK2_below _) hBB fun L a wx hl hf D hb => ?_
      obtain ⟨v, h1, q⟩ : ∃ v, sl a 17 = .tuple #[v, .int .i64 0] ∧ SlI (fun b => b < wx.heap.size) wx v [0] := D 4 (by kernel_rfl)
      refine ⟨.int .i64 0, wx, ?_, B0 _, fun s _ h => h 23 rfl⟩
      unfold sl at h1
      simp at h1
      simp [go_sem, h1]
    · refine OpFactW.value rfl (FK2_below _) hBB fun L a wx hl hf D hb => ?_
      obtain ⟨v, h1, q⟩ : ∃ v, sl a 22 = v ∧ SlI (fun b => b < wx.heap.size) wx v [0] := D 5 (by kernel_rfl)
      refine ⟨v, wx, ?_, B0 _, fun s _ h => ⟨v, h 4 rfl, q⟩⟩
      unfold sl at h1
      simp at h1
      simp [go_sem, h1]
    · refine OpFactW.value rfl (FK2_below _) hBB fun L a wx hl hf D hb => ?_
      have h1 : sl a 23 = .int .i64 0 := D 6 (by kernel_rfl)
      refine ⟨.int .i64 0, wx, ?_, B0 _, fun s _ h => h 5 rfl⟩
      unfold sl at h1
      simp at h1
      simp [go_sem, h1]
    · intro L2 y3 w3 hb3 hF3
      obtain ⟨v4, h4, hO4⟩ : ∃ v, y3 4 = v ∧ SlI (fun b => b < w3.heap.size) w3 v [0] := hF3 7 (by decide) rfl
      have h5 : y3 5 = .int .i64 0 := hF3 8 (by decide) rfl
      have HO4 := Lib.hid hO4
      have HB3 := Lib.hid (Bt HB2.out hb3)
      have HO2' := Lib.hid (OwnCh.below HO2.out hb3)
      have HT3 := Lib.hid (fun W (hb : Below w3.heap.size w3 W) => HT1.out W (Bt HB3.out hb))
      have HK3 := Lib.hid (fun W (hb : Below w3.heap.size w3 W) => HKK.out W (Bt HB3.out hb))
      clear hF3 hb3 hO4 hBB HK HT
      rw [aft9 (d0 := 18) (d1 := 19) (d2 := 20) (d3 := 21) (d4 := 17) (d5 := 22) (d6 := 23) (d7 := 4) (d8 := 5) (by kernel_rfl) rfl]
      rw [h4, h5]
      simp only [List.set_cons_succ, List.set_cons_zero]
      refine from_end rfl ?_
      go_upto_region 4 with fail
      have hBB : ∀ (L : Nat → Bool) (i : Nat) (W W' : World), Below W.heap.size W W' → Below w3.heap.size w3 W → Below w3.heap.size w3 W' := fun _ _ _ _ hb h => Bt h hb
      have HK := HK3
      refine region_blocks (by kernel_rfl) ?_
      refine from_lawW 9 EK3 (fun _ W => Below w3.heap.size w3 W) (FK3 bk) VK3 (by kernel_rfl) rfl (FK3_V _) (by kernel_rfl) (by kernel_rfl) ((B0 w3).drew) ⟨?_, ?_, ?_, ?_, ?_, ?_, ?_, ?_, ?_, trivial⟩ ?_
      · refine OpFactW.call rfl (FK3_below _) hBB fun L a wx hl hf D hb => ?_
        refine ⟨37, #[], ?_, (example_any wx).mono ?_⟩
        · simp [go_sem]
        · rintro e w' ⟨rfl, h1, h2, hb2⟩
          exact ⟨_, rfl, hb2, fun s _ h => ⟨_, _, h 25 rfl, h1, h2⟩⟩
      · refine OpFactW.value rfl (FK3_below _) hBB fun L a wx hl hf D hb => ?_
        have h0 : sl a 1 = .pointer (some ⟨bk, 0, none⟩) := hf 1 (by kernel_rfl)
        have es := HK.out wx hb
        refine ⟨.agg #[.int .i64 0, .int .i64 36], wx, ?_, B0 _, fun s _ h => h 26 rfl⟩
        unfold sl at h0
        simp at h0
        simp [go_sem, h0, es]
      · refine OpFactW.value rfl (FK3_below _) hBB fun L a wx hl hf D hb => ?_
        refine ⟨.slice (some ⟨wx.heap.size, 0, none⟩) 1 1, wx.alloc (.cells #[.int .i64 1] 3), ?_, Ba (B0 _) _, fun s _ h => ⟨_, h 27 rfl, Blk.new _ _ _⟩⟩
        simp [go_sem]
      · refine OpFactW.call rfl (FK3_below _) hBB fun L a wx hl hf D hb => ?_
        obtain ⟨g1, g2, h1, k1, k2⟩ : ∃ g1 g2, sl a 25 = .agg #[.slice (some ⟨g1, 0, none⟩) 2 2, .slice (some ⟨g2, 0, none⟩) 2 2, .int .u64 3] ∧ Blk wx g1 62 exD ∧ Blk wx g2 46 (exC true) := D 0 (by kernel_rfl)
        have h2 : sl a 26 = .agg #[.int .i64 0, .int .i64 36] := D 1 (by kernel_rfl)
        obtain ⟨g3, h3, k3⟩ : ∃ g, sl a 27 = .slice (some ⟨g, 0, none⟩) 1 1 ∧ Blk wx g 3 #[.int .i64 1] := D 2 (by kernel_rfl)
        refine ⟨14, #[.agg #[.slice (some ⟨g1, 0, none⟩) 2 2, .slice (some ⟨g2, 0, none⟩) 2 2, .int .u64 3], .agg #[.int .i64 0, .int .i64 36], .slice (some ⟨g3, 0, none⟩) 1 1], ?_, (Follow_any (Cou.exA true) _ _ (by decide) (0, 36) _ [1] wx _ (exAt true k1 k2).all (slI_blk k3 [1] rfl) (by simp)).mono ?_⟩
        · unfold sl at h1 h2 h3
          simp at h1 h2 h3
          simp [go_sem, h1, h2, h3]
        · rintro e w' ⟨v, rfl, -, hb2⟩
          exact ⟨_, rfl, hb2, fun s _ h => ⟨v, by rw [h 28 rfl, ex_fol], .inl rfl⟩⟩
      · refine OpFactW.value rfl (FK3_below _) hBB fun L a wx hl hf D hb => ?_
        obtain ⟨v, h1, q⟩ : ∃ v, sl a 28 = .tuple #[v, .int .i64 24] ∧ (0 = 0 ∨ wx = wx) := D 3 (by kernel_rfl)
        refine ⟨.tuple #[v, .int .i64 24], wx, ?_, B0 _, fun s _ h => ⟨v, h 24 rfl, q⟩⟩
        unfold sl at h1
        simp at h1
        simp [go_sem, h1]
      · refine OpFactW.value rfl (FK3_below _) hBB fun L a wx hl hf D hb => ?_
        obtain ⟨v, h1, q⟩ : ∃ v, sl a 24 = .tuple #[v, .int .i64 24] ∧ (0 = 0 ∨ wx = wx) := D 4 (by kernel_rfl)
        refine ⟨v, wx, ?_, B0 _, fun s _ h => ⟨v, h 29 rfl, q⟩⟩
        unfold sl at h1
        simp at h1
        simp [go_sem, h1]
      · refine OpFactW.value rfl (FK3_below _) hBB fun L a wx hl hf D hb => ?_
        obtain ⟨v, h1, q⟩ : ∃ v, sl a 24 = .tuple #[v, .int .i64 24] ∧ (0 = 0 ∨ wx = wx) := D 4 (by kernel_rfl)
        refine ⟨.int .i64 24, wx, ?_, B0 _, fun s _ h => h 30 rfl⟩
        unfold sl at h1
        simp at h1
        simp [go_sem, h1]
      · refine OpFactW.value rfl (FK3_below _) hBB fun L a wx hl hf D hb => ?_
        obtain ⟨v, h1, q⟩ : ∃ v, sl a 29 = v ∧ (0 = 0 ∨ wx = wx) := D 5 (by kernel_rfl)
        refine ⟨v, wx, ?_, B0 _, fun s _ h => ⟨v, h 6 rfl, q⟩⟩
        unfold sl at h1
        simp at h1
        simp [go_sem, h1]
      · refine OpFactW.value rfl (FK3_below _) hBB fun L a wx hl hf D hb => ?_
        have h1 : sl a 30 = .int .i64 24 := D 6 (by kernel_rfl)
        refine ⟨.int .i64 24, wx, ?_, B0 _, fun s _ h => h 7 rfl⟩
        unfold sl at h1
        simp at h1
        simp [go_sem, h1]
      · intro L3 y4 w4 hb4 hF4
        obtain ⟨v6, h6, -⟩ : ∃ v, y4 6 = v ∧ ((0 : Nat) = 0 ∨ w4 = w4) := hF4 7 (by decide) rfl
        have h7 : y4 7 = .int .i64 24 := hF4 8 (by decide) rfl
        have HB4 := Lib.hid (Bt HB3.out hb4)
        have HO2'' := Lib.hid (OwnCh.below HO2'.out hb4)
        have HO4' := Lib.hid ((SlI.keep HO4.out (Agree.below hb4 fun b h => h)).mono fun b h => Nat.lt_of_lt_of_le h hb4.size)
        have HT4 := Lib.hid (fun W (hb : Below w4.heap.size w4 W) => HT1.out W (Bt HB4.out hb))
        have HK4 := Lib.hid (fun W (hb : Below w4.heap.size w4 W) => HKK.out W (Bt HB4.out hb))
        clear hF4 hb4 hBB HK
        rw [aft9 (d0 := 25) (d1 := 26) (d2 := 27) (d3 := 28) (d4 := 24) (d5 := 29) (d6 := 30) (d7 := 6) (d8 := 7) (by kernel_rfl) rfl]
        rw [h6, h7]
        simp only [List.set_cons_succ, List.set_cons_zero]
        refine from_end rfl ?_
        go_upto_region 5 with fail
        have hBB : ∀ (L : Nat → Bool) (i : Nat) (W W' : World), Below W.heap.size W W' → Below w4.heap.size w4 W → Below w4.heap.size w4 W' := fun _ _ _ _ hb h => Bt h hb
        have HK := HK4
        have HT := HT4
        refine region_blocks (by kernel_rfl) ?_
        refine from_lawW 9 EK4 (fun _ W => Below w4.heap.size w4 W) (FK4 bk) VK4 (by kernel_rfl) rfl (FK4_V _) (by kernel_rfl) (by kernel_rfl) ((B0 w4).drew) ⟨?_, ?_, ?_, ?_, ?_, ?_, ?_, ?_, ?_, trivial⟩ ?_
        · refine OpFactW.call rfl (FK4_below _) hBB fun L a wx hl hf D hb => ?_
          refine ⟨37, #[], ?_, (example_any wx).mono ?_⟩
          · simp [go_sem]
          · rintro e w' ⟨rfl, h1, h2, hb2⟩
            exact ⟨_, rfl, hb2, fun s _ h => ⟨_, _, h 32 rfl, h1, h2⟩⟩
        · refine OpFactW.value rfl (FK4_below _) hBB fun L a wx hl hf D hb => ?_
          have h0 : sl a 1 = .pointer (some ⟨bk, 0, none⟩) := hf 1 (by kernel_rfl)
          have es := HK.out wx hb
          refine ⟨.agg #[.int .i64 0, .int .i64 36], wx, ?_, B0 _, fun s _ h => h 33 rfl⟩
          unfold sl at h0
          simp at h0
          simp [go_sem, h0, es]
        · refine OpFactW.value rfl (FK4_below _) hBB fun L a wx hl hf D hb => ?_
          refine ⟨.slice (some ⟨wx.heap.size, 0, none⟩) 2 2, wx.alloc (.cells #[.int .i64 0, .int .i64 1] 3), ?_, Ba (B0 _) _, fun s _ h => ⟨_, h 34 rfl, Blk.new _ _ _⟩⟩
          simp [go_sem]
        · refine OpFactW.call rfl (FK4_below _) hBB fun L a wx hl hf D hb => ?_
          obtain ⟨g1, g2, h1, k1, k2⟩ : ∃ g1 g2, sl a 32 = .agg #[.slice (some ⟨g1, 0, none⟩) 2 2, .slice (some ⟨g2, 0, none⟩) 2 2, .int .u64 3] ∧ Blk wx g1 62 exD ∧ Blk wx g2 46 (exC true) := D 0 (by kernel_rfl)
          have h2 : sl a 33 = .agg #[.int .i64 0, .int .i64 36] := D 1 (by kernel_rfl)
          obtain ⟨g3, h3, k3⟩ : ∃ g, sl a 34 = .slice (some ⟨g, 0, none⟩) 2 2 ∧ Blk wx g 3 #[.int .i64 0, .int .i64 1] := D 2 (by kernel_rfl)
          refine ⟨15, #[.agg #[.slice (some ⟨g1, 0, none⟩) 2 2, .slice (some ⟨g2, 0, none⟩) 2 2, .int .u64 3], .agg #[.int .i64 0, .int .i64 36], .slice (some ⟨g3, 0, none⟩) 2 2], ?_, (Text_any (Cou.exA true) _ _ (by decide) (0, 36) _ [0, 1] wx _ (exAt true k1 k2).all (slI_blk k3 [0, 1] rfl) (by simp) (HT.out wx hb).2.2).mono ?_⟩
          · unfold sl at h1 h2 h3
            simp at h1 h2 h3
            simp [go_sem, h1, h2, h3]
          · rintro e w' ⟨rfl, hb2⟩
            exact ⟨_, rfl, hb2, fun s _ h => ⟨_, by rw [h 35 rfl, ex_text], rfl, .inl rfl⟩⟩
        · refine OpFactW.value rfl (FK4_below _) hBB fun L a wx hl hf D hb => ?_
          obtain ⟨v, h1, q⟩ : ∃ v, sl a 35 = .tuple #[v, .int .i64 0] ∧ (v = .string exS ∧ (0 = 0 ∨ wx = wx)) := D 3 (by kernel_rfl)
          refine ⟨.tuple #[v, .int .i64 0], wx, ?_, B0 _, fun s _ h => ⟨v, h 31 rfl, q⟩⟩
          unfold sl at h1
          simp at h1
          simp [go_sem, h1]
        · refine OpFactW.value rfl (FK4_below _) hBB fun L a wx hl hf D hb => ?_
          obtain ⟨v, h1, q⟩ : ∃ v, sl a 31 = .tuple #[v, .int .i64 0] ∧ (v = .string exS ∧ (0 = 0 ∨ wx = wx)) := D 4 (by kernel_rfl)
          refine ⟨v, wx, ?_, B0 _, fun s _ h => ⟨v, h 36 rfl, q⟩⟩
          unfold sl at h1
          simp at h1
          simp [go_sem, h1]
        · refine OpFactW.value rfl (FK4_below _) hBB fun L a wx hl hf D hb => ?_
          obtain ⟨v, h1, q⟩ : ∃ v, sl a 31 = .tuple #[v, .int .i64 0] ∧ (v = .string exS ∧ (0 = 0 ∨ wx = wx)) := D 4 (by kernel_rfl)
          refine ⟨.int .i64 0, wx, ?_, B0 _, fun s _ h => h 37 rfl⟩
          unfold sl at h1
          simp at h1
          simp [go_sem, h1]
        · refine OpFactW.value rfl (FK4_below _) hBB fun L a wx hl hf D hb => ?_
          obtain ⟨v, h1, q⟩ : ∃ v, sl a 36 = v ∧ (v = .string exS ∧ (0 = 0 ∨ wx = wx)) := D 5 (by kernel_rfl)
          refine ⟨v, wx, ?_, B0 _, fun s _ h => ⟨v, h 8 rfl, q⟩⟩
          unfold sl at h1
          simp at h1
          simp [go_sem, h1]
        · refine OpFactW.value rfl (FK4_below _) hBB fun L a wx hl hf D hb => ?_
          have h1 : sl a 37 = .int .i64 0 := D 6 (by kernel_rfl)
          refine ⟨.int .i64 0, wx, ?_, B0 _, fun s _ h => h 9 rfl⟩
          unfold sl at h1
          simp at h1
          simp [go_sem, h1]
        · intro L4 y5 w5 hb5 hF5
          obtain ⟨v8, h8, hv8, -⟩ : ∃ v, y5 8 = v ∧ (v = .string exS ∧ ((0 : Nat) = 0 ∨ w5 = w5)) := hF5 7 (by decide) rfl
          have h9 : y5 9 = .int .i64 0 := hF5 8 (by decide) rfl
          rw [hv8] at h8
          have HB5 := Lib.hid (Bt HB4.out hb5)
          have hC := OwnCh.below HO2''.out hb5
          have hI := (SlI.keep HO4'.out (Agree.below hb5 fun b h => h)).mono fun b h => Nat.lt_of_lt_of_le h hb5.size
          clear hF5 hb5 hBB HK HT
          rw [aft9 (d0 := 32) (d1 := 33) (d2 := 34) (d3 := 35) (d4 := 31) (d5 := 36) (d6 := 37) (d7 := 8) (d8 := 9) (by kernel_rfl) rfl]
          rw [h8, h9]
          simp only [List.set_cons_succ, List.set_cons_zero]
          refine from_end rfl ?_
          obtain ⟨A2, cp2, hv2, -, -, hat2⟩ := hC.sl (F := fun b => b < w5.heap.size) (by simp [exL]) fun b _ h _ => h
          obtain ⟨ad2, cs2, rfl, hlt2, -, ⟨u2, rfl, hu2⟩, hfl2⟩ := hat2 2 (by simp [exL])
          obtain ⟨Au, cu, rfl, -⟩ := id hu2
          obtain ⟨A4, cp4, hv4, -, -, hat4⟩ := SlI.open hI
          obtain ⟨ad4, rfl, hlt4, hc4⟩ := hat4 0 (by simp)
          have e0 := hfl2.f0 rfl
          have e1 := hfl2.f1 rfl
          have e2 := hfl2.f2 rfl
          subst hv2 hv4
          clear hat2 hat4 hu2 hC hI hfl2
          simp [exL, Addr.add] at e0 e1 e2 hc4
          have hxs : (exS == ⟨#[67, 50, 32, 97, 32, 67, 50, 32, 98, 32, 67, 51]⟩) = true := by decide
          unfold exS
          go_wp2_with fail
          go_ret
          exact ⟨rfl, Bt HB1.out HB5.out⟩
end Go.Proofs.YtahlfndlkfoikaaDoor
namespace Go.Proofs.YtahlfndlkfoikaaDoor
open Go Go.RowKit Go.Shelf
/-- What the statements of chapter 24 need of the world. -/
structure WOk (w : World) : Prop where
  tab : Tab64 w
  g : 0 < w.heap.size
  pow : TabP w
theorem WOk.below {w w' : World} (h : WOk w) (hb : Below w.heap.size w w') : WOk w' := ⟨h.tab.below hb, Nat.lt_of_lt_of_le h.g hb.size, h.pow.below hb⟩
theorem WOk.known {w : World} (h : WOk w) : Calls Tryd.prog 11 #[] w fun e w' => e = .returned (.bool true) ∧ Below w.heap.size w w' := known_any w h.tab h.g h.pow
set_option maxRecDepth 100000 in
set_option maxHeartbeats 2000000 in
theorem law_compares (v v' : Value) (x y : Int × Int) (l m : List Int) (w : World) (F : Nat → Prop) (hF : ∀ b, F b → b < w.heap.size) (h : SlI F w v l) (h' : SlI F w v' m) (hW : WOk w) :
    Calls Tryd.prog 5 #[.agg #[v, .int .i64 x.1, .int .i64 x.2], .agg #[v', .int .i64 y.1, .int .i64 y.2]] w fun e w' => e = .returned (.bool true) ∧ Below w.heap.size w w' := by
  obtain ⟨A1, c1, rfl, -, -, -⟩ := id h.open
  obtain ⟨A2, c2, rfl, -, -, -⟩ := id h'.open
  obtain ⟨x1, x2⟩ := x
  obtain ⟨y1, y2⟩ := y
  obtain ⟨w1, hw1⟩ : ∃ w1 : World, (w.alloc (.cells #[.slice A1 l.length c1, .int .i64 x1, .int .i64 x2] 56)).alloc (.cells #[.slice A2 m.length c2, .int .i64 y1, .int .i64 y2] 56) = w1 := ⟨_, rfl⟩
  obtain ⟨bA, hbA⟩ : ∃ bA, w.heap.size = bA := ⟨_, rfl⟩
  obtain ⟨bB, hbB⟩ : ∃ bB, bA + 1 = bB := ⟨_, rfl⟩
  have c3 : w1.cell? ⟨bA, 0, none⟩ = some (.slice A1 l.length c1) := by rw [← hw1, ← hbA]; simp [go_sem]
  have c4 : w1.cell? ⟨bA, 1, none⟩ = some (.int .i64 x1) := by rw [← hw1, ← hbA]; simp [go_sem]
  have c5 : w1.cell? ⟨bA, 2, none⟩ = some (.int .i64 x2) := by rw [← hw1, ← hbA]; simp [go_sem]
  have c6 : w1.cell? ⟨bB, 0, none⟩ = some (.slice A2 m.length c2) := by rw [← hw1, ← hbB, ← hbA]; simp [go_sem]
  have c7 : w1.cell? ⟨bB, 1, none⟩ = some (.int .i64 y1) := by rw [← hw1, ← hbB, ← hbA]; simp [go_sem]
  have c8 : w1.cell? ⟨bB, 2, none⟩ = some (.int .i64 y2) := by rw [← hw1, ← hbB, ← hbA]; simp [go_sem]
  have l1 : bB < w1.heap.size := by rw [← hw1, ← hbB, ← hbA]; simp
  have B1 : Below w.heap.size w w1 := by rw [← hw1]; exact Ba (Ba (B0 w) _) _
  have HK := Lib.hid (fun W (hb : Below w1.heap.size w1 W) => (show (W.cell? ⟨bA, 0, none⟩ = some (.slice A1 l.length c1) ∧ W.cell? ⟨bA, 1, none⟩ = some (.int .i64 x1) ∧ W.cell? ⟨bA, 2, none⟩ = some (.int .i64 x2)) ∧ W.cell? ⟨bB, 0, none⟩ = some (.slice A2 m.length c2) ∧ W.cell? ⟨bB, 1, none⟩ = some (.int .i64 y1) ∧ W.cell? ⟨bB, 2, none⟩ = some (.int .i64 y2) from
    ⟨⟨(Bc hb (by omega)).trans c3, (Bc hb (by omega)).trans c4, (Bc hb (by omega)).trans c5⟩, (Bc hb l1).trans c6, (Bc hb l1).trans c7, (Bc hb l1).trans c8⟩))
  have HKN := Lib.hid (fun W (hb : Below w1.heap.size w1 W) => (hW.below (Bt B1 hb)).known)
  have HL := Lib.hid (fun W (hb : Below w1.heap.size w1 W) => less_any (.slice A1 l.length c1) (.slice A2 m.length c2) l m W F (fun b q => Nat.lt_of_lt_of_le (hF b q) (Bt B1 hb).size) (SlI.keep h (Agree.below (Bt B1 hb) hF)) (SlI.keep h' (Agree.below (Bt B1 hb) hF)))
  have HR := Lib.hid (fun W (hb : Below w1.heap.size w1 W) => less_any (.slice A2 m.length c2) (.slice A1 l.length c1) m l W F (fun b q => Nat.lt_of_lt_of_le (hF b q) (Bt B1 hb).size) (SlI.keep h' (Agree.below (Bt B1 hb) hF)) (SlI.keep h (Agree.below (Bt B1 hb) hF)))
  have HCO := Lib.hid (fun W (hb : Below w1.heap.size w1 W) => Compare_any (.slice A1 l.length c1) (.slice A2 m.length c2) (x1, x2) (y1, y2) l m W F (fun b q => Nat.lt_of_lt_of_le (hF b q) (Bt B1 hb).size) (SlI.keep h (Agree.below (Bt B1 hb) hF)) (SlI.keep h' (Agree.below (Bt B1 hb) hF)))
  have HLE : Hid (Cha.cmpF l m = if Cha.lessF m l = true then 1 else if Cha.lessF l m = true then -1 else 0) := Lib.hid (Cha.cmpF_less l m)
  obtain ⟨n, hn⟩ : ∃ n, l.length = n := ⟨_, rfl⟩
  obtain ⟨k, hk⟩ : ∃ n, m.length = n := ⟨_, rfl⟩
  rw [hn, hk] at HL HR HCO HK hw1 ⊢
  obtain ⟨p, hp⟩ : ∃ p, Cha.lessF l m = p := ⟨_, rfl⟩
  obtain ⟨q, hq⟩ : ∃ q, Cha.lessF m l = q := ⟨_, rfl⟩
  obtain ⟨r, hr⟩ : ∃ r, Cha.cmpF l m = r := ⟨_, rfl⟩
  have hpq : p = true → q = false := fun e => by rw [← hq]; exact Cha.lessF_asymm (hp.trans e)
  rw [hp] at HL
  rw [hq] at HR
  rw [hr] at HCO
  rw [hp, hq, hr] at HLE
  have HB1 := Lib.hid B1
  have HW1 := Lib.hid hw1
  have HBA := Lib.hid hbA
  have HBB := Lib.hid hbB
  have HKW := Lib.hid (HKN.out w1 (B0 w1))
  clear h h' B1 hw1 hbA hbB c3 c4 c5 c6 c7 c8 l1 hn hk hp hq hr hW hF
  dsimp only at HCO
  by_cases hbig : 10 < n ∨ 10 < k
  · have hcs : (decide ((10 : Int) < n) = true ∧ decide (10 < n) = true) ∨ (decide ((10 : Int) < n) = false ∧ decide (10 < n) = false ∧ decide ((10 : Int) < k) = true ∧ decide (10 < k) = true) := by
      simp only [decide_eq_true_eq, decide_eq_false_iff_not]; omega
    clear hbig HL HR HCO HLE hpq
    rcases hcs with ⟨d1, d2⟩ | ⟨d1, d2, d3, d4⟩
    all_goals
      go_enter Tryd.func5, Tryd.ntmps5
      go_upto_region 1 with fail
      rw [HW1.out, HBA.out, HBB.out]
      go_upto_region 2 with (go_at_call 11; (with_reducible refine (HKW.out.mono ?_)); rintro e w2 ⟨rfl, hb2⟩; have HB2 := Lib.hid hb2; obtain ⟨⟨a0, a1, a2⟩, a3, a4, a5⟩ := HK.out w2 hb2; clear hb2)
      clear a0 a1 a2 a3 a4 a5
      go_wp2_with (go_at_call 11; (with_reducible refine ((HKN.out _ HB2.out).mono ?_)); rintro e w3 ⟨rfl, hb3⟩; have HB3 := Lib.hid (Bt HB2.out hb3); clear hb3)
      go_ret
      exact ⟨rfl, Bt HB1.out HB3.out⟩
  · have d1 : decide ((10 : Int) < n) = false := decide_eq_false (by omega)
    have d2 : decide (10 < n) = false := decide_eq_false (by omega)
    have d3 : decide ((10 : Int) < k) = false := decide_eq_false (by omega)
    have d4 : decide (10 < k) = false := decide_eq_false (by omega)
    clear hbig
    have hcs : (p = true ∧ q = false ∧ r = -1) ∨ (p = false ∧ q = true ∧ r = 1) ∨ (p = false ∧ q = false ∧ r = 0) := by
      have h := HLE.out
      cases p <;> cases q <;> simp_all
    clear HLE hpq
    rcases hcs with ⟨rfl, rfl, rfl⟩ | ⟨rfl, rfl, rfl⟩ | ⟨rfl, rfl, rfl⟩
    all_goals
      go_enter Tryd.func5, Tryd.ntmps5
      go_upto_region 1 with fail
      rw [HW1.out, HBA.out, HBB.out]
      go_upto_region 4 with (go_at_call 11; (with_reducible refine (HKW.out.mono ?_)); rintro e w2 ⟨rfl, hb2⟩; have HB2 := Lib.hid hb2; obtain ⟨⟨a0, a1, a2⟩, a3, a4, a5⟩ := HK.out w2 hb2; clear hb2)
      go_upto_region 6 with (go_at_call 22; (with_reducible refine ((HL.out _ HB2.out).mono ?_)); rintro e w3 ⟨rfl, hb3⟩; have HB3 := Lib.hid (Bt HB2.out hb3); clear hb3 a0 a1 a2 a3 a4 a5; obtain ⟨⟨a0, a1, a2⟩, a3, a4, a5⟩ := HK.out w3 HB3.out)
      go_upto_region 8 with (go_at_call 22; (with_reducible refine ((HR.out _ HB3.out).mono ?_)); rintro e w4 ⟨rfl, hb4⟩; have HB4 := Lib.hid (Bt HB3.out hb4); clear hb4 a0 a1 a2 a3 a4 a5; obtain ⟨⟨a0, a1, a2⟩, a3, a4, a5⟩ := HK.out w4 HB4.out)
      go_wp2_with (go_at_call 23; (with_reducible refine ((HCO.out _ HB4.out).mono ?_)); rintro e w5 ⟨rfl, hb5⟩; have HB5 := Lib.hid (Bt HB4.out hb5); clear hb5 a0 a1 a2 a3 a4 a5)
      go_ret
      exact ⟨rfl, Bt HB1.out HB5.out⟩
end Go.Proofs.YtahlfndlkfoikaaDoor
