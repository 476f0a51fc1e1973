/- Walks over chain's statements: reaches, size, first. -/
import Derived.Test.YtahlfndlkfoikaaDoorGg
import Derived.Test.YtahlfndlkfoikaaDoorGc
import Derived.Test.YtahlfndlkfoikaaDoorEm
namespace Go.Proofs.YtahlfndlkfoikaaDoor
open Go Go.RowKit Go.Shelf
set_option maxRecDepth 100000 in
set_option maxHeartbeats 2000000 in
theorem reaches_any (a : Cou.Ac) (hr : Cou.rightF a = 0) (vd vc : Value) (key c : Cou.Ct) (hkw : Cou.wrongF a key = 0) (wo : Nat) (hwo : wo < 2 ^ 64) (w : World) (F : Nat → Prop) (hA : AcAt F w vd vc a) (hT : Tab64 w) (hg : 0 < w.heap.size) :
    Calls Tryd.prog 19 #[.agg #[vd, vc, .int .u64 a.drawn], .agg #[.int .i64 key.1, .int .i64 key.2], .agg #[.int .i64 c.1, .int .i64 c.2], .int .u64 wo] w fun e w' => e = .returned (.bool (Cha.reachB a key c wo)) ∧ Below w.heap.size w w' := by
  have hok := Cou.right_ok hr
  have hd64 : a.drawn < 2 ^ 64 := Nat.lt_of_lt_of_le hok.drawn (Nat.pow_le_pow_right (by decide) (by have := hok.nc; omega))
  have hdc : (Cha.cutA a wo).drawn < 2 ^ 64 := Hit.andn_lt hd64
  obtain ⟨Ad, cd, hvd, -, -⟩ := id hA.dv.open
  obtain ⟨Ac, cc, hvc, -, -⟩ := id hA.cp.open
  subst hvd hvc
  have hF := hA.inW
  have hRE := fun W (hb : Below w.heap.size w W) => Reach_any (Cha.cutA a wo) (.slice Ad a.divs.length cd) (.slice Ac a.cps.length cc) hdc key W F ⟨fun b h => Nat.lt_of_lt_of_le (hF b h) hb.size, (hA.onB hF hb).dv, (hA.onB hF hb).cp⟩ (hT.below hb) (Nat.lt_of_lt_of_le hg hb.size)
  have he : reachErr (Cha.cutA a wo) key = 0 := by
    unfold reachErr
    rw [if_pos (Cha.right_cut hr wo)]
    exact hkw
  rw [he] at hRE
  have hand : bits .andNot .u64 (a.drawn : Int) (wo : Int) = ((Hit.andn a.drawn wo : Nat) : Int) := Hit.u64_andn a.drawn wo hd64 hwo
  have HRB := Lib.hid (fun (l : List Cou.Ct) (hl : ∀ t, t ∈ l ↔ Cou.Hop (Cha.cutA a wo) [key] t) => (show decide (c ∈ l) = Cha.reachB a key c wo from Bool.eq_iff_iff.2 (by rw [decide_eq_true_eq, hl, Cha.reachB_iff hok])))
  have hdd : (Cha.cutA a wo).drawn = Hit.andn a.drawn wo := rfl
  rw [hdd] at hRE
  obtain ⟨d, hd⟩ : ∃ d, Hit.andn a.drawn wo = d := ⟨_, rfl⟩
  rw [hd] at hRE hand
  have HRE := Lib.hid hRE
  have HCN := Lib.hid (fun (v : Value) (l : List Cou.Ct) W (hS : SlCt (fun b => b < W.heap.size) W v l) => has_any v l c W _ (fun _ h => h) hS)
  clear hA hT hg
  obtain ⟨dl, hdl⟩ : ∃ dl, a.divs.length = dl := ⟨_, rfl⟩
  obtain ⟨cl, hcl⟩ : ∃ cl, a.cps.length = cl := ⟨_, rfl⟩
  rw [hdl, hcl] at HRE ⊢
  rw [hdl, hcl] at hRE
  obtain ⟨k1, k2⟩ := key
  obtain ⟨c1, c2⟩ := c
  obtain ⟨w1, hw1⟩ : ∃ w1 : World, ((w.alloc (.cells #[.slice Ad dl cd, .slice Ac cl cc, .int .u64 a.drawn] 33)).alloc (.cells #[.int .i64 k1, .int .i64 k2] 36)).alloc (.cells #[.int .i64 c1, .int .i64 c2] 36) = w1 := ⟨_, rfl⟩
  obtain ⟨bx, hbx⟩ : ∃ bx, w.heap.size = bx := ⟨_, rfl⟩
  have K1 : Blk w1 bx 33 #[.slice Ad dl cd, .slice Ac cl cc, .int .u64 a.drawn] := by rw [← hw1, ← hbx]; exact ((Blk.new w _ _).alloc _).alloc _
  have B1 : Below w.heap.size w w1 := by rw [← hw1]; exact Ba (Ba (Ba (B0 w) _) _) _
  have q0 : w1.cell? ⟨bx + 1, 0, none⟩ = some (.int .i64 k1) := by rw [← hw1, ← hbx]; simp [go_sem]
  have q1 : w1.cell? ⟨bx + 1, 1, none⟩ = some (.int .i64 k2) := by rw [← hw1, ← hbx]; simp [go_sem]
  have q2 : w1.cell? ⟨bx + 1 + 1, 0, none⟩ = some (.int .i64 c1) := by rw [← hw1, ← hbx]; simp [go_sem]
  have q3 : w1.cell? ⟨bx + 1 + 1, 1, none⟩ = some (.int .i64 c2) := by rw [← hw1, ← hbx]; simp [go_sem]
  have l1 : bx + 1 + 1 < w1.heap.size := by rw [← hw1, ← hbx]; simp
  have K2 := K1.set_ 2 (.int .u64 d)
  obtain ⟨w2, hw2⟩ : ∃ w2 : World, w1.setCell ⟨bx, 2, none⟩ (.int .u64 d) = w2 := ⟨_, rfl⟩
  rw [hw2] at K2
  have B2 : Below w.heap.size w w2 := by rw [← hw2]; exact Bs B1 _ (by rw [← hbx]; exact Nat.le_refl _)
  have hS2 : w2.heap.size = w1.heap.size := by rw [← hw2]; simp
  have hfar : ∀ b i, b ≠ bx → w2.cell? ⟨b, i, none⟩ = w1.cell? ⟨b, i, none⟩ := fun b i h => by
    rw [← hw2]; exact World.cell?_of_block (Below.heap_setCell _ _ _ b h)
  have HX := Lib.hid (fun W (hb : Below w2.heap.size w2 W) => (show (W.cell? ⟨bx + 1, 0, none⟩ = some (.int .i64 k1) ∧ W.cell? ⟨bx + 1, 1, none⟩ = some (.int .i64 k2)) ∧ W.cell? ⟨bx + 1 + 1, 0, none⟩ = some (.int .i64 c1) ∧ W.cell? ⟨bx + 1 + 1, 1, none⟩ = some (.int .i64 c2) from
    ⟨⟨((Bc hb (by omega)).trans (hfar _ _ (by omega))).trans q0, ((Bc hb (by omega)).trans (hfar _ _ (by omega))).trans q1⟩, ((Bc hb (by omega)).trans (hfar _ _ (by omega))).trans q2, ((Bc hb (by omega)).trans (hfar _ _ (by omega))).trans q3⟩))
  have y2 := K1.cell 2
  have f2 := K1.frozen 2
  have z0 := K2.cell 0
  have z1 := K2.cell 1
  have z2 := K2.cell 2
  simp at y2 z0 z1 z2
  obtain ⟨⟨u0, u1⟩, -, -⟩ := HX.out w2 (B0 w2)
  have HW1 := Lib.hid hw1
  have HW2 := Lib.hid hw2
  have HBX := Lib.hid hbx
  have HB2 := Lib.hid B2
  have HR2 := Lib.hid (HRE.out w2 B2)
  clear hRE K1 K2 B1 B2 hw1 hw2 hbx hd he hdd hdc hF HRE hdl hcl hr hkw hok q0 q1 q2 q3 l1 hS2 hfar
  dsimp only at HR2
  go_enter Tryd.func19, Tryd.ntmps19
  go_upto_region 1 with fail
  rw [HW1.out, HBX.out]
  go_upto_region 2 with fail
  rw [HW2.out]
  clear y2 f2
  go_wp2_with (first
    | (go_at_call 25; (with_reducible refine (HR2.out.mono ?_)); rintro e w3 ⟨v3, l3, rfl, hs3, -, hm3, hb3⟩; have HS3 := Lib.hid (SlCt.bnd3 hs3); have HM3 := Lib.hid (hm3 rfl).2; have HB3 := Lib.hid hb3; obtain ⟨-, v0, v1⟩ := HX.out w3 hb3; clear hs3 hm3 hb3)
    | (go_at_call 26; (with_reducible refine ((HCN.out v3 l3 _ HS3.out).mono ?_)); rintro e w4 ⟨rfl, hb4⟩; have HB4 := Lib.hid (Bt HB3.out hb4); clear hb4))
  go_ret
  exact ⟨by rw [← HRB.out l3 HM3.out]; rfl, Bt HB2.out HB4.out⟩
set_option maxRecDepth 100000 in
theorem size_any (n : Nat) (hn : n < 2 ^ 64) (w : World) :
    Calls Tryd.prog 20 #[.int .u64 n] w fun e w' => e = .returned (.int .i64 (Cha.sizeF 64 n : Nat)) ∧ w' = w := by
  go_enter Tryd.func20, Tryd.ntmps20
  go_wp2_with fail
  go_loopg [0, 3] 64 (fun gg s0 s3 wr => ∃ (f m k : Nat), f ≤ gg ∧ f ≤ 64 ∧ m < 2 ^ f ∧ s0 = .int .u64 m ∧ s3 = .int .i64 k ∧ Aside (k + Cha.sizeF f m = Cha.sizeF 64 n) ∧ wr = w)
  case atStart => exact ⟨64, n, 0, by omega, by omega, hn, rfl, rfl, (show Aside _ from by show _ = _; rw [Nat.zero_add]), rfl⟩
  case round =>
    obtain ⟨f, m, k, hf, hf2, hm, rfl, rfl, HE, rfl⟩ := hrel
    replace HE := Lib.hid HE
    have h64 : (2 : Nat) ^ f ≤ 2 ^ 64 := Nat.pow_le_pow_right (by decide) hf2
    have hm64 : m < 18446744073709551616 := by omega
    have hk : k ≤ 64 := by have h1 := Cha.size_le 64 n; have h2 := HE.out; simp only [Aside] at h2; omega
    clear h64
    by_cases h0 : m = 0
    · subst h0
      have HE2 : Hid (k = Cha.sizeF 64 n) := Lib.hid (by
        rw [← HE.out]
        cases f with
        | zero => rfl
        | succ f => rw [Cha.sizeF, if_pos rfl]; rfl)
      clear HE
      go_wp2_with fail
      go_ret
      exact ⟨by rw [← HE2.out]; rfl, rfl⟩
    · have hd : decide (0 < (m : Int)) = true := decide_eq_true (by omega)
      obtain ⟨f, rfl⟩ : ∃ f', f = f' + 1 := ⟨f - 1, by
        cases f with
        | zero => exact absurd hm (by simp; omega)
        | succ f => rfl⟩
      have hmd : m / 2 < 2 ^ f := by rw [Nat.pow_succ] at hm; omega
      have HE2 : Hid (k + m % 2 + Cha.sizeF f (m / 2) = Cha.sizeF 64 n) := Lib.hid (by
        rw [← HE.out, Cha.sizeF, if_neg h0]; omega)
      have v1 : IntKind.i64.wrap (((m % 2 : Nat) : Int)) = ((m % 2 : Nat) : Int) := IntWalk.i64_in _ (by omega)
      have e1 : (m : Int).tmod 2 = ((m % 2 : Nat) : Int) := rfl
      have e2 : (m : Int).tdiv 2 = ((m / 2 : Nat) : Int) := rfl
      clear HE hm
      go_wp2_with fail
      go_roundg f
      case measure => omega
      case rel => exact ⟨f, m / 2, k + m % 2, by omega, by omega, hmd, by go_num, by go_num, HE2.out, rfl⟩
set_option maxRecDepth 100000 in
theorem first_any (x y : Nat) (hx : x < 2 ^ 64) (hy : y < 2 ^ 64) (w : World) :
    Calls Tryd.prog 21 #[.int .u64 x, .int .u64 y] w fun e w' => e = .returned (.bool (Cha.firstF x y)) ∧ w' = w := by
  have hxy : x ^^^ y < 2 ^ 64 := Nat.xor_lt_two_pow hx hy
  have h1 : bits .xor .u64 (x : Int) (y : Int) = ((x ^^^ y : Nat) : Int) := u64_xor_nat x y hx hy
  have hz : Hid (Cha.firstF x y = ((x &&& ((x ^^^ y) &&& ((18446744073709551616 - (x ^^^ y)) % 18446744073709551616))) != 0)) := Lib.hid rfl
  generalize x ^^^ y = d at *
  have hn : IntKind.u64.wrap (-(d : Int)) = (((18446744073709551616 - d) % 18446744073709551616 : Nat) : Int) := by rw [IntKind.wrap_u64]; omega
  have hm : (18446744073709551616 - d) % 18446744073709551616 < 2 ^ 64 := by omega
  generalize (18446744073709551616 - d) % 18446744073709551616 = m at *
  have h2 : bits .and .u64 (d : Int) (m : Int) = ((d &&& m : Nat) : Int) := Hit.u64_and d m hxy hm
  have hdm : d &&& m < 2 ^ 64 := Nat.and_lt_two_pow _ hm
  generalize d &&& m = q at *
  have h3 : bits .and .u64 (x : Int) (q : Int) = ((x &&& q : Nat) : Int) := Hit.u64_and x q hx hdm
  generalize x &&& q = r at *
  clear hx hy hxy hm hdm
  go_enter Tryd.func21, Tryd.ntmps21
  cases hr : ((r : Nat) != 0) with
  | false =>
    have hr2 : ((r : Int) != 0) = false := by simpa using hr
    have HR := Lib.hid (hz.out.trans hr)
    clear hr hz
    go_wp2_with fail
    go_ret
    exact ⟨by rw [HR.out]; rfl, rfl⟩
  | true =>
    have hr2 : ((r : Int) != 0) = true := by simp at hr ⊢; omega
    have HR := Lib.hid (hz.out.trans hr)
    clear hr hz
    go_wp2_with fail
    go_ret
    exact ⟨by rw [HR.out]; rfl, rfl⟩
end Go.Proofs.YtahlfndlkfoikaaDoor
