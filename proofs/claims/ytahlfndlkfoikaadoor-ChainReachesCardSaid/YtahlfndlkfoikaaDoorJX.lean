/- Plain: the least set of couplers without which a contact is not reached is the least cut. Words for a region in which two contacts are made in a drawn order: their boxes differ. Walks over chain's statements: reaches, size, first. Walks over chain's statements: wrong, drawn. Plain: what the reach, the first chain, the least cut and the chains have to do with each other. Walks over chain's statements: through. The statement of reaches, walked. -/
import Derived.Test.YtahlfndlkfoikaaDoorEl
import Derived.Test.YtahlfndlkfoikaaDoorRegS
import Derived.Test.YtahlfndlkfoikaaDoorGd
import Derived.Test.YtahlfndlkfoikaaDoorGc
import Derived.Test.YtahlfndlkfoikaaDoorEm
import Derived.Test.YtahlfndlkfoikaaDoorKy
import Derived.Test.YtahlfndlkfoikaaDoorEi
import Derived.Test.YtahlfndlkfoikaaDoorEo
import Derived.Test.YtahlfndlkfoikaaDoorJY
import Derived.Test.YtahlfndlkfoikaaDoorGa
namespace Go.Proofs.YtahlfndlkfoikaaDoor
namespace Cha
/-- Lists of so many members, in order. -/
def combI (on : List Nat) : Nat → Nat → List (List Nat)
  | 0, _ => [[]]
  | left + 1, i => (List.range (on.length + 1 - (i + (left + 1)))).flatMap fun j => (combI on left (i + j + 1)).map (on.getD (i + j) 0 :: ·)
theorem skF_find (R : Nat → Bool) (on : List Nat) : ∀ (left i wo : Nat), skF R on left i wo = (combI on left i).find? fun l => !R (orL l wo)
  | 0, _, wo => by
    rw [skF, combI]
    cases h : R wo <;> simp [orL, h]
  | left + 1, i, wo => by
    rw [skF, combI, List.find?_flatMap]
    congr 1
    funext j
    rw [skF_find R on left, List.find?_map]
    rfl
/-- All lists of members, the shorter ones first. -/
def combA (on : List Nat) : List (List Nat) := (List.range on.length).flatMap fun n => combI on (n + 1) 0
theorem cutL_find (R : Nat → Bool) (on : List Nat) : cutL R on = (combA on).find? fun l => !R (orL l 0) := by
  unfold cutL combA
  rw [List.find?_flatMap]
  congr 1
  funext n
  exact skF_find R on (n + 1) 0 0
/-- The number of bits. -/
def sizeF : Nat → Nat → Nat
  | 0, _ => 0
  | f + 1, n => if n = 0 then 0 else n % 2 + sizeF f (n / 2)
/-- Does a set come first among those of its size? -/
def firstF (a b : Nat) : Bool := (a &&& ((a ^^^ b) &&& ((18446744073709551616 - (a ^^^ b)) % 18446744073709551616))) != 0
def ltB (s t : Nat) : Bool := decide (sizeF 64 s < sizeF 64 t) || (sizeF 64 s == sizeF 64 t && firstF s t)
def stepB (R : Nat → Bool) (dr best s : Nat) : Nat := if Hit.andn s dr ≠ 0 ∨ R s = true then best else if ltB s best = true then s else best
def bestF (R : Nat → Bool) (dr n : Nat) : Nat := (List.range n).foldl (stepB R dr) dr
theorem ltB_trans : ∀ a < 16, ∀ b < 16, ∀ c < 16, ltB a b = true → ltB b c = true → ltB a c = true := by decide +kernel
theorem comb_sets0 : ∀ dr < 16, ∀ s < 16, (s == 0 || Hit.andn s dr != 0 || (combA (Hit.members dr)).contains (Hit.members s)) = true := by decide +kernel
theorem comb_sets (dr : Nat) (h : dr < 16) (s : Nat) (hs : s < 16) (h0 : s ≠ 0) (ha : Hit.andn s dr = 0) : Hit.members s ∈ combA (Hit.members dr) := by
  have := comb_sets0 dr h s hs
  simpa [h0, ha] using this
theorem comb_or : ∀ s < 16, orL (Hit.members s) 0 = s := by decide +kernel
theorem comb_in : ∀ dr < 16, ∀ l ∈ combA (Hit.members dr), orL l 0 < 16 ∧ Hit.andn (orL l 0) dr = 0 ∧ Hit.members (orL l 0) = l := by decide +kernel
theorem comb_sorted : ∀ dr < 16, (combA (Hit.members dr)).Pairwise fun l m => ltB (orL l 0) (orL m 0) = true := by decide +kernel
theorem sub_lt16 : ∀ n ≤ 4, ∀ dr < 2 ^ n, ∀ s < 16, Hit.andn s dr = 0 → s < 2 ^ n := by decide +kernel
theorem best_inv (R : Nat → Bool) (dr n : Nat) (hn : n ≤ 4) (hd : dr < 2 ^ n) (hR : R dr = false) : ∀ m, m ≤ 2 ^ n →
    (bestF R dr m < 2 ^ n ∧ Hit.andn (bestF R dr m) dr = 0 ∧ R (bestF R dr m) = false) ∧ ∀ s, s < m → Hit.andn s dr = 0 → R s = false → s = bestF R dr m ∨ ltB s (bestF R dr m) = false
  | 0, _ => ⟨⟨hd, by unfold bestF Hit.andn; simp, hR⟩, fun s h => absurd h (by omega)⟩
  | m + 1, hm => by
    have h16 : (2 : Nat) ^ n ≤ 16 := Nat.pow_le_pow_right (by decide) hn
    obtain ⟨⟨i1, i2, i3⟩, i4⟩ := best_inv R dr n hn hd hR m (by omega)
    have hs : bestF R dr (m + 1) = stepB R dr (bestF R dr m) m := by unfold bestF; rw [List.range_succ, List.foldl_append]; rfl
    rw [hs]
    generalize bestF R dr m = b at *
    unfold stepB
    by_cases h1 : Hit.andn m dr ≠ 0 ∨ R m = true
    · rw [if_pos h1]
      refine ⟨⟨i1, i2, i3⟩, fun s h q1 q2 => ?_⟩
      by_cases e : s = m
      · subst e
        rcases h1 with h1 | h1
        · exact absurd q1 h1
        · rw [q2] at h1; cases h1
      · exact i4 s (by omega) q1 q2
    · rw [if_neg h1]
      have hm1 : Hit.andn m dr = 0 := Classical.byContradiction fun h => h1 (.inl h)
      have hm2 : R m = false := by cases h : R m with | false => rfl | true => exact absurd (.inr h) h1
      by_cases h2 : ltB m b = true
      · rw [if_pos h2]
        refine ⟨⟨by omega, hm1, hm2⟩, fun s h q1 q2 => ?_⟩
        by_cases e : s = m
        · exact .inl e
        · refine .inr ?_
          cases h3 : ltB s m with
          | false => rfl
          | true =>
            have h4 := ltB_trans s (by omega) m (by omega) b (by omega) h3 h2
            rcases i4 s (by omega) q1 q2 with h | h
            · subst h
              have : ∀ a < 16, ltB a a = false := by decide +kernel
              rw [this s (by omega)] at h4; cases h4
            · rw [h] at h4; cases h4
      · rw [if_neg h2]
        refine ⟨⟨i1, i2, i3⟩, fun s h q1 q2 => ?_⟩
        by_cases e : s = m
        · subst e
          exact .inr (by cases h : ltB s b with | false => rfl | true => exact absurd h h2)
        · exact i4 s (by omega) q1 q2
/-- The least set is the least cut. -/
theorem cut_best (R : Nat → Bool) (dr n : Nat) (hn : n ≤ 4) (hd : dr < 2 ^ n) (hR : R dr = false) (h0 : R 0 = true) :
    cutL R (Hit.members dr) = some (Hit.members (bestF R dr (2 ^ n))) ∧ bestF R dr (2 ^ n) < 2 ^ n := by
  have h16 : (2 : Nat) ^ n ≤ 16 := Nat.pow_le_pow_right (by decide) hn
  obtain ⟨⟨i1, i2, i3⟩, i4⟩ := best_inv R dr n hn hd hR (2 ^ n) (Nat.le_refl _)
  generalize bestF R dr (2 ^ n) = b at *
  refine ⟨?_, i1⟩
  have hb0 : b ≠ 0 := fun e => by rw [e, h0] at i3; cases i3
  have hmem := comb_sets dr (by omega) b (by omega) hb0 i2
  have hor := comb_or b (by omega)
  rw [cutL_find]
  cases hf : (combA (Hit.members dr)).find? fun l => !R (orL l 0) with
  | none =>
    have := List.find?_eq_none.1 hf _ hmem
    rw [hor, i3] at this
    exact absurd rfl this
  | some l =>
    obtain ⟨hp, as_, bs, he, hn'⟩ := List.find?_eq_some_iff_append.1 hf
    have hl := comb_in dr (by omega) l (by rw [he]; simp)
    have hlR : R (orL l 0) = false := by simpa using hp
    have hll := sub_lt16 n hn dr hd _ hl.1 hl.2.1
    congr 1
    rw [he, List.mem_append, List.mem_cons] at hmem
    rcases hmem with h | h | h
    · have := hn' _ h
      rw [hor, i3] at this
      cases this
    · exact h.symm
    · have hs := comb_sorted dr (by omega)
      rw [he, List.pairwise_append] at hs
      have h5 := (List.pairwise_cons.1 hs.2.1).1 _ h
      rw [hor] at h5
      rcases i4 _ hll hl.2.1 hlR with h6 | h6
      · rw [← h6, hl.2.2]
      · rw [h6] at h5; cases h5
theorem size_len : ∀ s < 16, (Hit.members s).length = sizeF 64 s := by decide +kernel
theorem size_le : ∀ (f n : Nat), sizeF f n ≤ f
  | 0, _ => Nat.le_refl _
  | f + 1, n => by
    rw [sizeF]
    by_cases h : n = 0
    · rw [if_pos h]; omega
    · rw [if_neg h]
      have := size_le f (n / 2)
      omega
/-- Where a member stands. -/
theorem mem_at : ∀ b < 16, ∀ i < 4, (!b.testBit i || (Hit.members b)[((List.range i).filter fun j => b.testBit j).length]? == some i) = true := by decide +kernel
theorem mem_get {b i : Nat} (hb : b < 16) (hi : i < 4) (h : b.testBit i = true) : (Hit.members b)[((List.range i).filter fun j => b.testBit j).length]? = some i := by
  have := mem_at b hb i hi
  rw [h] at this
  simpa using this
theorem rng_succ (b i : Nat) : ((List.range (i + 1)).filter fun j => b.testBit j).length = ((List.range i).filter fun j => b.testBit j).length + (if b.testBit i = true then 1 else 0) := by
  rw [List.range_succ, List.filter_append, List.length_append]
  cases h : b.testBit i <;> simp [h]
end Cha
end Go.Proofs.YtahlfndlkfoikaaDoor
namespace Go.Proofs.YtahlfndlkfoikaaDoor
open Go Go.RowKit Go.Shelf
/-- What holds while the region runs: what was there stays; the boxes in slots 8 and 9, once made, are two. -/
def BG (W4 : World) (s : Nat → Value) (W : World) : Prop :=
  Below W4.heap.size W4 W ∧ (∀ b, s 8 = .pointer (some ⟨b, 0, none⟩) → b < W.heap.size) ∧ (∀ b, s 9 = .pointer (some ⟨b, 0, none⟩) → b < W.heap.size) ∧
    ∀ b c, s 8 = .pointer (some ⟨b, 0, none⟩) → s 9 = .pointer (some ⟨c, 0, none⟩) → b ≠ c
theorem BG.start {W4 : World} {s : Nat → Value} (h8 : ∀ b, s 8 ≠ .pointer (some ⟨b, 0, none⟩)) (h9 : ∀ b, s 9 ≠ .pointer (some ⟨b, 0, none⟩)) : BG W4 s W4.drew :=
  ⟨(B0 W4).drew, fun b e => absurd e (h8 b), fun b e => absurd e (h9 b), fun b _ e => absurd e (h8 b)⟩
theorem BG.keep {W4 w w' : World} {s s' : Nat → Value} (h8 : s' 8 = s 8) (h9 : s' 9 = s 9) (hb : Below w.heap.size w w') (h : BG W4 s w) : BG W4 s' w' := by
  obtain ⟨h1, h2, h3, h4⟩ := h
  refine ⟨Bt h1 hb, fun b e => ?_, fun b e => ?_, fun b c e f => ?_⟩
  · exact Nat.lt_of_lt_of_le (h2 b (h8.symm.trans e)) hb.size
  · exact Nat.lt_of_lt_of_le (h3 b (h9.symm.trans e)) hb.size
  · exact h4 b c (h8.symm.trans e) (h9.symm.trans f)
theorem ptr_inj {b c : Nat} (h : (Value.pointer (some ⟨b, 0, none⟩)) = .pointer (some ⟨c, 0, none⟩)) : b = c := by
  injection h with h
  injection h with h
  injection h
theorem BG.new8 {W4 w : World} {s s' : Nat → Value} (h8 : s' 8 = .pointer (some ⟨w.heap.size, 0, none⟩)) (h9 : s' 9 = s 9) (o : Obj) (h : BG W4 s w) : BG W4 s' (w.alloc o) := by
  obtain ⟨h1, _, h3, _⟩ := h
  refine ⟨Ba h1 _, fun b e => ?_, fun b e => ?_, fun b c e f => ?_⟩
  · have := ptr_inj (h8.symm.trans e)
    simp
    omega
  · have := h3 b (h9.symm.trans e)
    simp
    omega
  · have := ptr_inj (h8.symm.trans e)
    have := h3 c (h9.symm.trans f)
    omega
theorem BG.new9 {W4 w : World} {s s' : Nat → Value} (h9 : s' 9 = .pointer (some ⟨w.heap.size, 0, none⟩)) (h8 : s' 8 = s 8) (o : Obj) (h : BG W4 s w) : BG W4 s' (w.alloc o) := by
  obtain ⟨h1, h2, _, _⟩ := h
  refine ⟨Ba h1 _, fun b e => ?_, fun b e => ?_, fun b c e f => ?_⟩
  · have := h2 b (h8.symm.trans e)
    simp
    omega
  · have := ptr_inj (h9.symm.trans e)
    simp
    omega
  · have := ptr_inj (h9.symm.trans f)
    have := h2 b (h8.symm.trans e)
    omega
theorem BG.set {W4 w : World} {s s' : Nat → Value} {b : Nat} (hl : W4.heap.size ≤ b) (h8 : s' 8 = s 8) (h9 : s' 9 = s 9) (u v : Value) (h : BG W4 s w) : BG W4 s' ((w.setCell ⟨b, 0, none⟩ u).setCell ⟨b, 1, none⟩ v) := by
  obtain ⟨h1, h2, h3, h4⟩ := h
  refine ⟨Bs (Bs h1 _ hl) _ hl, fun b e => ?_, fun b e => ?_, fun b c e f => ?_⟩
  · simpa using h2 b (h8.symm.trans e)
  · simpa using h3 b (h9.symm.trans e)
  · exact h4 b c (h8.symm.trans e) (h9.symm.trans f)
end Go.Proofs.YtahlfndlkfoikaaDoor
namespace Go.Proofs.YtahlfndlkfoikaaDoor
open Go Go.RowKit Go.Shelf
set_option maxRecDepth 100000 in
set_option maxHeartbeats 2000000 in
theorem reaches_any (a : Cou.Ac) (hr : Cou.rightF a = 0) (vd vc : Value) (key c : Cou.Ct) (hkw : Cou.wrongF a key = 0) (wo : Nat) (hwo : wo < 2 ^ 64) (w : World) (F : Nat → Prop) (hA : AcAt F w vd vc a) (hT : Tab64 w) (hg : 0 < w.heap.size) :
    Calls Tryd.prog 19 #[.agg #[vd, vc, .int .u64 a.drawn], .agg #[.int .i64 key.1, .int .i64 key.2], .agg #[.int .i64 c.1, .int .i64 c.2], .int .u64 wo] w fun e w' => e = .returned (.bool (Cha.reachB a key c wo)) ∧ Below w.heap.size w w' := by
  have hok := Cou.right_ok hr
  have hd64 : a.drawn < 2 ^ 64 := Nat.lt_of_lt_of_le hok.drawn (Nat.pow_le_pow_right (by decide) (by have := hok.nc; omega))
  have hdc : (Cha.cutA a wo).drawn < 2 ^ 64 := Hit.andn_lt hd64
  obtain ⟨Ad, cd, hvd, -, -⟩ := id hA.dv.open
  obtain ⟨Ac, cc, hvc, -, -⟩ := id hA.cp.open
  subst hvd hvc
  have hF := hA.inW
  have hRE := fun W (hb : Below w.heap.size w W) => Reach_any (Cha.cutA a wo) (.slice Ad a.divs.length cd) (.slice Ac a.cps.length cc) hdc key W F ⟨fun b h => Nat.lt_of_lt_of_le (hF b h) hb.size, (hA.onB hF hb).dv, (hA.onB hF hb).cp⟩ (hT.below hb) (Nat.lt_of_lt_of_le hg hb.size)
  have he : reachErr (Cha.cutA a wo) key = 0 := by
    unfold reachErr
    rw [if_pos (Cha.right_cut hr wo)]
    exact hkw
  rw [he] at hRE
  have hand : bits .andNot .u64 (a.drawn : Int) (wo : Int) = ((Hit.andn a.drawn wo : Nat) : Int) := Hit.u64_andn a.drawn wo hd64 hwo
  have HRB := Lib.hid (fun (l : List Cou.Ct) (hl : ∀ t, t ∈ l ↔ Cou.Hop (Cha.cutA a wo) [key] t) => (show decide (c ∈ l) = Cha.reachB a key c wo from Bool.eq_iff_iff.2 (by rw [decide_eq_true_eq, hl, Cha.reachB_iff hok])))
  have hdd : (Cha.cutA a wo).drawn = Hit.andn a.drawn wo := rfl
  rw [hdd] at hRE
  obtain ⟨d, hd⟩ : ∃ d, Hit.andn a.drawn wo = d := ⟨_, rfl⟩
  rw [hd] at hRE hand
  have HRE := Lib.hid hRE
  have HCN := Lib.hid (fun (v : Value) (l : List Cou.Ct) W (hS : SlCt (fun b => b < W.heap.size) W v l) => has_any v l c W _ (fun _ h => h) hS)
  clear hA hT hg
  obtain ⟨dl, hdl⟩ : ∃ dl, a.divs.length = dl := ⟨_, rfl⟩
  obtain ⟨cl, hcl⟩ : ∃ cl, a.cps.length = cl := ⟨_, rfl⟩
  rw [hdl, hcl] at HRE ⊢
  rw [hdl, hcl] at hRE
  obtain ⟨k1, k2⟩ := key
  obtain ⟨c1, c2⟩ := c
  obtain ⟨w1, hw1⟩ : ∃ w1 : World, ((w.alloc (.cells #[.slice Ad dl cd, .slice Ac cl cc, .int .u64 a.drawn] 33)).alloc (.cells #[.int .i64 k1, .int .i64 k2] 36)).alloc (.cells #[.int .i64 c1, .int .i64 c2] 36) = w1 := ⟨_, rfl⟩
  obtain ⟨bx, hbx⟩ : ∃ bx, w.heap.size = bx := ⟨_, rfl⟩
  have K1 : Blk w1 bx 33 #[.slice Ad dl cd, .slice Ac cl cc, .int .u64 a.drawn] := by rw [← hw1, ← hbx]; exact ((Blk.new w _ _).alloc _).alloc _
  have B1 : Below w.heap.size w w1 := by rw [← hw1]; exact Ba (Ba (Ba (B0 w) _) _) _
  have q0 : w1.cell? ⟨bx + 1, 0, none⟩ = some (.int .i64 k1) := by rw [← hw1, ← hbx]; simp [go_sem]
  have q1 : w1.cell? ⟨bx + 1, 1, none⟩ = some (.int .i64 k2) := by rw [← hw1, ← hbx]; simp [go_sem]
  have q2 : w1.cell? ⟨bx + 1 + 1, 0, none⟩ = some (.int .i64 c1) := by rw [← hw1, ← hbx]; simp [go_sem]
  have q3 : w1.cell? ⟨bx + 1 + 1, 1, none⟩ = some (.int .i64 c2) := by rw [← hw1, ← hbx]; simp [go_sem]
  have l1 : bx + 1 + 1 < w1.heap.size := by rw [← hw1, ← hbx]; simp
  have K2 := K1.set_ 2 (.int .u64 d)
  obtain ⟨w2, hw2⟩ : ∃ w2 : World, w1.setCell ⟨bx, 2, none⟩ (.int .u64 d) = w2 := ⟨_, rfl⟩
  rw [hw2] at K2
  have B2 : Below w.heap.size w w2 := by rw [← hw2]; exact Bs B1 _ (by rw [← hbx]; exact Nat.le_refl _)
  have hS2 : w2.heap.size = w1.heap.size := by rw [← hw2]; simp
  have hfar : ∀ b i, b ≠ bx → w2.cell? ⟨b, i, none⟩ = w1.cell? ⟨b, i, none⟩ := fun b i h => by
    rw [← hw2]; exact World.cell?_of_block (Below.heap_setCell _ _ _ b h)
  have HX := Lib.hid (fun W (hb : Below w2.heap.size w2 W) => (show (W.cell? ⟨bx + 1, 0, none⟩ = some (.int .i64 k1) ∧ W.cell? ⟨bx + 1, 1, none⟩ = some (.int .i64 k2)) ∧ W.cell? ⟨bx + 1 + 1, 0, none⟩ = some (.int .i64 c1) ∧ W.cell? ⟨bx + 1 + 1, 1, none⟩ = some (.int .i64 c2) from
    ⟨⟨((Bc hb (by omega)).trans (hfar _ _ (by omega))).trans q0, ((Bc hb (by omega)).trans (hfar _ _ (by omega))).trans q1⟩, ((Bc hb (by omega)).trans (hfar _ _ (by omega))).trans q2, ((Bc hb (by omega)).trans (hfar _ _ (by omega))).trans q3⟩))
  have y2 := K1.cell 2
  have f2 := K1.frozen 2
  have z0 := K2.cell 0
  have z1 := K2.cell 1
  have z2 := K2.cell 2
  simp at y2 z0 z1 z2
  obtain ⟨⟨u0, u1⟩, -, -⟩ := HX.out w2 (B0 w2)
  have HW1 := Lib.hid hw1
  have HW2 := Lib.hid hw2
  have HBX := Lib.hid hbx
  have HB2 := Lib.hid B2
  have HR2 := Lib.hid (HRE.out w2 B2)
  clear hRE K1 K2 B1 B2 hw1 hw2 hbx hd he hdd hdc hF HRE hdl hcl hr hkw hok q0 q1 q2 q3 l1 hS2 hfar
  dsimp only at HR2
  go_enter Tryd.func19, Tryd.ntmps19
  go_upto_region 1 with fail
  rw [HW1.out, HBX.out]
  go_upto_region 2 with fail
  rw [HW2.out]
  clear y2 f2
  go_wp2_with (first
    | (go_at_call 25; (with_reducible refine (HR2.out.mono ?_)); rintro e w3 ⟨v3, l3, rfl, hs3, -, hm3, hb3⟩; have HS3 := Lib.hid (SlCt.bnd3 hs3); have HM3 := Lib.hid (hm3 rfl).2; have HB3 := Lib.hid hb3; obtain ⟨-, v0, v1⟩ := HX.out w3 hb3; clear hs3 hm3 hb3)
    | (go_at_call 26; (with_reducible refine ((HCN.out v3 l3 _ HS3.out).mono ?_)); rintro e w4 ⟨rfl, hb4⟩; have HB4 := Lib.hid (Bt HB3.out hb4); clear hb4))
  go_ret
  exact ⟨by rw [← HRB.out l3 HM3.out]; rfl, Bt HB2.out HB4.out⟩
set_option maxRecDepth 100000 in
theorem size_any (n : Nat) (hn : n < 2 ^ 64) (w : World) :
    Calls Tryd.prog 20 #[.int .u64 n] w fun e w' => e = .returned (.int .i64 (Cha.sizeF 64 n : Nat)) ∧ w' = w := by
  go_enter Tryd.func20, Tryd.ntmps20
  go_wp2_with fail
  go_loopg [0, 3] 64 (fun gg s0 s3 wr => ∃ (f m k : Nat), f ≤ gg ∧ f ≤ 64 ∧ m < 2 ^ f ∧ s0 = .int .u64 m ∧ s3 = .int .i64 k ∧ Aside (k + Cha.sizeF f m = Cha.sizeF 64 n) ∧ wr = w)
  case atStart => exact ⟨64, n, 0, by omega, by omega, hn, rfl, rfl, (show Aside _ from by show _ = _; rw [Nat.zero_add]), rfl⟩
  case round =>
    obtain ⟨f, m, k, hf, hf2, hm, rfl, rfl, HE, rfl⟩ := hrel
    replace HE := Lib.hid HE
    have h64 : (2 : Nat) ^ f ≤ 2 ^ 64 := Nat.pow_le_pow_right (by decide) hf2
    have hm64 : m < 18446744073709551616 := by omega
    have hk : k ≤ 64 := by have h1 := Cha.size_le 64 n; have h2 := HE.out; simp only [Aside] at h2; omega
    clear h64
    by_cases h0 : m = 0
    · subst h0
      have HE2 : Hid (k = Cha.sizeF 64 n) := Lib.hid (by
        rw [← HE.out]
        cases f with
        | zero => rfl
        | succ f => rw [Cha.sizeF, if_pos rfl]; rfl)
      clear HE
      go_wp2_with fail
      go_ret
      exact ⟨by rw [← HE2.out]; rfl, rfl⟩
    · have hd : decide (0 < (m : Int)) = true := decide_eq_true (by omega)
      obtain ⟨f, rfl⟩ : ∃ f', f = f' + 1 := ⟨f - 1, by
        cases f with
        | zero => exact absurd hm (by simp; omega)
        | succ f => rfl⟩
      have hmd : m / 2 < 2 ^ f := by rw [Nat.pow_succ] at hm; omega
      have HE2 : Hid (k + m % 2 + Cha.sizeF f (m / 2) = Cha.sizeF 64 n) := Lib.hid (by
        rw [← HE.out, Cha.sizeF, if_neg h0]; omega)
      have v1 : IntKind.i64.wrap (((m % 2 : Nat) : Int)) = ((m % 2 : Nat) : Int) := IntWalk.i64_in _ (by omega)
      have e1 : (m : Int).tmod 2 = ((m % 2 : Nat) : Int) := rfl
      have e2 : (m : Int).tdiv 2 = ((m / 2 : Nat) : Int) := rfl
      clear HE hm
      go_wp2_with fail
      go_roundg f
      case measure => omega
      case rel => exact ⟨f, m / 2, k + m % 2, by omega, by omega, hmd, by go_num, by go_num, HE2.out, rfl⟩
set_option maxRecDepth 100000 in
theorem first_any (x y : Nat) (hx : x < 2 ^ 64) (hy : y < 2 ^ 64) (w : World) :
    Calls Tryd.prog 21 #[.int .u64 x, .int .u64 y] w fun e w' => e = .returned (.bool (Cha.firstF x y)) ∧ w' = w := by
  have hxy : x ^^^ y < 2 ^ 64 := Nat.xor_lt_two_pow hx hy
  have h1 : bits .xor .u64 (x : Int) (y : Int) = ((x ^^^ y : Nat) : Int) := u64_xor_nat x y hx hy
  have hz : Hid (Cha.firstF x y = ((x &&& ((x ^^^ y) &&& ((18446744073709551616 - (x ^^^ y)) % 18446744073709551616))) != 0)) := Lib.hid rfl
  generalize x ^^^ y = d at *
  have hn : IntKind.u64.wrap (-(d : Int)) = (((18446744073709551616 - d) % 18446744073709551616 : Nat) : Int) := by rw [IntKind.wrap_u64]; omega
  have hm : (18446744073709551616 - d) % 18446744073709551616 < 2 ^ 64 := by omega
  generalize (18446744073709551616 - d) % 18446744073709551616 = m at *
  have h2 : bits .and .u64 (d : Int) (m : Int) = ((d &&& m : Nat) : Int) := Hit.u64_and d m hxy hm
  have hdm : d &&& m < 2 ^ 64 := Nat.and_lt_two_pow _ hm
  generalize d &&& m = q at *
  have h3 : bits .and .u64 (x : Int) (q : Int) = ((x &&& q : Nat) : Int) := Hit.u64_and x q hx hdm
  generalize x &&& q = r at *
  clear hx hy hxy hm hdm
  go_enter Tryd.func21, Tryd.ntmps21
  cases hr : ((r : Nat) != 0) with
  | false =>
    have hr2 : ((r : Int) != 0) = false := by simpa using hr
    have HR := Lib.hid (hz.out.trans hr)
    clear hr hz
    go_wp2_with fail
    go_ret
    exact ⟨by rw [HR.out]; rfl, rfl⟩
  | true =>
    have hr2 : ((r : Int) != 0) = true := by simp at hr ⊢; omega
    have HR := Lib.hid (hz.out.trans hr)
    clear hr hz
    go_wp2_with fail
    go_ret
    exact ⟨by rw [HR.out]; rfl, rfl⟩
end Go.Proofs.YtahlfndlkfoikaaDoor
namespace Go.Proofs.YtahlfndlkfoikaaDoor
open Go Go.RowKit Go.Shelf
set_option maxRecDepth 100000 in
set_option maxHeartbeats 2000000 in
theorem lwrong_any (a : Cou.Ac) (vd vc : Value) (c : Cou.Ct) (dr : Int) (w : World) (F : Nat → Prop) (hA : AcAt F w vd vc a) :
    Calls Tryd.prog 28 #[.agg #[vd, vc, .int .u64 dr], .agg #[.int .i64 c.1, .int .i64 c.2]] w fun e w' => e = .returned (.int .i64 (Cou.wrongF a c)) ∧ Below w.heap.size w w' := by
  obtain ⟨Ad, cd, rfl, _, had⟩ := hA.dv.open
  have hFF := hA.inW
  obtain ⟨c1, c2⟩ := c
  by_cases h1 : c1 < 0
  · have HZ : Hid (Cou.wrongF a (c1, c2) = 10) := Lib.hid (by unfold Cou.wrongF; rw [if_pos (.inl h1)])
    have d1 : decide (c1 < 0) = true := decide_eq_true h1
    clear hA had h1
    dsimp only
    go_enter Tryd.func28, Tryd.ntmps28
    go_wp2
    go_ret
    exact ⟨by rw [HZ.out]; rfl, Ba (Ba (B0 w) _) _⟩
  · have d1 : decide (c1 < 0) = false := decide_eq_false h1
    by_cases h2 : (a.divs.length : Int) ≤ c1
    · have HZ : Hid (Cou.wrongF a (c1, c2) = 10) := Lib.hid (by unfold Cou.wrongF; rw [if_pos (.inr h2)])
      have d2 : decide ((a.divs.length : Int) ≤ c1) = true := decide_eq_true h2
      clear hA had h1 h2
      dsimp only
      generalize a.divs.length = dl at *
      go_enter Tryd.func28, Tryd.ntmps28
      go_wp2
      go_ret
      exact ⟨by rw [HZ.out]; rfl, Ba (Ba (B0 w) _) _⟩
    · have d2 : decide ((a.divs.length : Int) ≤ c1) = false := decide_eq_false h2
      obtain ⟨tn, rfl⟩ : ∃ tn : Nat, c1 = tn := ⟨c1.toNat, by omega⟩
      have htl : tn < a.divs.length := by omega
      obtain ⟨ad2, rfl, hf2, hfl2⟩ := had tn htl
      have hz : Cou.wrongF a (tn, c2) = bif Cou.inB (a.divs.getD tn (0, -1)) c2 then 0 else 23 := by
        unfold Cou.wrongF
        rw [if_neg (by dsimp only; omega)]
        simp only [Int.toNat_natCast]
      rw [List.getD_eq_getElem?_getD, List.getElem?_eq_getElem htl] at hz
      dsimp only [Option.getD] at hz
      have HZ := Lib.hid hz
      have hfb2 : (ad2.add (tn * 2)).block < w.heap.size := by rw [block_of_add]; exact hFF _ hf2
      clear hA had hz h1 h2
      generalize a.divs[tn] = y at *
      obtain ⟨lo, hi2⟩ := y
      have r0 := hfl2.f0 rfl
      have r1 := hfl2.f1 rfl
      have hn0 : (0 : Int) ≤ (tn : Int) := by omega
      have hn1 : (tn : Int) < a.divs.length := by omega
      clear hfl2
      generalize a.divs.length = dl at *
      dsimp only at HZ ⊢
      unfold Cou.inB at HZ
      obtain ⟨w1, hw1⟩ : ∃ w1 : World, (w.alloc (.cells #[.slice (some ad2) dl cd, vc, .int .u64 dr] 33)).alloc (.cells #[.int .i64 tn, .int .i64 c2] 36) = w1 := ⟨_, rfl⟩
      have e0 : w1.cell? ⟨w.heap.size, 0, none⟩ = some (.slice (some ad2) dl cd) := by rw [← hw1]; simp [go_sem]
      have g0 : w1.cell? ⟨w.heap.size + 1, 0, none⟩ = some (.int .i64 tn) := by rw [← hw1]; simp [go_sem]
      have g1 : w1.cell? ⟨w.heap.size + 1, 1, none⟩ = some (.int .i64 c2) := by rw [← hw1]; simp [go_sem]
      have hB1 : Below w.heap.size w w1 := by rw [← hw1]; exact Ba (Ba (B0 w) _) _
      replace r0 := (hB1.cell (p := ad2.add (tn * 2)) hfb2).trans r0
      replace r1 := (hB1.cell (p := ⟨(ad2.add (tn * 2)).block, (ad2.add (tn * 2)).off + 1, none⟩) hfb2).trans r1
      have HB1 := Lib.hid hB1
      clear hB1 hfb2
      by_cases h3 : c2 < lo
      · have d3 : decide (c2 < lo) = true := decide_eq_true h3
        rw [decide_eq_false (show ¬ lo ≤ c2 by omega), Bool.false_and, cond_false] at HZ
        clear h3
        go_enter Tryd.func28, Tryd.ntmps28
        go_upto_region 3 with fail
        go_region
        all_goals
          go_wp2
          go_ret
          exact ⟨by rw [HZ.out]; rfl, HB1.out.drew⟩
      · have d3 : decide (c2 < lo) = false := decide_eq_false h3
        rw [decide_eq_true (show lo ≤ c2 by omega), Bool.true_and] at HZ
        by_cases h4 : hi2 < c2
        · have d4 : decide (hi2 < c2) = true := decide_eq_true h4
          rw [decide_eq_false (show ¬ c2 ≤ hi2 by omega), cond_false] at HZ
          clear h3 h4
          go_enter Tryd.func28, Tryd.ntmps28
          go_upto_region 3 with fail
          go_region
          all_goals
            go_wp2
            go_ret
            exact ⟨by rw [HZ.out]; rfl, HB1.out.drew⟩
        · have d4 : decide (hi2 < c2) = false := decide_eq_false h4
          rw [decide_eq_true (show c2 ≤ hi2 by omega), cond_true] at HZ
          clear h3 h4
          go_enter Tryd.func28, Tryd.ntmps28
          go_upto_region 3 with fail
          go_region
          all_goals
            go_wp2
            go_ret
            exact ⟨by rw [HZ.out]; rfl, HB1.out.drew⟩
theorem ldrawn4_any (vd vc : Value) (d : Nat) (hd : d < 2 ^ 64) (i : Nat) (hi : i < 64) (w : World) :
    Calls Tryd.prog 35 #[.agg #[vd, vc, .int .u64 d], .int .i64 i] w fun e w' => e = .returned (.bool (d.testBit i)) ∧ Below w.heap.size w w' := by
  have h3 : ((i : Nat) : Int) % 18446744073709551616 = i := by omega
  have h4 : min i 64 = i := by omega
  have hsh := shr_of d i (by omega)
  have hle : d >>> i ≤ d := by rw [Nat.shiftRight_eq_div_pow]; exact Nat.div_le_self _ _
  have hand : bits .and .u64 ((d >>> i : Nat) : Int) 1 = ((d >>> i &&& 1 : Nat) : Int) := Hit.u64_and (d >>> i) 1 (by omega) (by omega)
  have hbit := bit_of d i
  generalize d >>> i &&& 1 = vb at *
  generalize d >>> i = vs at *
  have HB : Hid (((vb : Int) == 1) = d.testBit i) := Lib.hid hbit
  clear hle hbit
  go_enter Tryd.func35, Tryd.ntmps35
  go_wp2
  go_ret
  exact ⟨by first | rfl | (rw [HB.out]; rfl), Ba (B0 w) _⟩
end Go.Proofs.YtahlfndlkfoikaaDoor
namespace Go.Proofs.YtahlfndlkfoikaaDoor
open Go Go.RowKit
namespace Cha
open Cou
theorem cutA_zero (a : Ac) : cutA a 0 = a := by
  unfold cutA
  have : Hit.andn a.drawn 0 = a.drawn := Nat.eq_of_testBit_eq fun i => by rw [Hit.andn_test]; simp
  rw [this]
/-- Following one coupler more. -/
theorem folF_snoc (a : Ac) (i : Int) : ∀ (l : List Int) (f : Bool) (at_ : Ct) (out res : List Ct), l ≠ [] → folF a f at_ out l = (0, res) →
    folF a f at_ out (l ++ [i]) = if badF a false (lastF res) res i = 0 then (0, res ++ [toF a (lastF res) i]) else (badF a false (lastF res) res i, [])
  | [], _, _, _, _, h, _ => absurd rfl h
  | [j], f, at_, out, res, _, h => by
    unfold folF at h
    split at h
    · rename_i hb
      unfold folF at h
      injection h with _ h
      subst h
      rw [List.singleton_append, folF, if_pos hb, folF, lastF_snoc]
      rfl
    · rename_i hb
      injection h with h _
      exact absurd h hb
  | j :: k :: l, f, at_, out, res, _, h => by
    unfold folF at h
    split at h
    · rename_i hb
      have ih := folF_snoc a i (k :: l) false _ _ res (by simp) h
      rw [List.cons_append, folF, if_pos hb]
      exact ih
    · rename_i hb
      injection h with h _
      exact absurd h hb
/-- A chain, followed. -/
theorem ch_follow {a : Ac} {key : Ct} {cs : List Int} {ts : List Ct} (h : IsCh a key cs ts) : folF a true key [] cs = (0, ts) := by
  induction h with
  | @one i t h1 h2 =>
    have hb : badF a true key [] (i : Int) = 0 := by
      unfold badF
      have := stepF_lt h2
      rw [if_neg (by omega), Int.toNat_natCast, h1, if_neg (by decide), if_neg (by simp), h2]
      simp
    have ht : toF a key (i : Int) = t := by unfold toF; rw [Int.toNat_natCast, h2]; rfl
    rw [folF, if_pos hb, folF, ht]
    rfl
  | @snoc cs ts i t h0 h1 h2 h3 h4 ih =>
    have hb : badF a false (lastF ts) ts (i : Int) = 0 := by
      unfold badF
      have := stepF_lt h3
      rw [if_neg (by omega), Int.toNat_natCast, h1, if_neg (by decide), h2, if_neg (by simp), h3]
      simp [h4]
    have ht : toF a (lastF ts) (i : Int) = t := by unfold toF; rw [Int.toNat_natCast, h3]; rfl
    rw [folF_snoc a i cs true key [] ts h0.ne ih, if_pos hb, ht]
theorem ch_follow2 {a : Ac} {key : Ct} {cs : List Int} {ts : List Ct} (h : IsCh a key cs ts) : followF a key cs = (0, ts) := by
  unfold followF
  rw [if_neg h.ne]
  exact ch_follow h
/-- The couplers of a chain. -/
theorem IsCh.cpl {a : Ac} {key : Ct} {cs : List Int} {ts : List Ct} (h : IsCh a key cs ts) : ∀ c ∈ cs, ∃ i : Nat, c = i ∧ a.drawn.testBit i = true ∧ i < a.cps.length := by
  induction h with
  | @one i t h1 h2 =>
    intro c hc
    simp only [List.mem_singleton] at hc
    exact ⟨i, hc, h1, stepF_lt h2⟩
  | @snoc cs ts i t _ h1 _ h3 _ ih =>
    intro c hc
    rcases List.mem_append.1 hc with hc | hc
    · exact ih c hc
    · simp only [List.mem_singleton] at hc
      exact ⟨i, hc, h1, stepF_lt h3⟩
/-- A chain is one wherever its couplers are drawn. -/
theorem IsCh.redraw {a b : Ac} {key : Ct} {cs : List Int} {ts : List Ct} (h : IsCh a key cs ts) (hd : b.divs = a.divs) (hc : b.cps = a.cps) (hw : ∀ i : Nat, (i : Int) ∈ cs → b.drawn.testBit i = true) : IsCh b key cs ts := by
  have hs : ∀ i c, stepF b i c = stepF a i c := fun i c => by unfold stepF; rw [hd, hc]
  have ht : ∀ i, thruF b i = thruF a i := fun i => by unfold thruF; rw [hc]
  induction h with
  | one h1 h2 => exact .one (hw _ (by simp)) (by rw [hs]; exact h2)
  | snoc _ h1 h2 h3 h4 ih => exact .snoc (ih fun i hi => hw i (by simp [hi])) (hw _ (by simp)) (by rw [ht]; exact h2) (by rw [hs]; exact h3) h4
theorem reach_ch {a : Ac} (hok : Ok a) {key c : Ct} {wo : Nat} : reachB a key c wo = true ↔ ∃ cs ts, IsCh (cutA a wo) key cs ts ∧ lastF ts = c := by rw [reachB_iff hok, hop_ch]
theorem less_one : ∀ b < 16, ∀ i < 4, (!b.testBit i || (ltB (Hit.andn b (Hit.bit i)) b && Hit.andn b (Hit.bit i) != b)) = true := by decide +kernel
theorem andn_sub {b d i : Nat} (h : Hit.andn b d = 0) : Hit.andn (Hit.andn b (Hit.bit i)) d = 0 := Nat.eq_of_testBit_eq fun j => by
  have := congrArg (fun x => x.testBit j) h
  simp only [Hit.andn_test, Nat.zero_testBit] at this ⊢
  cases hb : b.testBit j
  · simp
  · rw [hb] at this; simp at this; simp [this]
/-- Each coupler of the least cut is in a chain. -/
theorem cut_in {a : Ac} (hok : Ok a) (key c : Ct) (hn : a.cps.length ≤ 4) {i : Nat} (hi : (bestF (reachB a key c) a.drawn (2 ^ a.cps.length)).testBit i = true) :
    ∃ cs ts, IsCh a key cs ts ∧ lastF ts = c ∧ (i : Int) ∈ cs := by
  have h16 : (2 : Nat) ^ a.cps.length ≤ 16 := Nat.pow_le_pow_right (by decide) hn
  have hd64 : a.drawn < 2 ^ 64 := by have := hok.drawn; omega
  have hR : reachB a key c a.drawn = false := by
    have h := reach_all hok hd64 key c
    have he : orL (Hit.members a.drawn) 0 = a.drawn := by
      have := comb_or a.drawn (by have := hok.drawn; omega)
      exact this
    rwa [he] at h
  obtain ⟨⟨i1, i2, i3⟩, i4⟩ := best_inv (reachB a key c) a.drawn a.cps.length hn hok.drawn hR (2 ^ a.cps.length) (Nat.le_refl _)
  generalize bestF (reachB a key c) a.drawn (2 ^ a.cps.length) = b at *
  have hi4 : i < 4 := by
    rcases Nat.lt_or_ge i 4 with h | h
    · exact h
    · rw [Nat.testBit_lt_two_pow (Nat.lt_of_lt_of_le (show b < 2 ^ 4 by omega) (Nat.pow_le_pow_right (by decide) h))] at hi; cases hi
  have hl := less_one b (by omega) i hi4
  rw [hi] at hl
  simp only [Bool.not_true, Bool.false_or, Bool.and_eq_true, bne_iff_ne, ne_eq] at hl
  have hsle : Hit.andn b (Hit.bit i) < 2 ^ a.cps.length := Hit.andn_lt i1
  have hs0 : Hit.andn (Hit.andn b (Hit.bit i)) a.drawn = 0 := andn_sub i2
  have hrs : reachB a key c (Hit.andn b (Hit.bit i)) = true := by
    cases h : reachB a key c (Hit.andn b (Hit.bit i)) with
    | true => rfl
    | false =>
      rcases i4 _ hsle hs0 h with e | e
      · exact absurd e hl.2
      · rw [hl.1] at e; cases e
  obtain ⟨cs, ts, hch, hlast⟩ := (reach_ch hok).1 hrs
  have hdr : ∀ j : Nat, (j : Int) ∈ cs → (Hit.andn a.drawn (Hit.andn b (Hit.bit i))).testBit j = true := fun j hj => by
    obtain ⟨k, e, h1, _⟩ := hch.cpl _ hj
    have : j = k := by omega
    subst this
    exact h1
  refine ⟨cs, ts, hch.redraw rfl rfl fun j hj => ?_, hlast, ?_⟩
  · have := hdr j hj
    rw [Hit.andn_test, Bool.and_eq_true] at this
    exact this.1
  · by_cases hm : (i : Int) ∈ cs
    · exact hm
    · exfalso
      have : reachB a key c b = true := (reach_ch hok).2 ⟨cs, ts, hch.redraw rfl rfl fun j hj => by
        have h1 := hdr j hj
        have hne : j ≠ i := fun e => by subst e; exact hm hj
        show (Hit.andn a.drawn b).testBit j = true
        rw [Hit.andn_test] at h1 ⊢
        rw [Hit.andn_test] at h1
        have hbit : (Hit.bit i).testBit j = false := by
          unfold Hit.bit
          rw [Nat.testBit_two_pow]
          simp [Ne.symm hne]
        rw [hbit] at h1
        simpa using h1, hlast⟩
      rw [i3] at this; cases this
/-- All chains are in the list. -/
theorem all_has {a : Ac} {key : Ct} {L : List Ch} (h : allF a key = some L) {cs : List Int} {ts : List Ct} (hc : IsCh a key cs ts) : (cs, lastF ts) ∈ L := by
  unfold allF at h
  cases hq : queF a 2002 0 (moreF a ([], []) key) with
  | none => rw [hq] at h; cases h
  | some q =>
    rw [hq] at h
    dsimp only at h
    split at h
    · injection h with h
      have hQ := queF_spec a key 2002 0 _ (QI.start a key) q hq
      have := QI.all hQ hc
      rw [← h]
      exact List.mem_map.2 ⟨_, this, rfl⟩
    · cases h
theorem least_found {a : Ac} (hok : Ok a) (key c : Ct) {x : Ch} (h : leastF a key c = some x) : x.2 = c ∧ ∃ ts, IsCh a key x.1 ts ∧ lastF ts = c := by
  have := leastF_spec hok key c
  rw [h] at this
  exact ⟨this.1, this.2.1⟩
theorem least_reach (a : Ac) (key c : Ct) : (leastF a key c).isSome = reachB a key c 0 := by unfold reachB; rw [cutA_zero]
end Cha
end Go.Proofs.YtahlfndlkfoikaaDoor
namespace Go.Proofs.YtahlfndlkfoikaaDoor
open Go Go.RowKit Go.Shelf
set_option maxRecDepth 100000 in
set_option maxHeartbeats 2000000 in
theorem through_any (v : Value) (L : List Cha.Ch) (i : Int) (w : World) (F : Nat → Prop) (hr : SlCh F w v L) :
    Calls Tryd.prog 36 #[v, .int .i64 i] w fun e w' => e = .returned (.bool (L.any fun x => decide (i ∈ x.1))) ∧ Below w.heap.size w w' := by
  obtain ⟨A, c, rfl, hlc, hlen, hat⟩ := hr
  obtain ⟨n, hn⟩ : ∃ n, L.length = n := ⟨_, rfl⟩
  have HN := Lib.hid hn
  have HAT := Lib.hid hat
  rw [hn] at hlen hlc ⊢
  clear hat hn
  have HV : Hid (∀ b, (L.any fun x => decide (i ∈ x.1)) = b → (Value.bool b) = .bool (L.any fun x => decide (i ∈ x.1))) := Lib.hid fun b h => by rw [h]
  go_enter Tryd.func36, Tryd.ntmps36
  go_wp2_with fail
  go_loopg [5] n (fun gg s5 wr => ∃ k : Nat, k ≤ n ∧ n - k ≤ gg ∧ s5 = .int .i64 k ∧ Aside (∀ j (h : j < L.length), j < k → i ∉ L[j].1) ∧ wr = w)
  case atStart => exact ⟨0, by omega, by omega, rfl, (fun j _ h => absurd h (by omega)), rfl⟩
  case round =>
    obtain ⟨k, hk, hg, rfl, HA, rfl⟩ := hrel
    replace HA := Lib.hid HA
    by_cases hlt : k < n
    · have hkl : (k : Int) < n := by omega
      have hkL : k < L.length := by rw [HN.out]; exact hlt
      obtain ⟨ad, cs, rfl, -, -, ⟨u, rfl, hu⟩, hfl⟩ := HAT.out k hkL
      obtain ⟨Au, cu, hue, -, hul, hua⟩ := SlI.open hu
      obtain ⟨m, hm⟩ : ∃ m, L[k].1.length = m := ⟨_, rfl⟩
      rw [hm] at hue hul
      subst hue
      have f0 := hfl.f0 rfl
      have HM := Lib.hid hm
      have HUA := Lib.hid hua
      clear hu hfl hua hm
      go_wp2_with fail
      go_loopg [6] m (fun gg s6 wr2 => ∃ q : Nat, q ≤ m ∧ m - q ≤ gg ∧ s6 = .int .i64 q ∧ Aside (∀ j (h : j < L[k].1.length), j < q → L[k].1[j] ≠ i) ∧ wr2 = wr)
      case atStart => exact ⟨0, by omega, by omega, rfl, (fun j _ h => absurd h (by omega)), rfl⟩
      case round =>
        obtain ⟨q, hq, hg2, rfl, HE, rfl⟩ := hrel
        replace HE := Lib.hid HE
        by_cases hlt2 : q < m
        · have hqI : (q : Int) < m := by omega
          have hqL : q < L[k].1.length := by rw [HM.out]; exact hlt2
          obtain ⟨ad2, rfl, -, hc2⟩ := HUA.out q hqL
          by_cases he : L[k].1[q] = i
          · have HY : Hid ((L.any fun x => decide (i ∈ x.1)) = true) := Lib.hid (List.any_eq_true.2 ⟨L[k], List.getElem_mem hkL, decide_eq_true (he ▸ List.getElem_mem hqL)⟩)
            rw [he] at hc2
            clear he HUA
            go_wp2_with fail
            go_ret
            exact ⟨by rw [HY.out]; rfl, B0 _⟩
          · have hne : ((L[k].1[q] : Int) == i) = false := by simpa using he
            have HE2 : Hid (∀ j (h : j < L[k].1.length), j < q + 1 → L[k].1[j] ≠ i) := Lib.hid fun j h hj => by
              by_cases e : j = q
              · subst e; exact he
              · exact HE.out j h (by omega)
            obtain ⟨z, hz⟩ : ∃ z, L[k].1[q] = z := ⟨_, rfl⟩
            rw [hz] at hc2 hne
            clear he hz HE HUA
            go_wp2_with fail
            go_roundg (m - (q + 1))
            case measure => omega
            case rel => exact ⟨q + 1, by omega, by omega, by go_num, HE2.out, rfl⟩
        · obtain rfl : q = m := by omega
          have HA2 : Hid (∀ j (h : j < L.length), j < k + 1 → i ∉ L[j].1) := Lib.hid fun j h hj => by
            by_cases e : j = k
            · subst e
              intro hm
              obtain ⟨p, hp, he⟩ := List.getElem_of_mem hm
              exact HE.out p hp (by rw [← HM.out]; exact hp) he
            · exact HA.out j h (by omega)
          clear HE HUA HA
          go_wp2_with fail
          go_roundg (n - (k + 1))
          case measure => omega
          case rel => exact ⟨k + 1, by omega, by omega, by go_num, HA2.out, rfl⟩
    · obtain rfl : k = n := by omega
      have HY : Hid ((L.any fun x => decide (i ∈ x.1)) = false) := Lib.hid (List.any_eq_false.2 fun x hx => by
        obtain ⟨p, hp, rfl⟩ := List.getElem_of_mem hx
        simp only [decide_eq_true_eq]
        exact HA.out p hp (by rw [← HN.out]; exact hp))
      go_wp2_with fail
      go_ret
      exact ⟨by rw [HY.out]; rfl, B0 _⟩
end Go.Proofs.YtahlfndlkfoikaaDoor
namespace Go.Proofs.YtahlfndlkfoikaaDoor
open Go Go.RowKit Go.Shelf
/-- A set without the members of a list. -/
def Cha.wipF (d : Nat) (l : List Nat) : Nat := l.foldl (fun d j => Hit.andn d (Hit.bit j)) d
theorem Cha.wipF_lt (d : Nat) (l : List Nat) (h : d < 2 ^ 64) : Cha.wipF d l < 2 ^ 64 := by
  unfold Cha.wipF
  induction l generalizing d with
  | nil => exact h
  | cons x l ih => rw [List.foldl_cons]; exact ih _ (Hit.andn_lt h)
theorem Cha.wip_all : ∀ B < 16, ∀ d < 16, Cha.wipF d (Hit.members B) = Hit.andn d B := by decide +kernel
theorem wp_region_classR {P : Program} {C : World → Prop} {id : Nat} {Q : Exit → Act → World → Prop} {a : Act} {w : World} {l : List Oper} (hm : P.follows .mixedOrders = true) (hB : Region.lexB .any l.toArray = true) (hC : C { w with drawn := w.drawn + 1 })
    (h : wpQuiet P l.toArray C (fun a' => ∀ w', C w' → Q .normal a' w') l a) : (Code.region id l.toArray true).wp P Q a w :=
  wp_region_quiet (C := C) hm hB hC (by simpa using h)
/-- The worlds that leave all that was in w1. -/
def ClsR (w1 : World) : Type := { x : World // Below w1.heap.size w1 x }
def ClsR.w {w1 : World} (q : ClsR w1) : World := q.1
theorem ClsR.b {w1 : World} (q : ClsR w1) : Below w1.heap.size w1 q.w := q.2
def ClsR.mk' {w1 w : World} (h : Below w1.heap.size w1 w) : ClsR w1 := ⟨w, h⟩
instance (w1 : World) : Nonempty (ClsR w1) := ⟨⟨w1, Below.refl _ _⟩⟩
/-- What holds behind each operation of the region of two starts. -/
def FK34 (lim : Nat) (AC : Value) (k1 k2 t1 t2 u1 u2 : Int) (j : Nat) (s : Nat → Value) (w : World) : Prop :=
  match j with
  | 0 => s 34 = AC
  | 1 => s 35 = .int .u8 k1
  | 2 => s 36 = .agg #[.int .i64 t1, .int .i64 t2]
  | 3 => s 37 = AC
  | 4 => s 38 = .int .u8 k2
  | 5 => s 39 = .agg #[.int .i64 u1, .int .i64 u2]
  | 6 => ∃ b, s 8 = .pointer (some ⟨b, 0, none⟩) ∧ lim ≤ b ∧ ∃ x y, Blk w b 36 #[x, y]
  | 7 => ∃ b, s 9 = .pointer (some ⟨b, 0, none⟩) ∧ lim ≤ b ∧ ∃ x y, Blk w b 36 #[x, y]
  | 8 => ∃ b, s 8 = .pointer (some ⟨b, 0, none⟩) ∧ lim ≤ b ∧ Blk w b 36 #[.int .i64 t1, .int .i64 t2]
  | 9 => ∃ b, s 9 = .pointer (some ⟨b, 0, none⟩) ∧ lim ≤ b ∧ Blk w b 36 #[.int .i64 u1, .int .i64 u2]
  | _ => True
def VK34 (j : Nat) : List Nat := match j with
  | 0 => [34] | 1 => [35] | 2 => [36] | 3 => [37] | 4 => [38] | 5 => [39] | 6 => [8] | 7 => [9] | 8 => [8] | 9 => [9] | _ => []
def EK34 (j : Nat) : Bool := j == 8 || j == 9
theorem FK34_V (lim : Nat) (AC : Value) (k1 k2 t1 t2 u1 u2 : Int) (j : Nat) (s s' : Nat → Value) (w : World) (h : ∀ t, t ∈ VK34 j → s' t = s t) (hF : FK34 lim AC k1 k2 t1 t2 u1 u2 j s w) : FK34 lim AC k1 k2 t1 t2 u1 u2 j s' w := by
  match j with
  | 0 => unfold FK34 at hF ⊢; simp only at hF ⊢; rw [h 34 (by simp [VK34])]; exact hF
  | 1 => unfold FK34 at hF ⊢; simp only at hF ⊢; rw [h 35 (by simp [VK34])]; exact hF
  | 2 => unfold FK34 at hF ⊢; simp only at hF ⊢; rw [h 36 (by simp [VK34])]; exact hF
  | 3 => unfold FK34 at hF ⊢; simp only at hF ⊢; rw [h 37 (by simp [VK34])]; exact hF
  | 4 => unfold FK34 at hF ⊢; simp only at hF ⊢; rw [h 38 (by simp [VK34])]; exact hF
  | 5 => unfold FK34 at hF ⊢; simp only at hF ⊢; rw [h 39 (by simp [VK34])]; exact hF
  | 6 => unfold FK34 at hF ⊢; simp only at hF ⊢; rw [h 8 (by simp [VK34])]; exact hF
  | 7 => unfold FK34 at hF ⊢; simp only at hF ⊢; rw [h 9 (by simp [VK34])]; exact hF
  | 8 => unfold FK34 at hF ⊢; simp only at hF ⊢; rw [h 8 (by simp [VK34])]; exact hF
  | 9 => unfold FK34 at hF ⊢; simp only at hF ⊢; rw [h 9 (by simp [VK34])]; exact hF
  | _ + 10 => trivial
theorem FK34_below (lim : Nat) (AC : Value) (k1 k2 t1 t2 u1 u2 : Int) (j : Nat) (s : Nat → Value) (w w' : World) (hb : Below w.heap.size w w') (hF : FK34 lim AC k1 k2 t1 t2 u1 u2 j s w) : FK34 lim AC k1 k2 t1 t2 u1 u2 j s w' := by
  match j with
  | 0 => exact hF
  | 1 => exact hF
  | 2 => exact hF
  | 3 => exact hF
  | 4 => exact hF
  | 5 => exact hF
  | 6 => obtain ⟨b, q1, q2, x, y, q3⟩ := hF; exact ⟨b, q1, q2, x, y, q3.below hb q3.lt⟩
  | 7 => obtain ⟨b, q1, q2, x, y, q3⟩ := hF; exact ⟨b, q1, q2, x, y, q3.below hb q3.lt⟩
  | 8 => obtain ⟨b, q1, q2, q3⟩ := hF; exact ⟨b, q1, q2, q3.below hb q3.lt⟩
  | 9 => obtain ⟨b, q1, q2, q3⟩ := hF; exact ⟨b, q1, q2, q3.below hb q3.lt⟩
  | _ + 10 => trivial
set_option maxRecDepth 100000 in
set_option maxHeartbeats 8000000 in
theorem law_reaches (p : Cou.Pl) (hp : PlOk p) (vl : Value) (key : Nat) (hkey : key < 256) (other : Nat) (hother : other < 256) (w : World) (F : Nat → Prop) (hF : ∀ b, F b → b < w.heap.size) (hl : SlLk F w vl p.links) (hW : WOk w) :
    Calls Tryd.prog 10 #[.agg (plCells p vl), .int .u8 (key : Int), .int .u8 (other : Int)] w fun e w' => e = .returned (.bool true) ∧ Below w.heap.size w w' := by
  have HTT := Lib.hid hW
  have HK := Lib.hid (fun W (hb : Below w.heap.size w W) => (hW.below hb).known)
  have HM := Lib.hid (fun W (hb : Below w.heap.size w W) => make_any p hp vl W F (fun b h => Nat.lt_of_lt_of_le (hF b h) hb.size) (Sl.keep hl (Agree.below hb hF) fun _ _ h => h))
  obtain ⟨Al, al, hvl, _, hll, _⟩ := id hl
  have hok : Cou.Ok (Cou.makeF p) := Cou.right_ok (Cou.make_right hp.len)
  have hrt : Cou.rightF (Cou.makeF p) = 0 := Cou.make_right hp.len
  have hcl4 : (Cou.makeF p).cps.length ≤ 4 := makeF_cps
  have hdr := makeF_drawn hp
  have hsm := (makeF_divs (p := p)).1
  have hd3 := (makeF_divs (p := p)).2
  have hn1 := makeF_pos hp.len
  subst hvl
  unfold plCells at *
  obtain ⟨ll, hll9⟩ : ∃ ll, p.links.length = ll := ⟨_, rfl⟩
  rw [hll9] at hll HM ⊢
  generalize ((p.dv.getD 0 (0, 0)).1 : Int) = d0 at *
  generalize ((p.dv.getD 0 (0, 0)).2 : Int) = d1 at *
  generalize ((p.dv.getD 1 (0, 0)).1 : Int) = d2 at *
  generalize ((p.dv.getD 1 (0, 0)).2 : Int) = d3 at *
  generalize ((p.dv.getD 2 (0, 0)).1 : Int) = d4 at *
  generalize ((p.dv.getD 2 (0, 0)).2 : Int) = d5 at *
  generalize (p.more : Int) = mo at *
  generalize (p.drawn : Int) = dr at *
  generalize Cou.makeF p = a at *
  try dsimp only
  clear hl hll9 hp
  obtain ⟨w1, hw1⟩ : ∃ w1 : World, (w.alloc (.cells #[.int .u8 d0, .int .u8 d1, .int .u8 d2, .int .u8 d3, .int .u8 d4, .int .u8 d5, .int .u8 mo, .slice Al ll al, .int .u8 dr] 26)) = w1 := ⟨_, rfl⟩
  obtain ⟨pb, hpb⟩ : ∃ pb, w.heap.size = pb := ⟨_, rfl⟩
  have PB : Blk w1 pb 26 #[.int .u8 d0, .int .u8 d1, .int .u8 d2, .int .u8 d3, .int .u8 d4, .int .u8 d5, .int .u8 mo, .slice Al ll al, .int .u8 dr] := by
    rw [← hw1, ← hpb]; exact Blk.new w _ _
  have B1 : Below w.heap.size w w1 := by rw [← hw1]; exact Ba (B0 w) _
  have HPB := Lib.hid PB
  have HB1 := Lib.hid B1
  have HW1 := Lib.hid hw1
  have HPP := Lib.hid hpb
  clear PB  B1 hw1 hpb hW
  go_enter Tryd.func10, Tryd.ntmps10
  go_upto_region 1 with fail
  rw [HW1.out, HPP.out]
  by_cases h4 : 4 < ll
  · have d4' : decide ((4 : Int) < ll) = true := decide_eq_true (by omega)
    go_wp2_with (first
      | (go_at_call 11; (with_reducible refine ((HK.out _ HB2.out).mono ?_)); rintro e w3 ⟨rfl, hb3⟩; have HB3 := Lib.hid (Bt HB2.out hb3); clear hb3)
      | (go_at_call 11; (with_reducible refine ((HK.out _ HB1.out).mono ?_)); rintro e w2 ⟨rfl, hb2⟩; have HB2 := Lib.hid (Bt HB1.out hb2); have k7 := (HPB.out.below hb2 HPB.out.lt).cell 7; simp only [List.getElem?_toArray, List.getElem?_cons_zero, List.getElem?_cons_succ] at k7; clear hb2))
    go_ret
    exact ⟨rfl, HB3.out⟩
  · have d4' : decide ((4 : Int) < ll) = false := decide_eq_false (by omega)
    go_upto_region 3 with (go_at_call 11; (with_reducible refine ((HK.out _ HB1.out).mono ?_)); rintro e w2 ⟨rfl, hb2⟩; have HB2 := Lib.hid (Bt HB1.out hb2); have HP2 := Lib.hid (HPB.out.below hb2 HPB.out.lt);  have k7 := HP2.out.cell 7; simp only [List.getElem?_toArray, List.getElem?_cons_zero, List.getElem?_cons_succ] at k7; clear hb2)
    have k0 := HP2.out.cell 0
    have k1 := HP2.out.cell 1
    have k2 := HP2.out.cell 2
    have k3 := HP2.out.cell 3
    have k4 := HP2.out.cell 4
    have k5 := HP2.out.cell 5
    have k6 := HP2.out.cell 6
    have k8 := HP2.out.cell 8
    simp only [List.getElem?_toArray, List.getElem?_cons_zero, List.getElem?_cons_succ] at k0 k1 k2 k3 k4 k5 k6 k8
    go_upto_region 4 with (go_at_call 12; (with_reducible refine ((HM.out _ HB2.out).mono ?_)); rintro e w3 ⟨vd, vc, rfl, hA3, hb3⟩; obtain ⟨Ad, cd, rfl, _, _⟩ := id hA3.dv.open; obtain ⟨Ac, cc, rfl, _, _⟩ := id hA3.cp.open; have HA3 := Lib.hid hA3; have HB3 := Lib.hid (Bt HB2.out hb3);  clear hb3 hA3)
    obtain ⟨W4, hW4⟩ : ∃ W4 : World, w3.alloc (.cells #[.slice Ad a.divs.length cd, .slice Ac a.cps.length cc, .int .u64 a.drawn] 33) = W4 := ⟨_, rfl⟩
    obtain ⟨ab, hab⟩ : ∃ ab, w3.heap.size = ab := ⟨_, rfl⟩
    have AB : Blk W4 ab 33 #[.slice Ad a.divs.length cd, .slice Ac a.cps.length cc, .int .u64 a.drawn] := by rw [← hW4, ← hab]; exact Blk.new _ _ _
    have B4 : Below w3.heap.size w3 W4 := by rw [← hW4]; exact Ba (B0 w3) _
    have A4 := HA3.out.on B4
    rw [hW4, hab]
    have hB04 := Bt HB3.out B4
    have HKE := Lib.hid (fun W (hb : Below W4.heap.size W4 W) => (show W.cell? ⟨ab, 0, none⟩ = some (.slice Ad a.divs.length cd) ∧ W.cell? ⟨ab, 1, none⟩ = some (.slice Ac a.cps.length cc) ∧ W.cell? ⟨ab, 2, none⟩ = some (.int .u64 a.drawn) from ⟨(Bc hb AB.lt).trans (AB.cell 0), (Bc hb AB.lt).trans (AB.cell 1), (Bc hb AB.lt).trans (AB.cell 2)⟩))
    have HTW := Lib.hid (fun W (hb : Below W4.heap.size W4 W) => HTT.out.below (Bt hB04 hb))
    have HAW := Lib.hid (fun W (hb : Below W4.heap.size W4 W) => A4.on hb)
    have HB4 := Lib.hid hB04
    have HOK := Lib.hid hok
    have HRT := Lib.hid hrt
    have HSM := Lib.hid hsm
    have HAB := Lib.hid AB
    clear AB B4 A4  hW4 hab hB04 hok hrt hsm HA3 HB3  HP2  HPB  HK HM HTT k0 k1 k2 k3 k4 k5 k6 k7 k8
    obtain ⟨x0, x1, x2⟩ := HKE.out W4 (B0 W4)
    obtain ⟨c1, hc1⟩ : ∃ c, Cha.startF a key = c := ⟨_, rfl⟩
    obtain ⟨c2, hc2⟩ : ∃ c, Cha.startF a other = c := ⟨_, rfl⟩
    have hi1 : Cou.InA a c1 := by rw [← hc1]; exact Cha.start_in HOK.out hn1 key
    have hi2 : Cou.InA a c2 := by rw [← hc2]; exact Cha.start_in HOK.out hn1 other
    have hw1 := Cha.wrong_in hi1
    have hw2 := Cha.wrong_in hi2
    have hb1 : Cha.beginF a [c1] = 0 := by unfold Cha.beginF Cha.wrongsF Cha.wrongsF; rw [if_pos HRT.out, if_pos hw1]
    have hbe : Cha.beginF a [c1, c2] = 0 := by unfold Cha.beginF Cha.wrongsF Cha.wrongsF Cha.wrongsF; rw [if_pos HRT.out, if_pos hw1, if_pos hw2]
    have hst1 := fun W (hb : Below W4.heap.size W4 W) => start_any a HOK.out hn1 (.slice Ad a.divs.length cd) (.slice Ac a.cps.length cc) key hkey a.drawn W _ (HAW.out W hb)
    have hst2 := fun W (hb : Below W4.heap.size W4 W) => start_any a HOK.out hn1 (.slice Ad a.divs.length cd) (.slice Ac a.cps.length cc) other hother a.drawn W _ (HAW.out W hb)
    rw [hc1] at hst1
    rw [hc2] at hst2
    have hdn : a.drawn < 2 ^ a.cps.length := HOK.out.drawn
    have hn16 : (2 : Nat) ^ a.cps.length ≤ 16 := Nat.pow_le_pow_right (by decide) hcl4
    have hall : Cha.reachB a c1 c2 a.drawn = false := by
      have h := Cha.reach_all HOK.out hdr c1 c2
      rwa [Cha.comb_or a.drawn (by omega)] at h
    have hml : ¬ 16 < (Hit.members a.drawn).length := by
      rw [Cha.size_len a.drawn (by omega)]
      have : ∀ s < 16, Cha.sizeF 64 s ≤ 16 := by decide +kernel
      have := this a.drawn (by omega)
      omega
    obtain ⟨B, hB⟩ : ∃ B, Cha.bestF (Cha.reachB a c1 c2) a.drawn (2 ^ a.cps.length) = B := ⟨_, rfl⟩
    have hci := fun i => Cha.cut_in HOK.out c1 c2 hcl4 (i := i)
    have hbi := Cha.best_inv (Cha.reachB a c1 c2) a.drawn a.cps.length hcl4 hdn hall (2 ^ a.cps.length) (Nat.le_refl _)
    have hcb := Cha.cut_best (Cha.reachB a c1 c2) a.drawn a.cps.length hcl4 hdn hall
    rw [hB] at hci hbi hcb
    obtain ⟨⟨hB1, hB2, hB3⟩, -⟩ := hbi
    have hlr : (Cha.leastF a c1 c2).isSome = Cha.reachB a c1 c2 0 := Cha.least_reach a c1 c2
    have hle0 : Cha.leastR a c1 c2 = (0, Cha.leastF a c1 c2) := by unfold Cha.leastR; rw [if_pos hbe]
    have hLE := fun W (hb : Below W4.heap.size W4 W) => Least_any a (.slice Ad a.divs.length cd) (.slice Ac a.cps.length cc) hdr c1 c2 W _ (HAW.out W hb)
    have hHAS := fun (v : Value) (l : List Cou.Ct) W (hS : SlCt (fun b => b < W.heap.size) W v l) => has_any v l c2 W _ (fun _ h => h) hS
    have hRE := fun W (hb : Below W4.heap.size W4 W) (b : Bool) (hv : Cha.reachB a c1 c2 0 = b) => show Calls Tryd.prog 25 #[.agg #[.slice Ad a.divs.length cd, .slice Ac a.cps.length cc, .int .u64 a.drawn], .agg #[.int .i64 c1.1, .int .i64 c1.2]] W fun e w' => ∃ v l, e = .returned (.tuple #[v, .int .i64 0]) ∧ SlCt (fun b => b < w'.heap.size) w' v l ∧ decide (c2 ∈ l) = b ∧ Below W.heap.size W w' from by
      have he : reachErr a c1 = 0 := by unfold reachErr; rw [if_pos HRT.out]; exact hw1
      have h := Reach_any a (.slice Ad a.divs.length cd) (.slice Ac a.cps.length cc) hdr c1 W _ (HAW.out W hb) (HTW.out W hb).tab (HTW.out W hb).g
      rw [he] at h
      refine h.mono ?_
      rintro e w' ⟨v, l, rfl, q1, -, q3, q4⟩
      refine ⟨v, l, rfl, SlCt.bnd3 q1, ?_, q4⟩
      rw [← hv, Bool.eq_iff_iff, decide_eq_true_eq, (q3 rfl).2, Cha.reachB_iff HOK.out, Cha.cutA_zero]
    rw [hle0] at hLE
    dsimp only at hLE
    have hFO := fun W (hb : Below W4.heap.size W4 W) cv cs hC hl => Follow_any a (.slice Ad a.divs.length cd) (.slice Ac a.cps.length cc) hdr c1 cv cs W (fun b => b < W.heap.size) (HAW.out W hb).all hC hl
    have hCU := fun W (hb : Below W4.heap.size W4 W) => Cut_any a (.slice Ad a.divs.length cd) (.slice Ac a.cps.length cc) hdr c1 c2 W _ (HAW.out W hb) (HTW.out W hb).tab (HTW.out W hb).g
    have hTO := fun W (hb : Below W4.heap.size W4 W) => To_any a (.slice Ad a.divs.length cd) (.slice Ac a.cps.length cc) hdr c1 c2 W _ (HAW.out W hb)
    have hcr : Cha.reachB a c1 c2 0 = true → Cha.cutR a c1 c2 = (0, Hit.members B) := fun h => by unfold Cha.cutR; rw [if_pos hbe, if_pos h, if_neg hml, (hcb h).1]; rfl
    have htr : Cha.toR a c1 c2 = match Cha.allF a c1 with | none => (4, []) | some L => (0, L.filter fun x => decide (x.2 = c2)) := by unfold Cha.toR; rw [if_pos hbe]; rfl
    have hL2 := fun W (hb : Below W4.heap.size W4 W) => Least_any (Cha.cutA a B) (.slice Ad a.divs.length cd) (.slice Ac a.cps.length cc) (Hit.andn_lt hdr) c1 c2 W (fun b => b < W.heap.size) ⟨fun _ h => h, (HAW.out W hb).all.dv, (HAW.out W hb).all.cp⟩
    have hlc : Cha.leastR (Cha.cutA a B) c1 c2 = (0, none) := by
      have hbc : Cha.beginF (Cha.cutA a B) [c1, c2] = 0 := by
        unfold Cha.beginF Cha.wrongsF Cha.wrongsF Cha.wrongsF
        rw [if_pos (Cha.right_cut HRT.out B), if_pos (show Cou.wrongF (Cha.cutA a B) c1 = 0 from hw1), if_pos (show Cou.wrongF (Cha.cutA a B) c2 = 0 from hw2)]
      have hn : Cha.leastF (Cha.cutA a B) c1 c2 = none := by
        have : (Cha.leastF (Cha.cutA a B) c1 c2).isSome = false := hB3
        cases h : Cha.leastF (Cha.cutA a B) c1 c2 with
        | none => rfl
        | some x => rw [h] at this; cases this
      unfold Cha.leastR
      rw [if_pos hbc, hn]
    have hcd : (Cha.cutA a B).drawn = Hit.andn a.drawn B := rfl
    rw [hlc, hcd] at hL2
    dsimp only [Option.getD, Option.isSome] at hL2
    have hB16 : B < 16 := by omega
    have hfi : Cha.leastF a c1 c2 = none ∨ ∃ x ts, Cha.leastF a c1 c2 = some x ∧ x.2 = c2 ∧ Cha.IsCh a c1 x.1 ts ∧ Cha.lastF ts = c2 := by
      cases h : Cha.leastF a c1 c2 with
      | none => exact .inl rfl
      | some x =>
        obtain ⟨q1, ts, q2, q3⟩ := Cha.least_found HOK.out c1 c2 h
        exact .inr ⟨x, ts, rfl, q1, q2, q3⟩
    obtain ⟨t1, t2⟩ := c1
    obtain ⟨u1, u2⟩ := c2
    have HST1 := Lib.hid hst1
    have HST2 := Lib.hid hst2
    have HRE := Lib.hid hRE
    have HHAS := Lib.hid hHAS
    have HLE := Lib.hid hLE
    have HFO := Lib.hid hFO
    have HCU := Lib.hid hCU
    have HTO := Lib.hid hTO
    have HCR := Lib.hid hcr
    have HTR := Lib.hid htr
    have HL2 := Lib.hid hL2
    have HCI := Lib.hid hci
    have HLR := Lib.hid hlr
    have HBE := Lib.hid hb1
    have HBL := Lib.hid (And.intro hB1 hB2)
    have HFI := Lib.hid hfi
    have HB3 := Lib.hid hB3
    have HD16 := Lib.hid (show a.drawn < 16 by omega)
    clear hdn
    clear hst1 hst2 hc1 hc2 hi1 hi2 hw1 hw2 hb1 hbe HTW hml hall HSM HRT hB hci hcb hB1 hB2 hB3 hlr hle0 hLE hHAS hRE hFO hCU hTO hcr htr hL2 hlc hfi hcd
    refine region_blocks (by kernel_rfl) ?_
    refine from_lawS 10 EK34 (fun _ s W => BG W4 s W) (FK34 W4.heap.size (.agg #[.slice Ad a.divs.length cd, .slice Ac a.cps.length cc, .int .u64 a.drawn]) (key : Nat) (other : Nat) t1 t2 u1 u2) VK34 (by kernel_rfl) rfl (FK34_V _ _ _ _ _ _ _ _) (by kernel_rfl) (by kernel_rfl) (BG.start (fun b h => by unfold sl at h; simp [undef] at h) (fun b h => by unfold sl at h; simp [undef] at h)) ⟨?_, ?_, ?_, ?_, ?_, ?_, ?_, ?_, ?_, ?_, trivial⟩ ?_
    · refine OpFactS.value rfl (FK34_below _ _ _ _ _ _ _ _) (fun L s s' w w' h hb hG => BG.keep (h 8 (by simp)) (h 9 (by simp)) hb hG) fun L a_ w2 hl hf D hb => ?_
      have h0 : sl a_ 7 = .pointer (some ⟨ab, 0, none⟩) := hf 7 (by kernel_rfl)
      have es := HKE.out w2 hb.1
      refine ⟨.agg #[.slice Ad a.divs.length cd, .slice Ac a.cps.length cc, .int .u64 a.drawn], w2, ?_, B0 _, fun s _ h => h 34 rfl⟩
      unfold sl at h0
      simp at h0
      simp [go_sem, h0, es]
    · refine OpFactS.value rfl (FK34_below _ _ _ _ _ _ _ _) (fun L s s' w w' h hb hG => BG.keep (h 8 (by simp)) (h 9 (by simp)) hb hG) fun L a_ w2 hl hf D hb => ?_
      have h0 : sl a_ 1 = .int .u8 (key : Nat) := hf 1 (by kernel_rfl)
      refine ⟨.int .u8 (key : Nat), w2, ?_, B0 _, fun s _ h => h 35 rfl⟩
      unfold sl at h0
      simp [go_sem, h0]
    · refine OpFactS.call rfl (FK34_below _ _ _ _ _ _ _ _) (fun L s s' w w' h hb hG => BG.keep (h 8 (by simp)) (h 9 (by simp)) hb hG) fun L a_ w2 hl hf D hb => ?_
      have h1 : sl a_ 34 = .agg #[.slice Ad a.divs.length cd, .slice Ac a.cps.length cc, .int .u64 a.drawn] := D 0 (by kernel_rfl)
      have h2 : sl a_ 35 = .int .u8 (key : Nat) := D 1 (by kernel_rfl)
      refine ⟨13, #[.agg #[.slice Ad a.divs.length cd, .slice Ac a.cps.length cc, .int .u64 a.drawn], .int .u8 (key : Nat)], ?_, (HST1.out w2 hb.1).mono ?_⟩
      · unfold sl at h1 h2
        simp at h1 h2
        simp [go_sem, h1, h2]
      · rintro e w' ⟨rfl, hb3⟩
        exact ⟨_, rfl, hb3, fun s _ h => h 36 rfl⟩
    · refine OpFactS.value rfl (FK34_below _ _ _ _ _ _ _ _) (fun L s s' w w' h hb hG => BG.keep (h 8 (by simp)) (h 9 (by simp)) hb hG) fun L a_ w2 hl hf D hb => ?_
      have h0 : sl a_ 7 = .pointer (some ⟨ab, 0, none⟩) := hf 7 (by kernel_rfl)
      have es := HKE.out w2 hb.1
      refine ⟨.agg #[.slice Ad a.divs.length cd, .slice Ac a.cps.length cc, .int .u64 a.drawn], w2, ?_, B0 _, fun s _ h => h 37 rfl⟩
      unfold sl at h0
      simp at h0
      simp [go_sem, h0, es]
    · refine OpFactS.value rfl (FK34_below _ _ _ _ _ _ _ _) (fun L s s' w w' h hb hG => BG.keep (h 8 (by simp)) (h 9 (by simp)) hb hG) fun L a_ w2 hl hf D hb => ?_
      have h0 : sl a_ 2 = .int .u8 (other : Nat) := hf 2 (by kernel_rfl)
      refine ⟨.int .u8 (other : Nat), w2, ?_, B0 _, fun s _ h => h 38 rfl⟩
      unfold sl at h0
      simp [go_sem, h0]
    · refine OpFactS.call rfl (FK34_below _ _ _ _ _ _ _ _) (fun L s s' w w' h hb hG => BG.keep (h 8 (by simp)) (h 9 (by simp)) hb hG) fun L a_ w2 hl hf D hb => ?_
      have h1 : sl a_ 37 = .agg #[.slice Ad a.divs.length cd, .slice Ac a.cps.length cc, .int .u64 a.drawn] := D 3 (by kernel_rfl)
      have h2 : sl a_ 38 = .int .u8 (other : Nat) := D 4 (by kernel_rfl)
      refine ⟨13, #[.agg #[.slice Ad a.divs.length cd, .slice Ac a.cps.length cc, .int .u64 a.drawn], .int .u8 (other : Nat)], ?_, (HST2.out w2 hb.1).mono ?_⟩
      · unfold sl at h1 h2
        simp at h1 h2
        simp [go_sem, h1, h2]
      · rintro e w' ⟨rfl, hb3⟩
        exact ⟨_, rfl, hb3, fun s _ h => h 39 rfl⟩
    · refine OpFactS.write rfl fun L a_ w2 hl hf D hb => ?_
      refine ⟨.pointer (some ⟨w2.heap.size, 0, none⟩), w2.alloc (.cells #[.int .i64 0, .int .i64 0] 36), ?_, fun s ho h => BG.new8 (h 8 rfl) (ho 9 (by simp)) _ hb, fun j _ _ hF => FK34_below _ _ _ _ _ _ _ _ j _ _ _ (Ba (B0 _) _) hF, fun s _ h => ⟨w2.heap.size, h 8 rfl, hb.1.size, _, _, Blk.new _ _ _⟩⟩
      first | kernel_rfl | simp [go_sem, zeroCt]
    · refine OpFactS.write rfl fun L a_ w2 hl hf D hb => ?_
      refine ⟨.pointer (some ⟨w2.heap.size, 0, none⟩), w2.alloc (.cells #[.int .i64 0, .int .i64 0] 36), ?_, fun s ho h => BG.new9 (h 9 rfl) (ho 8 (by simp)) _ hb, fun j _ _ hF => FK34_below _ _ _ _ _ _ _ _ j _ _ _ (Ba (B0 _) _) hF, fun s _ h => ⟨w2.heap.size, h 9 rfl, hb.1.size, _, _, Blk.new _ _ _⟩⟩
      first | kernel_rfl | simp [go_sem, zeroCt]
    · refine OpFactS.skip rfl fun L a_ w2 hl hf D hb => ?_
      obtain ⟨b, h8, hlb, x, y, hK⟩ : ∃ b, sl a_ 8 = .pointer (some ⟨b, 0, none⟩) ∧ W4.heap.size ≤ b ∧ ∃ x y, Blk w2 b 36 #[x, y] := D 6 (by kernel_rfl)
      have h1 : sl a_ 36 = .agg #[.int .i64 t1, .int .i64 t2] := D 2 (by kernel_rfl)
      have hK2 : Blk ((w2.setCell ⟨b, 0, none⟩ (.int .i64 t1)).setCell ⟨b, 1, none⟩ (.int .i64 t2)) b 36 #[.int .i64 t1, .int .i64 t2] := by simpa using (hK.set_ 0 (.int .i64 t1)).set_ 1 (.int .i64 t2)
      have e0 := hK.frozen 0
      have e1 := hK.frozen 1
      have e2 := hK.cell 0
      have e3 := hK.cell 1
      simp only [List.getElem?_toArray, List.getElem?_cons_zero, List.getElem?_cons_succ] at e2 e3
      refine ⟨(w2.setCell ⟨b, 0, none⟩ (.int .i64 t1)).setCell ⟨b, 1, none⟩ (.int .i64 t2), ?_, fun s ho => BG.set hlb (ho 8 (by simp)) (ho 9 (by simp)) _ _ hb, fun j hj hE hF => ?_, fun s ho => ⟨b, (ho 8 (by simp)).trans h8, hlb, hK2⟩⟩
      · unfold sl at h8 h1
        simp at h8 h1
        simp [go_sem, h8, h1, e0, e1, e2, e3]
      · match j with
        | 0 => exact hF
        | 1 => exact hF
        | 2 => exact hF
        | 3 => exact hF
        | 4 => exact hF
        | 5 => exact hF
        | 6 => exact ⟨b, h8, hlb, _, _, hK2⟩
        | 7 => obtain ⟨c, q1, q2, x', y', q3⟩ := hF; exact ⟨c, q1, q2, x', y', (q3.far (p := ⟨b, 0, none⟩) (fun e => hb.2.2.2 b c h8 q1 e.symm) _).far (p := ⟨b, 1, none⟩) (fun e => hb.2.2.2 b c h8 q1 e.symm) _⟩
        | 8 => exact absurd rfl hj
        | 9 => obtain ⟨c, q1, q2, q3⟩ := hF; exact ⟨c, q1, q2, (q3.far (p := ⟨b, 0, none⟩) (fun e => hb.2.2.2 b c h8 q1 e.symm) _).far (p := ⟨b, 1, none⟩) (fun e => hb.2.2.2 b c h8 q1 e.symm) _⟩
        | _ + 10 => trivial
    · refine OpFactS.skip rfl fun L a_ w2 hl hf D hb => ?_
      obtain ⟨b, h8, hlb, x, y, hK⟩ : ∃ b, sl a_ 9 = .pointer (some ⟨b, 0, none⟩) ∧ W4.heap.size ≤ b ∧ ∃ x y, Blk w2 b 36 #[x, y] := D 7 (by kernel_rfl)
      have h1 : sl a_ 39 = .agg #[.int .i64 u1, .int .i64 u2] := D 5 (by kernel_rfl)
      have hK2 : Blk ((w2.setCell ⟨b, 0, none⟩ (.int .i64 u1)).setCell ⟨b, 1, none⟩ (.int .i64 u2)) b 36 #[.int .i64 u1, .int .i64 u2] := by simpa using (hK.set_ 0 (.int .i64 u1)).set_ 1 (.int .i64 u2)
      have e0 := hK.frozen 0
      have e1 := hK.frozen 1
      have e2 := hK.cell 0
      have e3 := hK.cell 1
      simp only [List.getElem?_toArray, List.getElem?_cons_zero, List.getElem?_cons_succ] at e2 e3
      refine ⟨(w2.setCell ⟨b, 0, none⟩ (.int .i64 u1)).setCell ⟨b, 1, none⟩ (.int .i64 u2), ?_, fun s ho => BG.set hlb (ho 8 (by simp)) (ho 9 (by simp)) _ _ hb, fun j hj hE hF => ?_, fun s ho => ⟨b, (ho 9 (by simp)).trans h8, hlb, hK2⟩⟩
      · unfold sl at h8 h1
        simp at h8 h1
        simp [go_sem, h8, h1, e0, e1, e2, e3]
      · match j with
        | 0 => exact hF
        | 1 => exact hF
        | 2 => exact hF
        | 3 => exact hF
        | 4 => exact hF
        | 5 => exact hF
        | 6 => obtain ⟨c, q1, q2, x', y', q3⟩ := hF; exact ⟨c, q1, q2, x', y', (q3.far (p := ⟨b, 0, none⟩) (fun e => hb.2.2.2 c b q1 h8 e) _).far (p := ⟨b, 1, none⟩) (fun e => hb.2.2.2 c b q1 h8 e) _⟩
        | 7 => exact ⟨b, h8, hlb, _, _, hK2⟩
        | 8 => obtain ⟨c, q1, q2, q3⟩ := hF; exact ⟨c, q1, q2, (q3.far (p := ⟨b, 0, none⟩) (fun e => hb.2.2.2 c b q1 h8 e) _).far (p := ⟨b, 1, none⟩) (fun e => hb.2.2.2 c b q1 h8 e) _⟩
        | 9 => exact absurd rfl hj
        | _ + 10 => trivial
    intro L y W6 hb6 hF6
    obtain ⟨tb, h8, hlt, TB⟩ : ∃ b, y 8 = .pointer (some ⟨b, 0, none⟩) ∧ W4.heap.size ≤ b ∧ Blk W6 b 36 #[.int .i64 t1, .int .i64 t2] := hF6 8 (by decide) rfl
    obtain ⟨ub, h9, hlu, UB⟩ : ∃ b, y 9 = .pointer (some ⟨b, 0, none⟩) ∧ W4.heap.size ≤ b ∧ Blk W6 b 36 #[.int .i64 u1, .int .i64 u2] := hF6 9 (by decide) rfl
    have HB6 : Hid (Below W4.heap.size W4 W6) := Lib.hid hb6.1
    have HTB := Lib.hid TB
    have HUB := Lib.hid UB
    clear hF6 hb6 TB UB hlt hlu
    rw [aft8 (d0 := 34) (d1 := 35) (d2 := 36) (d3 := 37) (d4 := 38) (d5 := 39) (d6 := 8) (d7 := 9) (by kernel_rfl) rfl]
    rw [h8, h9]
    simp only [List.set_cons_succ, List.set_cons_zero]
    refine from_end rfl ?_
    clear x0 x1 x2 HST1 HST2
    have HKT := Lib.hid (fun W (hb : Below W6.heap.size W6 W) => (show (W.cell? ⟨ab, 0, none⟩ = some (.slice Ad a.divs.length cd) ∧ W.cell? ⟨ab, 1, none⟩ = some (.slice Ac a.cps.length cc) ∧ W.cell? ⟨ab, 2, none⟩ = some (.int .u64 a.drawn)) ∧ (W.cell? ⟨tb, 0, none⟩ = some (.int .i64 t1) ∧ W.cell? ⟨tb, 1, none⟩ = some (.int .i64 t2)) ∧ W.cell? ⟨ub, 0, none⟩ = some (.int .i64 u1) ∧ W.cell? ⟨ub, 1, none⟩ = some (.int .i64 u2) from
      ⟨HKE.out W (Bt HB6.out hb), ⟨(Bc hb HTB.out.lt).trans (HTB.out.cell 0), (Bc hb HTB.out.lt).trans (HTB.out.cell 1)⟩, (Bc hb HUB.out.lt).trans (HUB.out.cell 0), (Bc hb HUB.out.lt).trans (HUB.out.cell 1)⟩))
    obtain ⟨⟨x0, x1, x2⟩, ⟨x3, x4⟩, x5, x6⟩ := HKT.out W6 (B0 W6)
    rcases HFI.out with hf | ⟨⟨xs, xx⟩, ts, hf, hx2, hch, hla⟩
    · have hr0 : Cha.reachB a (t1, t2) (u1, u2) 0 = false := by rw [← HLR.out, hf]; rfl
      have hre := fun W hb => HRE.out W hb false hr0
      have hle := HLE.out
      rw [hf] at hle
      dsimp only [Option.getD, Option.isSome] at hle
      have HRE2 := Lib.hid hre
      have HLE2 := Lib.hid hle
      clear hre hle hf hr0 HRE HLE HFO HCU HTO HCR HTR HL2 HCI HLR HFI HBL HB3
      go_upto_region 6 with (go_at_call 25; (with_reducible refine ((HRE2.out _ HB6.out).mono ?_)); rintro e w7 ⟨v7, l7, rfl, hs7, hm7, hb7⟩; have HB7 := Lib.hid hb7; have HS7 := Lib.hid hs7; have HM7 := Lib.hid hm7; clear x0 x1 x2 x3 x4 x5 x6; obtain ⟨⟨x0, x1, x2⟩, ⟨x3, x4⟩, x5, x6⟩ := HKT.out w7 hb7; clear hb7 hs7 hm7)
      go_upto_region 7 with (go_at_call 31; (with_reducible refine ((HLE2.out _ (Bt HB6.out HB7.out)).mono ?_)); rintro e w8 ⟨u8, rfl, hu8, hb8⟩; obtain ⟨A8, c8, rfl, -, -, -⟩ := SlI.open hu8; have HB8 := Lib.hid (Ba (Bt HB7.out hb8) (.cells #[.slice A8 0 c8, .int .i64 0, .int .i64 0] 56)); have HS8 := Lib.hid (slCt_on1 HS7.out (Ba hb8 (.cells #[.slice A8 0 c8, .int .i64 0, .int .i64 0] 56))); clear x0 x1 x2 x3 x4 x5 x6; obtain ⟨⟨x0, x1, x2⟩, ⟨x3, x4⟩, x5, x6⟩ := HKT.out _ HB8.out; clear hb8 hu8)
      go_wp2_with (go_at_call 26; (with_reducible refine ((HHAS.out v7 l7 _ HS8.out).mono ?_)); rintro e w9 ⟨rfl, hb9⟩; rw [HM7.out]; have HB9 := Lib.hid (Bt HB8.out hb9); clear hb9 x0 x1 x2 x3 x4 x5 x6)
      go_ret
      exact ⟨rfl, Bt HB4.out (Bt HB6.out HB9.out)⟩
    · dsimp only at hx2 hch
      subst hx2
      have hr0 : Cha.reachB a (t1, t2) (u1, u2) 0 = true := by rw [← HLR.out, hf]; rfl
      have hre := fun W hb => HRE.out W hb true hr0
      have hle := HLE.out
      rw [hf] at hle
      dsimp only [Option.getD, Option.isSome] at hle
      have hxl : xs.length ≤ 100000 := by
        have h1 := hch.len
        have h2 := hch.short HOK.out
        omega
      have hfr : Cha.folR a (t1, t2) xs = (0, ts) := by unfold Cha.folR; rw [if_pos HBE.out]; exact Cha.ch_follow2 hch
      have hfo := fun W hb cv hC => HFO.out W hb cv xs hC hxl
      rw [hfr] at hfo
      have hcu := HCU.out
      rw [HCR.out hr0] at hcu
      dsimp only at hfo hcu
      obtain ⟨n, hn⟩ : ∃ n, ts.length = n + 1 := ⟨ts.length - 1, by have := List.length_pos_iff.2 hch.ne2; omega⟩
      have hlast : ∀ h : n < ts.length, ts[n] = (u1, u2) := fun h => by
        have := Cha.lastF_get (l := ts) (n := n + 1) hn (by omega)
        simpa [hla] using this
      have hg : ∃ (g : Int) (L' : List Cha.Ch), (g = 0 ∨ g = 4) ∧ Cha.toR a (t1, t2) (u1, u2) = (g, L') ∧ (g = 0 → ∀ i, B.testBit i = true → (L'.any fun x => decide ((i : Int) ∈ x.1)) = true) := by
        have htr := HTR.out
        cases hq : Cha.allF a (t1, t2) with
        | none => rw [hq] at htr; exact ⟨4, [], .inr rfl, htr, fun h => absurd h (by decide)⟩
        | some L =>
          rw [hq] at htr
          refine ⟨0, _, .inl rfl, htr, fun _ i hi => ?_⟩
          obtain ⟨cs, ts', h1, h2, h3⟩ := HCI.out i hi
          exact List.any_eq_true.2 ⟨(cs, Cha.lastF ts'), List.mem_filter.2 ⟨Cha.all_has hq h1, decide_eq_true h2⟩, decide_eq_true h3⟩
      obtain ⟨g, L', hg1, hg2, hg3⟩ := hg
      have hto := HTO.out
      rw [hg2] at hto
      dsimp only at hto
      obtain ⟨mc, hmc⟩ : ∃ mc, (Hit.members B).length = mc := ⟨_, rfl⟩
      have hmc1 : 0 < mc := by
        rw [← hmc]
        refine List.length_pos_iff.2 fun e => ?_
        have h1 := Cha.comb_or B hB16
        rw [e] at h1
        have h2 : B = 0 := h1.symm
        have h3 := HB3.out
        rw [h2, hr0] at h3; cases h3
      have hmcl : mc ≤ 64 := by rw [← hmc, Cha.size_len B hB16]; exact Cha.size_le 64 B
      have hmm : (intN (Hit.members B)).length = mc := by simp [intN, hmc]
      have HRE2 := Lib.hid hre
      have HLE2 := Lib.hid hle
      have HFO2 := Lib.hid hfo
      have HCU2 := Lib.hid hcu
      have HTO2 := Lib.hid hto
      have HG3 := Lib.hid hg3
      have HN := Lib.hid hn
      have HLA := Lib.hid hlast
      have HMC := Lib.hid hmc
      have HMM := Lib.hid hmm
      have HCHL := Lib.hid (show ∀ i ∈ Hit.members B, i < a.cps.length ∧ a.drawn.testBit i = true from fun i hi => by
        have h1 := (Hit.mem_members.1 hi).2
        refine ⟨?_, ?_⟩
        · rcases Nat.lt_or_ge i a.cps.length with h | h
          · exact h
          · rw [Nat.testBit_lt_two_pow (Nat.lt_of_lt_of_le HBL.out.1 (Nat.pow_le_pow_right (by decide) h))] at h1; cases h1
        · have := congrArg (fun x => x.testBit i) HBL.out.2
          simp only [Hit.andn_test, Nat.zero_testBit, h1, Bool.true_and] at this
          simpa using this)
      have hn5 : n ≤ 1024 := by have h2 := hch.short HOK.out; omega
      clear hre hle hf hr0 hfr hfo hcu hto hg2 hg3 hn hlast hmc hmm hch hla HRE HLE HFO HCU HTO HCR HTR HCI HLR HFI hxl
      go_upto_region 6 with (go_at_call 25; (with_reducible refine ((HRE2.out _ HB6.out).mono ?_)); rintro e w7 ⟨v7, l7, rfl, hs7, hm7, hb7⟩; have HB7 := Lib.hid hb7; have HS7 := Lib.hid hs7; have HM7 := Lib.hid hm7; clear x0 x1 x2 x3 x4 x5 x6; obtain ⟨⟨x0, x1, x2⟩, ⟨x3, x4⟩, x5, x6⟩ := HKT.out w7 hb7; clear hb7 hs7 hm7)
      go_upto_region 7 with (go_at_call 31; (with_reducible refine ((HLE2.out _ (Bt HB6.out HB7.out)).mono ?_)); rintro e w8 ⟨u8, rfl, hu8, hb8⟩; obtain ⟨A8, c8, rfl, -, -, -⟩ := SlI.open hu8; have HU8 := Lib.hid hu8; have HB78 := Lib.hid hb8; clear hb8 hu8)
      obtain ⟨nx, hnx⟩ : ∃ nx, xs.length = nx := ⟨_, rfl⟩
      rw [hnx] at HU8 ⊢
      obtain ⟨w9, hw9⟩ : ∃ w9 : World, w8.alloc (.cells #[.slice A8 nx c8, .int .i64 u1, .int .i64 u2] 56) = w9 := ⟨_, rfl⟩
      obtain ⟨lb, hlb⟩ : ∃ lb, w8.heap.size = lb := ⟨_, rfl⟩
      have K9 : Blk w9 lb 56 #[.slice A8 nx c8, .int .i64 u1, .int .i64 u2] := by rw [← hw9, ← hlb]; exact Blk.new _ _ _
      have B89 : Below w8.heap.size w8 w9 := by rw [← hw9]; exact Ba (B0 w8) _
      have HB9 : Hid (Below W6.heap.size W6 w9) := Lib.hid (Bt HB7.out (Bt HB78.out B89))
      have HS9 := Lib.hid (slCt_on1 HS7.out (Bt HB78.out B89))
      have HXS := Lib.hid (fun W (hb : Below w9.heap.size w9 W) => (show SlI (fun b => b < W.heap.size) W (.slice A8 nx c8) xs from Sl.mono (SlI.keep HU8.out (Agree.below (Bt B89 hb) fun b h => h)) fun b h => Nat.lt_of_lt_of_le h (Bt B89 hb).size))
      have HK9 := Lib.hid (fun W (hb : Below w9.heap.size w9 W) => (Bc hb K9.lt).trans (K9.cell 0))
      rw [hw9, hlb]
      clear hw9 hlb B89 K9 x0 x1 x2 x3 x4 x5 x6 hnx
      obtain ⟨⟨x0, x1, x2⟩, ⟨x3, x4⟩, x5, x6⟩ := HKT.out w9 HB9.out
      go_upto_region 9 with (go_at_call 26; (with_reducible refine ((HHAS.out v7 l7 _ HS9.out).mono ?_)); rintro e w10 ⟨rfl, hb10⟩; rw [HM7.out]; have HB10 := Lib.hid hb10; clear x0 x1 x2 x3 x4 x5 x6; obtain ⟨⟨x0, x1, x2⟩, ⟨x3, x4⟩, x5, x6⟩ := HKT.out w10 (Bt HB9.out hb10); have y0 := HK9.out w10 hb10; clear hb10)
      simp only [List.getElem?_toArray, List.getElem?_cons_zero] at y0
      rcases hg1 with rfl | rfl
      · skip
        go_upto_region 14 with (first
          | (go_at_call 14; (with_reducible refine ((HFO2.out _ (Bt HB6.out (Bt HB9.out HB10.out)) _ (HXS.out _ HB10.out)).mono ?_)); rintro e w11 ⟨v11, rfl, hs11, hb11⟩; (have hvs : ∃ A11 c11, v11 = .slice A11 (n + 1) c11 := by obtain ⟨A11, c11, h, _⟩ := id hs11; rw [HN.out] at h; exact ⟨A11, c11, h⟩); obtain ⟨A11, c11, rfl⟩ := hvs; have HS11 := Lib.hid (SlCt.bnd3 hs11); have HB11 := Lib.hid (Bt HB10.out hb11); clear x0 x1 x2 x3 x4 x5 x6 y0; obtain ⟨⟨x0, x1, x2⟩, ⟨x3, x4⟩, x5, x6⟩ := HKT.out w11 (Bt HB9.out HB11.out); clear hb11 hs11)
          | (go_at_call 18; (with_reducible refine ((HCU2.out _ (Bt HB6.out (Bt HB9.out HB11.out))).mono ?_)); rintro e w12 ⟨v12, rfl, hs12, hb12⟩; (have hvs : ∃ A12 c12, v12 = .slice A12 mc c12 := by obtain ⟨A12, c12, h, _⟩ := id hs12; rw [HMM.out] at h; exact ⟨A12, c12, h⟩); obtain ⟨A12, c12, rfl⟩ := hvs; have HS12 := Lib.hid hs12; have HS112 := Lib.hid (slCt_on1 HS11.out hb12); have HB12 := Lib.hid (Bt HB11.out hb12); clear x0 x1 x2 x3 x4 x5 x6; obtain ⟨⟨x0, x1, x2⟩, ⟨x3, x4⟩, x5, x6⟩ := HKT.out w12 (Bt HB9.out HB12.out); clear hb12 hs12)
          | (go_at_call 30; (with_reducible refine ((HTO2.out _ (Bt HB6.out (Bt HB9.out HB12.out))).mono ?_)); rintro e w13 ⟨v13, rfl, hs13, hb13⟩; obtain ⟨A13, c13, rfl, -, -, -⟩ := id hs13; have HS13 := Lib.hid (show SlCh (fun b => b < w13.heap.size) w13 _ L' from Sl.mono hs13 fun b h => h.2); have HS113 := Lib.hid (slCt_on1 HS112.out hb13); have HS123 := Lib.hid (show SlI (fun b => b < w13.heap.size) w13 (.slice A12 mc c12) (intN (Hit.members B)) from Sl.mono (SlI.keep HS12.out (Agree.below hb13 fun b h => h)) fun b h => Nat.lt_of_lt_of_le h hb13.size); have HB13 := Lib.hid (Bt HB12.out hb13); clear x0 x1 x2 x3 x4 x5 x6; obtain ⟨⟨x0, x1, x2⟩, ⟨x3, x4⟩, x5, x6⟩ := HKT.out w13 (Bt HB9.out HB13.out); clear hb13 hs13))
        obtain ⟨A11', c11', e, -, -, h11⟩ := SlCt.open HS113.out
        injection e with e1 e2 e3
        subst e1; clear e2 e3
        obtain ⟨ad11, rfl, -, hfl11⟩ := h11 n (by rw [HN.out]; omega)
        rw [HLA.out (by rw [HN.out]; omega)] at hfl11
        have z0 := hfl11.f0 rfl
        have z1 := hfl11.f1 rfl
        have e1 : ((n : Int) + 1) - 1 = n := by omega
        have e2 : (n : Int) < (n : Int) + 1 := by omega
        have e3 : (((n : Int) + 1) == 0) = false := by simp; omega
        have e4 : ((mc : Int) == 0) = false := by simp; omega
        clear h11 hfl11
        go_quiet (fail)
        generalize hw14 : World.drewN w13 _ = w14
        have B14 : Below w13.heap.size w13 w14 := by rw [← hw14]; exact below_drewN (B0 w13) _
        have HB14 := Lib.hid (Bt HB13.out B14)
        have HS14 := Lib.hid (show SlCh (fun b => b < w14.heap.size) w14 (.slice A13 L'.length c13) L' from Sl.mono (Sl.keep HS13.out (Agree.below B14 fun b h => h) fun _ _ h => h.below B14) fun b h => Nat.lt_of_lt_of_le h B14.size)
        have HC14 := Lib.hid (show SlI (fun b => b < w14.heap.size) w14 (.slice A12 mc c12) (intN (Hit.members B)) from Sl.mono (SlI.keep HS123.out (Agree.below B14 fun b h => h)) fun b h => Nat.lt_of_lt_of_le h B14.size)
        clear hw14 B14 z0 z1 x0 x1 x2 x3 x4 x5 x6 e1 e2 e3 e4
        obtain ⟨⟨x0, x1, x2⟩, -, -⟩ := HKT.out w14 (Bt HB9.out HB14.out)
        obtain ⟨w15, hw15⟩ : ∃ w15 : World, w14.alloc (.cells #[.slice Ad a.divs.length cd, .slice Ac a.cps.length cc, .int .u64 a.drawn] 33) = w15 := ⟨_, rfl⟩
        obtain ⟨bl, hbl⟩ : ∃ bl, w14.heap.size = bl := ⟨_, rfl⟩
        have KL : Blk w15 bl 33 #[.slice Ad a.divs.length cd, .slice Ac a.cps.length cc, .int .u64 a.drawn] := by rw [← hw15, ← hbl]; exact Blk.new _ _ _
        have HB15 : Hid (Below w14.heap.size w14 w15) := Lib.hid (by rw [← hw15]; exact Ba (B0 w14) _)
        have HKL := Lib.hid KL
        have HBL2 := Lib.hid hbl
        go_upto_region 17 with fail
        try rw [hw15]
        try rw [hbl]
        clear hw15 hbl KL x0 x1 x2
        go_wp2_with fail
        go_loopg [20] mc (fun gg s20 wr => ∃ i : Nat, i ≤ mc ∧ mc - i ≤ gg ∧ s20 = .int .i64 i ∧ Aside (Blk wr bl 33 #[.slice Ad a.divs.length cd, .slice Ac a.cps.length cc, .int .u64 (Cha.wipF a.drawn ((Hit.members B).take i) : Nat)]) ∧ Aside (Below w14.heap.size w14 wr))
        case atStart => exact ⟨0, by omega, by omega, rfl, (show Aside _ from by show Blk _ _ _ _; rw [List.take_zero]; exact HKL.out), HB15.out⟩
        case round =>
          obtain ⟨i, hi, hgg, rfl, HK, HB⟩ := hrel
          replace HK : Hid (Blk wr bl 33 #[.slice Ad a.divs.length cd, .slice Ac a.cps.length cc, .int .u64 (Cha.wipF a.drawn ((Hit.members B).take i) : Nat)]) := Lib.hid HK
          replace HB : Hid (Below w14.heap.size w14 wr) := Lib.hid HB
          by_cases hlt : i < mc
          · have hltI : (i : Int) < mc := by omega
            have him : i < (Hit.members B).length := by rw [HMC.out]; exact hlt
            obtain ⟨A12', c12', e, -, -, h12⟩ := SlI.open HC14.out
            injection e with e1 e2 e3
            subst e1; clear e2 e3
            obtain ⟨ad12, rfl, hb12, hc12⟩ := h12 i (by rw [HMM.out]; exact hlt)
            have hij : (intN (Hit.members B))[i]'(by rw [HMM.out]; exact hlt) = (((Hit.members B)[i] : Nat) : Int) := by simp [intN]
            rw [hij] at hc12
            obtain ⟨hj1, hj2⟩ := HCHL.out _ (List.getElem_mem him)
            have hjB : B.testBit (Hit.members B)[i] = true := (Hit.mem_members.1 (List.getElem_mem him)).2
            have hstep : Cha.wipF a.drawn ((Hit.members B).take (i + 1)) = Hit.andn (Cha.wipF a.drawn ((Hit.members B).take i)) (Hit.bit (Hit.members B)[i]) := by
              rw [List.take_add_one, List.getElem?_eq_getElem him]
              unfold Cha.wipF
              rw [List.foldl_append]; rfl
            have hth := HG3.out
            obtain ⟨j, hj⟩ : ∃ j, (Hit.members B)[i] = j := ⟨_, rfl⟩
            rw [hj] at hc12 hj1 hj2 hjB hstep
            obtain ⟨d, hd⟩ : ∃ d, Cha.wipF a.drawn ((Hit.members B).take i) = d := ⟨_, rfl⟩
            have hdl : d < 2 ^ 64 := by rw [← hd]; exact Cha.wipF_lt _ _ hdr
            have hK := HK.out
            rw [hd] at hK hstep
            have hj4 : j < 4 := by omega
            have hjI : (j : Int) < a.cps.length := by omega
            have d1 : decide ((j : Int) < 0) = false := decide_eq_false (by omega)
            have d2 : decide ((a.cps.length : Int) ≤ j) = false := decide_eq_false (by omega)
            have d2n : decide (a.cps.length ≤ j) = false := decide_eq_false (by omega)
            have d2m : a.cps.length ≤ j ↔ False := iff_false_intro (by omega)
            have hcb : (ad12.add i).block < w14.heap.size := by rw [block_of_add]; exact hb12
            have kc : ∀ q : ClsR wr, q.w.cell? (ad12.add i) = some (.int .i64 (j : Nat)) := fun q => ((Bt HB.out q.b).cell (p := ad12.add i) hcb).trans hc12
            have ka0 : ∀ q : ClsR wr, q.w.cell? ⟨ab, 0, none⟩ = some (.slice Ad a.divs.length cd) := fun q => (HKT.out q.w (Bt HB9.out (Bt HB14.out (Bt HB.out q.b)))).1.1
            have ka1 : ∀ q : ClsR wr, q.w.cell? ⟨ab, 1, none⟩ = some (.slice Ac a.cps.length cc) := fun q => (HKT.out q.w (Bt HB9.out (Bt HB14.out (Bt HB.out q.b)))).1.2.1
            have ka2 : ∀ q : ClsR wr, q.w.cell? ⟨ab, 2, none⟩ = some (.int .u64 a.drawn) := fun q => (HKT.out q.w (Bt HB9.out (Bt HB14.out (Bt HB.out q.b)))).1.2.2
            have hdw : ∀ q : ClsR wr, Calls Tryd.prog 35 #[.agg #[.slice Ad a.divs.length cd, .slice Ac a.cps.length cc, .int .u64 a.drawn], .int .i64 j] q.w fun e w' => e = .returned (.bool true) ∧ ∃ r : ClsR wr, w' = r.w := fun q => (ldrawn4_any (.slice Ad a.divs.length cd) (.slice Ac a.cps.length cc) a.drawn hdr j (by omega) q.w).mono fun e w' ⟨q1, q2⟩ => ⟨by rw [q1, hj2], ClsR.mk' (Bt q.b q2), rfl⟩
            have htq : ∀ q : ClsR wr, Calls Tryd.prog 36 #[.slice A13 L'.length c13, .int .i64 j] q.w fun e w' => e = .returned (.bool (L'.any fun x => decide ((j : Int) ∈ x.1))) ∧ ∃ r : ClsR wr, w' = r.w := fun q => (through_any (.slice A13 L'.length c13) L' j q.w (fun b => b < w14.heap.size) (Sl.keep HS14.out (Agree.below (Bt HB.out q.b) fun b h => h) fun _ _ h => h.below (Bt HB.out q.b))).mono fun e w' ⟨q1, q2⟩ => ⟨q1, ClsR.mk' (Bt q.b q2), rfl⟩
            have hthj := hth (by trivial) j hjB; rw [hthj] at htq
            have HDW := Lib.hid hdw
            have HTQ := Lib.hid htq
            have HKK := Lib.hid hK
            have HSTP := Lib.hid hstep
            have HC1 := Lib.hid (fun W (hb : Below wr.heap.size wr W) => ((Bt HB.out hb).cell (p := ad12.add i) hcb).trans hc12)
            clear hdw htq hK hstep hj hd hth hjB hj1 hj2 h12 hij hc12 hb12 hcb HK him
            go_upto_region 20 with fail
            refine wp_region_classR (C := fun w' => ∃ q : ClsR wr, w' = q.w) (by kernel_rfl) (by kernel_rfl) ⟨ClsR.mk' (B0 wr).drew, rfl⟩ ?_
            repeat (any_goals (first | go_big_quiet_step (first | (go_at_call 35; with_reducible exact HDW.out _) | (go_at_call 36; with_reducible exact HTQ.out _)) | quiet_step (first | (go_at_call 35; with_reducible exact HDW.out _) | (go_at_call 36; with_reducible exact HTQ.out _))))
            refine wpQuiet_nil ?_
            rintro _ ⟨q, rfl⟩
            have HB16 := Lib.hid (show Below wr.heap.size wr q.w from q.b)
            clear kc ka0 ka1 ka2
            generalize q.w = w16 at *
            have K16 := HKK.out.below HB16.out HKK.out.lt
            have g2 := K16.cell 2
            have f2 := K16.frozen 2
            have gc := HC1.out w16 HB16.out
            simp only [List.getElem?_toArray, List.getElem?_cons_zero, List.getElem?_cons_succ] at g2
            have h3 : ((j : Nat) : Int) % 18446744073709551616 = j := by omega
            have h4 : min j 64 = j := by omega
            have hsh : IntKind.u64.wrap ((2 : Int) ^ j) = ((Hit.bit j : Nat) : Int) := Hit.two_u64w j (by omega)
            have hbl : Hit.bit j < 2 ^ 64 := Nat.pow_lt_pow_right (by decide) (by omega)
            have hand : bits .andNot .u64 (d : Int) ((Hit.bit j : Nat) : Int) = ((Hit.andn d (Hit.bit j) : Nat) : Int) := Hit.u64_andn d (Hit.bit j) hdl hbl
            have HK16 := Lib.hid K16
            obtain ⟨bj, hbj⟩ : ∃ bj, Hit.bit j = bj := ⟨_, rfl⟩
            rw [hbj] at hsh hand hbl HSTP
            obtain ⟨dn, hdn⟩ : ∃ dn, Hit.andn d bj = dn := ⟨_, rfl⟩
            rw [hdn] at hand HSTP
            clear K16 hbj hdn hbl hdl d1 d2 d2n d2m
            go_upto_region 22 with fail
            go_region
            all_goals
              go_wp2_with fail
              go_roundg (mc - (i + 1))
              case measure => omega
              case rel =>
                refine ⟨i + 1, by omega, by omega, by go_num, ?_, ?_⟩
                · refine (show Aside _ from ?_)
                  show Blk _ _ _ _
                  rw [HSTP.out]
                  have h : Blk (w16.setCell ⟨bl, 2, none⟩ (.int .u64 dn)) bl 33 #[.slice Ad a.divs.length cd, .slice Ac a.cps.length cc, .int .u64 dn] := by simpa using HK16.out.set_ 2 (.int .u64 dn)
                  exact h
                · refine (show Aside _ from ?_)
                  show Below _ _ _
                  exact Bs (Bt HB.out HB16.out).drew _ (by rw [← HBL2.out]; exact Nat.le_refl _)
          · obtain rfl : i = mc := by omega
            have hK := HK.out
            rw [← HMC.out, List.take_length, Cha.wip_all B hB16 a.drawn HD16.out] at hK
            have g0 := hK.cell 0
            have g1 := hK.cell 1
            have g2 := hK.cell 2
            simp only [List.getElem?_toArray, List.getElem?_cons_zero, List.getElem?_cons_succ] at g0 g1 g2
            obtain ⟨-, ⟨x3, x4⟩, x5, x6⟩ := HKT.out wr (Bt HB9.out (Bt HB14.out HB.out))
            clear hK HK
            go_wp2_with (go_at_call 31; (with_reducible refine ((HL2.out _ (Bt HB6.out (Bt HB9.out (Bt HB14.out HB.out)))).mono ?_)); rintro e w17 ⟨u17, rfl, hu17, hb17⟩; obtain ⟨A17, c17, rfl, -, -, -⟩ := SlI.open hu17; have HB17 := Lib.hid (Bt HB.out hb17); clear hu17 hb17)
            go_ret
            exact ⟨rfl, Bt HB4.out (Bt HB6.out (Bt HB9.out (Bt HB14.out (Ba HB17.out _))))⟩
      · skip
        go_upto_region 14 with (first
          | (go_at_call 14; (with_reducible refine ((HFO2.out _ (Bt HB6.out (Bt HB9.out HB10.out)) _ (HXS.out _ HB10.out)).mono ?_)); rintro e w11 ⟨v11, rfl, hs11, hb11⟩; (have hvs : ∃ A11 c11, v11 = .slice A11 (n + 1) c11 := by obtain ⟨A11, c11, h, _⟩ := id hs11; rw [HN.out] at h; exact ⟨A11, c11, h⟩); obtain ⟨A11, c11, rfl⟩ := hvs; have HS11 := Lib.hid (SlCt.bnd3 hs11); have HB11 := Lib.hid (Bt HB10.out hb11); clear x0 x1 x2 x3 x4 x5 x6 y0; obtain ⟨⟨x0, x1, x2⟩, ⟨x3, x4⟩, x5, x6⟩ := HKT.out w11 (Bt HB9.out HB11.out); clear hb11 hs11)
          | (go_at_call 18; (with_reducible refine ((HCU2.out _ (Bt HB6.out (Bt HB9.out HB11.out))).mono ?_)); rintro e w12 ⟨v12, rfl, hs12, hb12⟩; (have hvs : ∃ A12 c12, v12 = .slice A12 mc c12 := by obtain ⟨A12, c12, h, _⟩ := id hs12; rw [HMM.out] at h; exact ⟨A12, c12, h⟩); obtain ⟨A12, c12, rfl⟩ := hvs; have HS12 := Lib.hid hs12; have HS112 := Lib.hid (slCt_on1 HS11.out hb12); have HB12 := Lib.hid (Bt HB11.out hb12); clear x0 x1 x2 x3 x4 x5 x6; obtain ⟨⟨x0, x1, x2⟩, ⟨x3, x4⟩, x5, x6⟩ := HKT.out w12 (Bt HB9.out HB12.out); clear hb12 hs12)
          | (go_at_call 30; (with_reducible refine ((HTO2.out _ (Bt HB6.out (Bt HB9.out HB12.out))).mono ?_)); rintro e w13 ⟨v13, rfl, hs13, hb13⟩; obtain ⟨A13, c13, rfl, -, -, -⟩ := id hs13; have HS13 := Lib.hid (show SlCh (fun b => b < w13.heap.size) w13 _ L' from Sl.mono hs13 fun b h => h.2); have HS113 := Lib.hid (slCt_on1 HS112.out hb13); have HS123 := Lib.hid (show SlI (fun b => b < w13.heap.size) w13 (.slice A12 mc c12) (intN (Hit.members B)) from Sl.mono (SlI.keep HS12.out (Agree.below hb13 fun b h => h)) fun b h => Nat.lt_of_lt_of_le h hb13.size); have HB13 := Lib.hid (Bt HB12.out hb13); clear x0 x1 x2 x3 x4 x5 x6; obtain ⟨⟨x0, x1, x2⟩, ⟨x3, x4⟩, x5, x6⟩ := HKT.out w13 (Bt HB9.out HB13.out); clear hb13 hs13))
        obtain ⟨A11', c11', e, -, -, h11⟩ := SlCt.open HS113.out
        injection e with e1 e2 e3
        subst e1; clear e2 e3
        obtain ⟨ad11, rfl, -, hfl11⟩ := h11 n (by rw [HN.out]; omega)
        rw [HLA.out (by rw [HN.out]; omega)] at hfl11
        have z0 := hfl11.f0 rfl
        have z1 := hfl11.f1 rfl
        have e1 : ((n : Int) + 1) - 1 = n := by omega
        have e2 : (n : Int) < (n : Int) + 1 := by omega
        have e3 : (((n : Int) + 1) == 0) = false := by simp; omega
        have e4 : ((mc : Int) == 0) = false := by simp; omega
        clear h11 hfl11
        go_quiet (fail)
        generalize hw14 : World.drewN w13 _ = w14
        have B14 : Below w13.heap.size w13 w14 := by rw [← hw14]; exact below_drewN (B0 w13) _
        have HB14 := Lib.hid (Bt HB13.out B14)
        have HS14 := Lib.hid (show SlCh (fun b => b < w14.heap.size) w14 (.slice A13 L'.length c13) L' from Sl.mono (Sl.keep HS13.out (Agree.below B14 fun b h => h) fun _ _ h => h.below B14) fun b h => Nat.lt_of_lt_of_le h B14.size)
        have HC14 := Lib.hid (show SlI (fun b => b < w14.heap.size) w14 (.slice A12 mc c12) (intN (Hit.members B)) from Sl.mono (SlI.keep HS123.out (Agree.below B14 fun b h => h)) fun b h => Nat.lt_of_lt_of_le h B14.size)
        clear hw14 B14 z0 z1 x0 x1 x2 x3 x4 x5 x6 e1 e2 e3 e4
        obtain ⟨⟨x0, x1, x2⟩, -, -⟩ := HKT.out w14 (Bt HB9.out HB14.out)
        obtain ⟨w15, hw15⟩ : ∃ w15 : World, w14.alloc (.cells #[.slice Ad a.divs.length cd, .slice Ac a.cps.length cc, .int .u64 a.drawn] 33) = w15 := ⟨_, rfl⟩
        obtain ⟨bl, hbl⟩ : ∃ bl, w14.heap.size = bl := ⟨_, rfl⟩
        have KL : Blk w15 bl 33 #[.slice Ad a.divs.length cd, .slice Ac a.cps.length cc, .int .u64 a.drawn] := by rw [← hw15, ← hbl]; exact Blk.new _ _ _
        have HB15 : Hid (Below w14.heap.size w14 w15) := Lib.hid (by rw [← hw15]; exact Ba (B0 w14) _)
        have HKL := Lib.hid KL
        have HBL2 := Lib.hid hbl
        go_upto_region 17 with fail
        try rw [hw15]
        try rw [hbl]
        clear hw15 hbl KL x0 x1 x2
        go_wp2_with fail
        go_loopg [20] mc (fun gg s20 wr => ∃ i : Nat, i ≤ mc ∧ mc - i ≤ gg ∧ s20 = .int .i64 i ∧ Aside (Blk wr bl 33 #[.slice Ad a.divs.length cd, .slice Ac a.cps.length cc, .int .u64 (Cha.wipF a.drawn ((Hit.members B).take i) : Nat)]) ∧ Aside (Below w14.heap.size w14 wr))
        case atStart => exact ⟨0, by omega, by omega, rfl, (show Aside _ from by show Blk _ _ _ _; rw [List.take_zero]; exact HKL.out), HB15.out⟩
        case round =>
          obtain ⟨i, hi, hgg, rfl, HK, HB⟩ := hrel
          replace HK : Hid (Blk wr bl 33 #[.slice Ad a.divs.length cd, .slice Ac a.cps.length cc, .int .u64 (Cha.wipF a.drawn ((Hit.members B).take i) : Nat)]) := Lib.hid HK
          replace HB : Hid (Below w14.heap.size w14 wr) := Lib.hid HB
          by_cases hlt : i < mc
          · have hltI : (i : Int) < mc := by omega
            have him : i < (Hit.members B).length := by rw [HMC.out]; exact hlt
            obtain ⟨A12', c12', e, -, -, h12⟩ := SlI.open HC14.out
            injection e with e1 e2 e3
            subst e1; clear e2 e3
            obtain ⟨ad12, rfl, hb12, hc12⟩ := h12 i (by rw [HMM.out]; exact hlt)
            have hij : (intN (Hit.members B))[i]'(by rw [HMM.out]; exact hlt) = (((Hit.members B)[i] : Nat) : Int) := by simp [intN]
            rw [hij] at hc12
            obtain ⟨hj1, hj2⟩ := HCHL.out _ (List.getElem_mem him)
            have hjB : B.testBit (Hit.members B)[i] = true := (Hit.mem_members.1 (List.getElem_mem him)).2
            have hstep : Cha.wipF a.drawn ((Hit.members B).take (i + 1)) = Hit.andn (Cha.wipF a.drawn ((Hit.members B).take i)) (Hit.bit (Hit.members B)[i]) := by
              rw [List.take_add_one, List.getElem?_eq_getElem him]
              unfold Cha.wipF
              rw [List.foldl_append]; rfl
            have hth := HG3.out
            obtain ⟨j, hj⟩ : ∃ j, (Hit.members B)[i] = j := ⟨_, rfl⟩
            rw [hj] at hc12 hj1 hj2 hjB hstep
            obtain ⟨d, hd⟩ : ∃ d, Cha.wipF a.drawn ((Hit.members B).take i) = d := ⟨_, rfl⟩
            have hdl : d < 2 ^ 64 := by rw [← hd]; exact Cha.wipF_lt _ _ hdr
            have hK := HK.out
            rw [hd] at hK hstep
            have hj4 : j < 4 := by omega
            have hjI : (j : Int) < a.cps.length := by omega
            have d1 : decide ((j : Int) < 0) = false := decide_eq_false (by omega)
            have d2 : decide ((a.cps.length : Int) ≤ j) = false := decide_eq_false (by omega)
            have d2n : decide (a.cps.length ≤ j) = false := decide_eq_false (by omega)
            have d2m : a.cps.length ≤ j ↔ False := iff_false_intro (by omega)
            have hcb : (ad12.add i).block < w14.heap.size := by rw [block_of_add]; exact hb12
            have kc : ∀ q : ClsR wr, q.w.cell? (ad12.add i) = some (.int .i64 (j : Nat)) := fun q => ((Bt HB.out q.b).cell (p := ad12.add i) hcb).trans hc12
            have ka0 : ∀ q : ClsR wr, q.w.cell? ⟨ab, 0, none⟩ = some (.slice Ad a.divs.length cd) := fun q => (HKT.out q.w (Bt HB9.out (Bt HB14.out (Bt HB.out q.b)))).1.1
            have ka1 : ∀ q : ClsR wr, q.w.cell? ⟨ab, 1, none⟩ = some (.slice Ac a.cps.length cc) := fun q => (HKT.out q.w (Bt HB9.out (Bt HB14.out (Bt HB.out q.b)))).1.2.1
            have ka2 : ∀ q : ClsR wr, q.w.cell? ⟨ab, 2, none⟩ = some (.int .u64 a.drawn) := fun q => (HKT.out q.w (Bt HB9.out (Bt HB14.out (Bt HB.out q.b)))).1.2.2
            have hdw : ∀ q : ClsR wr, Calls Tryd.prog 35 #[.agg #[.slice Ad a.divs.length cd, .slice Ac a.cps.length cc, .int .u64 a.drawn], .int .i64 j] q.w fun e w' => e = .returned (.bool true) ∧ ∃ r : ClsR wr, w' = r.w := fun q => (ldrawn4_any (.slice Ad a.divs.length cd) (.slice Ac a.cps.length cc) a.drawn hdr j (by omega) q.w).mono fun e w' ⟨q1, q2⟩ => ⟨by rw [q1, hj2], ClsR.mk' (Bt q.b q2), rfl⟩
            have htq : ∀ q : ClsR wr, Calls Tryd.prog 36 #[.slice A13 L'.length c13, .int .i64 j] q.w fun e w' => e = .returned (.bool (L'.any fun x => decide ((j : Int) ∈ x.1))) ∧ ∃ r : ClsR wr, w' = r.w := fun q => (through_any (.slice A13 L'.length c13) L' j q.w (fun b => b < w14.heap.size) (Sl.keep HS14.out (Agree.below (Bt HB.out q.b) fun b h => h) fun _ _ h => h.below (Bt HB.out q.b))).mono fun e w' ⟨q1, q2⟩ => ⟨q1, ClsR.mk' (Bt q.b q2), rfl⟩
            skip
            have HDW := Lib.hid hdw
            have HTQ := Lib.hid htq
            have HKK := Lib.hid hK
            have HSTP := Lib.hid hstep
            have HC1 := Lib.hid (fun W (hb : Below wr.heap.size wr W) => ((Bt HB.out hb).cell (p := ad12.add i) hcb).trans hc12)
            clear hdw htq hK hstep hj hd hth hjB hj1 hj2 h12 hij hc12 hb12 hcb HK him
            go_upto_region 20 with fail
            refine wp_region_classR (C := fun w' => ∃ q : ClsR wr, w' = q.w) (by kernel_rfl) (by kernel_rfl) ⟨ClsR.mk' (B0 wr).drew, rfl⟩ ?_
            repeat (any_goals (first | go_big_quiet_step (first | (go_at_call 35; with_reducible exact HDW.out _) | (go_at_call 36; with_reducible exact HTQ.out _)) | quiet_step (first | (go_at_call 35; with_reducible exact HDW.out _) | (go_at_call 36; with_reducible exact HTQ.out _))))
            refine wpQuiet_nil ?_
            rintro _ ⟨q, rfl⟩
            have HB16 := Lib.hid (show Below wr.heap.size wr q.w from q.b)
            clear kc ka0 ka1 ka2
            generalize q.w = w16 at *
            have K16 := HKK.out.below HB16.out HKK.out.lt
            have g2 := K16.cell 2
            have f2 := K16.frozen 2
            have gc := HC1.out w16 HB16.out
            simp only [List.getElem?_toArray, List.getElem?_cons_zero, List.getElem?_cons_succ] at g2
            have h3 : ((j : Nat) : Int) % 18446744073709551616 = j := by omega
            have h4 : min j 64 = j := by omega
            have hsh : IntKind.u64.wrap ((2 : Int) ^ j) = ((Hit.bit j : Nat) : Int) := Hit.two_u64w j (by omega)
            have hbl : Hit.bit j < 2 ^ 64 := Nat.pow_lt_pow_right (by decide) (by omega)
            have hand : bits .andNot .u64 (d : Int) ((Hit.bit j : Nat) : Int) = ((Hit.andn d (Hit.bit j) : Nat) : Int) := Hit.u64_andn d (Hit.bit j) hdl hbl
            have HK16 := Lib.hid K16
            obtain ⟨bj, hbj⟩ : ∃ bj, Hit.bit j = bj := ⟨_, rfl⟩
            rw [hbj] at hsh hand hbl HSTP
            obtain ⟨dn, hdn⟩ : ∃ dn, Hit.andn d bj = dn := ⟨_, rfl⟩
            rw [hdn] at hand HSTP
            clear K16 hbj hdn hbl hdl d1 d2 d2n d2m
            go_upto_region 22 with fail
            go_region
            all_goals
              go_wp2_with fail
              go_roundg (mc - (i + 1))
              case measure => omega
              case rel =>
                refine ⟨i + 1, by omega, by omega, by go_num, ?_, ?_⟩
                · refine (show Aside _ from ?_)
                  show Blk _ _ _ _
                  rw [HSTP.out]
                  have h : Blk (w16.setCell ⟨bl, 2, none⟩ (.int .u64 dn)) bl 33 #[.slice Ad a.divs.length cd, .slice Ac a.cps.length cc, .int .u64 dn] := by simpa using HK16.out.set_ 2 (.int .u64 dn)
                  exact h
                · refine (show Aside _ from ?_)
                  show Below _ _ _
                  exact Bs (Bt HB.out HB16.out).drew _ (by rw [← HBL2.out]; exact Nat.le_refl _)
          · obtain rfl : i = mc := by omega
            have hK := HK.out
            rw [← HMC.out, List.take_length, Cha.wip_all B hB16 a.drawn HD16.out] at hK
            have g0 := hK.cell 0
            have g1 := hK.cell 1
            have g2 := hK.cell 2
            simp only [List.getElem?_toArray, List.getElem?_cons_zero, List.getElem?_cons_succ] at g0 g1 g2
            obtain ⟨-, ⟨x3, x4⟩, x5, x6⟩ := HKT.out wr (Bt HB9.out (Bt HB14.out HB.out))
            clear hK HK
            go_wp2_with (go_at_call 31; (with_reducible refine ((HL2.out _ (Bt HB6.out (Bt HB9.out (Bt HB14.out HB.out)))).mono ?_)); rintro e w17 ⟨u17, rfl, hu17, hb17⟩; obtain ⟨A17, c17, rfl, -, -, -⟩ := SlI.open hu17; have HB17 := Lib.hid (Bt HB.out hb17); clear hu17 hb17)
            go_ret
            exact ⟨rfl, Bt HB4.out (Bt HB6.out (Bt HB9.out (Bt HB14.out (Ba HB17.out _))))⟩
end Go.Proofs.YtahlfndlkfoikaaDoor
