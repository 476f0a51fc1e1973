/- Walks over chain's statements: start. -/
import Derived.Test.YtahlfndlkfoikaaDoorEh
namespace Go.Proofs.YtahlfndlkfoikaaDoor
open Go Go.RowKit Go.Shelf
namespace Cha
/-- A key of an action by a number. -/
def startF (a : Cou.Ac) (key : Nat) : Cou.Ct :=
  (((key % a.divs.length : Nat) : Int), (a.divs.getD (key % a.divs.length) (0, 0)).1 + ((key / 3 : Nat) : Int) % ((a.divs.getD (key % a.divs.length) (0, 0)).2 - (a.divs.getD (key % a.divs.length) (0, 0)).1 + 1))
theorem start_in {a : Cou.Ac} (hok : Cou.Ok a) (h1 : 1 ≤ a.divs.length) (key : Nat) : Cou.InA a (startF a key) := by
  have hd : key % a.divs.length < a.divs.length := Nat.mod_lt _ h1
  unfold startF Cou.InA
  generalize key % a.divs.length = d at *
  have hdv := hok.div a.divs[d] (List.getElem_mem hd)
  have hg : ∀ z, a.divs.getD d z = a.divs[d] := fun z => by rw [List.getD_eq_getElem?_getD, List.getElem?_eq_getElem hd]; rfl
  have q1 := Int.emod_nonneg ((key / 3 : Nat) : Int) (show a.divs[d].2 - a.divs[d].1 + 1 ≠ 0 by omega)
  have q2 := Int.emod_lt_of_pos ((key / 3 : Nat) : Int) (show 0 < a.divs[d].2 - a.divs[d].1 + 1 by omega)
  rw [hg]
  refine ⟨by show 0 ≤ (d : Int); omega, by show (d : Int) < _; omega, ?_⟩
  show Cou.inB (a.divs.getD (d : Int).toNat (0, -1)) _ = true
  rw [Int.toNat_natCast, hg]
  unfold Cou.inB
  simp only [Bool.and_eq_true, decide_eq_true_eq]
  omega
end Cha
/-- What holds behind each operation of a drawn region. -/
def FA24 (p0 : Nat) (ad : Addr) (n cd d : Nat) (lo hi : Int) (j : Nat) (s : Nat → Value) (_w : World) : Prop :=
  match j with
  | 0 => s 13 = .pointer (some ⟨p0, 0, none⟩)
  | 1 => s 14 = .slice (some ad) n cd
  | 2 => s 15 = .int .i64 (d : Nat)
  | 3 => s 16 = .pointer (some (ad.add (d * 2)))
  | 4 => s 17 = .pointer (some ⟨(ad.add (d * 2)).block, (ad.add (d * 2)).off + 1, none⟩)
  | 5 => s 18 = .int .i64 hi
  | 6 => s 19 = .pointer (some ⟨p0, 0, none⟩)
  | 7 => s 20 = .slice (some ad) n cd
  | 8 => s 21 = .int .i64 (d : Nat)
  | 9 => s 22 = .pointer (some (ad.add (d * 2)))
  | 10 => s 23 = .pointer (some (ad.add (d * 2)))
  | 11 => s 24 = .int .i64 lo
  | 12 => s 25 = .int .i64 (hi - lo)
  | 13 => s 26 = .int .i64 (hi - lo + 1)
  | 14 => s 6 = .int .i64 (hi - lo + 1)
  | _ => True
def VA24 (j : Nat) : List Nat := match j with
  | 0 => [13] | 1 => [14] | 2 => [15] | 3 => [16] | 4 => [17] | 5 => [18] | 6 => [19] | 7 => [20] | 8 => [21] | 9 => [22] | 10 => [23] | 11 => [24] | 12 => [25] | 13 => [26] | 14 => [6] | _ => []
def EA24 (j : Nat) : Bool := j == 14
theorem FA24_V (p0 : Nat) (ad : Addr) (n cd d : Nat) (lo hi : Int) (j : Nat) (s s' : Nat → Value) (w : World) (h : ∀ t, t ∈ VA24 j → s' t = s t) (hF : FA24 p0 ad n cd d lo hi j s w) : FA24 p0 ad n cd d lo hi j s' w := by
  match j with
  | 0 => unfold FA24 at hF ⊢; simp only at hF ⊢; rw [h 13 (by simp [VA24])]; exact hF
  | 1 => unfold FA24 at hF ⊢; simp only at hF ⊢; rw [h 14 (by simp [VA24])]; exact hF
  | 2 => unfold FA24 at hF ⊢; simp only at hF ⊢; rw [h 15 (by simp [VA24])]; exact hF
  | 3 => unfold FA24 at hF ⊢; simp only at hF ⊢; rw [h 16 (by simp [VA24])]; exact hF
  | 4 => unfold FA24 at hF ⊢; simp only at hF ⊢; rw [h 17 (by simp [VA24])]; exact hF
  | 5 => unfold FA24 at hF ⊢; simp only at hF ⊢; rw [h 18 (by simp [VA24])]; exact hF
  | 6 => unfold FA24 at hF ⊢; simp only at hF ⊢; rw [h 19 (by simp [VA24])]; exact hF
  | 7 => unfold FA24 at hF ⊢; simp only at hF ⊢; rw [h 20 (by simp [VA24])]; exact hF
  | 8 => unfold FA24 at hF ⊢; simp only at hF ⊢; rw [h 21 (by simp [VA24])]; exact hF
  | 9 => unfold FA24 at hF ⊢; simp only at hF ⊢; rw [h 22 (by simp [VA24])]; exact hF
  | 10 => unfold FA24 at hF ⊢; simp only at hF ⊢; rw [h 23 (by simp [VA24])]; exact hF
  | 11 => unfold FA24 at hF ⊢; simp only at hF ⊢; rw [h 24 (by simp [VA24])]; exact hF
  | 12 => unfold FA24 at hF ⊢; simp only at hF ⊢; rw [h 25 (by simp [VA24])]; exact hF
  | 13 => unfold FA24 at hF ⊢; simp only at hF ⊢; rw [h 26 (by simp [VA24])]; exact hF
  | 14 => unfold FA24 at hF ⊢; simp only at hF ⊢; rw [h 6 (by simp [VA24])]; exact hF
  | _ + 15 => trivial
theorem FA24_below (p0 : Nat) (ad : Addr) (n cd d : Nat) (lo hi : Int) (j : Nat) (s : Nat → Value) (w w' : World) (_hb : Below w.heap.size w w') (hF : FA24 p0 ad n cd d lo hi j s w) : FA24 p0 ad n cd d lo hi j s w' := by
  match j with
  | 0 => exact hF
  | 1 => exact hF
  | 2 => exact hF
  | 3 => exact hF
  | 4 => exact hF
  | 5 => exact hF
  | 6 => exact hF
  | 7 => exact hF
  | 8 => exact hF
  | 9 => exact hF
  | 10 => exact hF
  | 11 => exact hF
  | 12 => exact hF
  | 13 => exact hF
  | 14 => exact hF
  | _ + 15 => trivial
/-- What holds behind each operation of a drawn region. -/
def FB24 (p0 : Nat) (ad : Addr) (n cd d key : Nat) (lo hi : Int) (j : Nat) (s : Nat → Value) (w : World) : Prop :=
  match j with
  | 0 => s 27 = .int .i64 (d : Nat)
  | 1 => s 28 = .pointer (some ⟨p0, 0, none⟩)
  | 2 => s 29 = .slice (some ad) n cd
  | 3 => s 30 = .int .i64 (d : Nat)
  | 4 => s 31 = .pointer (some (ad.add (d * 2)))
  | 5 => s 32 = .pointer (some (ad.add (d * 2)))
  | 6 => s 33 = .int .i64 lo
  | 7 => s 34 = .int .u8 (key : Nat)
  | 8 => s 35 = .int .i64 (key : Nat)
  | 9 => s 36 = .int .i64 ((key : Int) / 3)
  | 10 => s 37 = .int .i64 (hi - lo + 1)
  | 11 => s 38 = .int .i64 (((key : Int) / 3).tmod (hi - lo + 1))
  | 12 => s 39 = .int .i64 (lo + ((key : Int) / 3).tmod (hi - lo + 1))
  | 13 => s 40 = .agg #[.int .i64 (d : Nat), .int .i64 (lo + ((key : Int) / 3).tmod (hi - lo + 1))]
  | 14 => Blk w (p0 + 1) 36 #[.int .i64 (d : Nat), .int .i64 (lo + ((key : Int) / 3).tmod (hi - lo + 1))]
  | _ => True
def VB24 (j : Nat) : List Nat := match j with
  | 0 => [27] | 1 => [28] | 2 => [29] | 3 => [30] | 4 => [31] | 5 => [32] | 6 => [33] | 7 => [34] | 8 => [35] | 9 => [36] | 10 => [37] | 11 => [38] | 12 => [39] | 13 => [40] | 14 => [] | _ => []
def EB24 (j : Nat) : Bool := j == 14
theorem FB24_V (p0 : Nat) (ad : Addr) (n cd d key : Nat) (lo hi : Int) (j : Nat) (s s' : Nat → Value) (w : World) (h : ∀ t, t ∈ VB24 j → s' t = s t) (hF : FB24 p0 ad n cd d key lo hi j s w) : FB24 p0 ad n cd d key lo hi j s' w := by
  match j with
  | 0 => unfold FB24 at hF ⊢; simp only at hF ⊢; rw [h 27 (by simp [VB24])]; exact hF
  | 1 => unfold FB24 at hF ⊢; simp only at hF ⊢; rw [h 28 (by simp [VB24])]; exact hF
  | 2 => unfold FB24 at hF ⊢; simp only at hF ⊢; rw [h 29 (by simp [VB24])]; exact hF
  | 3 => unfold FB24 at hF ⊢; simp only at hF ⊢; rw [h 30 (by simp [VB24])]; exact hF
  | 4 => unfold FB24 at hF ⊢; simp only at hF ⊢; rw [h 31 (by simp [VB24])]; exact hF
  | 5 => unfold FB24 at hF ⊢; simp only at hF ⊢; rw [h 32 (by simp [VB24])]; exact hF
  | 6 => unfold FB24 at hF ⊢; simp only at hF ⊢; rw [h 33 (by simp [VB24])]; exact hF
  | 7 => unfold FB24 at hF ⊢; simp only at hF ⊢; rw [h 34 (by simp [VB24])]; exact hF
  | 8 => unfold FB24 at hF ⊢; simp only at hF ⊢; rw [h 35 (by simp [VB24])]; exact hF
  | 9 => unfold FB24 at hF ⊢; simp only at hF ⊢; rw [h 36 (by simp [VB24])]; exact hF
  | 10 => unfold FB24 at hF ⊢; simp only at hF ⊢; rw [h 37 (by simp [VB24])]; exact hF
  | 11 => unfold FB24 at hF ⊢; simp only at hF ⊢; rw [h 38 (by simp [VB24])]; exact hF
  | 12 => unfold FB24 at hF ⊢; simp only at hF ⊢; rw [h 39 (by simp [VB24])]; exact hF
  | 13 => unfold FB24 at hF ⊢; simp only at hF ⊢; rw [h 40 (by simp [VB24])]; exact hF
  | 14 => exact hF
  | _ + 15 => trivial
theorem FB24_below (p0 : Nat) (ad : Addr) (n cd d key : Nat) (lo hi : Int) (j : Nat) (s : Nat → Value) (w w' : World) (hb : Below w.heap.size w w') (hF : FB24 p0 ad n cd d key lo hi j s w) : FB24 p0 ad n cd d key lo hi j s w' := by
  match j with
  | 0 => exact hF
  | 1 => exact hF
  | 2 => exact hF
  | 3 => exact hF
  | 4 => exact hF
  | 5 => exact hF
  | 6 => exact hF
  | 7 => exact hF
  | 8 => exact hF
  | 9 => exact hF
  | 10 => exact hF
  | 11 => exact hF
  | 12 => exact hF
  | 13 => exact hF
  | 14 => exact Blk.below hF hb (Blk.lt hF)
  | _ + 15 => trivial
set_option maxRecDepth 100000 in
set_option maxHeartbeats 4000000 in
theorem start_any (a : Cou.Ac) (hok : Cou.Ok a) (hn1 : 1 ≤ a.divs.length) (vd vc : Value) (key : Nat) (hkey : key < 256) (dr : Int) (w : World) (F : Nat → Prop) (hA : AcAt F w vd vc a) :
    Calls Tryd.prog 13 #[.agg #[vd, vc, .int .u64 dr], .int .u8 key] w fun e w' => e = .returned (.agg #[.int .i64 (Cha.startF a key).1, .int .i64 (Cha.startF a key).2]) ∧ Below w.heap.size w w' := by
  obtain ⟨Ad, cd, hvd, -, hdat⟩ := id hA.dv.open
  obtain ⟨Ac, cc, hvc, -, -⟩ := id hA.cp.open
  subst hvd hvc
  have hFF := hA.inW
  have hd : key % a.divs.length < a.divs.length := Nat.mod_lt _ hn1
  have hZ : Cha.startF a key = (((key % a.divs.length : Nat) : Int), a.divs[key % a.divs.length].1 + ((key : Int) / 3).tmod (a.divs[key % a.divs.length].2 - a.divs[key % a.divs.length].1 + 1)) := by
    unfold Cha.startF
    rw [List.getD_eq_getElem?_getD, List.getElem?_eq_getElem hd]
    simp only [Option.getD_some]
    rw [Int.tmod_eq_emod_of_nonneg (by omega)]
    simp
  obtain ⟨ad, hAd, hfb, hfl⟩ := hdat _ hd
  subst hAd
  have hdv := hok.div a.divs[key % a.divs.length] (List.getElem_mem hd)
  have hmod : (key : Int).tmod a.divs.length = ((key % a.divs.length : Nat) : Int) := rfl
  have hnd := hok.nd
  generalize a.divs[key % a.divs.length] = x at *
  obtain ⟨lo, hi⟩ := x
  dsimp only at hfl hdv hZ
  generalize key % a.divs.length = d at *
  clear hdat
  have hfb2 : (ad.add (d * 2)).block < w.heap.size := by rw [block_of_add]; exact hFF _ hfb
  clear hA hok
  generalize a.divs.length = n at *
  generalize a.cps.length = cl at *
  have HZ := Lib.hid hZ
  clear hZ
  obtain ⟨p0, hp0⟩ : ∃ p0, w.heap.size = p0 := ⟨_, rfl⟩
  obtain ⟨w1, hw1⟩ : ∃ w1 : World, (w.alloc (.cells #[.slice (some ad) n cd, .slice Ac cl cc, .int .u64 dr] 33)).alloc (.cells #[.int .i64 0, .int .i64 0] 36) = w1 := ⟨_, rfl⟩
  have e0 : w1.cell? ⟨p0, 0, none⟩ = some (.slice (some ad) n cd) := by rw [← hw1, ← hp0]; simp [go_sem]
  have l0 : p0 < w1.heap.size := by rw [← hw1, ← hp0]; simp; omega
  have K0 : Blk w1 (p0 + 1) 36 #[.int .i64 0, .int .i64 0] := by
    have := Blk.new (w.alloc (.cells #[.slice (some ad) n cd, .slice Ac cl cc, .int .u64 dr] 33)) 36 #[.int .i64 0, .int .i64 0]
    rw [hw1] at this
    rw [← hp0]
    simpa using this
  have hB1 : Below w.heap.size w w1 := by rw [← hw1]; exact Ba (Ba (B0 w) _) _
  have HB1 := Lib.hid hB1
  have HKB : Hid (KeepB w1 (p0 + 1) 36 w1) := Lib.hid ⟨rfl, rfl, rfl, Nat.le_refl _, fun _ _ _ => rfl, _, _, K0⟩
  have HBL := Lib.hid (fun (W : World) (hb : KeepB w1 (p0 + 1) 36 W) => KeepB.below_of HB1.out hb (by rw [← hp0]; omega))
  have HS := Lib.hid (fun (W : World) (hb : KeepB w1 (p0 + 1) 36 W) => (show W.cell? ⟨p0, 0, none⟩ = some (.slice (some ad) n cd) ∧ (W.cell? (ad.add (d * 2)) = some (.int .i64 lo) ∧ W.cell? ⟨(ad.add (d * 2)).block, (ad.add (d * 2)).off + 1, none⟩ = some (.int .i64 hi)) ∧
    (W.frozen? ⟨p0 + 1, 0, none⟩ = false ∧ W.frozen? ⟨p0 + 1, 1, none⟩ = false ∧ W.cell? ⟨p0 + 1, 0, none⟩ = some (cellAt W (p0 + 1) 0) ∧ W.cell? ⟨p0 + 1, 1, none⟩ = some (cellAt W (p0 + 1) 1)) from
    ⟨(hb.cell l0 (by omega)).trans e0, ⟨(hfl.below (HBL.out W hb) hfb2).f0 rfl, (hfl.below (HBL.out W hb) hfb2).f1 rfl⟩, hb.own⟩))
  have hBB : ∀ (L : Nat → Bool) (i : Nat) (W W' : World), Below W.heap.size W W' → KeepB w1 (p0 + 1) 36 W → KeepB w1 (p0 + 1) 36 W' := fun _ _ _ _ hb h => h.below hb
  have hdI : (d : Int) < n := by omega
  have hz1 : ((n : Int) == 0) = false := by simp; omega
  have hz3 : ¬ hi - lo + 1 = 0 := by omega
  have hM0 : 0 ≤ ((key : Int) / 3).tmod (hi - lo + 1) := by rw [Int.tmod_eq_emod_of_nonneg (by omega)]; exact Int.emod_nonneg _ (by omega)
  have hM1 : ((key : Int) / 3).tmod (hi - lo + 1) < hi - lo + 1 := by rw [Int.tmod_eq_emod_of_nonneg (by omega)]; exact Int.emod_lt_of_pos _ (by omega)
  have v1 : IntKind.i64.wrap (key : Int) = key := IntWalk.i64_in _ (by omega)
  have v2 : IntKind.i64.wrap ((key : Int) / 3) = (key : Int) / 3 := IntWalk.i64_in _ (by omega)
  have v3 : IntKind.i64.wrap (hi - lo) = hi - lo := IntWalk.i64_in _ (by omega)
  have v4 : IntKind.i64.wrap (hi - lo + 1) = hi - lo + 1 := IntWalk.i64_in _ (by omega)
  have v5 : IntKind.i64.wrap (((key : Int) / 3).tmod (hi - lo + 1)) = ((key : Int) / 3).tmod (hi - lo + 1) := IntWalk.i64_in _ (by omega)
  have v6 : IntKind.i64.wrap (lo + ((key : Int) / 3).tmod (hi - lo + 1)) = lo + ((key : Int) / 3).tmod (hi - lo + 1) := IntWalk.i64_in _ (by omega)
  have HW1 := Lib.hid hw1
  have HP0 := Lib.hid hp0
  clear K0 hB1 hw1 hfl hfb hfb2 hFF hp0
  go_enter Tryd.func13, Tryd.ntmps13
  go_upto_region 1 with fail
  rw [HW1.out, HP0.out]
  go_upto_region 2 with fail
  refine region_blocks (by kernel_rfl) ?_
  refine from_lawW 15 EA24 (fun _ W => KeepB w1 (p0 + 1) 36 W) (FA24 p0 ad n cd d lo hi) VA24 (by kernel_rfl) rfl (FA24_V _ _ _ _ _ _ _) (by kernel_rfl) (by kernel_rfl) (HKB.out.drew) ⟨?_, ?_, ?_, ?_, ?_, ?_, ?_, ?_, ?_, ?_, ?_, ?_, ?_, ?_, ?_, trivial⟩ ?_
  · refine OpFactW.value rfl (FA24_below _ _ _ _ _ _ _) hBB fun L a w2 hl hf D hb => ?_
    have h0 : sl a 2 = .pointer (some ⟨p0, 0, none⟩) := hf 2 (by kernel_rfl)
    refine ⟨.pointer (some ⟨p0, 0, none⟩), w2, ?_, B0 _, fun s _ h => h 13 rfl⟩
    unfold sl at h0
    simp at h0
    simp [go_sem, h0]
  · refine OpFactW.value rfl (FA24_below _ _ _ _ _ _ _) hBB fun L a w2 hl hf D hb => ?_
    have h0 : sl a 13 = .pointer (some ⟨p0, 0, none⟩) := D 0 (by kernel_rfl)
    have es := HS.out w2 hb
    refine ⟨.slice (some ad) n cd, w2, ?_, B0 _, fun s _ h => h 14 rfl⟩
    unfold sl at h0
    simp at h0
    simp [go_sem, h0, es]
  · refine OpFactW.value rfl (FA24_below _ _ _ _ _ _ _) hBB fun L a w2 hl hf D hb => ?_
    have h0 : sl a 5 = .int .i64 (d : Nat) := hf 5 (by kernel_rfl)
    refine ⟨.int .i64 (d : Nat), w2, ?_, B0 _, fun s _ h => h 15 rfl⟩
    unfold sl at h0
    simp [go_sem, h0]
  · refine OpFactW.value rfl (FA24_below _ _ _ _ _ _ _) hBB fun L a w2 hl hf D hb => ?_
    have h1 : sl a 14 = .slice (some ad) n cd := D 1 (by kernel_rfl)
    have h2 : sl a 15 = .int .i64 (d : Nat) := D 2 (by kernel_rfl)
    refine ⟨.pointer (some (ad.add (d * 2))), w2, ?_, B0 _, fun s _ h => h 16 rfl⟩
    unfold sl at h1 h2
    simp at h1 h2
    simp [go_sem, h1, h2, hdI]
  · refine OpFactW.value rfl (FA24_below _ _ _ _ _ _ _) hBB fun L a w2 hl hf D hb => ?_
    have h1 : sl a 16 = .pointer (some (ad.add (d * 2))) := D 3 (by kernel_rfl)
    refine ⟨.pointer (some ⟨(ad.add (d * 2)).block, (ad.add (d * 2)).off + 1, none⟩), w2, ?_, B0 _, fun s _ h => h 17 rfl⟩
    unfold sl at h1
    simp at h1
    simp [go_sem, h1]
  · refine OpFactW.value rfl (FA24_below _ _ _ _ _ _ _) hBB fun L a w2 hl hf D hb => ?_
    have h0 : sl a 17 = .pointer (some ⟨(ad.add (d * 2)).block, (ad.add (d * 2)).off + 1, none⟩) := D 4 (by kernel_rfl)
    have es := HS.out w2 hb
    refine ⟨.int .i64 hi, w2, ?_, B0 _, fun s _ h => h 18 rfl⟩
    unfold sl at h0
    simp at h0
    simp [go_sem, h0, es]
  · refine OpFactW.value rfl (FA24_below _ _ _ _ _ _ _) hBB fun L a w2 hl hf D hb => ?_
    have h0 : sl a 2 = .pointer (some ⟨p0, 0, none⟩) := hf 2 (by kernel_rfl)
    refine ⟨.pointer (some ⟨p0, 0, none⟩), w2, ?_, B0 _, fun s _ h => h 19 rfl⟩
    unfold sl at h0
    simp at h0
    simp [go_sem, h0]
  · refine OpFactW.value rfl (FA24_below _ _ _ _ _ _ _) hBB fun L a w2 hl hf D hb => ?_
    have h0 : sl a 19 = .pointer (some ⟨p0, 0, none⟩) := D 6 (by kernel_rfl)
    have es := HS.out w2 hb
    refine ⟨.slice (some ad) n cd, w2, ?_, B0 _, fun s _ h => h 20 rfl⟩
    unfold sl at h0
    simp at h0
    simp [go_sem, h0, es]
  · refine OpFactW.value rfl (FA24_below _ _ _ _ _ _ _) hBB fun L a w2 hl hf D hb => ?_
    have h0 : sl a 5 = .int .i64 (d : Nat) := hf 5 (by kernel_rfl)
    refine ⟨.int .i64 (d : Nat), w2, ?_, B0 _, fun s _ h => h 21 rfl⟩
    unfold sl at h0
    simp [go_sem, h0]
  · refine OpFactW.value rfl (FA24_below _ _ _ _ _ _ _) hBB fun L a w2 hl hf D hb => ?_
    have h1 : sl a 20 = .slice (some ad) n cd := D 7 (by kernel_rfl)
    have h2 : sl a 21 = .int .i64 (d : Nat) := D 8 (by kernel_rfl)
    refine ⟨.pointer (some (ad.add (d * 2))), w2, ?_, B0 _, fun s _ h => h 22 rfl⟩
    unfold sl at h1 h2
    simp at h1 h2
    simp [go_sem, h1, h2, hdI]
  · refine OpFactW.value rfl (FA24_below _ _ _ _ _ _ _) hBB fun L a w2 hl hf D hb => ?_
    have h1 : sl a 22 = .pointer (some (ad.add (d * 2))) := D 9 (by kernel_rfl)
    refine ⟨.pointer (some (ad.add (d * 2))), w2, ?_, B0 _, fun s _ h => h 23 rfl⟩
    unfold sl at h1
    simp at h1
    simp [go_sem, h1]
  · refine OpFactW.value rfl (FA24_below _ _ _ _ _ _ _) hBB fun L a w2 hl hf D hb => ?_
    have h0 : sl a 23 = .pointer (some (ad.add (d * 2))) := D 10 (by kernel_rfl)
    have es := HS.out w2 hb
    refine ⟨.int .i64 lo, w2, ?_, B0 _, fun s _ h => h 24 rfl⟩
    unfold sl at h0
    simp at h0
    simp [go_sem, h0, es]
  · refine OpFactW.value rfl (FA24_below _ _ _ _ _ _ _) hBB fun L a w2 hl hf D hb => ?_
    have h1 : sl a 18 = .int .i64 hi := D 5 (by kernel_rfl)
    have h2 : sl a 24 = .int .i64 lo := D 11 (by kernel_rfl)
    refine ⟨.int .i64 (hi - lo), w2, ?_, B0 _, fun s _ h => h 25 rfl⟩
    unfold sl at h1 h2
    simp at h1 h2
    simp [go_sem, h1, h2, v3]
  · refine OpFactW.value rfl (FA24_below _ _ _ _ _ _ _) hBB fun L a w2 hl hf D hb => ?_
    have h1 : sl a 25 = .int .i64 (hi - lo) := D 12 (by kernel_rfl)
    refine ⟨.int .i64 (hi - lo + 1), w2, ?_, B0 _, fun s _ h => h 26 rfl⟩
    unfold sl at h1
    simp at h1
    simp [go_sem, h1, v4]
  · refine OpFactW.value rfl (FA24_below _ _ _ _ _ _ _) hBB fun L a w2 hl hf D hb => ?_
    have h1 : sl a 26 = .int .i64 (hi - lo + 1) := D 13 (by kernel_rfl)
    refine ⟨.int .i64 (hi - lo + 1), w2, ?_, B0 _, fun s _ h => h 6 rfl⟩
    unfold sl at h1
    simp at h1
    simp [go_sem, h1]
  intro L y w8 hb8 hF8
  have h6 : y 6 = .int .i64 (hi - lo + 1) := hF8 14 (by decide) rfl
  have HKB2 : Hid (KeepB w1 (p0 + 1) 36 w8) := Lib.hid hb8
  clear hF8 hb8
  rw [aft15 (d0 := 13) (d1 := 14) (d2 := 15) (d3 := 16) (d4 := 17) (d5 := 18) (d6 := 19) (d7 := 20) (d8 := 21) (d9 := 22) (d10 := 23) (d11 := 24) (d12 := 25) (d13 := 26) (d14 := 6) (by kernel_rfl) rfl]
  rw [h6]
  simp only [List.set_cons_succ, List.set_cons_zero]
  refine from_end rfl ?_
  go_upto_region 3 with fail
  refine region_blocks (by kernel_rfl) ?_
  refine from_lawW 15 EB24 (fun _ W => KeepB w1 (p0 + 1) 36 W) (FB24 p0 ad n cd d key lo hi) VB24 (by kernel_rfl) rfl (FB24_V _ _ _ _ _ _ _ _) (by kernel_rfl) (by kernel_rfl) (HKB2.out.drew) ⟨?_, ?_, ?_, ?_, ?_, ?_, ?_, ?_, ?_, ?_, ?_, ?_, ?_, ?_, ?_, trivial⟩ ?_
  · refine OpFactW.value rfl (FB24_below _ _ _ _ _ _ _ _) hBB fun L a w2 hl hf D hb => ?_
    have h0 : sl a 5 = .int .i64 (d : Nat) := hf 5 (by kernel_rfl)
    refine ⟨.int .i64 (d : Nat), w2, ?_, B0 _, fun s _ h => h 27 rfl⟩
    unfold sl at h0
    simp [go_sem, h0]
  · refine OpFactW.value rfl (FB24_below _ _ _ _ _ _ _ _) hBB fun L a w2 hl hf D hb => ?_
    have h0 : sl a 2 = .pointer (some ⟨p0, 0, none⟩) := hf 2 (by kernel_rfl)
    refine ⟨.pointer (some ⟨p0, 0, none⟩), w2, ?_, B0 _, fun s _ h => h 28 rfl⟩
    unfold sl at h0
    simp at h0
    simp [go_sem, h0]
  · refine OpFactW.value rfl (FB24_below _ _ _ _ _ _ _ _) hBB fun L a w2 hl hf D hb => ?_
    have h0 : sl a 28 = .pointer (some ⟨p0, 0, none⟩) := D 1 (by kernel_rfl)
    have es := HS.out w2 hb
    refine ⟨.slice (some ad) n cd, w2, ?_, B0 _, fun s _ h => h 29 rfl⟩
    unfold sl at h0
    simp at h0
    simp [go_sem, h0, es]
  · refine OpFactW.value rfl (FB24_below _ _ _ _ _ _ _ _) hBB fun L a w2 hl hf D hb => ?_
    have h0 : sl a 5 = .int .i64 (d : Nat) := hf 5 (by kernel_rfl)
    refine ⟨.int .i64 (d : Nat), w2, ?_, B0 _, fun s _ h => h 30 rfl⟩
    unfold sl at h0
    simp [go_sem, h0]
  · refine OpFactW.value rfl (FB24_below _ _ _ _ _ _ _ _) hBB fun L a w2 hl hf D hb => ?_
    have h1 : sl a 29 = .slice (some ad) n cd := D 2 (by kernel_rfl)
    have h2 : sl a 30 = .int .i64 (d : Nat) := D 3 (by kernel_rfl)
    refine ⟨.pointer (some (ad.add (d * 2))), w2, ?_, B0 _, fun s _ h => h 31 rfl⟩
    unfold sl at h1 h2
    simp at h1 h2
    simp [go_sem, h1, h2, hdI]
  · refine OpFactW.value rfl (FB24_below _ _ _ _ _ _ _ _) hBB fun L a w2 hl hf D hb => ?_
    have h1 : sl a 31 = .pointer (some (ad.add (d * 2))) := D 4 (by kernel_rfl)
    refine ⟨.pointer (some (ad.add (d * 2))), w2, ?_, B0 _, fun s _ h => h 32 rfl⟩
    unfold sl at h1
    simp at h1
    simp [go_sem, h1]
  · refine OpFactW.value rfl (FB24_below _ _ _ _ _ _ _ _) hBB fun L a w2 hl hf D hb => ?_
    have h0 : sl a 32 = .pointer (some (ad.add (d * 2))) := D 5 (by kernel_rfl)
    have es := HS.out w2 hb
    refine ⟨.int .i64 lo, w2, ?_, B0 _, fun s _ h => h 33 rfl⟩
    unfold sl at h0
    simp at h0
    simp [go_sem, h0, es]
  · refine OpFactW.value rfl (FB24_below _ _ _ _ _ _ _ _) hBB fun L a w2 hl hf D hb => ?_
    have h0 : sl a 1 = .int .u8 (key : Nat) := hf 1 (by kernel_rfl)
    refine ⟨.int .u8 (key : Nat), w2, ?_, B0 _, fun s _ h => h 34 rfl⟩
    unfold sl at h0
    simp [go_sem, h0]
  · refine OpFactW.value rfl (FB24_below _ _ _ _ _ _ _ _) hBB fun L a w2 hl hf D hb => ?_
    have h1 : sl a 34 = .int .u8 (key : Nat) := D 7 (by kernel_rfl)
    refine ⟨.int .i64 (key : Nat), w2, ?_, B0 _, fun s _ h => h 35 rfl⟩
    unfold sl at h1
    simp at h1
    simp [go_sem, h1, v1]
  · refine OpFactW.value rfl (FB24_below _ _ _ _ _ _ _ _) hBB fun L a w2 hl hf D hb => ?_
    have h1 : sl a 35 = .int .i64 (key : Nat) := D 8 (by kernel_rfl)
    refine ⟨.int .i64 ((key : Int) / 3), w2, ?_, B0 _, fun s _ h => h 36 rfl⟩
    unfold sl at h1
    simp at h1
    simp [go_sem, h1, v2]
  · refine OpFactW.value rfl (FB24_below _ _ _ _ _ _ _ _) hBB fun L a w2 hl hf D hb => ?_
    have h0 : sl a 6 = .int .i64 (hi - lo + 1) := hf 6 (by kernel_rfl)
    refine ⟨.int .i64 (hi - lo + 1), w2, ?_, B0 _, fun s _ h => h 37 rfl⟩
    unfold sl at h0
    simp [go_sem, h0]
  · refine OpFactW.value rfl (FB24_below _ _ _ _ _ _ _ _) hBB fun L a w2 hl hf D hb => ?_
    have h1 : sl a 36 = .int .i64 ((key : Int) / 3) := D 9 (by kernel_rfl)
    have h2 : sl a 37 = .int .i64 (hi - lo + 1) := D 10 (by kernel_rfl)
    refine ⟨.int .i64 (((key : Int) / 3).tmod (hi - lo + 1)), w2, ?_, B0 _, fun s _ h => h 38 rfl⟩
    unfold sl at h1 h2
    simp at h1 h2
    simp [go_sem, h1, h2, hz3]
  · refine OpFactW.value rfl (FB24_below _ _ _ _ _ _ _ _) hBB fun L a w2 hl hf D hb => ?_
    have h1 : sl a 33 = .int .i64 lo := D 6 (by kernel_rfl)
    have h2 : sl a 38 = .int .i64 (((key : Int) / 3).tmod (hi - lo + 1)) := D 11 (by kernel_rfl)
    refine ⟨.int .i64 (lo + ((key : Int) / 3).tmod (hi - lo + 1)), w2, ?_, B0 _, fun s _ h => h 39 rfl⟩
    unfold sl at h1 h2
    simp at h1 h2
    simp [go_sem, h1, h2, v6]
  · refine OpFactW.value rfl (FB24_below _ _ _ _ _ _ _ _) hBB fun L a w2 hl hf D hb => ?_
    have h1 : sl a 27 = .int .i64 (d : Nat) := D 0 (by kernel_rfl)
    have h2 : sl a 39 = .int .i64 (lo + ((key : Int) / 3).tmod (hi - lo + 1)) := D 12 (by kernel_rfl)
    refine ⟨.agg #[.int .i64 (d : Nat), .int .i64 (lo + ((key : Int) / 3).tmod (hi - lo + 1))], w2, ?_, B0 _, fun s _ h => h 40 rfl⟩
    unfold sl at h1 h2
    simp at h1 h2
    simp [go_sem, h1, h2]
  · refine OpFactW.skip rfl fun L a w2 hl hf D hb => ?_
    have h0 : sl a 4 = .pointer (some ⟨p0 + 1, 0, none⟩) := hf 4 (by kernel_rfl)
    have h1 : sl a 40 = .agg #[.int .i64 (d : Nat), .int .i64 (lo + ((key : Int) / 3).tmod (hi - lo + 1))] := D 13 (by kernel_rfl)
    have es := HS.out w2 hb
    obtain ⟨x, y, hK⟩ := hb.blk
    refine ⟨(w2.setCell ⟨p0 + 1, 0, none⟩ (.int .i64 (d : Nat))).setCell ⟨p0 + 1, 1, none⟩ (.int .i64 (lo + ((key : Int) / 3).tmod (hi - lo + 1))), ?_, hb.set _ _, fun j hj hE hF => ?_, fun s _ => show Blk _ (p0 + 1) 36 #[.int .i64 (d : Nat), .int .i64 (lo + ((key : Int) / 3).tmod (hi - lo + 1))] from by simpa using (hK.set_ 0 (.int .i64 (d : Nat))).set_ 1 (.int .i64 (lo + ((key : Int) / 3).tmod (hi - lo + 1)))⟩
    · unfold sl at h0 h1
      simp at h0 h1
      simp [go_sem, h0, h1, es]
    · match j with
      | 0 => exact hF
      | 1 => exact hF
      | 2 => exact hF
      | 3 => exact hF
      | 4 => exact hF
      | 5 => exact hF
      | 6 => exact hF
      | 7 => exact hF
      | 8 => exact hF
      | 9 => exact hF
      | 10 => exact hF
      | 11 => exact hF
      | 12 => exact hF
      | 13 => exact hF
      | 14 => exact absurd rfl hj
      | _ + 15 => trivial
  intro L2 y2 w9 hb9 hF9
  have h14 : Blk w9 (p0 + 1) 36 #[.int .i64 (d : Nat), .int .i64 (lo + ((key : Int) / 3).tmod (hi - lo + 1))] := hF9 14 (by decide) rfl
  have m0 := h14.cell 0
  have m1 := h14.cell 1
  simp only [List.getElem?_toArray, List.getElem?_cons_zero, List.getElem?_cons_succ] at m0 m1
  have HB9 : Hid (Below w.heap.size w w9) := Lib.hid (HBL.out w9 hb9)
  clear hF9 h14 hb9
  rw [aft14 (d0 := 27) (d1 := 28) (d2 := 29) (d3 := 30) (d4 := 31) (d5 := 32) (d6 := 33) (d7 := 34) (d8 := 35) (d9 := 36) (d10 := 37) (d11 := 38) (d12 := 39) (d13 := 40) (by kernel_rfl) rfl]
  simp only [List.set_cons_succ, List.set_cons_zero]
  refine from_end rfl ?_
  go_wp2_with fail
  refine bodyPost_ret (v := .agg #[.int .i64 (d : Nat), .int .i64 (lo + ((key : Int) / 3).tmod (hi - lo + 1))]) ?_ rfl ⟨by rw [HZ.out], HB9.out⟩
  clear HB9
  simp [results, Tryd.f13, go_sem, m0, m1]
end Go.Proofs.YtahlfndlkfoikaaDoor
