/- Walks over chain's statements: start. Walks over chain's statements: has. Words for a region in which two contacts are made in a drawn order: their boxes differ. Plain: the least set of couplers without which a contact is not reached is the least cut. Walks over chain's statements: reaches, size, first. Walks over chain: Sources. Plain: the chains that extend lists, depth first: all of them, each once, unless they are too many. -/
import Derived.Test.YtahlfndlkfoikaaDoorQ2
import Derived.Test.YtahlfndlkfoikaaDoorVa
import Derived.Test.YtahlfndlkfoikaaDoorRegS
import Derived.Test.YtahlfndlkfoikaaDoorGd
import Derived.Test.YtahlfndlkfoikaaDoorEl
import Derived.Test.YtahlfndlkfoikaaDoorQ3
import Derived.Test.YtahlfndlkfoikaaDoorEg
import Derived.Test.YtahlfndlkfoikaaDoorEi
namespace Go.Proofs.YtahlfndlkfoikaaDoor
open Go Go.RowKit Go.Shelf
namespace Cha
/-- A key of an action by a number. -/
def startF (a : Cou.Ac) (key : Nat) : Cou.Ct :=
  (((key % a.divs.length : Nat) : Int), (a.divs.getD (key % a.divs.length) (0, 0)).1 + ((key / 3 : Nat) : Int) % ((a.divs.getD (key % a.divs.length) (0, 0)).2 - (a.divs.getD (key % a.divs.length) (0, 0)).1 + 1))
theorem start_in {a : Cou.Ac} (hok : Cou.Ok a) (h1 : 1 ≤ a.divs.length) (key : Nat) : Cou.InA a (startF a key) := by
  have hd : key % a.divs.length < a.divs.length := Nat.mod_lt _ h1
  unfold startF Cou.InA
  generalize key % a.divs.length = d at *
  have hdv := hok.div a.divs[d] (List.getElem_mem hd)
  have hg : ∀ z, a.divs.getD d z = a.divs[d] := fun z => by rw [List.getD_eq_getElem?_getD, List.getElem?_eq_getElem hd]; rfl
  have q1 := Int.emod_nonneg ((key / 3 : Nat) : Int) (show a.divs[d].2 - a.divs[d].1 + 1 ≠ 0 by omega)
  have q2 := Int.emod_lt_of_pos ((key / 3 : Nat) : Int) (show 0 < a.divs[d].2 - a.divs[d].1 + 1 by omega)
  rw [hg]
  refine ⟨by show 0 ≤ (d : Int); omega, by show (d : Int) < _; omega, ?_⟩
  show Cou.inB (a.divs.getD (d : Int).toNat (0, -1)) _ = true
  rw [Int.toNat_natCast, hg]
  unfold Cou.inB
  simp only [Bool.and_eq_true, decide_eq_true_eq]
  omega
end Cha
/-- What holds behind each operation of a drawn region. -/
def FA24 (p0 : Nat) (ad : Addr) (n cd d : Nat) (lo hi : Int) (j : Nat) (s : Nat → Value) (_w : World) : Prop :=
  match j with
  | 0 => s 13 = .pointer (some ⟨p0, 0, none⟩)
  | 1 => s 14 = .slice (some ad) n cd
  | 2 => s 15 = .int .i64 (d : Nat)
  | 3 => s 16 = .pointer (some (ad.add (d * 2)))
  | 4 => s 17 = .pointer (some ⟨(ad.add (d * 2)).block, (ad.add (d * 2)).off + 1, none⟩)
  | 5 => s 18 = .int .i64 hi
  | 6 => s 19 = .pointer (some ⟨p0, 0, none⟩)
  | 7 => s 20 = .slice (some ad) n cd
  | 8 => s 21 = .int .i64 (d : Nat)
  | 9 => s 22 = .pointer (some (ad.add (d * 2)))
  | 10 => s 23 = .pointer (some (ad.add (d * 2)))
  | 11 => s 24 = .int .i64 lo
  | 12 => s 25 = .int .i64 (hi - lo)
  | 13 => s 26 = .int .i64 (hi - lo + 1)
  | 14 => s 6 = .int .i64 (hi - lo + 1)
  | _ => True
def VA24 (j : Nat) : List Nat := match j with
  | 0 => [13] | 1 => [14] | 2 => [15] | 3 => [16] | 4 => [17] | 5 => [18] | 6 => [19] | 7 => [20] | 8 => [21] | 9 => [22] | 10 => [23] | 11 => [24] | 12 => [25] | 13 => [26] | 14 => [6] | _ => []
def EA24 (j : Nat) : Bool := j == 14
theorem FA24_V (p0 : Nat) (ad : Addr) (n cd d : Nat) (lo hi : Int) (j : Nat) (s s' : Nat → Value) (w : World) (h : ∀ t, t ∈ VA24 j → s' t = s t) (hF : FA24 p0 ad n cd d lo hi j s w) : FA24 p0 ad n cd d lo hi j s' w := by
  match j with
  | 0 => unfold FA24 at hF ⊢; simp only at hF ⊢; rw [h 13 (by simp [VA24])]; exact hF
  | 1 => unfold FA24 at hF ⊢; simp only at hF ⊢; rw [h 14 (by simp [VA24])]; exact hF
  | 2 => unfold FA24 at hF ⊢; simp only at hF ⊢; rw [h 15 (by simp [VA24])]; exact hF
  | 3 => unfold FA24 at hF ⊢; simp only at hF ⊢; rw [h 16 (by simp [VA24])]; exact hF
  | 4 => unfold FA24 at hF ⊢; simp only at hF ⊢; rw [h 17 (by simp [VA24])]; exact hF
  | 5 => unfold FA24 at hF ⊢; simp only at hF ⊢; rw [h 18 (by simp [VA24])]; exact hF
  | 6 => unfold FA24 at hF ⊢; simp only at hF ⊢; rw [h 19 (by simp [VA24])]; exact hF
  | 7 => unfold FA24 at hF ⊢; simp only at hF ⊢; rw [h 20 (by simp [VA24])]; exact hF
  | 8 => unfold FA24 at hF ⊢; simp only at hF ⊢; rw [h 21 (by simp [VA24])]; exact hF
  | 9 => unfold FA24 at hF ⊢; simp only at hF ⊢; rw [h 22 (by simp [VA24])]; exact hF
  | 10 => unfold FA24 at hF ⊢; simp only at hF ⊢; rw [h 23 (by simp [VA24])]; exact hF
  | 11 => unfold FA24 at hF ⊢; simp only at hF ⊢; rw [h 24 (by simp [VA24])]; exact hF
  | 12 => unfold FA24 at hF ⊢; simp only at hF ⊢; rw [h 25 (by simp [VA24])]; exact hF
  | 13 => unfold FA24 at hF ⊢; simp only at hF ⊢; rw [h 26 (by simp [VA24])]; exact hF
  | 14 => unfold FA24 at hF ⊢; simp only at hF ⊢; rw [h 6 (by simp [VA24])]; exact hF
  | _ + 15 => trivial
theorem FA24_below (p0 : Nat) (ad : Addr) (n cd d : Nat) (lo hi : Int) (j : Nat) (s : Nat → Value) (w w' : World) (_hb : Below w.heap.size w w') (hF : FA24 p0 ad n cd d lo hi j s w) : FA24 p0 ad n cd d lo hi j s w' := by
  match j with
  | 0 => exact hF
  | 1 => exact hF
  | 2 => exact hF
  | 3 => exact hF
  | 4 => exact hF
  | 5 => exact hF
  | 6 => exact hF
  | 7 => exact hF
  | 8 => exact hF
  | 9 => exact hF
  | 10 => exact hF
  | 11 => exact hF
  | 12 => exact hF
  | 13 => exact hF
  | 14 => exact hF
  | _ + 15 => trivial
/-- What holds behind each operation of a drawn region. -/
def FB24 (p0 : Nat) (ad : Addr) (n cd d key : Nat) (lo hi : Int) (j : Nat) (s : Nat → Value) (w : World) : Prop :=
  match j with
  | 0 => s 27 = .int .i64 (d : Nat)
  | 1 => s 28 = .pointer (some ⟨p0, 0, none⟩)
  | 2 => s 29 = .slice (some ad) n cd
  | 3 => s 30 = .int .i64 (d : Nat)
  | 4 => s 31 = .pointer (some (ad.add (d * 2)))
  | 5 => s 32 = .pointer (some (ad.add (d * 2)))
  | 6 => s 33 = .int .i64 lo
  | 7 => s 34 = .int .u8 (key : Nat)
  | 8 => s 35 = .int .i64 (key : Nat)
  | 9 => s 36 = .int .i64 ((key : Int) / 3)
  | 10 => s 37 = .int .i64 (hi - lo + 1)
  | 11 => s 38 = .int .i64 (((key : Int) / 3).tmod (hi - lo + 1))
  | 12 => s 39 = .int .i64 (lo + ((key : Int) / 3).tmod (hi - lo + 1))
  | 13 => s 40 = .agg #[.int .i64 (d : Nat), .int .i64 (lo + ((key : Int) / 3).tmod (hi - lo + 1))]
  | 14 => Blk w (p0 + 1) 36 #[.int .i64 (d : Nat), .int .i64 (lo + ((key : Int) / 3).tmod (hi - lo + 1))]
  | _ => True
def VB24 (j : Nat) : List Nat := match j with
  | 0 => [27] | 1 => [28] | 2 => [29] | 3 => [30] | 4 => [31] | 5 => [32] | 6 => [33] | 7 => [34] | 8 => [35] | 9 => [36] | 10 => [37] | 11 => [38] | 12 => [39] | 13 => [40] | 14 => [] | _ => []
def EB24 (j : Nat) : Bool := j == 14
theorem FB24_V (p0 : Nat) (ad : Addr) (n cd d key : Nat) (lo hi : Int) (j : Nat) (s s' : Nat → Value) (w : World) (h : ∀ t, t ∈ VB24 j → s' t = s t) (hF : FB24 p0 ad n cd d key lo hi j s w) : FB24 p0 ad n cd d key lo hi j s' w := by
  match j with
  | 0 => unfold FB24 at hF ⊢; simp only at hF ⊢; rw [h 27 (by simp [VB24])]; exact hF
  | 1 => unfold FB24 at hF ⊢; simp only at hF ⊢; rw [h 28 (by simp [VB24])]; exact hF
  | 2 => unfold FB24 at hF ⊢; simp only at hF ⊢; rw [h 29 (by simp [VB24])]; exact hF
  | 3 => unfold FB24 at hF ⊢; simp only at hF ⊢; rw [h 30 (by simp [VB24])]; exact hF
  | 4 => unfold FB24 at hF ⊢; simp only at hF ⊢; rw [h 31 (by simp [VB24])]; exact hF
  | 5 => unfold FB24 at hF ⊢; simp only at hF ⊢; rw [h 32 (by simp [VB24])]; exact hF
  | 6 => unfold FB24 at hF ⊢; simp only at hF ⊢; rw [h 33 (by simp [VB24])]; exact hF
  | 7 => unfold FB24 at hF ⊢; simp only at hF ⊢; rw [h 34 (by simp [VB24])]; exact hF
  | 8 => unfold FB24 at hF ⊢; simp only at hF ⊢; rw [h 35 (by simp [VB24])]; exact hF
  | 9 => unfold FB24 at hF ⊢; simp only at hF ⊢; rw [h 36 (by simp [VB24])]; exact hF
  | 10 => unfold FB24 at hF ⊢; simp only at hF ⊢; rw [h 37 (by simp [VB24])]; exact hF
  | 11 => unfold FB24 at hF ⊢; simp only at hF ⊢; rw [h 38 (by simp [VB24])]; exact hF
  | 12 => unfold FB24 at hF ⊢; simp only at hF ⊢; rw [h 39 (by simp [VB24])]; exact hF
  | 13 => unfold FB24 at hF ⊢; simp only at hF ⊢; rw [h 40 (by simp [VB24])]; exact hF
  | 14 => exact hF
  | _ + 15 => trivial
theorem FB24_below (p0 : Nat) (ad : Addr) (n cd d key : Nat) (lo hi : Int) (j : Nat) (s : Nat → Value) (w w' : World) (hb : Below w.heap.size w w') (hF : FB24 p0 ad n cd d key lo hi j s w) : FB24 p0 ad n cd d key lo hi j s w' := by
  match j with
  | 0 => exact hF
  | 1 => exact hF
  | 2 => exact hF
  | 3 => exact hF
  | 4 => exact hF
  | 5 => exact hF
  | 6 => exact hF
  | 7 => exact hF
  | 8 => exact hF
  | 9 => exact hF
  | 10 => exact hF
  | 11 => exact hF
  | 12 => exact hF
  | 13 => exact hF
  | 14 => exact Blk.below hF hb (Blk.lt hF)
  | _ + 15 => trivial
set_option maxRecDepth 100000 in
set_option maxHeartbeats 4000000 in
theorem start_any (a : Cou.Ac) (hok : Cou.Ok a) (hn1 : 1 ≤ a.divs.length) (vd vc : Value) (key : Nat) (hkey : key < 256) (dr : Int) (w : World) (F : Nat → Prop) (hA : AcAt F w vd vc a) :
    Calls Tryd.prog 13 #[.agg #[vd, vc, .int .u64 dr], .int .u8 key] w fun e w' => e = .returned (.agg #[.int .i64 (Cha.startF a key).1, .int .i64 (Cha.startF a key).2]) ∧ Below w.heap.size w w' := by
  obtain ⟨Ad, cd, hvd, -, hdat⟩ := id hA.dv.open
  obtain ⟨Ac, cc, hvc, -, -⟩ := id hA.cp.open
  subst hvd hvc
  have hFF := hA.inW
  have hd : key % a.divs.length < a.divs.length := Nat.mod_lt _ hn1
  have hZ : Cha.startF a key = (((key % a.divs.length : Nat) : Int), a.divs[key % a.divs.length].1 + ((key : Int) / 3).tmod (a.divs[key % a.divs.length].2 - a.divs[key % a.divs.length].1 + 1)) := by
    unfold Cha.startF
    rw [List.getD_eq_getElem?_getD, List.getElem?_eq_getElem hd]
    simp only [Option.getD_some]
    rw [Int.tmod_eq_emod_of_nonneg (by omega)]
    simp
  obtain ⟨ad, hAd, hfb, hfl⟩ := hdat _ hd
  subst hAd
  have hdv := hok.div a.divs[key % a.divs.length] (List.getElem_mem hd)
  have hmod : (key : Int).tmod a.divs.length = ((key % a.divs.length : Nat) : Int) := rfl
  have hnd := hok.nd
  generalize a.divs[key % a.divs.length] = x at *
  obtain ⟨lo, hi⟩ := x
  dsimp only at hfl hdv hZ
  generalize key % a.divs.length = d at *
  clear hdat
  have hfb2 : (ad.add (d * 2)).block < w.heap.size := by rw [block_of_add]; exact hFF _ hfb
  clear hA hok
  generalize a.divs.length = n at *
  generalize a.cps.length = cl at *
  have HZ := Lib.hid hZ
  clear hZ
  obtain ⟨p0, hp0⟩ : ∃ p0, w.heap.size = p0 := ⟨_, rfl⟩
  obtain ⟨w1, hw1⟩ : ∃ w1 : World, (w.alloc (.cells #[.slice (some ad) n cd, .slice Ac cl cc, .int .u64 dr] 33)).alloc (.cells #[.int .i64 0, .int .i64 0] 36) = w1 := ⟨_, rfl⟩
  have e0 : w1.cell? ⟨p0, 0, none⟩ = some (.slice (some ad) n cd) := by rw [← hw1, ← hp0]; simp [go_sem]
  have l0 : p0 < w1.heap.size := by rw [← hw1, ← hp0]; simp; omega
  have K0 : Blk w1 (p0 + 1) 36 #[.int .i64 0, .int .i64 0] := by
    have := Blk.new (w.alloc (.cells #[.slice (some ad) n cd, .slice Ac cl cc, .int .u64 dr] 33)) 36 #[.int .i64 0, .int .i64 0]
    rw [hw1] at this
    rw [← hp0]
    simpa using this
  have hB1 : Below w.heap.size w w1 := by rw [← hw1]; exact Ba (Ba (B0 w) _) _
  have HB1 := Lib.hid hB1
  have HKB : Hid (KeepB w1 (p0 + 1) 36 w1) := Lib.hid ⟨rfl, rfl, rfl, Nat.le_refl _, fun _ _ _ => rfl, _, _, K0⟩
  have HBL := Lib.hid (fun (W : World) (hb : KeepB w1 (p0 + 1) 36 W) => KeepB.below_of HB1.out hb (by rw [← hp0]; omega))
  have HS := Lib.hid (fun (W : World) (hb : KeepB w1 (p0 + 1) 36 W) => (show W.cell? ⟨p0, 0, none⟩ = some (.slice (some ad) n cd) ∧ (W.cell? (ad.add (d * 2)) = some (.int .i64 lo) ∧ W.cell? ⟨(ad.add (d * 2)).block, (ad.add (d * 2)).off + 1, none⟩ = some (.int .i64 hi)) ∧
    (W.frozen? ⟨p0 + 1, 0, none⟩ = false ∧ W.frozen? ⟨p0 + 1, 1, none⟩ = false ∧ W.cell? ⟨p0 + 1, 0, none⟩ = some (cellAt W (p0 + 1) 0) ∧ W.cell? ⟨p0 + 1, 1, none⟩ = some (cellAt W (p0 + 1) 1)) from
    ⟨(hb.cell l0 (by omega)).trans e0, ⟨(hfl.below (HBL.out W hb) hfb2).f0 rfl, (hfl.below (HBL.out W hb) hfb2).f1 rfl⟩, hb.own⟩))
  have hBB : ∀ (L : Nat → Bool) (i : Nat) (W W' : World), Below W.heap.size W W' → KeepB w1 (p0 + 1) 36 W → KeepB w1 (p0 + 1) 36 W' := fun _ _ _ _ hb h => h.below hb
  have hdI : (d : Int) < n := by omega
  have hz1 : ((n : Int) == 0) = false := by simp; omega
  have hz3 : ¬ hi - lo + 1 = 0 := by omega
  have hM0 : 0 ≤ ((key : Int) / 3).tmod (hi - lo + 1) := by rw [Int.tmod_eq_emod_of_nonneg (by omega)]; exact Int.emod_nonneg _ (by omega)
  have hM1 : ((key : Int) / 3).tmod (hi - lo + 1) < hi - lo + 1 := by rw [Int.tmod_eq_emod_of_nonneg (by omega)]; exact Int.emod_lt_of_pos _ (by omega)
  have v1 : IntKind.i64.wrap (key : Int) = key := IntWalk.i64_in _ (by omega)
  have v2 : IntKind.i64.wrap ((key : Int) / 3) = (key : Int) / 3 := IntWalk.i64_in _ (by omega)
  have v3 : IntKind.i64.wrap (hi - lo) = hi - lo := IntWalk.i64_in _ (by omega)
  have v4 : IntKind.i64.wrap (hi - lo + 1) = hi - lo + 1 := IntWalk.i64_in _ (by omega)
  have v5 : IntKind.i64.wrap (((key : Int) / 3).tmod (hi - lo + 1)) = ((key : Int) / 3).tmod (hi - lo + 1) := IntWalk.i64_in _ (by omega)
  have v6 : IntKind.i64.wrap (lo + ((key : Int) / 3).tmod (hi - lo + 1)) = lo + ((key : Int) / 3).tmod (hi - lo + 1) := IntWalk.i64_in _ (by omega)
  have HW1 := Lib.hid hw1
  have HP0 := Lib.hid hp0
  clear K0 hB1 hw1 hfl hfb hfb2 hFF hp0
  go_enter Tryd.func13, Tryd.ntmps13
  go_upto_region 1 with fail
  rw [HW1.out, HP0.out]
  go_upto_region 2 with fail
  refine region_blocks (by kernel_rfl) ?_
  refine from_lawW 15 EA24 (fun _ W => KeepB w1 (p0 + 1) 36 W) (FA24 p0 ad n cd d lo hi) VA24 (by kernel_rfl) rfl (FA24_V _ _ _ _ _ _ _) (by kernel_rfl) (by kernel_rfl) (HKB.out.drew) ⟨?_, ?_, ?_, ?_, ?_, ?_, ?_, ?_, ?_, ?_, ?_, ?_, ?_, ?_, ?_, trivial⟩ ?_
  · refine OpFactW.value rfl (FA24_below _ _ _ _ _ _ _) hBB fun L a w2 hl hf D hb => ?_
    have h0 : sl a 2 = .pointer (some ⟨p0, 0, none⟩) := hf 2 (by kernel_rfl)
    refine ⟨.pointer (some ⟨p0, 0, none⟩), w2, ?_, B0 _, fun s _ h => h 13 rfl⟩
    unfold sl at h0
    simp at h0
    simp [go_sem, h0]
  · refine OpFactW.value rfl (FA24_below _ _ _ _ _ _ _) hBB fun L a w2 hl hf D hb => ?_
    have h0 : sl a 13 = .pointer (some ⟨p0, 0, none⟩) := D 0 (by kernel_rfl)
    have es := HS.out w2 hb
    refine ⟨.slice (some ad) n cd, w2, ?_, B0 _, fun s _ h => h 14 rfl⟩
    unfold sl at h0
    simp at h0
    simp [go_sem, h0, es]
  · refine OpFactW.value rfl (FA24_below _ _ _ _ _ _ _) hBB fun L a w2 hl hf D hb => ?_
    have h0 : sl a 5 = .int .i64 (d : Nat) := hf 5 (by kernel_rfl)
    refine ⟨.int .i64 (d : Nat), w2, ?_, B0 _, fun s _ h => h 15 rfl⟩
    unfold sl at h0
    simp [go_sem, h0]
  · refine OpFactW.value rfl (FA24_below _ _ _ _ _ _ _) hBB fun L a w2 hl hf D hb => ?_
    have h1 : sl a 14 = .slice (some ad) n cd := D 1 (by kernel_rfl)
    have h2 : sl a 15 = .int .i64 (d : Nat) := D 2 (by kernel_rfl)
    refine ⟨.pointer (some (ad.add (d * 2))), w2, ?_, B0 _, fun s _ h => h 16 rfl⟩
    unfold sl at h1 h2
    simp at h1 h2
    simp [go_sem, h1, h2, hdI]
  · refine OpFactW.value rfl (FA24_below _ _ _ _ _ _ _) hBB fun L a w2 hl hf D hb => ?_
    have h1 : sl a 16 = .pointer (some (ad.add (d * 2))) := D 3 (by kernel_rfl)
    refine ⟨.pointer (some ⟨(ad.add (d * 2)).block, (ad.add (d * 2)).off + 1, none⟩), w2, ?_, B0 _, fun s _ h => h 17 rfl⟩
    unfold sl at h1
    simp at h1
    simp [go_sem, h1]
  · refine OpFactW.value rfl (FA24_below _ _ _ _ _ _ _) hBB fun L a w2 hl hf D hb => ?_
    have h0 : sl a 17 = .pointer (some ⟨(ad.add (d * 2)).block, (ad.add (d * 2)).off + 1, none⟩) := D 4 (by kernel_rfl)
    have es := HS.out w2 hb
    refine ⟨.int .i64 hi, w2, ?_, B0 _, fun s _ h => h 18 rfl⟩
    unfold sl at h0
    simp at h0
    simp [go_sem, h0, es]
  · refine OpFactW.value rfl (FA24_below _ _ _ _ _ _ _) hBB fun L a w2 hl hf D hb => ?_
    have h0 : sl a 2 = .pointer (some ⟨p0, 0, none⟩) := hf 2 (by kernel_rfl)
    refine ⟨.pointer (some ⟨p0, 0, none⟩), w2, ?_, B0 _, fun s _ h => h 19 rfl⟩
    unfold sl at h0
    simp at h0
    simp [go_sem, h0]
  · refine OpFactW.value rfl (FA24_below _ _ _ _ _ _ _) hBB fun L a w2 hl hf D hb => ?_
    have h0 : sl a 19 = .pointer (some ⟨p0, 0, none⟩) := D 6 (by kernel_rfl)
    have es := HS.out w2 hb
    refine ⟨.slice (some ad) n cd, w2, ?_, B0 _, fun s _ h => h 20 rfl⟩
    unfold sl at h0
    simp at h0
    simp [go_sem, h0, es]
  · refine OpFactW.value rfl (FA24_below _ _ _ _ _ _ _) hBB fun L a w2 hl hf D hb => ?_
    have h0 : sl a 5 = .int .i64 (d : Nat) := hf 5 (by kernel_rfl)
    refine ⟨.int .i64 (d : Nat), w2, ?_, B0 _, fun s _ h => h 21 rfl⟩
    unfold sl at h0
    simp [go_sem, h0]
  · refine OpFactW.value rfl (FA24_below _ _ _ _ _ _ _) hBB fun L a w2 hl hf D hb => ?_
    have h1 : sl a 20 = .slice (some ad) n cd := D 7 (by kernel_rfl)
    have h2 : sl a 21 = .int .i64 (d : Nat) := D 8 (by kernel_rfl)
    refine ⟨.pointer (some (ad.add (d * 2))), w2, ?_, B0 _, fun s _ h => h 22 rfl⟩
    unfold sl at h1 h2
    simp at h1 h2
    simp [go_sem, h1, h2, hdI]
  · refine OpFactW.value rfl (FA24_below _ _ _ _ _ _ _) hBB fun L a w2 hl hf D hb => ?_
    have h1 : sl a 22 = .pointer (some (ad.add (d * 2))) := D 9 (by kernel_rfl)
    refine ⟨.pointer (some (ad.add (d * 2))), w2, ?_, B0 _, fun s _ h => h 23 rfl⟩
    unfold sl at h1
    simp at h1
    simp [go_sem, h1]
  · refine OpFactW.value rfl (FA24_below _ _ _ _ _ _ _) hBB fun L a w2 hl hf D hb => ?_
    have h0 : sl a 23 = .pointer (some (ad.add (d * 2))) := D 10 (by kernel_rfl)
    have es := HS.out w2 hb
    refine ⟨.int .i64 lo, w2, ?_, B0 _, fun s _ h => h 24 rfl⟩
    unfold sl at h0
    simp at h0
    simp [go_sem, h0, es]
  · refine OpFactW.value rfl (FA24_below _ _ _ _ _ _ _) hBB fun L a w2 hl hf D hb => ?_
    have h1 : sl a 18 = .int .i64 hi := D 5 (by kernel_rfl)
    have h2 : sl a 24 = .int .i64 lo := D 11 (by kernel_rfl)
    refine ⟨.int .i64 (hi - lo), w2, ?_, B0 _, fun s _ h => h 25 rfl⟩
    unfold sl at h1 h2
    simp at h1 h2
    simp [go_sem, h1, h2, v3]
  · refine OpFactW.value rfl (FA24_below _ _ _ _ _ _ _) hBB fun L a w2 hl hf D hb => ?_
    have h1 : sl a 25 = .int .i64 (hi - lo) := D 12 (by kernel_rfl)
    refine ⟨.int .i64 (hi - lo + 1), w2, ?_, B0 _, fun s _ h => h 26 rfl⟩
    unfold sl at h1
    simp at h1
    simp [go_sem, h1, v4]
  · refine OpFactW.value rfl (FA24_below _ _ _ _ _ _ _) hBB fun L a w2 hl hf D hb => ?_
    have h1 : sl a 26 = .int .i64 (hi - lo + 1) := D 13 (by kernel_rfl)
    refine ⟨.int .i64 (hi - lo + 1), w2, ?_, B0 _, fun s _ h => h 6 rfl⟩
    unfold sl at h1
    simp at h1
    simp [go_sem, h1]
  intro L y w8 hb8 hF8
  have h6 : y 6 = .int .i64 (hi - lo + 1) := hF8 14 (by decide) rfl
  have HKB2 : Hid (KeepB w1 (p0 + 1) 36 w8) := Lib.hid hb8
  clear hF8 hb8
  rw [aft15 (d0 := 13) (d1 := 14) (d2 := 15) (d3 := 16) (d4 := 17) (d5 := 18) (d6 := 19) (d7 := 20) (d8 := 21) (d9 := 22) (d10 := 23) (d11 := 24) (d12 := 25) (d13 := 26) (d14 := 6) (by kernel_rfl) rfl]
  rw [h6]
  simp only [List.set_cons_succ, List.set_cons_zero]
  refine from_end rfl ?_
  go_upto_region 3 with fail
  refine region_blocks (by kernel_rfl) ?_
  refine from_lawW 15 EB24 (fun _ W => KeepB w1 (p0 + 1) 36 W) (FB24 p0 ad n cd d key lo hi) VB24 (by kernel_rfl) rfl (FB24_V _ _ _ _ _ _ _ _) (by kernel_rfl) (by kernel_rfl) (HKB2.out.drew) ⟨?_, ?_, ?_, ?_, ?_, ?_, ?_, ?_, ?_, ?_, ?_, ?_, ?_, ?_, ?_, trivial⟩ ?_
  · refine OpFactW.value rfl (FB24_below _ _ _ _ _ _ _ _) hBB fun L a w2 hl hf D hb => ?_
    have h0 : sl a 5 = .int .i64 (d : Nat) := hf 5 (by kernel_rfl)
    refine ⟨.int .i64 (d : Nat), w2, ?_, B0 _, fun s _ h => h 27 rfl⟩
    unfold sl at h0
    simp [go_sem, h0]
  · refine OpFactW.value rfl (FB24_below _ _ _ _ _ _ _ _) hBB fun L a w2 hl hf D hb => ?_
    have h0 : sl a 2 = .pointer (some ⟨p0, 0, none⟩) := hf 2 (by kernel_rfl)
    refine ⟨.pointer (some ⟨p0, 0, none⟩), w2, ?_, B0 _, fun s _ h => h 28 rfl⟩
    unfold sl at h0
    simp at h0
    simp [go_sem, h0]
  · refine OpFactW.value rfl (FB24_below _ _ _ _ _ _ _ _) hBB fun L a w2 hl hf D hb => ?_
    have h0 : sl a 28 = .pointer (some ⟨p0, 0, none⟩) := D 1 (by kernel_rfl)
    have es := HS.out w2 hb
    refine ⟨.slice (some ad) n cd, w2, ?_, B0 _, fun s _ h => h 29 rfl⟩
    unfold sl at h0
    simp at h0
    simp [go_sem, h0, es]
  · refine OpFactW.value rfl (FB24_below _ _ _ _ _ _ _ _) hBB fun L a w2 hl hf D hb => ?_
    have h0 : sl a 5 = .int .i64 (d : Nat) := hf 5 (by kernel_rfl)
    refine ⟨.int .i64 (d : Nat), w2, ?_, B0 _, fun s _ h => h 30 rfl⟩
    unfold sl at h0
    simp [go_sem, h0]
  · refine OpFactW.value rfl (FB24_below _ _ _ _ _ _ _ _) hBB fun L a w2 hl hf D hb => ?_
    have h1 : sl a 29 = .slice (some ad) n cd := D 2 (by kernel_rfl)
    have h2 : sl a 30 = .int .i64 (d : Nat) := D 3 (by kernel_rfl)
    refine ⟨.pointer (some (ad.add (d * 2))), w2, ?_, B0 _, fun s _ h => h 31 rfl⟩
    unfold sl at h1 h2
    simp at h1 h2
    simp [go_sem, h1, h2, hdI]
  · refine OpFactW.value rfl (FB24_below _ _ _ _ _ _ _ _) hBB fun L a w2 hl hf D hb => ?_
    have h1 : sl a 31 = .pointer (some (ad.add (d * 2))) := D 4 (by kernel_rfl)
    refine ⟨.pointer (some (ad.add (d * 2))), w2, ?_, B0 _, fun s _ h => h 32 rfl⟩
    unfold sl at h1
    simp at h1
    simp [go_sem, h1]
  · refine OpFactW.value rfl (FB24_below _ _ _ _ _ _ _ _) hBB fun L a w2 hl hf D hb => ?_
    have h0 : sl a 32 = .pointer (some (ad.add (d * 2))) := D 5 (by kernel_rfl)
    have es := HS.out w2 hb
    refine ⟨.int .i64 lo, w2, ?_, B0 _, fun s _ h => h 33 rfl⟩
    unfold sl at h0
    simp at h0
    simp [go_sem, h0, es]
  · refine OpFactW.value rfl (FB24_below _ _ _ _ _ _ _ _) hBB fun L a w2 hl hf D hb => ?_
    have h0 : sl a 1 = .int .u8 (key : Nat) := hf 1 (by kernel_rfl)
    refine ⟨.int .u8 (key : Nat), w2, ?_, B0 _, fun s _ h => h 34 rfl⟩
    unfold sl at h0
    simp [go_sem, h0]
  · refine OpFactW.value rfl (FB24_below _ _ _ _ _ _ _ _) hBB fun L a w2 hl hf D hb => ?_
    have h1 : sl a 34 = .int .u8 (key : Nat) := D 7 (by kernel_rfl)
    refine ⟨.int .i64 (key : Nat), w2, ?_, B0 _, fun s _ h => h 35 rfl⟩
    unfold sl at h1
    simp at h1
    simp [go_sem, h1, v1]
  · refine OpFactW.value rfl (FB24_below _ _ _ _ _ _ _ _) hBB fun L a w2 hl hf D hb => ?_
    have h1 : sl a 35 = .int .i64 (key : Nat) := D 8 (by kernel_rfl)
    refine ⟨.int .i64 ((key : Int) / 3), w2, ?_, B0 _, fun s _ h => h 36 rfl⟩
    unfold sl at h1
    simp at h1
    simp [go_sem, h1, v2]
  · refine OpFactW.value rfl (FB24_below _ _ _ _ _ _ _ _) hBB fun L a w2 hl hf D hb => ?_
    have h0 : sl a 6 = .int .i64 (hi - lo + 1) := hf 6 (by kernel_rfl)
    refine ⟨.int .i64 (hi - lo + 1), w2, ?_, B0 _, fun s _ h => h 37 rfl⟩
    unfold sl at h0
    simp [go_sem, h0]
  · refine OpFactW.value rfl (FB24_below _ _ _ _ _ _ _ _) hBB fun L a w2 hl hf D hb => ?_
    have h1 : sl a 36 = .int .i64 ((key : Int) / 3) := D 9 (by kernel_rfl)
    have h2 : sl a 37 = .int .i64 (hi - lo + 1) := D 10 (by kernel_rfl)
    refine ⟨.int .i64 (((key : Int) / 3).tmod (hi - lo + 1)), w2, ?_, B0 _, fun s _ h => h 38 rfl⟩
    unfold sl at h1 h2
    simp at h1 h2
    simp [go_sem, h1, h2, hz3]
  · refine OpFactW.value rfl (FB24_below _ _ _ _ _ _ _ _) hBB fun L a w2 hl hf D hb => ?_
    have h1 : sl a 33 = .int .i64 lo := D 6 (by kernel_rfl)
    have h2 : sl a 38 = .int .i64 (((key : Int) / 3).tmod (hi - lo + 1)) := D 11 (by kernel_rfl)
    refine ⟨.int .i64 (lo + ((key : Int) / 3).tmod (hi - lo + 1)), w2, ?_, B0 _, fun s _ h => h 39 rfl⟩
    unfold sl at h1 h2
    simp at h1 h2
    simp [go_sem, h1, h2, v6]
  · refine OpFactW.value rfl (FB24_below _ _ _ _ _ _ _ _) hBB fun L a w2 hl hf D hb => ?_
    have h1 : sl a 27 = .int .i64 (d : Nat) := D 0 (by kernel_rfl)
    have h2 : sl a 39 = .int .i64 (lo + ((key : Int) / 3).tmod (hi - lo + 1)) := D 12 (by kernel_rfl)
    refine ⟨.agg #[.int .i64 (d : Nat), .int .i64 (lo + ((key : Int) / 3).tmod (hi - lo + 1))], w2, ?_, B0 _, fun s _ h => h 40 rfl⟩
    unfold sl at h1 h2
    simp at h1 h2
    simp [go_sem, h1, h2]
  · refine OpFactW.skip rfl fun L a w2 hl hf D hb => ?_
    have h0 : sl a 4 = .pointer (some ⟨p0 + 1, 0, none⟩) := hf 4 (by kernel_rfl)
    have h1 : sl a 40 = .agg #[.int .i64 (d : Nat), .int .i64 (lo + ((key : Int) / 3).tmod (hi - lo + 1))] := D 13 (by kernel_rfl)
    have es := HS.out w2 hb
    obtain ⟨x, y, hK⟩ := hb.blk
    refine ⟨(w2.setCell ⟨p0 + 1, 0, none⟩ (.int .i64 (d : Nat))).setCell ⟨p0 + 1, 1, none⟩ (.int .i64 (lo + ((key : Int) / 3).tmod (hi - lo + 1))), ?_, hb.set _ _, fun j hj hE hF => ?_, fun s _ => show Blk _ (p0 + 1) 36 #[.int .i64 (d : Nat), .int .i64 (lo + ((key : Int) / 3).tmod (hi - lo + 1))] from by simpa using (hK.set_ 0 (.int .i64 (d : Nat))).set_ 1 (.int .i64 (lo + ((key : Int) / 3).tmod (hi - lo + 1)))⟩
    · unfold sl at h0 h1
      simp at h0 h1
      simp [go_sem, h0, h1, es]
    · match j with
      | 0 => exact hF
      | 1 => exact hF
      | 2 => exact hF
      | 3 => exact hF
      | 4 => exact hF
      | 5 => exact hF
      | 6 => exact hF
      | 7 => exact hF
      | 8 => exact hF
      | 9 => exact hF
      | 10 => exact hF
      | 11 => exact hF
      | 12 => exact hF
      | 13 => exact hF
      | 14 => exact absurd rfl hj
      | _ + 15 => trivial
  intro L2 y2 w9 hb9 hF9
  have h14 : Blk w9 (p0 + 1) 36 #[.int .i64 (d : Nat), .int .i64 (lo + ((key : Int) / 3).tmod (hi - lo + 1))] := hF9 14 (by decide) rfl
  have m0 := h14.cell 0
  have m1 := h14.cell 1
  simp only [List.getElem?_toArray, List.getElem?_cons_zero, List.getElem?_cons_succ] at m0 m1
  have HB9 : Hid (Below w.heap.size w w9) := Lib.hid (HBL.out w9 hb9)
  clear hF9 h14 hb9
  rw [aft14 (d0 := 27) (d1 := 28) (d2 := 29) (d3 := 30) (d4 := 31) (d5 := 32) (d6 := 33) (d7 := 34) (d8 := 35) (d9 := 36) (d10 := 37) (d11 := 38) (d12 := 39) (d13 := 40) (by kernel_rfl) rfl]
  simp only [List.set_cons_succ, List.set_cons_zero]
  refine from_end rfl ?_
  go_wp2_with fail
  refine bodyPost_ret (v := .agg #[.int .i64 (d : Nat), .int .i64 (lo + ((key : Int) / 3).tmod (hi - lo + 1))]) ?_ rfl ⟨by rw [HZ.out], HB9.out⟩
  clear HB9
  simp [results, Tryd.f13, go_sem, m0, m1]
end Go.Proofs.YtahlfndlkfoikaaDoor
namespace Go.Proofs.YtahlfndlkfoikaaDoor
open Go Go.RowKit Go.Shelf
set_option maxRecDepth 100000 in
set_option maxHeartbeats 2000000 in
theorem has_any (v : Value) (l : List Cou.Ct) (c : Cou.Ct) (w : World) (F : Nat → Prop) (hF : ∀ b, F b → b < w.heap.size) (hr : SlCt F w v l) :
    Calls Tryd.prog 26 #[v, .agg #[.int .i64 c.1, .int .i64 c.2]] w fun e w' => e = .returned (.bool (decide (c ∈ l))) ∧ Below w.heap.size w w' := by
  obtain ⟨A, cp, rfl, hlc, hlen, hat⟩ := hr.open
  obtain ⟨c1, c2⟩ := c
  obtain ⟨n, hn⟩ : ∃ n, l.length = n := ⟨_, rfl⟩
  have HN := Lib.hid hn
  have HAT := Lib.hid hat
  obtain ⟨w1, hw1⟩ : ∃ w1 : World, w.alloc (.cells #[.int .i64 c1, .int .i64 c2] 36) = w1 := ⟨_, rfl⟩
  obtain ⟨bx, hbx⟩ : ∃ bx, w.heap.size = bx := ⟨_, rfl⟩
  have C1 : Blk w1 bx 36 #[.int .i64 c1, .int .i64 c2] := by rw [← hw1, ← hbx]; exact Blk.new _ _ _
  have B1 : Below w.heap.size w w1 := by rw [← hw1]; exact Ba (B0 w) _
  have HW1 := Lib.hid hw1
  have HBX := Lib.hid hbx
  have HC1 := Lib.hid C1
  have HB1 := Lib.hid B1
  rw [hn] at hlen hlc ⊢
  dsimp only
  clear hr hat hn C1 B1 hw1 hbx
  go_enter Tryd.func26, Tryd.ntmps26
  go_upto_region 1 with fail
  rw [HW1.out, HBX.out]
  go_wp2_with fail
  go_loopw [5] (fun s wr => ∃ k : Nat, k ≤ n ∧ s = .int .i64 k ∧ Aside (∀ j, j < k → ∃ y, l[j]? = some y ∧ y ≠ (c1, c2)) ∧ Aside (Below w1.heap.size w1 wr)) (fun s _ => n - (intOf s).toNat)
  case atStart => exact ⟨0, by omega, rfl, (fun j h => absurd h (by omega)), B0 w1⟩
  case round =>
    obtain ⟨k, hk, rfl, hA, hB⟩ := hrel
    replace hA : ∀ j, j < k → ∃ y, l[j]? = some y ∧ y ≠ (c1, c2) := hA
    replace hB : Below w1.heap.size w1 wr := hB
    have hC := HC1.out.below hB HC1.out.lt
    have c0 := hC.cell 0
    have c1' := hC.cell 1
    simp only [List.getElem?_toArray, List.getElem?_cons_zero, List.getElem?_cons_succ] at c0 c1'
    by_cases hlt : k < n
    · have hkl : (k : Int) < n := by omega
      have hkl1 : k < l.length := by rw [HN.out]; exact hlt
      obtain ⟨ad, rfl, hfb, hfl⟩ := HAT.out k hkl1
      have hfb2 : (ad.add (k * 2)).block < w.heap.size := by rw [block_of_add]; exact hF _ hfb
      have hfl2 := (hfl.below HB1.out hfb2).below hB (Nat.lt_of_lt_of_le hfb2 HB1.out.size)
      have f0 := hfl2.f0 rfl
      have f1 := hfl2.f1 rfl
      have hg : l[k]? = some l[k] := List.getElem?_eq_getElem hkl1
      have HG := Lib.hid hg
      have hme := List.getElem_mem hkl1
      have HME := Lib.hid hme
      have HA := Lib.hid hA
      have HB := Lib.hid hB
      clear hfl hfl2 hA hB hC hg hme
      generalize l[k] = x at *
      obtain ⟨x1, x2⟩ := x
      dsimp only at f0 f1
      by_cases hxy : x1 = c1 ∧ x2 = c2
      · obtain ⟨rfl, rfl⟩ := hxy
        go_upto_region 4 with fail
        go_quiet (fail)
        go_wp2
        go_ret
        exact ⟨by rw [decide_eq_true HME.out]; rfl, Bt HB1.out (below_drewN HB.out _)⟩
      · have HNE : Hid (((x1, x2) : Cou.Ct) ≠ (c1, c2)) := Lib.hid fun e => hxy ⟨congrArg Prod.fst e, congrArg Prod.snd e⟩
        by_cases h1 : x1 = c1
        · subst h1
          have h2 : (x2 == c2) = false := by simpa using hxy
          clear hxy
          go_upto_region 4 with fail
          go_quiet (fail)
          go_wp2
          go_roundw
          case rel => exact ⟨k + 1, by omega, by go_num, (fun j hj => by
            by_cases e : j = k
            · subst e; exact ⟨_, HG.out, HNE.out⟩
            · exact HA.out j (by omega)), below_drewN HB.out _⟩
          case measure => simp [intOf]; omega
        · have h2 : (x1 == c1) = false := by simpa using h1
          clear hxy h1
          go_upto_region 4 with fail
          go_quiet (fail)
          go_wp2
          go_roundw
          case rel => exact ⟨k + 1, by omega, by go_num, (fun j hj => by
            by_cases e : j = k
            · subst e; exact ⟨_, HG.out, HNE.out⟩
            · exact HA.out j (by omega)), below_drewN HB.out _⟩
          case measure => simp [intOf]; omega
    · obtain rfl : k = n := by omega
      have HA := Lib.hid hA
      have HB := Lib.hid hB
      clear hA hB hC
      go_wp2
      go_ret
      have hd : decide ((c1, c2) ∈ l) = false := decide_eq_false fun hm => by
        obtain ⟨j, hj, e⟩ := List.getElem_of_mem hm
        obtain ⟨y, hy, hne⟩ := HA.out j (by rw [← HN.out]; exact hj)
        rw [List.getElem?_eq_getElem hj] at hy
        injection hy with hy
        exact hne (hy.symm.trans e)
      exact ⟨by rw [hd]; rfl, Bt HB1.out HB.out⟩
end Go.Proofs.YtahlfndlkfoikaaDoor
namespace Go.Proofs.YtahlfndlkfoikaaDoor
open Go Go.RowKit Go.Shelf
/-- What holds while the region runs: what was there stays; the boxes in slots 8 and 9, once made, are two. -/
def BG (W4 : World) (s : Nat → Value) (W : World) : Prop :=
  Below W4.heap.size W4 W ∧ (∀ b, s 8 = .pointer (some ⟨b, 0, none⟩) → b < W.heap.size) ∧ (∀ b, s 9 = .pointer (some ⟨b, 0, none⟩) → b < W.heap.size) ∧
    ∀ b c, s 8 = .pointer (some ⟨b, 0, none⟩) → s 9 = .pointer (some ⟨c, 0, none⟩) → b ≠ c
theorem BG.start {W4 : World} {s : Nat → Value} (h8 : ∀ b, s 8 ≠ .pointer (some ⟨b, 0, none⟩)) (h9 : ∀ b, s 9 ≠ .pointer (some ⟨b, 0, none⟩)) : BG W4 s W4.drew :=
  ⟨(B0 W4).drew, fun b e => absurd e (h8 b), fun b e => absurd e (h9 b), fun b _ e => absurd e (h8 b)⟩
theorem BG.keep {W4 w w' : World} {s s' : Nat → Value} (h8 : s' 8 = s 8) (h9 : s' 9 = s 9) (hb : Below w.heap.size w w') (h : BG W4 s w) : BG W4 s' w' := by
  obtain ⟨h1, h2, h3, h4⟩ := h
  refine ⟨Bt h1 hb, fun b e => ?_, fun b e => ?_, fun b c e f => ?_⟩
  · exact Nat.lt_of_lt_of_le (h2 b (h8.symm.trans e)) hb.size
  · exact Nat.lt_of_lt_of_le (h3 b (h9.symm.trans e)) hb.size
  · exact h4 b c (h8.symm.trans e) (h9.symm.trans f)
theorem ptr_inj {b c : Nat} (h : (Value.pointer (some ⟨b, 0, none⟩)) = .pointer (some ⟨c, 0, none⟩)) : b = c := by
  injection h with h
  injection h with h
  injection h
theorem BG.new8 {W4 w : World} {s s' : Nat → Value} (h8 : s' 8 = .pointer (some ⟨w.heap.size, 0, none⟩)) (h9 : s' 9 = s 9) (o : Obj) (h : BG W4 s w) : BG W4 s' (w.alloc o) := by
  obtain ⟨h1, _, h3, _⟩ := h
  refine ⟨Ba h1 _, fun b e => ?_, fun b e => ?_, fun b c e f => ?_⟩
  · have := ptr_inj (h8.symm.trans e)
    simp
    omega
  · have := h3 b (h9.symm.trans e)
    simp
    omega
  · have := ptr_inj (h8.symm.trans e)
    have := h3 c (h9.symm.trans f)
    omega
theorem BG.new9 {W4 w : World} {s s' : Nat → Value} (h9 : s' 9 = .pointer (some ⟨w.heap.size, 0, none⟩)) (h8 : s' 8 = s 8) (o : Obj) (h : BG W4 s w) : BG W4 s' (w.alloc o) := by
  obtain ⟨h1, h2, _, _⟩ := h
  refine ⟨Ba h1 _, fun b e => ?_, fun b e => ?_, fun b c e f => ?_⟩
  · have := h2 b (h8.symm.trans e)
    simp
    omega
  · have := ptr_inj (h9.symm.trans e)
    simp
    omega
  · have := ptr_inj (h9.symm.trans f)
    have := h2 b (h8.symm.trans e)
    omega
theorem BG.set {W4 w : World} {s s' : Nat → Value} {b : Nat} (hl : W4.heap.size ≤ b) (h8 : s' 8 = s 8) (h9 : s' 9 = s 9) (u v : Value) (h : BG W4 s w) : BG W4 s' ((w.setCell ⟨b, 0, none⟩ u).setCell ⟨b, 1, none⟩ v) := by
  obtain ⟨h1, h2, h3, h4⟩ := h
  refine ⟨Bs (Bs h1 _ hl) _ hl, fun b e => ?_, fun b e => ?_, fun b c e f => ?_⟩
  · simpa using h2 b (h8.symm.trans e)
  · simpa using h3 b (h9.symm.trans e)
  · exact h4 b c (h8.symm.trans e) (h9.symm.trans f)
end Go.Proofs.YtahlfndlkfoikaaDoor
namespace Go.Proofs.YtahlfndlkfoikaaDoor
namespace Cha
/-- Lists of so many members, in order. -/
def combI (on : List Nat) : Nat → Nat → List (List Nat)
  | 0, _ => [[]]
  | left + 1, i => (List.range (on.length + 1 - (i + (left + 1)))).flatMap fun j => (combI on left (i + j + 1)).map (on.getD (i + j) 0 :: ·)
theorem skF_find (R : Nat → Bool) (on : List Nat) : ∀ (left i wo : Nat), skF R on left i wo = (combI on left i).find? fun l => !R (orL l wo)
  | 0, _, wo => by
    rw [skF, combI]
    cases h : R wo <;> simp [orL, h]
  | left + 1, i, wo => by
    rw [skF, combI, List.find?_flatMap]
    congr 1
    funext j
    rw [skF_find R on left, List.find?_map]
    rfl
/-- All lists of members, the shorter ones first. -/
def combA (on : List Nat) : List (List Nat) := (List.range on.length).flatMap fun n => combI on (n + 1) 0
theorem cutL_find (R : Nat → Bool) (on : List Nat) : cutL R on = (combA on).find? fun l => !R (orL l 0) := by
  unfold cutL combA
  rw [List.find?_flatMap]
  congr 1
  funext n
  exact skF_find R on (n + 1) 0 0
/-- The number of bits. -/
def sizeF : Nat → Nat → Nat
  | 0, _ => 0
  | f + 1, n => if n = 0 then 0 else n % 2 + sizeF f (n / 2)
/-- Does a set come first among those of its size? -/
def firstF (a b : Nat) : Bool := (a &&& ((a ^^^ b) &&& ((18446744073709551616 - (a ^^^ b)) % 18446744073709551616))) != 0
def ltB (s t : Nat) : Bool := decide (sizeF 64 s < sizeF 64 t) || (sizeF 64 s == sizeF 64 t && firstF s t)
def stepB (R : Nat → Bool) (dr best s : Nat) : Nat := if Hit.andn s dr ≠ 0 ∨ R s = true then best else if ltB s best = true then s else best
def bestF (R : Nat → Bool) (dr n : Nat) : Nat := (List.range n).foldl (stepB R dr) dr
theorem ltB_trans : ∀ a < 16, ∀ b < 16, ∀ c < 16, ltB a b = true → ltB b c = true → ltB a c = true := by decide +kernel
theorem comb_sets0 : ∀ dr < 16, ∀ s < 16, (s == 0 || Hit.andn s dr != 0 || (combA (Hit.members dr)).contains (Hit.members s)) = true := by decide +kernel
theorem comb_sets (dr : Nat) (h : dr < 16) (s : Nat) (hs : s < 16) (h0 : s ≠ 0) (ha : Hit.andn s dr = 0) : Hit.members s ∈ combA (Hit.members dr) := by
  have := comb_sets0 dr h s hs
  simpa [h0, ha] using this
theorem comb_or : ∀ s < 16, orL (Hit.members s) 0 = s := by decide +kernel
theorem comb_in : ∀ dr < 16, ∀ l ∈ combA (Hit.members dr), orL l 0 < 16 ∧ Hit.andn (orL l 0) dr = 0 ∧ Hit.members (orL l 0) = l := by decide +kernel
theorem comb_sorted : ∀ dr < 16, (combA (Hit.members dr)).Pairwise fun l m => ltB (orL l 0) (orL m 0) = true := by decide +kernel
theorem sub_lt16 : ∀ n ≤ 4, ∀ dr < 2 ^ n, ∀ s < 16, Hit.andn s dr = 0 → s < 2 ^ n := by decide +kernel
theorem best_inv (R : Nat → Bool) (dr n : Nat) (hn : n ≤ 4) (hd : dr < 2 ^ n) (hR : R dr = false) : ∀ m, m ≤ 2 ^ n →
    (bestF R dr m < 2 ^ n ∧ Hit.andn (bestF R dr m) dr = 0 ∧ R (bestF R dr m) = false) ∧ ∀ s, s < m → Hit.andn s dr = 0 → R s = false → s = bestF R dr m ∨ ltB s (bestF R dr m) = false
  | 0, _ => ⟨⟨hd, by unfold bestF Hit.andn; simp, hR⟩, fun s h => absurd h (by omega)⟩
  | m + 1, hm => by
    have h16 : (2 : Nat) ^ n ≤ 16 := Nat.pow_le_pow_right (by decide) hn
    obtain ⟨⟨i1, i2, i3⟩, i4⟩ := best_inv R dr n hn hd hR m (by omega)
    have hs : bestF R dr (m + 1) = stepB R dr (bestF R dr m) m := by unfold bestF; rw [List.range_succ, List.foldl_append]; rfl
    rw [hs]
    generalize bestF R dr m = b at *
    unfold stepB
    by_cases h1 : Hit.andn m dr ≠ 0 ∨ R m = true
    · rw [if_pos h1]
      refine ⟨⟨i1, i2, i3⟩, fun s h q1 q2 => ?_⟩
      by_cases e : s = m
      · subst e
        rcases h1 with h1 | h1
        · exact absurd q1 h1
        · rw [q2] at h1; cases h1
      · exact i4 s (by omega) q1 q2
    · rw [if_neg h1]
      have hm1 : Hit.andn m dr = 0 := Classical.byContradiction fun h => h1 (.inl h)
      have hm2 : R m = false := by cases h : R m with | false => rfl | true => exact absurd (.inr h) h1
      by_cases h2 : ltB m b = true
      · rw [if_pos h2]
        refine ⟨⟨by omega, hm1, hm2⟩, fun s h q1 q2 => ?_⟩
        by_cases e : s = m
        · exact .inl e
        · refine .inr ?_
          cases h3 : ltB s m with
          | false => rfl
          | true =>
            have h4 := ltB_trans s (by omega) m (by omega) b (by omega) h3 h2
            rcases i4 s (by omega) q1 q2 with h | h
            · subst h
              have : ∀ a < 16, ltB a a = false := by decide +kernel
              rw [this s (by omega)] at h4; cases h4
            · rw [h] at h4; cases h4
      · rw [if_neg h2]
        refine ⟨⟨i1, i2, i3⟩, fun s h q1 q2 => ?_⟩
        by_cases e : s = m
        · subst e
          exact .inr (by cases h : ltB s b with | false => rfl | true => exact absurd h h2)
        · exact i4 s (by omega) q1 q2
/-- The least set is the least cut. -/
theorem cut_best (R : Nat → Bool) (dr n : Nat) (hn : n ≤ 4) (hd : dr < 2 ^ n) (hR : R dr = false) (h0 : R 0 = true) :
    cutL R (Hit.members dr) = some (Hit.members (bestF R dr (2 ^ n))) ∧ bestF R dr (2 ^ n) < 2 ^ n := by
  have h16 : (2 : Nat) ^ n ≤ 16 := Nat.pow_le_pow_right (by decide) hn
  obtain ⟨⟨i1, i2, i3⟩, i4⟩ := best_inv R dr n hn hd hR (2 ^ n) (Nat.le_refl _)
  generalize bestF R dr (2 ^ n) = b at *
  refine ⟨?_, i1⟩
  have hb0 : b ≠ 0 := fun e => by rw [e, h0] at i3; cases i3
  have hmem := comb_sets dr (by omega) b (by omega) hb0 i2
  have hor := comb_or b (by omega)
  rw [cutL_find]
  cases hf : (combA (Hit.members dr)).find? fun l => !R (orL l 0) with
  | none =>
    have := List.find?_eq_none.1 hf _ hmem
    rw [hor, i3] at this
    exact absurd rfl this
  | some l =>
    obtain ⟨hp, as_, bs, he, hn'⟩ := List.find?_eq_some_iff_append.1 hf
    have hl := comb_in dr (by omega) l (by rw [he]; simp)
    have hlR : R (orL l 0) = false := by simpa using hp
    have hll := sub_lt16 n hn dr hd _ hl.1 hl.2.1
    congr 1
    rw [he, List.mem_append, List.mem_cons] at hmem
    rcases hmem with h | h | h
    · have := hn' _ h
      rw [hor, i3] at this
      cases this
    · exact h.symm
    · have hs := comb_sorted dr (by omega)
      rw [he, List.pairwise_append] at hs
      have h5 := (List.pairwise_cons.1 hs.2.1).1 _ h
      rw [hor] at h5
      rcases i4 _ hll hl.2.1 hlR with h6 | h6
      · rw [← h6, hl.2.2]
      · rw [h6] at h5; cases h5
theorem size_len : ∀ s < 16, (Hit.members s).length = sizeF 64 s := by decide +kernel
theorem size_le : ∀ (f n : Nat), sizeF f n ≤ f
  | 0, _ => Nat.le_refl _
  | f + 1, n => by
    rw [sizeF]
    by_cases h : n = 0
    · rw [if_pos h]; omega
    · rw [if_neg h]
      have := size_le f (n / 2)
      omega
/-- Where a member stands. -/
theorem mem_at : ∀ b < 16, ∀ i < 4, (!b.testBit i || (Hit.members b)[((List.range i).filter fun j => b.testBit j).length]? == some i) = true := by decide +kernel
theorem mem_get {b i : Nat} (hb : b < 16) (hi : i < 4) (h : b.testBit i = true) : (Hit.members b)[((List.range i).filter fun j => b.testBit j).length]? = some i := by
  have := mem_at b hb i hi
  rw [h] at this
  simpa using this
theorem rng_succ (b i : Nat) : ((List.range (i + 1)).filter fun j => b.testBit j).length = ((List.range i).filter fun j => b.testBit j).length + (if b.testBit i = true then 1 else 0) := by
  rw [List.range_succ, List.filter_append, List.length_append]
  cases h : b.testBit i <;> simp [h]
end Cha
end Go.Proofs.YtahlfndlkfoikaaDoor
namespace Go.Proofs.YtahlfndlkfoikaaDoor
open Go Go.RowKit Go.Shelf
set_option maxRecDepth 100000 in
set_option maxHeartbeats 2000000 in
theorem reaches_any (a : Cou.Ac) (hr : Cou.rightF a = 0) (vd vc : Value) (key c : Cou.Ct) (hkw : Cou.wrongF a key = 0) (wo : Nat) (hwo : wo < 2 ^ 64) (w : World) (F : Nat → Prop) (hA : AcAt F w vd vc a) (hT : Tab64 w) (hg : 0 < w.heap.size) :
    Calls Tryd.prog 19 #[.agg #[vd, vc, .int .u64 a.drawn], .agg #[.int .i64 key.1, .int .i64 key.2], .agg #[.int .i64 c.1, .int .i64 c.2], .int .u64 wo] w fun e w' => e = .returned (.bool (Cha.reachB a key c wo)) ∧ Below w.heap.size w w' := by
  have hok := Cou.right_ok hr
  have hd64 : a.drawn < 2 ^ 64 := Nat.lt_of_lt_of_le hok.drawn (Nat.pow_le_pow_right (by decide) (by have := hok.nc; omega))
  have hdc : (Cha.cutA a wo).drawn < 2 ^ 64 := Hit.andn_lt hd64
  obtain ⟨Ad, cd, hvd, -, -⟩ := id hA.dv.open
  obtain ⟨Ac, cc, hvc, -, -⟩ := id hA.cp.open
  subst hvd hvc
  have hF := hA.inW
  have hRE := fun W (hb : Below w.heap.size w W) => Reach_any (Cha.cutA a wo) (.slice Ad a.divs.length cd) (.slice Ac a.cps.length cc) hdc key W F ⟨fun b h => Nat.lt_of_lt_of_le (hF b h) hb.size, (hA.onB hF hb).dv, (hA.onB hF hb).cp⟩ (hT.below hb) (Nat.lt_of_lt_of_le hg hb.size)
  have he : reachErr (Cha.cutA a wo) key = 0 := by
    unfold reachErr
    rw [if_pos (Cha.right_cut hr wo)]
    exact hkw
  rw [he] at hRE
  have hand : bits .andNot .u64 (a.drawn : Int) (wo : Int) = ((Hit.andn a.drawn wo : Nat) : Int) := Hit.u64_andn a.drawn wo hd64 hwo
  have HRB := Lib.hid (fun (l : List Cou.Ct) (hl : ∀ t, t ∈ l ↔ Cou.Hop (Cha.cutA a wo) [key] t) => (show decide (c ∈ l) = Cha.reachB a key c wo from Bool.eq_iff_iff.2 (by rw [decide_eq_true_eq, hl, Cha.reachB_iff hok])))
  have hdd : (Cha.cutA a wo).drawn = Hit.andn a.drawn wo := rfl
  rw [hdd] at hRE
  obtain ⟨d, hd⟩ : ∃ d, Hit.andn a.drawn wo = d := ⟨_, rfl⟩
  rw [hd] at hRE hand
  have HRE := Lib.hid hRE
  have HCN := Lib.hid (fun (v : Value) (l : List Cou.Ct) W (hS : SlCt (fun b => b < W.heap.size) W v l) => has_any v l c W _ (fun _ h => h) hS)
  clear hA hT hg
  obtain ⟨dl, hdl⟩ : ∃ dl, a.divs.length = dl := ⟨_, rfl⟩
  obtain ⟨cl, hcl⟩ : ∃ cl, a.cps.length = cl := ⟨_, rfl⟩
  rw [hdl, hcl] at HRE ⊢
  rw [hdl, hcl] at hRE
  obtain ⟨k1, k2⟩ := key
  obtain ⟨c1, c2⟩ := c
  obtain ⟨w1, hw1⟩ : ∃ w1 : World, ((w.alloc (.cells #[.slice Ad dl cd, .slice Ac cl cc, .int .u64 a.drawn] 33)).alloc (.cells #[.int .i64 k1, .int .i64 k2] 36)).alloc (.cells #[.int .i64 c1, .int .i64 c2] 36) = w1 := ⟨_, rfl⟩
  obtain ⟨bx, hbx⟩ : ∃ bx, w.heap.size = bx := ⟨_, rfl⟩
  have K1 : Blk w1 bx 33 #[.slice Ad dl cd, .slice Ac cl cc, .int .u64 a.drawn] := by rw [← hw1, ← hbx]; exact ((Blk.new w _ _).alloc _).alloc _
  have B1 : Below w.heap.size w w1 := by rw [← hw1]; exact Ba (Ba (Ba (B0 w) _) _) _
  have q0 : w1.cell? ⟨bx + 1, 0, none⟩ = some (.int .i64 k1) := by rw [← hw1, ← hbx]; simp [go_sem]
  have q1 : w1.cell? ⟨bx + 1, 1, none⟩ = some (.int .i64 k2) := by rw [← hw1, ← hbx]; simp [go_sem]
  have q2 : w1.cell? ⟨bx + 1 + 1, 0, none⟩ = some (.int .i64 c1) := by rw [← hw1, ← hbx]; simp [go_sem]
  have q3 : w1.cell? ⟨bx + 1 + 1, 1, none⟩ = some (.int .i64 c2) := by rw [← hw1, ← hbx]; simp [go_sem]
  have l1 : bx + 1 + 1 < w1.heap.size := by rw [← hw1, ← hbx]; simp
  have K2 := K1.set_ 2 (.int .u64 d)
  obtain ⟨w2, hw2⟩ : ∃ w2 : World, w1.setCell ⟨bx, 2, none⟩ (.int .u64 d) = w2 := ⟨_, rfl⟩
  rw [hw2] at K2
  have B2 : Below w.heap.size w w2 := by rw [← hw2]; exact Bs B1 _ (by rw [← hbx]; exact Nat.le_refl _)
  have hS2 : w2.heap.size = w1.heap.size := by rw [← hw2]; simp
  have hfar : ∀ b i, b ≠ bx → w2.cell? ⟨b, i, none⟩ = w1.cell? ⟨b, i, none⟩ := fun b i h => by
    rw [← hw2]; exact World.cell?_of_block (Below.heap_setCell _ _ _ b h)
  have HX := Lib.hid (fun W (hb : Below w2.heap.size w2 W) => (show (W.cell? ⟨bx + 1, 0, none⟩ = some (.int .i64 k1) ∧ W.cell? ⟨bx + 1, 1, none⟩ = some (.int .i64 k2)) ∧ W.cell? ⟨bx + 1 + 1, 0, none⟩ = some (.int .i64 c1) ∧ W.cell? ⟨bx + 1 + 1, 1, none⟩ = some (.int .i64 c2) from
    ⟨⟨((Bc hb (by omega)).trans (hfar _ _ (by omega))).trans q0, ((Bc hb (by omega)).trans (hfar _ _ (by omega))).trans q1⟩, ((Bc hb (by omega)).trans (hfar _ _ (by omega))).trans q2, ((Bc hb (by omega)).trans (hfar _ _ (by omega))).trans q3⟩))
  have y2 := K1.cell 2
  have f2 := K1.frozen 2
  have z0 := K2.cell 0
  have z1 := K2.cell 1
  have z2 := K2.cell 2
  simp at y2 z0 z1 z2
  obtain ⟨⟨u0, u1⟩, -, -⟩ := HX.out w2 (B0 w2)
  have HW1 := Lib.hid hw1
  have HW2 := Lib.hid hw2
  have HBX := Lib.hid hbx
  have HB2 := Lib.hid B2
  have HR2 := Lib.hid (HRE.out w2 B2)
  clear hRE K1 K2 B1 B2 hw1 hw2 hbx hd he hdd hdc hF HRE hdl hcl hr hkw hok q0 q1 q2 q3 l1 hS2 hfar
  dsimp only at HR2
  go_enter Tryd.func19, Tryd.ntmps19
  go_upto_region 1 with fail
  rw [HW1.out, HBX.out]
  go_upto_region 2 with fail
  rw [HW2.out]
  clear y2 f2
  go_wp2_with (first
    | (go_at_call 25; (with_reducible refine (HR2.out.mono ?_)); rintro e w3 ⟨v3, l3, rfl, hs3, -, hm3, hb3⟩; have HS3 := Lib.hid (SlCt.bnd3 hs3); have HM3 := Lib.hid (hm3 rfl).2; have HB3 := Lib.hid hb3; obtain ⟨-, v0, v1⟩ := HX.out w3 hb3; clear hs3 hm3 hb3)
    | (go_at_call 26; (with_reducible refine ((HCN.out v3 l3 _ HS3.out).mono ?_)); rintro e w4 ⟨rfl, hb4⟩; have HB4 := Lib.hid (Bt HB3.out hb4); clear hb4))
  go_ret
  exact ⟨by rw [← HRB.out l3 HM3.out]; rfl, Bt HB2.out HB4.out⟩
set_option maxRecDepth 100000 in
theorem size_any (n : Nat) (hn : n < 2 ^ 64) (w : World) :
    Calls Tryd.prog 20 #[.int .u64 n] w fun e w' => e = .returned (.int .i64 (Cha.sizeF 64 n : Nat)) ∧ w' = w := by
  go_enter Tryd.func20, Tryd.ntmps20
  go_wp2_with fail
  go_loopg [0, 3] 64 (fun gg s0 s3 wr => ∃ (f m k : Nat), f ≤ gg ∧ f ≤ 64 ∧ m < 2 ^ f ∧ s0 = .int .u64 m ∧ s3 = .int .i64 k ∧ Aside (k + Cha.sizeF f m = Cha.sizeF 64 n) ∧ wr = w)
  case atStart => exact ⟨64, n, 0, by omega, by omega, hn, rfl, rfl, (show Aside _ from by show _ = _; rw [Nat.zero_add]), rfl⟩
  case round =>
    obtain ⟨f, m, k, hf, hf2, hm, rfl, rfl, HE, rfl⟩ := hrel
    replace HE := Lib.hid HE
    have h64 : (2 : Nat) ^ f ≤ 2 ^ 64 := Nat.pow_le_pow_right (by decide) hf2
    have hm64 : m < 18446744073709551616 := by omega
    have hk : k ≤ 64 := by have h1 := Cha.size_le 64 n; have h2 := HE.out; simp only [Aside] at h2; omega
    clear h64
    by_cases h0 : m = 0
    · subst h0
      have HE2 : Hid (k = Cha.sizeF 64 n) := Lib.hid (by
        rw [← HE.out]
        cases f with
        | zero => rfl
        | succ f => rw [Cha.sizeF, if_pos rfl]; rfl)
      clear HE
      go_wp2_with fail
      go_ret
      exact ⟨by rw [← HE2.out]; rfl, rfl⟩
    · have hd : decide (0 < (m : Int)) = true := decide_eq_true (by omega)
      obtain ⟨f, rfl⟩ : ∃ f', f = f' + 1 := ⟨f - 1, by
        cases f with
        | zero => exact absurd hm (by simp; omega)
        | succ f => rfl⟩
      have hmd : m / 2 < 2 ^ f := by rw [Nat.pow_succ] at hm; omega
      have HE2 : Hid (k + m % 2 + Cha.sizeF f (m / 2) = Cha.sizeF 64 n) := Lib.hid (by
        rw [← HE.out, Cha.sizeF, if_neg h0]; omega)
      have v1 : IntKind.i64.wrap (((m % 2 : Nat) : Int)) = ((m % 2 : Nat) : Int) := IntWalk.i64_in _ (by omega)
      have e1 : (m : Int).tmod 2 = ((m % 2 : Nat) : Int) := rfl
      have e2 : (m : Int).tdiv 2 = ((m / 2 : Nat) : Int) := rfl
      clear HE hm
      go_wp2_with fail
      go_roundg f
      case measure => omega
      case rel => exact ⟨f, m / 2, k + m % 2, by omega, by omega, hmd, by go_num, by go_num, HE2.out, rfl⟩
set_option maxRecDepth 100000 in
theorem first_any (x y : Nat) (hx : x < 2 ^ 64) (hy : y < 2 ^ 64) (w : World) :
    Calls Tryd.prog 21 #[.int .u64 x, .int .u64 y] w fun e w' => e = .returned (.bool (Cha.firstF x y)) ∧ w' = w := by
  have hxy : x ^^^ y < 2 ^ 64 := Nat.xor_lt_two_pow hx hy
  have h1 : bits .xor .u64 (x : Int) (y : Int) = ((x ^^^ y : Nat) : Int) := u64_xor_nat x y hx hy
  have hz : Hid (Cha.firstF x y = ((x &&& ((x ^^^ y) &&& ((18446744073709551616 - (x ^^^ y)) % 18446744073709551616))) != 0)) := Lib.hid rfl
  generalize x ^^^ y = d at *
  have hn : IntKind.u64.wrap (-(d : Int)) = (((18446744073709551616 - d) % 18446744073709551616 : Nat) : Int) := by rw [IntKind.wrap_u64]; omega
  have hm : (18446744073709551616 - d) % 18446744073709551616 < 2 ^ 64 := by omega
  generalize (18446744073709551616 - d) % 18446744073709551616 = m at *
  have h2 : bits .and .u64 (d : Int) (m : Int) = ((d &&& m : Nat) : Int) := Hit.u64_and d m hxy hm
  have hdm : d &&& m < 2 ^ 64 := Nat.and_lt_two_pow _ hm
  generalize d &&& m = q at *
  have h3 : bits .and .u64 (x : Int) (q : Int) = ((x &&& q : Nat) : Int) := Hit.u64_and x q hx hdm
  generalize x &&& q = r at *
  clear hx hy hxy hm hdm
  go_enter Tryd.func21, Tryd.ntmps21
  cases hr : ((r : Nat) != 0) with
  | false =>
    have hr2 : ((r : Int) != 0) = false := by simpa using hr
    have HR := Lib.hid (hz.out.trans hr)
    clear hr hz
    go_wp2_with fail
    go_ret
    exact ⟨by rw [HR.out]; rfl, rfl⟩
  | true =>
    have hr2 : ((r : Int) != 0) = true := by simp at hr ⊢; omega
    have HR := Lib.hid (hz.out.trans hr)
    clear hr hz
    go_wp2_with fail
    go_ret
    exact ⟨by rw [HR.out]; rfl, rfl⟩
end Go.Proofs.YtahlfndlkfoikaaDoor
namespace Go.Proofs.YtahlfndlkfoikaaDoor
open Go Go.RowKit Go.Shelf
namespace Cha
open Cou
/-- n contacts of division d, from key k on. -/
def keyF (d : Int) : Int → Nat → List Ct
  | _, 0 => []
  | k, n + 1 => (d, k) :: keyF d (k + 1) n
/-- All contacts of divisions, of which the first has number d. -/
def conF : Nat → List (Int × Int) → List Ct
  | _, [] => []
  | d, c :: r => keyF d c.1 (c.2 + 1 - c.1).toNat ++ conF (d + 1) r
theorem keyF_len {d : Int} : ∀ {k : Int} {n : Nat}, (keyF d k n).length = n
  | _, 0 => rfl
  | k, n + 1 => by rw [keyF, List.length_cons, keyF_len]
theorem conF_len : ∀ {l : List (Int × Int)} {d : Nat}, (∀ c ∈ l, 0 ≤ c.1 ∧ c.1 ≤ c.2 ∧ c.2 ≤ 127) → (conF d l).length ≤ 128 * l.length
  | [], _, _ => by simp [conF]
  | c :: r, d, h => by
    have h1 := h c (by simp)
    have h2 := conF_len (d := d + 1) fun c hc => h c (List.mem_cons_of_mem _ hc)
    rw [conF, List.length_append, keyF_len, List.length_cons]
    omega
/-- Does a key reach a contact? -/
noncomputable def hopB (a : Ac) (c k : Ct) : Bool := @decide (Hop a [k] c) (Classical.propDecidable _)
theorem hopB_iff {a : Ac} {c k : Ct} : hopB a c k = true ↔ Hop a [k] c := by unfold hopB; exact @decide_eq_true_iff _ (Classical.propDecidable _)
/-- What Sources answers. -/
noncomputable def srcF (a : Ac) (c : Ct) : List Ct := if beginF a [c] = 0 then (conF 0 a.divs).filter (hopB a c) else []
theorem wrong_in {a : Ac} {c : Ct} (h : InA a c) : wrongF a c = 0 := by
  obtain ⟨h1, h2, h3⟩ := h
  unfold wrongF
  rw [if_neg (by omega), h3]
  rfl
theorem begin_right {a : Ac} {l : List Ct} (h : beginF a l = 0) : rightF a = 0 := by
  unfold beginF at h
  split at h
  · rename_i hr; exact hr
  · exact h
end Cha
set_option maxRecDepth 100000 in
set_option maxHeartbeats 4000000 in
theorem Sources_any (a : Cou.Ac) (vd vc : Value) (hdr : a.drawn < 2 ^ 64) (con : Cou.Ct) (w : World) (F : Nat → Prop) (hA : AcAt F w vd vc a) (hT : Tab64 w) (hg : 0 < w.heap.size) :
    Calls Tryd.prog 24 #[.agg #[vd, vc, .int .u64 a.drawn], .agg #[.int .i64 con.1, .int .i64 con.2]] w fun e w' => ∃ v, e = .returned (.tuple #[v, .int .i64 (Cha.beginF a [con])]) ∧ OwnL w.heap.size 36 2 CtC w' v (Cha.srcF a con) ∧ Below w.heap.size w w' := by
  obtain ⟨Ad, cd, hvd, -, hdat⟩ := id hA.dv.open
  obtain ⟨Ac, cc, hvc, -, -⟩ := id hA.cp.open
  subst hvd hvc
  have hF := hA.inW
  have HRE0 := Lib.hid (fun W (hb : Below w.heap.size w W) k => Reach_any a (.slice Ad a.divs.length cd) (.slice Ac a.cps.length cc) hdr k W F (hA.onB hF hb) (hT.below hb) (Nat.lt_of_lt_of_le hg hb.size))
  obtain ⟨cl, hcl⟩ : ∃ cl, a.cps.length = cl := ⟨_, rfl⟩
  rw [hcl] at hA HRE0 ⊢
  have HBG := Lib.hid (fun W (hb : Below w.heap.size w W) pv pl (hP : SlCt (fun b => b < W.heap.size) W pv pl) => begin_any a (.slice Ad a.divs.length cd) (.slice Ac cl cc) hdr pv pl W (fun b => b < W.heap.size) (hA.onB hF hb).all hP)
  obtain ⟨t1, t2⟩ := con
  obtain ⟨w1, hw1⟩ : ∃ w1 : World, (w.alloc (.cells #[.slice Ad a.divs.length cd, .slice Ac cl cc, .int .u64 a.drawn] 33)).alloc (.cells #[.int .i64 t1, .int .i64 t2] 36) = w1 := ⟨_, rfl⟩
  obtain ⟨bx, hbx⟩ : ∃ bx, w.heap.size = bx := ⟨_, rfl⟩
  obtain ⟨b1, hb1⟩ : ∃ b1, bx + 1 = b1 := ⟨_, rfl⟩
  have c0 : w1.cell? ⟨bx, 0, none⟩ = some (.slice Ad a.divs.length cd) := by rw [← hw1, ← hbx]; simp [go_sem]
  have c1 : w1.cell? ⟨bx, 1, none⟩ = some (.slice Ac cl cc) := by rw [← hw1, ← hbx]; simp [go_sem]
  have c2 : w1.cell? ⟨bx, 2, none⟩ = some (.int .u64 a.drawn) := by rw [← hw1, ← hbx]; simp [go_sem]
  have c3 : w1.cell? ⟨b1, 0, none⟩ = some (.int .i64 t1) := by rw [← hw1, ← hb1, ← hbx]; simp [go_sem]
  have c4 : w1.cell? ⟨b1, 1, none⟩ = some (.int .i64 t2) := by rw [← hw1, ← hb1, ← hbx]; simp [go_sem]
  have l1 : b1 < w1.heap.size := by rw [← hw1, ← hb1, ← hbx]; simp
  have B1 : Below w.heap.size w w1 := by rw [← hw1]; exact Ba (Ba (B0 w) _) _
  have HK := Lib.hid (fun W (hb : Below w1.heap.size w1 W) => (show (W.cell? ⟨bx, 0, none⟩ = some (.slice Ad a.divs.length cd) ∧ W.cell? ⟨bx, 1, none⟩ = some (.slice Ac cl cc) ∧ W.cell? ⟨bx, 2, none⟩ = some (.int .u64 a.drawn)) ∧ W.cell? ⟨b1, 0, none⟩ = some (.int .i64 t1) ∧ W.cell? ⟨b1, 1, none⟩ = some (.int .i64 t2) from
    ⟨⟨(Bc hb (by omega)).trans c0, (Bc hb (by omega)).trans c1, (Bc hb (by omega)).trans c2⟩, (Bc hb l1).trans c3, (Bc hb l1).trans c4⟩))
  have HB1 := Lib.hid B1
  have HW1 := Lib.hid hw1
  have HBX := Lib.hid hbx
  have HE1 := Lib.hid hb1
  have HFF := Lib.hid hF
  have HDAT := Lib.hid hdat
  have hbg := HBG.out _ (Bt B1 (Ba (B0 w1) (.cells #[.int .i64 t1, .int .i64 t2] 36))) _ _ (slCt_one w1 (t1, t2))
  clear hA hF B1 hw1 hbx hb1 l1 hcl HBG hdr hT hdat
  dsimp only
  by_cases hbe : Cha.beginF a [(t1, t2)] = 0
  · obtain ⟨hok, -⟩ := Cha.begin_one hbe
    have hrt := Cha.begin_right hbe
    have HBZ := Lib.hid hbe
    have HZ : Hid (Cha.srcF a (t1, t2) = (Cha.conF 0 a.divs).filter (Cha.hopB a (t1, t2))) := Lib.hid (by unfold Cha.srcF; rw [if_pos hbe])
    have HRE := Lib.hid (fun W (hb : Below w.heap.size w W) (k1 k2 : Int) (hk : Cou.InA a (k1, k2)) (b : Bool) (hv : Cha.hopB a (t1, t2) (k1, k2) = b) => show Calls Tryd.prog 25 #[.agg #[.slice Ad a.divs.length cd, .slice Ac cl cc, .int .u64 a.drawn], .agg #[.int .i64 k1, .int .i64 k2]] W fun e w' => ∃ v l, e = .returned (.tuple #[v, .int .i64 0]) ∧ SlCt (fun b => b < w'.heap.size) w' v l ∧ decide ((t1, t2) ∈ l) = b ∧ Below W.heap.size W w' from by
      have he : reachErr a (k1, k2) = 0 := by unfold reachErr; rw [if_pos hrt]; exact Cha.wrong_in hk
      have h := HRE0.out W hb (k1, k2)
      rw [he] at h
      refine h.mono ?_
      rintro e w' ⟨v, l, rfl, q1, -, q3, q4⟩
      refine ⟨v, l, rfl, SlCt.bnd3 q1, ?_, q4⟩
      rw [← hv, Bool.eq_iff_iff, decide_eq_true_eq, (q3 rfl).2, Cha.hopB_iff])
    have hdv := hok.div
    have hnd := hok.nd
    have hlen : ((Cha.conF 0 a.divs).filter (Cha.hopB a (t1, t2))).length ≤ 1024 := by
      have h1 := Cha.conF_len (d := 0) hdv
      have h2 := List.length_filter_le (Cha.hopB a (t1, t2)) (Cha.conF 0 a.divs)
      omega
    rw [hbe] at hbg
    have HBE := Lib.hid hbg
    have HDV := Lib.hid hdv
    clear hbe hbg hok HRE0 hrt hdv
    go_enter Tryd.func24, Tryd.ntmps24
    go_upto_region 1 with fail
    rw [HW1.out, HBX.out, HE1.out]
    go_upto_region 5 with (go_at_call 38; (with_reducible refine (HBE.out.mono ?_)); rintro e w2 ⟨rfl, hb2⟩; have HB2 := Lib.hid (Bt (Ba (B0 w1) _) hb2); clear hb2)
    clear c0 c1 c2 c3 c4
    obtain ⟨⟨c0, c1, c2⟩, c3, c4⟩ := HK.out w2 HB2.out
    go_wp2_with fail
    clear c0 c1 c2 c3 c4
    go_loopg [7, 24] a.divs.length (fun gg s7 s24 wr => ∃ (k : Nat) (out : List Cou.Ct), k ≤ a.divs.length ∧ a.divs.length - k ≤ gg ∧ s24 = .int .i64 k ∧ Aside (OwnL w2.heap.size 36 2 CtC wr s7 out) ∧ Aside (out ++ (Cha.conF k (a.divs.drop k)).filter (Cha.hopB a (t1, t2)) = (Cha.conF 0 a.divs).filter (Cha.hopB a (t1, t2))) ∧ Aside (Below w2.heap.size w2 wr))
    case atStart => exact ⟨0, [], by omega, by omega, rfl, OwnL.nil, (show Aside _ from by show _ = _; rw [List.drop_zero]; rfl), B0 w2⟩
    case round =>
      obtain ⟨k, out, hk, hg, rfl, HO, HE, HB⟩ := hrel
      replace HO := Lib.hid HO
      replace HE := Lib.hid HE
      replace HB := Lib.hid HB
      by_cases hlt : k < a.divs.length
      · have hki : decide ((k : Int) < a.divs.length) = true := decide_eq_true (by omega)
        have hkl : (k : Int) < a.divs.length := by omega
        obtain ⟨ad, rfl, hfb, hfl⟩ := HDAT.out k hlt
        have hfb2 : (ad.add (k * 2)).block < w.heap.size := by rw [block_of_add]; exact HFF.out _ hfb
        have hfl2 := hfl.below (Bt HB1.out (Bt HB2.out HB.out)) hfb2
        have f0 := hfl2.f0 rfl
        have f1 := hfl2.f1 rfl
        have hdk := HDV.out a.divs[k] (List.getElem_mem hlt)
        have hE2 : out ++ ((Cha.keyF k a.divs[k].1 (a.divs[k].2 + 1 - a.divs[k].1).toNat).filter (Cha.hopB a (t1, t2)) ++ (Cha.conF (k + 1) (a.divs.drop (k + 1))).filter (Cha.hopB a (t1, t2))) = (Cha.conF 0 a.divs).filter (Cha.hopB a (t1, t2)) := by
          rw [← HE.out, List.drop_eq_getElem_cons hlt, Cha.conF, List.filter_append]
        have HIN : Hid (∀ m : Int, a.divs[k].1 ≤ m → m ≤ a.divs[k].2 → Cou.InA a ((k : Int), m)) := Lib.hid fun m h1 h2 => by
          refine ⟨by show 0 ≤ (k : Int); omega, hkl, ?_⟩
          show Cou.inB (a.divs.getD (k : Int).toNat (0, -1)) m = true
          rw [Int.toNat_natCast, List.getD_eq_getElem?_getD, List.getElem?_eq_getElem hlt]
          unfold Cou.inB
          simp only [Option.getD_some, Bool.and_eq_true, decide_eq_true_eq]
          exact ⟨h1, h2⟩
        generalize a.divs[k] = x at *
        obtain ⟨lo, hi⟩ := x
        dsimp only at f0 f1 hdk hE2 HIN
        have HEx := Lib.hid hE2
        clear HE hE2 hfl hfl2
        go_wp2_with fail
        obtain ⟨bk, hbk⟩ : ∃ bk, wr.heap.size = bk := ⟨_, rfl⟩
        obtain ⟨w3, hw3⟩ : ∃ w3 : World, wr.alloc (.cells #[.int .i64 lo, .int .i64 hi] 62) = w3 := ⟨_, rfl⟩
        have hBb : Blk w3 bk 62 #[.int .i64 lo, .int .i64 hi] := by rw [← hw3, ← hbk]; exact Blk.new _ _ _
        have hOb : OwnL w2.heap.size 36 2 CtC w3 u7 out := by rw [← hw3]; exact HO.out.alloc _ fun _ _ h => h
        have hWb : Below w2.heap.size w2 w3 := by rw [← hw3]; exact Ba HB.out _
        rw [hw3, hbk]
        obtain ⟨n, hn⟩ : ∃ n, (hi + 1 - lo).toNat = n := ⟨_, rfl⟩
        rw [hn] at HEx
        have hn1 : lo + (n : Int) = hi + 1 := by omega
        have hn2 : n ≤ 128 := by omega
        clear hw3 hbk HO HB hn f0 f1
        have HBb := Lib.hid hBb
        have HOb := Lib.hid hOb
        have HWb := Lib.hid hWb
        clear hBb hOb hWb
        go_loopg [7, 10] n (fun gg s7 s10 wr2 => ∃ (j : Nat) (out2 : List Cou.Ct), j ≤ n ∧ n - j ≤ gg ∧ s10 = .int .i64 (lo + j) ∧ Aside (OwnL w2.heap.size 36 2 CtC wr2 s7 out2) ∧ Aside (out2 ++ ((Cha.keyF k (lo + j) (n - j)).filter (Cha.hopB a (t1, t2)) ++ (Cha.conF (k + 1) (a.divs.drop (k + 1))).filter (Cha.hopB a (t1, t2))) = (Cha.conF 0 a.divs).filter (Cha.hopB a (t1, t2))) ∧ Aside (Blk wr2 bk 62 #[.int .i64 lo, .int .i64 hi]) ∧ Aside (Below w2.heap.size w2 wr2))
        case atStart => exact ⟨0, out, by omega, by omega, by simp, HOb.out, (show Aside _ from by show _ = _; simpa using HEx.out), HBb.out, HWb.out⟩
        case round =>
          clear HOb HEx HBb HWb
          obtain ⟨j, out2, hj, hg2, rfl, HO2, HE2, HB2', HW2⟩ := hrel
          replace HO2 := Lib.hid HO2
          replace HE2 := Lib.hid HE2
          replace HB2' := Lib.hid HB2'
          replace HW2 := Lib.hid HW2
          have b1' := HB2'.out.cell 1
          simp only [List.getElem?_toArray, List.getElem?_cons_zero, List.getElem?_cons_succ] at b1'
          by_cases hjl : j < n
          · have hkj : decide (lo + (j : Int) ≤ hi) = true := decide_eq_true (by omega)
            have hin := HIN.out (lo + (j : Int)) (by omega) (by omega)
            have he2 := HE2.out
            rw [show n - j = (n - (j + 1)) + 1 by omega, Cha.keyF, List.filter_cons, show lo + (j : Int) + 1 = lo + ((j + 1 : Nat) : Int) by omega] at he2
            obtain ⟨w4, hw4⟩ : ∃ w4 : World, wr.alloc (.cells #[.int .i64 (k : Int), .int .i64 (lo + (j : Int))] 36) = w4 := ⟨_, rfl⟩
            obtain ⟨bc, hbc⟩ : ∃ bc, wr.heap.size = bc := ⟨_, rfl⟩
            have KC : Blk w4 bc 36 #[.int .i64 (k : Int), .int .i64 (lo + (j : Int))] := by rw [← hw4, ← hbc]; exact Blk.new _ _ _
            have HW4 : Hid (Below w2.heap.size w2 w4) := Lib.hid (by rw [← hw4]; exact Ba HW2.out _)
            have HO4 : Hid (OwnL w2.heap.size 36 2 CtC w4 u7 out2) := Lib.hid (by rw [← hw4]; exact HO2.out.alloc _ fun _ _ h => h)
            have HB4 : Hid (Blk w4 bk 62 #[.int .i64 lo, .int .i64 hi]) := Lib.hid (by rw [← hw4]; exact HB2'.out.alloc _)
            have HKC := Lib.hid (fun W (hb : Below w4.heap.size w4 W) => (show W.cell? ⟨bc, 0, none⟩ = some (.int .i64 (k : Int)) ∧ W.cell? ⟨bc, 1, none⟩ = some (.int .i64 (lo + (j : Int))) from ⟨(Bc hb KC.lt).trans (KC.cell 0), (Bc hb KC.lt).trans (KC.cell 1)⟩))
            clear HO2 HB2' HW2 KC
            go_upto_region 12 with fail
            try rw [hw4]
            try rw [hbc]
            clear hw4 hbc b1'
            obtain ⟨⟨c0, c1, c2⟩, -, -⟩ := HK.out w4 (Bt HB2.out HW4.out)
            obtain ⟨z0, z1⟩ := HKC.out w4 (B0 w4)
            cases hv : Cha.hopB a (t1, t2) ((k : Int), lo + (j : Int)) with
            | false =>
              have HR := Lib.hid (HRE.out w4 (Bt HB1.out (Bt HB2.out HW4.out)) _ _ hin false hv)
              rw [hv, if_neg (by decide)] at he2
              have HE3 := Lib.hid he2
              clear hv he2 HE2 hin
              go_wp2_with (first
                | (go_at_call 25; (with_reducible refine (HR.out.mono ?_)); rintro e w5 ⟨v5, l5, rfl, hs5, hq5, hb5⟩; have HS5 := Lib.hid hs5; have HQ5 := Lib.hid hq5; have HB5 := Lib.hid hb5; obtain ⟨-, c3, c4⟩ := HK.out w5 (Bt HB2.out (Bt HW4.out hb5)); clear hs5 hq5 hb5)
                | (go_at_call 41; (with_reducible refine ((contains_ct v5 l5 (t1, t2) w5 _ (fun _ h => h) HS5.out).mono ?_)); rintro e w6 ⟨rfl, hb6⟩; rw [HQ5.out]; have HB6 := Lib.hid (Bt HB5.out hb6); clear hb6))
              go_roundg (n - (j + 1))
              case measure => omega
              case rel => exact ⟨j + 1, out2, by omega, by omega, by go_num, own_bel HO4.out HB6.out, HE3.out, HB4.out.below HB6.out HB4.out.lt, Bt HW4.out HB6.out⟩
            | true =>
              have HR := Lib.hid (HRE.out w4 (Bt HB1.out (Bt HB2.out HW4.out)) _ _ hin true hv)
              rw [hv, if_pos rfl] at he2
              have he3 : (out2 ++ [((k : Int), lo + (j : Int))]) ++ ((Cha.keyF k (lo + ((j + 1 : Nat) : Int)) (n - (j + 1))).filter (Cha.hopB a (t1, t2)) ++ (Cha.conF (k + 1) (a.divs.drop (k + 1))).filter (Cha.hopB a (t1, t2))) = (Cha.conF 0 a.divs).filter (Cha.hopB a (t1, t2)) := by
                rw [← he2]; simp
              have hol : out2.length ≤ 1024 := by
                have := congrArg List.length he3
                simp only [List.length_append] at this
                omega
              have HE3 := Lib.hid he3
              clear hv he2 he3 HE2 hin
              go_upto_region 16 with (first
                | (go_at_call 25; (with_reducible refine (HR.out.mono ?_)); rintro e w5 ⟨v5, l5, rfl, hs5, hq5, hb5⟩; have HS5 := Lib.hid hs5; have HQ5 := Lib.hid hq5; have HB5 := Lib.hid hb5; obtain ⟨-, c3, c4⟩ := HK.out w5 (Bt HB2.out (Bt HW4.out hb5)); clear hs5 hq5 hb5)
                | (go_at_call 41; (with_reducible refine ((contains_ct v5 l5 (t1, t2) w5 _ (fun _ h => h) HS5.out).mono ?_)); rintro e w6 ⟨rfl, hb6⟩; rw [HQ5.out]; have HB6 := Lib.hid (Bt HB5.out hb6); clear hb6))
              have HO6 := own_bel HO4.out HB6.out
              have HK6 := Lib.hid (HB4.out.below HB6.out HB4.out.lt)
              have HW6 := Lib.hid (Bt HW4.out HB6.out)
              obtain ⟨y0, y1⟩ := HKC.out w6 HB6.out
              obtain ⟨cs, q1, q2, q3⟩ := id HO6
              have hbs := HW6.out.size
              have HQ1 := Lib.hid q1
              have HQ2 := Lib.hid q2
              have HQ3 := Lib.hid q3
              have HL3 := Lib.hid HO6.lt
              clear q1 q2 q3 HO6 c0 c1 c2 c3 c4 z0 z1
              go_wp2_with (at_builtin; refine wpList_appS elemCt (by omega) rfl _ _ rfl w2.heap.size _ out2.length _ rfl (HQ3.out.alloc _) ⟨w6.heap.size, 0, none⟩ 1 [.int .i64 (k : Int), .int .i64 (lo + (j : Int))] rfl rfl (Flds.new w6 _ _) (by simp [Value.oneCell']) (by omega) (by omega) (by simp; omega) ?_; intro g cap w8 hown8 hg8 hgg; have HO8 := Lib.hid hown8; have HG8 := Lib.hid hg8; clear hown8 hg8 hgg)
              go_roundg (n - (j + 1))
              case measure => omega
              case rel =>
                refine ⟨j + 1, out2 ++ [((k : Int), lo + (j : Int))], by omega, by omega, by go_num, OwnL.snoc HQ1.out HQ2.out rfl rfl (fun _ _ h => h) HO8.out, HE3.out, ((HK6.out.alloc _).grown HG8.out fun e => ?_), (Ba HW6.out _).grown HG8.out (by simp; omega) fun b e => (HL3.out b e).1⟩
                exact own_ne HQ3.out HK6.out (by decide) e.symm
          · have hkj : decide (lo + (j : Int) ≤ hi) = false := decide_eq_false (by omega)
            have hjn : j = n := by omega
            subst hjn
            have he3 : out2 ++ (Cha.conF (k + 1) (a.divs.drop (k + 1))).filter (Cha.hopB a (t1, t2)) = (Cha.conF 0 a.divs).filter (Cha.hopB a (t1, t2)) := by rw [← HE2.out, Nat.sub_self]; simp [Cha.keyF]
            have H3 := Lib.hid he3
            clear HE2 he3 HIN
            go_wp2_with fail
            go_roundg (a.divs.length - (k + 1))
            case measure => omega
            case rel => exact ⟨k + 1, out2, by omega, by omega, by go_num, HO2.out, H3.out, HW2.out⟩
      · have hki : decide ((k : Int) < a.divs.length) = false := decide_eq_false (by omega)
        have hkk : k = a.divs.length := by omega
        subst hkk
        have he : out = Cha.srcF a (t1, t2) := by rw [HZ.out, ← HE.out, List.drop_length]; simp [Cha.conF]
        have HEE := Lib.hid he
        clear HE he HDAT HDV
        go_wp2_with fail
        go_ret2
        rw [← HEE.out, HBZ.out]
        exact ⟨_, rfl, (by obtain ⟨cs, q1, q2, q3⟩ := HO.out; exact ⟨cs, q1, q2, own_more q3 (Bt HB1.out HB2.out).size⟩), Bt HB1.out (Bt HB2.out HB.out)⟩
  · have HZ : Hid (Cha.srcF a (t1, t2) = []) := Lib.hid (by unfold Cha.srcF; rw [if_neg hbe])
    have d1 : (Cha.beginF a [(t1, t2)] != 0) = true := by simpa using hbe
    have HBE := Lib.hid hbg
    clear hbe hbg HRE0
    generalize Cha.beginF a [(t1, t2)] = er at *
    go_enter Tryd.func24, Tryd.ntmps24
    go_upto_region 1 with fail
    rw [HW1.out, HBX.out, HE1.out]
    go_wp2_with (go_at_call 38; (with_reducible refine (HBE.out.mono ?_)); rintro e w2 ⟨rfl, hb2⟩; have HB2 := Lib.hid (Bt (Ba (B0 w1) _) hb2); clear hb2)
    go_ret2
    rw [HZ.out]
    exact ⟨_, rfl, OwnL.nil, Bt HB1.out HB2.out⟩
end Go.Proofs.YtahlfndlkfoikaaDoor
namespace Go.Proofs.YtahlfndlkfoikaaDoor
open Go Go.RowKit
namespace Cha
open Cou
/-- The couplers of a list, one after the other, behind xs. -/
def extL (a : Ac) (key : Ct) (ext : List Int → List Ch → List Ch) (xs : List Int) : List Nat → List Ch → List Ch
  | [], out => out
  | i :: is, out => if 400 < out.length then out
    else if (followF a key (xs ++ [(i : Int)])).1 = 0 then extL a key ext xs is (ext (xs ++ [(i : Int)]) (out ++ [(xs ++ [(i : Int)], lastF (followF a key (xs ++ [(i : Int)])).2)]))
    else extL a key ext xs is out
/-- What extend answers, d deep. -/
def extG (a : Ac) (key : Ct) : Nat → List Int → List Ch → List Ch
  | 0, _, out => out
  | d + 1, xs, out => extL a key (extG a key d) xs (List.range a.cps.length) out
theorem extL_pre (a : Ac) (key : Ct) (ext : List Int → List Ch → List Ch) (h : ∀ xs out, out <+: ext xs out) (xs : List Int) : ∀ (is : List Nat) (out : List Ch), out <+: extL a key ext xs is out
  | [], out => List.prefix_refl _
  | i :: is, out => by
    unfold extL
    split
    · exact List.prefix_refl _
    · split
      · exact ((List.prefix_append out _).trans (h _ _)).trans (extL_pre a key ext h xs is _)
      · exact extL_pre a key ext h xs is out
theorem extG_pre (a : Ac) (key : Ct) : ∀ (d : Nat) (xs : List Int) (out : List Ch), out <+: extG a key d xs out
  | 0, _, _ => List.prefix_refl _
  | d + 1, xs, out => extL_pre a key _ (extG_pre a key d) xs _ out
theorem extL_len (a : Ac) (key : Ct) (ext : List Int → List Ch → List Ch) (h : ∀ xs out, out.length ≤ 401 → (ext xs out).length ≤ 401) (xs : List Int) : ∀ (is : List Nat) (out : List Ch), out.length ≤ 401 → (extL a key ext xs is out).length ≤ 401
  | [], out, ho => ho
  | i :: is, out, ho => by
    unfold extL
    split
    · exact ho
    · split
      · exact extL_len a key ext h xs is _ (h _ _ (by rw [List.length_append, List.length_singleton]; omega))
      · exact extL_len a key ext h xs is out ho
theorem extG_len (a : Ac) (key : Ct) : ∀ (d : Nat) (xs : List Int) (out : List Ch), out.length ≤ 401 → (extG a key d xs out).length ≤ 401
  | 0, _, _, h => h
  | d + 1, xs, out, h => extL_len a key _ (extG_len a key d) xs _ out h
/-- What can be followed is a chain. -/
theorem folF_ch {a : Ac} {key : Ct} : ∀ (l : List Int) (f : Bool) (at_ : Ct) (pre : List Int) (out res : List Ct), (f = true → pre = [] ∧ out = [] ∧ at_ = key) → (f = false → IsCh a key pre out ∧ lastF out = at_) → folF a f at_ out l = (0, res) → (pre ++ l = [] ∧ res = out) ∨ IsCh a key (pre ++ l) res
  | [], f, at_, pre, out, res, h1, h2, h => by
    unfold folF at h
    injection h with _ h
    subst h
    rw [List.append_nil]
    cases f with
    | true => obtain ⟨rfl, rfl, _⟩ := h1 rfl; exact .inl ⟨rfl, rfl⟩
    | false => exact .inr (h2 rfl).1
  | i :: l, f, at_, pre, out, res, h1, h2, h => by
    unfold folF at h
    split at h
    · rename_i hb
      have hbb := hb
      unfold badF at hb
      split at hb
      · cases hb
      · rename_i q1
        split at hb
        · cases hb
        · rename_i q2
          split at hb
          · cases hb
          · rename_i q3
            split at hb
            · cases hb
            · rename_i t q4
              split at hb
              · cases hb
              · rename_i q5
                obtain ⟨n, rfl⟩ : ∃ n : Nat, i = n := ⟨i.toNat, by omega⟩
                rw [Int.toNat_natCast] at q2 q3 q4
                have ht : toF a at_ (n : Int) = t := by unfold toF; rw [Int.toNat_natCast, q4]; rfl
                have hd : a.drawn.testBit n = true := by simpa using q2
                have hc : IsCh a key (pre ++ [(n : Int)]) (out ++ [t]) := by
                  cases f with
                  | true =>
                    obtain ⟨rfl, rfl, rfl⟩ := h1 rfl
                    exact .one hd q4
                  | false =>
                    obtain ⟨hp, hl⟩ := h2 rfl
                    exact .snoc hp hd (by simpa using q3) (by rw [hl]; exact q4) q5
                rw [ht] at h
                have := folF_ch l false t (pre ++ [(n : Int)]) (out ++ [t]) res (fun e => by cases e) (fun _ => ⟨hc, lastF_snoc _ _⟩) h
                rw [List.append_assoc] at this
                rcases this with ⟨e, _⟩ | r
                · simp at e
                · exact .inr r
    · rename_i hb
      injection h with h _
      exact absurd h hb
theorem follow_ch {a : Ac} {key : Ct} {cs : List Int} (h : (followF a key cs).1 = 0) : IsCh a key cs (followF a key cs).2 := by
  unfold followF at h ⊢
  split
  · rename_i e; rw [if_pos e] at h; cases h
  · rename_i e
    rw [if_neg e] at h
    rcases folF_ch cs true key [] [] (folF a true key [] cs).2 (fun _ => ⟨rfl, rfl, rfl⟩) (fun e => by cases e) (by rw [← h]) with ⟨q, _⟩ | r
    · exact absurd q e
    · exact r
/-- The beginning of a chain is one. -/
theorem IsCh.begins {a : Ac} {key : Ct} {cs : List Int} {ts : List Ct} (h : IsCh a key cs ts) : ∀ p q, cs = p ++ q → p ≠ [] → ∃ us, IsCh a key p us := by
  induction h with
  | @one i t h1 h2 =>
    intro p q e hp
    cases p with
    | nil => exact absurd rfl hp
    | cons x p =>
      injection e with e1 e2
      have : p = [] := by
        cases p with
        | nil => rfl
        | cons _ _ => cases e2
      subst this
      subst e1
      exact ⟨_, .one h1 h2⟩
  | @snoc cs ts i t h0 h1 h2 h3 h4 ih =>
    intro p q e hp
    rcases List.eq_nil_or_concat q with rfl | ⟨q', z, rfl⟩
    · rw [List.append_nil] at e
      rw [← e]
      exact ⟨_, .snoc h0 h1 h2 h3 h4⟩
    · rw [List.concat_eq_append, ← List.append_assoc] at e
      obtain ⟨e1, _⟩ := List.append_inj' e rfl
      exact ih p q' e1 hp
end Cha
end Go.Proofs.YtahlfndlkfoikaaDoor
