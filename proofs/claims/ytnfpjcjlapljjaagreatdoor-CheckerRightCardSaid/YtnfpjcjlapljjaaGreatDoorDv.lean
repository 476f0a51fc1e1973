/- The law CheckerRight: the two answers are the same, and a sound that is not right does not speak (its drawn region printed by mklw.py). -/
import Derived.Test.YtnfpjcjlapljjaaGreatDoorDt
import Derived.Test.YtnfpjcjlapljjaaGreatDoorW7
import Derived.Test.YtnfpjcjlapljjaaGreatDoorRegS
namespace Go.Proofs.YtnfpjcjlapljjaaGreatDoor
open Go Go.RowKit Go.Shelf
open Org
section
variable {P : Program} {l : List Oper} {Q : Exit → Act → World → Prop}
/-- A call of which the result stands in what holds of the world. -/
theorem OpFactS.callB {a0 : Act} {l : List Oper} {E : Nat → Bool} {Base : (Nat → Bool) → (Nat → Value) → World → Prop} {Fact : Nat → (Nat → Value) → World → Prop} {i : Nat} {o : Oper} (hgd : o.guard = none)
    (hst : ∀ j s w w', Below w.heap.size w w' → Fact j s w → Fact j s w')
    (h : ∀ (L : Nat → Bool) (a : Act) (w : World), L i = false → (∀ t, freeB l i t = true → sl a t = sl a0 t) → (∀ k, (o.after.any fun e => Region.binds .any e && e.on == k) = true → Fact k (sl a) w) → Base L (sl a) w →
      ∃ f args, (execOp a.eval o).run P w = .ok (.enter f args) w ∧ Calls P f args w fun e w' => ∃ v, e = .returned v ∧ Below w.heap.size w w' ∧ (∀ s : Nat → Value, (∀ t, o.dst ≠ some t → s t = sl a t) → (∀ d, o.dst = some d → s d = v) → Base (fun j => L j || j == i) s w') ∧ ∀ s : Nat → Value, (∀ t, o.dst ≠ some t → s t = sl a t) → (∀ d, o.dst = some d → s d = v) → Fact i s w') : OpFactS P Q a0 l E Base Fact i o := by
  intro L a w hl hf D hb
  have hw : Region.wanted o (yielded l.toArray a.tmps) = true := by simp [Region.wanted, hgd]
  refine ⟨fun _ => ?_, fun h => by rw [hw] at h; cases h⟩
  obtain ⟨f, args, hrun, hc⟩ := h L a w hl hf D hb
  unfold Oper.wp
  rw [hrun]
  refine hc.mono ?_
  rintro e w' ⟨v, rfl, hbl, hB, hF⟩
  exact ⟨v, rfl, hB, fun j _ _ hj => hst j _ _ _ hbl hj, hF⟩
end
/-- What holds of the world while the sound is made: the rows' blocks are those of X, and the sound's box is none of them. -/
def RB (w3 : World) (sn : Snd) (s : Nat → Value) (w : World) : Prop := Below w3.heap.size w3 w ∧ ∃ X : Nat → Prop, (∀ c, X c → c < w.heap.size) ∧ (∀ cs : List Value, s 19 = .agg cs.toArray → SndC X w cs sn) ∧ (∀ cs : List Value, s 20 = .agg cs.toArray → SndC X w cs sn) ∧ (∀ cs : List Value, s 22 = .agg cs.toArray → ∃ s', SndC X w cs s' ∧ s'.Num) ∧
  ∀ g, s 7 = .pointer (some ⟨g, 0, none⟩) → w3.heap.size ≤ g ∧ Blk w g 50 snd0 ∧ ¬ X g
section
variable {w3 w w' : World} {sn : Snd} {s s' : Nat → Value}
theorem RB.below (h : RB w3 sn s w) : Below w3.heap.size w3 w := h.1
theorem RB.at19 {cs : List Value} (h : RB w3 sn s w) (e : s 19 = .agg cs.toArray) : ∃ X : Nat → Prop, (∀ c, X c → c < w.heap.size) ∧ SndC X w cs sn := by
  obtain ⟨-, X, hX, h19, -⟩ := h
  exact ⟨X, hX, h19 cs e⟩
theorem RB.start (h1 : s 19 = undef) (h2 : s 20 = undef) (h3 : s 22 = undef) (h4 : s 7 = undef) : RB w3 sn s w3 :=
  ⟨B0 w3, fun _ => False, fun _ q => absurd q id, fun _ e => (by rw [h1] at e; cases e), fun _ e => (by rw [h2] at e; cases e), fun _ e => (by rw [h3] at e; cases e), fun _ e => (by rw [h4] at e; cases e)⟩
/-- Rows of the blocks of X, and of new ones. -/
theorem SndC.more {X : Nat → Prop} {cs : List Value} {x : Snd} (h : SndC X w cs x) (hX : ∀ c, X c → c < w.heap.size) (hb : Below w.heap.size w w') : SndC (fun c => X c ∨ (w.heap.size ≤ c ∧ c < w'.heap.size)) w' cs x :=
  relSnd.mono (relSnd.keep h (Agree.below hb hX)) fun _ h => .inl h
theorem RB.keep (e1 : s' 19 = s 19) (e2 : s' 20 = s 20) (e3 : s' 22 = s 22) (e4 : s' 7 = s 7) (hb : Below w.heap.size w w') (h : RB w3 sn s w) : RB w3 sn s' w' := by
  obtain ⟨hw, X, hX, a19, a20, a22, a7⟩ := h
  refine ⟨Bt hw hb, X, fun c h => Nat.lt_of_lt_of_le (hX c h) hb.size, fun cs e => relSnd.keep (a19 cs (e1 ▸ e)) (Agree.below hb hX), fun cs e => relSnd.keep (a20 cs (e2 ▸ e)) (Agree.below hb hX), fun cs e => ?_, fun g e => ?_⟩
  · obtain ⟨q, q1, q2⟩ := a22 cs (e3 ▸ e)
    exact ⟨q, relSnd.keep q1 (Agree.below hb hX), q2⟩
  · obtain ⟨q1, q2, q3⟩ := a7 g (e4 ▸ e)
    exact ⟨q1, q2.below hb q2.lt, q3⟩
theorem agg_inj {cs ds : List Value} (h : Value.agg cs.toArray = .agg ds.toArray) : cs = ds := by
  injection h with h
  exact congrArg Array.toList h
theorem box_keep {X : Nat → Prop} (hb : Below w.heap.size w w') (a7 : ∀ g, s 7 = .pointer (some ⟨g, 0, none⟩) → w3.heap.size ≤ g ∧ Blk w g 50 snd0 ∧ ¬ X g) (e4 : s' 7 = s 7) : ∀ g, s' 7 = .pointer (some ⟨g, 0, none⟩) → w3.heap.size ≤ g ∧ Blk w' g 50 snd0 ∧ ¬ (X g ∨ (w.heap.size ≤ g ∧ g < w'.heap.size)) := fun g e => by
  obtain ⟨q1, q2, q3⟩ := a7 g (e4 ▸ e)
  refine ⟨q1, q2.below hb q2.lt, fun h => ?_⟩
  rcases h with h | h
  · exact q3 h
  · have := q2.lt; omega
theorem new_lt {X : Nat → Prop} (hX : ∀ c, X c → c < w.heap.size) (hb : Below w.heap.size w w') : ∀ c, X c ∨ (w.heap.size ≤ c ∧ c < w'.heap.size) → c < w'.heap.size := fun c h => h.elim (fun h => Nat.lt_of_lt_of_le (hX c h) hb.size) fun h => h.2
theorem RB.put19 {cs : List Value} (e2 : s' 20 = s 20) (e3 : s' 22 = s 22) (e4 : s' 7 = s 7) (e : s' 19 = .agg cs.toArray) (hb : Below w.heap.size w w') (hr : SndC (fun b => w.heap.size ≤ b ∧ b < w'.heap.size) w' cs sn) (h : RB w3 sn s w) : RB w3 sn s' w' := by
  obtain ⟨hw, X, hX, a19, a20, a22, a7⟩ := h
  refine ⟨Bt hw hb, _, new_lt hX hb, fun ds q => ?_, fun ds q => (a20 ds (e2 ▸ q)).more hX hb, fun ds q => ?_, box_keep hb a7 e4⟩
  · rw [e] at q
    rw [← agg_inj q]
    exact relSnd.mono hr fun _ h => .inr h
  · obtain ⟨z, q1, q2⟩ := a22 ds (e3 ▸ q)
    exact ⟨z, q1.more hX hb, q2⟩
theorem RB.put20 {cs : List Value} (e1 : s' 19 = s 19) (e3 : s' 22 = s 22) (e4 : s' 7 = s 7) (h11 : s 19 = .agg cs.toArray) (e : s' 20 = .agg cs.toArray) (hb : Below w.heap.size w w') (h : RB w3 sn s w) : RB w3 sn s' w' := by
  obtain ⟨hw, X, hX, a19, a20, a22, a7⟩ := h
  refine ⟨Bt hw hb, _, new_lt hX hb, fun ds q => (a19 ds (e1 ▸ q)).more hX hb, fun ds q => ?_, fun ds q => ?_, box_keep hb a7 e4⟩
  · rw [e] at q
    rw [← agg_inj q]
    exact (a19 cs h11).more hX hb
  · obtain ⟨z, q1, q2⟩ := a22 ds (e3 ▸ q)
    exact ⟨z, q1.more hX hb, q2⟩
theorem RB.put22 {X : Nat → Prop} {cs : List Value} {z : Snd} (e1 : s' 19 = s 19) (e2 : s' 20 = s 20) (e4 : s' 7 = s 7) (e : s' 22 = .agg cs.toArray) (hb : Below w.heap.size w w') (hw : Below w3.heap.size w3 w) (hX : ∀ c, X c → c < w.heap.size) (a19 : ∀ cs : List Value, s 19 = .agg cs.toArray → SndC X w cs sn) (a20 : ∀ cs : List Value, s 20 = .agg cs.toArray → SndC X w cs sn)
    (a7 : ∀ g, s 7 = .pointer (some ⟨g, 0, none⟩) → w3.heap.size ≤ g ∧ Blk w g 50 snd0 ∧ ¬ X g) (hr : SndC (fun c => X c ∨ (w.heap.size ≤ c ∧ c < w'.heap.size)) w' cs z) (hn : z.Num) : RB w3 sn s' w' := by
  refine ⟨Bt hw hb, _, new_lt hX hb, fun ds q => (a19 ds (e1 ▸ q)).more hX hb, fun ds q => (a20 ds (e2 ▸ q)).more hX hb, fun ds q => ?_, box_keep hb a7 e4⟩
  rw [e] at q
  rw [← agg_inj q]
  exact ⟨z, hr, hn⟩
theorem RB.put7 (e1 : s' 19 = s 19) (e2 : s' 20 = s 20) (e3 : s' 22 = s 22) (e : s' 7 = .pointer (some ⟨w.heap.size, 0, none⟩)) (h : RB w3 sn s w) : RB w3 sn s' (w.alloc (.cells snd0 50)) := by
  obtain ⟨hw, X, hX, a19, a20, a22, a7⟩ := h
  have hb := Ba (B0 w) (.cells snd0 50)
  refine ⟨Bt hw hb, X, fun c h => Nat.lt_of_lt_of_le (hX c h) hb.size, fun cs q => relSnd.keep (a19 cs (e1 ▸ q)) (Agree.below hb hX), fun cs q => relSnd.keep (a20 cs (e2 ▸ q)) (Agree.below hb hX), fun cs q => ?_, fun g q => ?_⟩
  · obtain ⟨z, q1, q2⟩ := a22 cs (e3 ▸ q)
    exact ⟨z, relSnd.keep q1 (Agree.below hb hX), q2⟩
  · rw [e] at q
    injection q with q
    injection q with q
    injection q with q
    subst q
    exact ⟨hw.size, Blk.new _ _ _, fun h => absurd (hX _ h) (Nat.lt_irrefl _)⟩
end
namespace Org
theorem ofR_lt (l : List Int) : (ofR l).1 < 2 ^ 128 := by
  unfold ofR
  split
  · exact Nt.setF_lt (fun n hn => List.all_eq_true.1 (by assumption) n hn) (by decide)
  · exact (by decide : 0 < 2 ^ 128)
theorem and_small (a b : Nat) (h : a < 256) : a &&& b < 2 ^ 64 := by
  have : a &&& b ≤ a := Nat.and_le_left
  omega
theorem mkSnd_ok (x : Pn) (y : Bt26) (hf : x.Fits) (hy : y.Ok) : SpOk (mkSnd x y) := by
  have hd : (mkSnd x y).o.divs.length = x.divs.length := by show (List.mapIdx _ _).length = _; rw [List.length_mapIdx]
  have hr : (mkSnd x y).o.ranks.length = x.ranks.length := mkRs_len x
  have hc : (mkSnd x y).o.cpls.length = x.cpls.length := by show (List.mapIdx _ _).length = _; rw [List.length_mapIdx]
  have hsm := mkOg_small x hf
  refine ⟨⟨?_, ?_, ?_, ?_⟩, by rw [hr]; exact hf.r1, by rw [hd]; exact hf.d1, by rw [hr]; have := hf.r3; omega, by rw [hd]; have := hf.d3; omega, by rw [hc]; have := hf.c3; omega, fun d h => by have := hsm.s60 d h; omega, by show (List.mapIdx _ _).length = _; rw [List.length_mapIdx]; rfl, by show (List.mapIdx _ _).length = _; rw [List.length_mapIdx]; rfl⟩
  · intro k hk
    obtain ⟨i, hi, rfl⟩ := List.mem_mapIdx.1 (show k ∈ (mkOg x).divs.mapIdx _ from hk)
    exact ofR_lt _
  · intro k hk
    obtain ⟨i, hi, rfl⟩ := List.mem_mapIdx.1 (show k ∈ (mkOg x).divs.mapIdx _ from hk)
    exact and_small _ _ (hy.c _ (by omega))
  · exact and_small _ _ (hy.c 3 (by omega))
  · exact and_small _ _ (hy.c 4 (by omega))
end Org
/-- What holds behind each operation of a drawn region. -/
def FL3 (b b1 b2 : Nat) (Ax Ay Az : Option Addr) (n1 cx n2 cy n3 cz e0 e1 e2 e3 e4 k0 k1 k2 br bn ho att : Nat) (byy : Int) (lim : Nat) (sn : Snd) (j : Nat) (s : Nat → Value) (_w : World) : Prop :=
  match j with
  | 0 => s 17 = .agg #[.slice Ax n1 cx, .slice Ay n2 cy, .slice Az n3 cz]
  | 1 => s 18 = .agg #[.int .u8 (e0 : Int), .int .u8 (e1 : Int), .int .u8 (e2 : Int), .int .u8 (e3 : Int), .int .u8 (e4 : Int), .int .u16 (k0 : Int), .int .u16 (k1 : Int), .int .u16 (k2 : Int), .int .u8 (br : Int), .int .u8 (bn : Int)]
  | 2 => ∃ cs : List Value, s 19 = .agg cs.toArray
  | 3 => ∃ cs : List Value, s 20 = .agg cs.toArray
  | 4 => s 21 = .agg #[.int .u8 (ho : Int), .int .u8 (att : Int), .int .i64 byy]
  | 5 => ∃ cs : List Value, s 22 = .agg cs.toArray
  | 6 => ∃ g : Nat, s 7 = .pointer (some ⟨g, 0, none⟩)
  | _ => True
def VL3 (j : Nat) : List Nat := match j with
  | 0 => [17] | 1 => [18] | 2 => [19] | 3 => [20] | 4 => [21] | 5 => [22] | 6 => [7] | _ => []
def EL3 (j : Nat) : Bool := j == 5 || j == 6
theorem FL3_V (b b1 b2 : Nat) (Ax Ay Az : Option Addr) (n1 cx n2 cy n3 cz e0 e1 e2 e3 e4 k0 k1 k2 br bn ho att : Nat) (byy : Int) (lim : Nat) (sn : Snd) (j : Nat) (s s' : Nat → Value) (w : World) (h : ∀ t, t ∈ VL3 j → s' t = s t) (hF : FL3 b b1 b2 Ax Ay Az n1 cx n2 cy n3 cz e0 e1 e2 e3 e4 k0 k1 k2 br bn ho att byy lim sn j s w) : FL3 b b1 b2 Ax Ay Az n1 cx n2 cy n3 cz e0 e1 e2 e3 e4 k0 k1 k2 br bn ho att byy lim sn j s' w := by
  match j with
  | 0 => unfold FL3 at hF ⊢; simp only at hF ⊢; rw [h 17 (by simp [VL3])]; exact hF
  | 1 => unfold FL3 at hF ⊢; simp only at hF ⊢; rw [h 18 (by simp [VL3])]; exact hF
  | 2 => unfold FL3 at hF ⊢; simp only at hF ⊢; rw [h 19 (by simp [VL3])]; exact hF
  | 3 => unfold FL3 at hF ⊢; simp only at hF ⊢; rw [h 20 (by simp [VL3])]; exact hF
  | 4 => unfold FL3 at hF ⊢; simp only at hF ⊢; rw [h 21 (by simp [VL3])]; exact hF
  | 5 => unfold FL3 at hF ⊢; simp only at hF ⊢; rw [h 22 (by simp [VL3])]; exact hF
  | 6 => unfold FL3 at hF ⊢; simp only at hF ⊢; rw [h 7 (by simp [VL3])]; exact hF
  | _ + 7 => trivial
theorem FL3_below (b b1 b2 : Nat) (Ax Ay Az : Option Addr) (n1 cx n2 cy n3 cz e0 e1 e2 e3 e4 k0 k1 k2 br bn ho att : Nat) (byy : Int) (lim : Nat) (sn : Snd) (j : Nat) (s : Nat → Value) (w w' : World) (_hb : Below w.heap.size w w') (hF : FL3 b b1 b2 Ax Ay Az n1 cx n2 cy n3 cz e0 e1 e2 e3 e4 k0 k1 k2 br bn ho att byy lim sn j s w) : FL3 b b1 b2 Ax Ay Az n1 cx n2 cy n3 cz e0 e1 e2 e3 e4 k0 k1 k2 br bn ho att byy lim sn j s w' := by
  match j with
  | 0 => exact hF
  | 1 => exact hF
  | 2 => exact hF
  | 3 => exact hF
  | 4 => exact hF
  | 5 => exact hF
  | 6 => exact hF
  | _ + 7 => trivial
set_option maxRecDepth 100000 in
set_option maxHeartbeats 4000000 in
theorem law_right (x : Pn) (y : Bt26) (hx : x.Ok) (hy : y.Ok) (ho att : Nat) (hho : ho < 256) (hat : att < 256) (byy : Int) (hby : -9223372036854775808 ≤ byy ∧ byy ≤ 9223372036854775807) (vr vd vc : Value) (w : World) (hT : TabP w) (F : Nat → Prop) (hF : ∀ c, F c → c < w.heap.size) (hR : Sl F 9 P14C w vr x.ranks) (hD : Sl F 4 (BdC F) w vd x.divs) (hC : Sl F 4 LnkC w vc x.cpls) :
    Calls Tryz.prog 3 #[.agg #[vr, vd, vc], .agg y.cs.toArray, .agg #[.int .u8 (ho : Int), .int .u8 (att : Int), .int .i64 byy]] w fun e w' => e = .returned (.bool true) ∧ Below w.heap.size w w' := by
  have HKN := Lib.hid (fun W => known54_any W)
  have hFI := fun W (hb : Below w.heap.size w W) => fits_any x vr vd vc W F (fun c hc => Nat.lt_of_lt_of_le (hF c hc) hb.size) (Sl.keep hR (Agree.below hb hF) fun _ _ h => h) (Sl.keepF relBd hD (Agree.below hb hF)) (Sl.keep hC (Agree.below hb hF) fun _ _ h => h)
  have hMK := fun (hf : x.Fits) W (hb : Below w.heap.size w W) => make26_any x y hx hf hy vr vd vc W (hT.below hb) F (fun c hc => Nat.lt_of_lt_of_le (hF c hc) hb.size) (Sl.keep hR (Agree.below hb hF) fun _ _ h => h) (Sl.keepF relBd hD (Agree.below hb hF)) (Sl.keep hC (Agree.below hb hF) fun _ _ h => h)
  have hSO := fun (hf : x.Fits) => mkSnd_ok x y hf hy
  obtain ⟨sn, hsn⟩ : ∃ s, mkSnd x y = s := ⟨_, rfl⟩
  rw [hsn] at hMK hSO
  obtain ⟨Ax, cx, rfl, -⟩ := Sl.openF hR
  obtain ⟨Ay, cy, rfl, -⟩ := Sl.openF hD
  obtain ⟨Az, cz, rfl, -⟩ := Sl.openF hC
  obtain ⟨n1, hn1⟩ : ∃ n, x.ranks.length = n := ⟨_, rfl⟩
  obtain ⟨n2, hn2⟩ : ∃ n, x.divs.length = n := ⟨_, rfl⟩
  obtain ⟨n3, hn3⟩ : ∃ n, x.cpls.length = n := ⟨_, rfl⟩
  rw [hn1, hn2, hn3] at hFI hMK ⊢
  obtain ⟨yc, yk, br, bn⟩ := y
  unfold Bt26.cs at *
  dsimp only at *
  obtain ⟨e0, he0⟩ : ∃ e, yc 0 = e := ⟨_, rfl⟩
  obtain ⟨e1, he1⟩ : ∃ e, yc 1 = e := ⟨_, rfl⟩
  obtain ⟨e2, he2⟩ : ∃ e, yc 2 = e := ⟨_, rfl⟩
  obtain ⟨e3, he3⟩ : ∃ e, yc 3 = e := ⟨_, rfl⟩
  obtain ⟨e4, he4⟩ : ∃ e, yc 4 = e := ⟨_, rfl⟩
  obtain ⟨k0, hk0⟩ : ∃ e, yk 0 = e := ⟨_, rfl⟩
  obtain ⟨k1, hk1⟩ : ∃ e, yk 1 = e := ⟨_, rfl⟩
  obtain ⟨k2, hk2⟩ : ∃ e, yk 2 = e := ⟨_, rfl⟩
  rw [he0, he1, he2, he3, he4, hk0, hk1, hk2] at hMK ⊢
  obtain ⟨FB, hFB⟩ : ∃ f, fitsB x = f := ⟨_, rfl⟩
  rw [hFB] at hFI
  have HFB : Hid (FB = true → x.Fits) := Lib.hid fun e => fitsB_fits (hFB.trans e)
  have HFI := Lib.hid hFI
  have HMK := Lib.hid hMK
  have HSO := Lib.hid hSO
  clear hFI hMK hSO hsn hR hD hC hn1 hn2 hn3 he0 he1 he2 he3 he4 hk0 hk1 hk2 hFB hT hx hy
  obtain ⟨w1, hw1⟩ : ∃ w1 : World, ((w.alloc (.cells #[.slice Ax n1 cx, .slice Ay n2 cy, .slice Az n3 cz] 26)).alloc (.cells #[.int .u8 (e0 : Int), .int .u8 (e1 : Int), .int .u8 (e2 : Int), .int .u8 (e3 : Int), .int .u8 (e4 : Int), .int .u16 (k0 : Int), .int .u16 (k1 : Int), .int .u16 (k2 : Int), .int .u8 (br : Int), .int .u8 (bn : Int)] 31)).alloc (.cells #[.int .u8 (ho : Int), .int .u8 (att : Int), .int .i64 byy] 33) = w1 := ⟨_, rfl⟩
  obtain ⟨b, hb⟩ : ∃ b, w.heap.size = b := ⟨_, rfl⟩
  obtain ⟨b1, hb1⟩ : ∃ b1, b + 1 = b1 := ⟨_, rfl⟩
  obtain ⟨b2, hb2⟩ : ∃ b2, b1 + 1 = b2 := ⟨_, rfl⟩
  have C1 : Blk w1 b 26 #[.slice Ax n1 cx, .slice Ay n2 cy, .slice Az n3 cz] := by rw [← hw1, ← hb]; exact ((Blk.new _ _ _).alloc _).alloc _
  have C2 : Blk w1 b1 31 #[.int .u8 (e0 : Int), .int .u8 (e1 : Int), .int .u8 (e2 : Int), .int .u8 (e3 : Int), .int .u8 (e4 : Int), .int .u16 (k0 : Int), .int .u16 (k1 : Int), .int .u16 (k2 : Int), .int .u8 (br : Int), .int .u8 (bn : Int)] := by
    rw [← hw1, ← hb1, ← hb]
    have h := (Blk.new (w.alloc (.cells #[.slice Ax n1 cx, .slice Ay n2 cy, .slice Az n3 cz] 26)) 31 #[.int .u8 (e0 : Int), .int .u8 (e1 : Int), .int .u8 (e2 : Int), .int .u8 (e3 : Int), .int .u8 (e4 : Int), .int .u16 (k0 : Int), .int .u16 (k1 : Int), .int .u16 (k2 : Int), .int .u8 (br : Int), .int .u8 (bn : Int)]).alloc (.cells #[.int .u8 (ho : Int), .int .u8 (att : Int), .int .i64 byy] 33)
    simpa using h
  have C3 : Blk w1 b2 33 #[.int .u8 (ho : Int), .int .u8 (att : Int), .int .i64 byy] := by
    rw [← hw1, ← hb2, ← hb1, ← hb]
    have h := Blk.new ((w.alloc (.cells #[.slice Ax n1 cx, .slice Ay n2 cy, .slice Az n3 cz] 26)).alloc (.cells #[.int .u8 (e0 : Int), .int .u8 (e1 : Int), .int .u8 (e2 : Int), .int .u8 (e3 : Int), .int .u8 (e4 : Int), .int .u16 (k0 : Int), .int .u16 (k1 : Int), .int .u16 (k2 : Int), .int .u8 (br : Int), .int .u8 (bn : Int)] 31)) 33 #[.int .u8 (ho : Int), .int .u8 (att : Int), .int .i64 byy]
    simpa using h
  have HB1 : Hid (Below w.heap.size w w1) := Lib.hid (by rw [← hw1]; exact Ba (Ba (Ba (B0 w) _) _) _)
  have HS1 := Lib.hid (fun W (hb : Below w1.heap.size w1 W) => (show (W.cell? ⟨b, 0, none⟩ = some (.slice Ax n1 cx) ∧ W.cell? ⟨b, 1, none⟩ = some (.slice Ay n2 cy) ∧ W.cell? ⟨b, 2, none⟩ = some (.slice Az n3 cz)) ∧ ((W.cell? ⟨b1, 0, none⟩ = some (.int .u8 (e0 : Int)) ∧ W.cell? ⟨b1, 1, none⟩ = some (.int .u8 (e1 : Int)) ∧ W.cell? ⟨b1, 2, none⟩ = some (.int .u8 (e2 : Int)) ∧ W.cell? ⟨b1, 3, none⟩ = some (.int .u8 (e3 : Int)) ∧ W.cell? ⟨b1, 4, none⟩ = some (.int .u8 (e4 : Int))) ∧ (W.cell? ⟨b1, 5, none⟩ = some (.int .u16 (k0 : Int)) ∧ W.cell? ⟨b1, 6, none⟩ = some (.int .u16 (k1 : Int)) ∧ W.cell? ⟨b1, 7, none⟩ = some (.int .u16 (k2 : Int)) ∧ W.cell? ⟨b1, 8, none⟩ = some (.int .u8 (br : Int)) ∧ W.cell? ⟨b1, 9, none⟩ = some (.int .u8 (bn : Int)))) ∧ W.cell? ⟨b2, 0, none⟩ = some (.int .u8 (ho : Int)) ∧ W.cell? ⟨b2, 1, none⟩ = some (.int .u8 (att : Int)) ∧ W.cell? ⟨b2, 2, none⟩ = some (.int .i64 byy) from by
    have h1 := C1.below hb C1.lt
    have h2 := C2.below hb C2.lt
    have h3 := C3.below hb C3.lt
    exact ⟨⟨h1.cell 0, h1.cell 1, h1.cell 2⟩, ⟨⟨h2.cell 0, h2.cell 1, h2.cell 2, h2.cell 3, h2.cell 4⟩, h2.cell 5, h2.cell 6, h2.cell 7, h2.cell 8, h2.cell 9⟩, h3.cell 0, h3.cell 1, h3.cell 2⟩))
  have HW1 := Lib.hid hw1
  have HBB := Lib.hid hb
  have HQ1 := Lib.hid hb1
  have HQ2 := Lib.hid hb2
  clear hw1 hb hb1 hb2 C1 C2 C3
  go_enter Tryz.func3, Tryz.ntmps3
  go_upto_region 1 with fail
  rw [HW1.out, HBB.out, HQ1.out, HQ2.out]
  cases FB with
  | false =>
    go_wp2_with (first
      | (go_at_call 4; (with_reducible refine ((HKN.out _).mono ?_)); rintro e w2 ⟨rfl, hb2⟩; first | have HB2 := Lib.hid (Bt HB2.out hb2) | (have HB2 := Lib.hid (Bt (B0 w1) hb2); obtain ⟨⟨p0, p1, p2⟩, -, -⟩ := HS1.out w2 HB2.out); clear hb2)
      | (go_at_call 5; (with_reducible refine ((HFI.out _ (Bt HB1.out HB2.out)).mono ?_)); rintro e w3 ⟨rfl, hb3⟩; replace HB2 := Lib.hid (Bt HB2.out hb3); clear hb3))
    go_ret
    exact ⟨rfl, Bt HB1.out HB2.out⟩
  | true =>
    have hf := HFB.out rfl
    have HMF := Lib.hid (HMK.out hf)
    have hso := HSO.out hf
    go_upto_region 3 with (first
      | (go_at_call 4; (with_reducible refine ((HKN.out _).mono ?_)); rintro e w2 ⟨rfl, hb2⟩; have HB2 := Lib.hid (Bt (B0 w1) hb2); (obtain ⟨⟨p0, p1, p2⟩, -, -⟩ := HS1.out w2 HB2.out); clear hb2)
      | (go_at_call 5; (with_reducible refine ((HFI.out _ (Bt HB1.out HB2.out)).mono ?_)); rintro e w3 ⟨rfl, hb3⟩; have HB3 := Lib.hid (Bt HB2.out hb3); clear hb3))
    have HMK3 := Lib.hid (fun W (hb : Below w3.heap.size w3 W) => HMF.out W (Bt HB1.out (Bt HB3.out hb)))
    have HS := Lib.hid (fun W (hb : Below w3.heap.size w3 W) => HS1.out W (Bt HB3.out hb))
    have HSP := Lib.hid (fun cs W X (hX : ∀ c, X c → c < W.heap.size) (hC : SndC X W cs sn) => spoiled_any sn hso ho att hho hat byy hby cs W X hX hC)
    clear p0 p1 p2 hso
    refine region_blocks (by kernel_rfl) ?_
    refine from_lawS 7 EL3 (fun _ s W => RB w3 sn s W) (FL3 b b1 b2 Ax Ay Az n1 cx n2 cy n3 cz e0 e1 e2 e3 e4 k0 k1 k2 br bn ho att byy w3.heap.size sn) VL3 (by kernel_rfl) rfl (FL3_V _ _ _ _ _ _ _ _ _ _ _ _ _ _ _ _ _ _ _ _ _ _ _ _ _ _ _) (by kernel_rfl) (by kernel_rfl) ((RB.start rfl rfl rfl rfl : RB w3 sn _ w3).keep rfl rfl rfl rfl ((B0 w3).drew)) ⟨?_, ?_, ?_, ?_, ?_, ?_, ?_, trivial⟩ ?_
    · refine OpFactS.value rfl (FL3_below _ _ _ _ _ _ _ _ _ _ _ _ _ _ _ _ _ _ _ _ _ _ _ _ _ _ _) (fun L s s' w w' h hb hB => RB.keep (h 19 (by simp)) (h 20 (by simp)) (h 22 (by simp)) (h 7 (by simp)) hb hB) fun L a w2 hl hf D hB => ?_
      have h0 : sl a 3 = .pointer (some ⟨b, 0, none⟩) := hf 3 (by kernel_rfl)
      have hb := hB.below
      have es := HS.out w2 hb
      refine ⟨.agg #[.slice Ax n1 cx, .slice Ay n2 cy, .slice Az n3 cz], w2, ?_, B0 _, fun s _ h => h 17 rfl⟩
      unfold sl at h0
      simp at h0
      simp [go_sem, h0, es]
    · refine OpFactS.value rfl (FL3_below _ _ _ _ _ _ _ _ _ _ _ _ _ _ _ _ _ _ _ _ _ _ _ _ _ _ _) (fun L s s' w w' h hb hB => RB.keep (h 19 (by simp)) (h 20 (by simp)) (h 22 (by simp)) (h 7 (by simp)) hb hB) fun L a w2 hl hf D hB => ?_
      have h0 : sl a 4 = .pointer (some ⟨b1, 0, none⟩) := hf 4 (by kernel_rfl)
      have hb := hB.below
      have es := HS.out w2 hb
      refine ⟨.agg #[.int .u8 (e0 : Int), .int .u8 (e1 : Int), .int .u8 (e2 : Int), .int .u8 (e3 : Int), .int .u8 (e4 : Int), .int .u16 (k0 : Int), .int .u16 (k1 : Int), .int .u16 (k2 : Int), .int .u8 (br : Int), .int .u8 (bn : Int)], w2, ?_, B0 _, fun s _ h => h 18 rfl⟩
      unfold sl at h0
      simp at h0
      simp [go_sem, h0, es]
    · refine OpFactS.callB rfl (FL3_below _ _ _ _ _ _ _ _ _ _ _ _ _ _ _ _ _ _ _ _ _ _ _ _ _ _ _) fun L a w2 hl hf D hB => ?_
      have h11 : sl a 17 = .agg #[.slice Ax n1 cx, .slice Ay n2 cy, .slice Az n3 cz] := D 0 (by kernel_rfl)
      have h12 : sl a 18 = .agg #[.int .u8 (e0 : Int), .int .u8 (e1 : Int), .int .u8 (e2 : Int), .int .u8 (e3 : Int), .int .u8 (e4 : Int), .int .u16 (k0 : Int), .int .u16 (k1 : Int), .int .u16 (k2 : Int), .int .u8 (br : Int), .int .u8 (bn : Int)] := D 1 (by kernel_rfl)
      refine ⟨8, #[.agg #[.slice Ax n1 cx, .slice Ay n2 cy, .slice Az n3 cz], .agg #[.int .u8 (e0 : Int), .int .u8 (e1 : Int), .int .u8 (e2 : Int), .int .u8 (e3 : Int), .int .u8 (e4 : Int), .int .u16 (k0 : Int), .int .u16 (k1 : Int), .int .u16 (k2 : Int), .int .u8 (br : Int), .int .u8 (bn : Int)]], ?_, (HMK3.out w2 hB.below).mono ?_⟩
      · unfold sl at h11 h12
        simp at h11 h12
        simp [go_sem, h11, h12]
      · rintro e w' ⟨cs, rfl, hl, hr, hb3⟩
        exact ⟨_, rfl, hb3, fun s h h' => RB.put19 (h 20 (by simp)) (h 22 (by simp)) (h 7 (by simp)) (h' 19 rfl) hb3 hr hB, fun s _ h => ⟨cs, h 19 rfl⟩⟩
    · refine OpFactS.callB rfl (FL3_below _ _ _ _ _ _ _ _ _ _ _ _ _ _ _ _ _ _ _ _ _ _ _ _ _ _ _) fun L a w2 hl hf D hB => ?_
      obtain ⟨cs, h11⟩ : ∃ cs : List Value, sl a 19 = .agg cs.toArray := D 2 (by kernel_rfl)
      obtain ⟨X, hX, hr⟩ := hB.at19 h11
      refine ⟨7, #[.agg cs.toArray], ?_, (plain54_any sn cs w2 _ hr).mono ?_⟩
      · unfold sl at h11
        simp at h11
        simp [go_sem, h11]
      · rintro e w' ⟨rfl, hb3⟩
        exact ⟨_, rfl, hb3, fun s h h' => RB.put20 (h 19 (by simp)) (h 22 (by simp)) (h 7 (by simp)) h11 (h' 20 rfl) hb3 hB, fun s _ h => ⟨cs, h 20 rfl⟩⟩
    · refine OpFactS.value rfl (FL3_below _ _ _ _ _ _ _ _ _ _ _ _ _ _ _ _ _ _ _ _ _ _ _ _ _ _ _) (fun L s s' w w' h hb hB => RB.keep (h 19 (by simp)) (h 20 (by simp)) (h 22 (by simp)) (h 7 (by simp)) hb hB) fun L a w2 hl hf D hB => ?_
      have h0 : sl a 5 = .pointer (some ⟨b2, 0, none⟩) := hf 5 (by kernel_rfl)
      have hb := hB.below
      have es := HS.out w2 hb
      refine ⟨.agg #[.int .u8 (ho : Int), .int .u8 (att : Int), .int .i64 byy], w2, ?_, B0 _, fun s _ h => h 21 rfl⟩
      unfold sl at h0
      simp at h0
      simp [go_sem, h0, es]
    · refine OpFactS.callB rfl (FL3_below _ _ _ _ _ _ _ _ _ _ _ _ _ _ _ _ _ _ _ _ _ _ _ _ _ _ _) fun L a w2 hl hf D hB => ?_
      obtain ⟨cs, h11⟩ : ∃ cs : List Value, sl a 20 = .agg cs.toArray := D 3 (by kernel_rfl)
      have h12 : sl a 21 = .agg #[.int .u8 (ho : Int), .int .u8 (att : Int), .int .i64 byy] := D 4 (by kernel_rfl)
      obtain ⟨hw, X, hX, a19, a20, a22, a7⟩ := hB
      have hr := a20 cs h11
      refine ⟨6, #[.agg cs.toArray, .agg #[.int .u8 (ho : Int), .int .u8 (att : Int), .int .i64 byy]], ?_, (HSP.out cs w2 X hX hr).mono ?_⟩
      · unfold sl at h11 h12
        simp at h11 h12
        simp [go_sem, h11, h12]
      · rintro e w' ⟨cs', s', rfl, hr', hn', hb3⟩
        exact ⟨_, rfl, hb3, fun s h h' => RB.put22 (h 19 (by simp)) (h 20 (by simp)) (h 7 (by simp)) (h' 22 rfl) hb3 hw hX a19 a20 a7 hr' hn', fun s _ h => ⟨cs', h 22 rfl⟩⟩
    · refine OpFactS.write rfl fun L a w2 hl hf D hB => ?_
      refine ⟨.pointer (some ⟨w2.heap.size, 0, none⟩), w2.alloc (.cells snd0 50), ?_, fun s h h' => RB.put7 (h 19 (by simp)) (h 20 (by simp)) (h 22 (by simp)) (h' 7 rfl) hB, fun j _ _ hj => FL3_below _ _ _ _ _ _ _ _ _ _ _ _ _ _ _ _ _ _ _ _ _ _ _ _ _ _ _ j _ _ _ (Ba (B0 w2) _) hj, fun s _ h => ⟨_, h 7 rfl⟩⟩
      unfold snd0
      simp [go_sem]
    intro L9 y9 w9 hb9 hF9
    obtain ⟨hb9, X, hX, -, -, a22, a7⟩ : RB w3 sn y9 w9 := hb9
    obtain ⟨cs, e22⟩ : ∃ cs : List Value, y9 22 = .agg cs.toArray := hF9 5 (by decide) rfl
    obtain ⟨sb, e7⟩ : ∃ g : Nat, y9 7 = .pointer (some ⟨g, 0, none⟩) := hF9 6 (by decide) rfl
    obtain ⟨s', hC, hn⟩ := a22 cs e22
    obtain ⟨hsb, hK9, hXs⟩ := a7 sb e7
    obtain ⟨Ar, Ad, Ac, As, Ak, nr, cr, nd, cd, nc, cc, ns, c4, nk, ck, rfl⟩ := snd_open hC
    obtain ⟨⟨on, ors, ods, ocs⟩, ⟨rst, cp, of⟩, kys, rank, num⟩ := s'
    dsimp only at hC e22
    have f0 := hK9.frozen 0
    have s0 := hK9.cell 0
    have f1 := hK9.frozen 1
    have s1 := hK9.cell 1
    have f2 := hK9.frozen 2
    have s2 := hK9.cell 2
    have f3 := hK9.frozen 3
    have s3 := hK9.cell 3
    have f4 := hK9.frozen 4
    have s4 := hK9.cell 4
    have f5 := hK9.frozen 5
    have s5 := hK9.cell 5
    have f6 := hK9.frozen 6
    have s6 := hK9.cell 6
    have f7 := hK9.frozen 7
    have s7 := hK9.cell 7
    have f8 := hK9.frozen 8
    have s8 := hK9.cell 8
    have f9 := hK9.frozen 9
    have s9 := hK9.cell 9
    unfold snd0 at s0 s1 s2 s3 s4 s5 s6 s7 s8 s9
    simp only [List.getElem?_toArray, List.getElem?_cons_zero, List.getElem?_cons_succ] at s0 s1 s2 s3 s4 s5 s6 s7 s8 s9
    have HB9 := Lib.hid hb9
    have HK9 := Lib.hid hK9
    have HC9 := Lib.hid hC
    clear hF9 hb9 hK9 hC a22 a7 HSP HMK3 HS
    rw [aft7 (d0 := 17) (d1 := 18) (d2 := 19) (d3 := 20) (d4 := 21) (d5 := 22) (d6 := 7) (by kernel_rfl) rfl]
    rw [e22, e7]
    simp only [List.set_cons_succ, List.set_cons_zero]
    refine from_list 8 (by kernel_rfl) (by simp only [List.take_succ_cons, List.take_zero, List.drop_succ_cons, List.drop_zero]; exact rfl) ?_
    (intro Q' hQ' hX'; clear hX')
    go_wp2_with fail
    refine from_end rfl ?_
    obtain ⟨w4, hw4⟩ : ∃ w4 : World, ((((((((((w9.setCell ⟨sb, 0, none⟩ (.string on)).setCell ⟨sb, 1, none⟩ (.slice Ar nr cr)).setCell ⟨sb, 2, none⟩ (.slice Ad nd cd)).setCell ⟨sb, 3, none⟩ (.slice Ac nc cc)).setCell ⟨sb, 4, none⟩ (.slice As ns c4)).setCell ⟨sb, 5, none⟩ (.int .u64 (cp : Int))).setCell ⟨sb, 6, none⟩ (.int .u64 (of : Int))).setCell ⟨sb, 7, none⟩ (.slice Ak nk ck)).setCell ⟨sb, 8, none⟩ (.int .i64 rank)).setCell ⟨sb, 9, none⟩ (.int .i64 num)) = w4 := ⟨_, rfl⟩
    have K4 : Blk w4 sb 50 #[.string on, .slice Ar nr cr, .slice Ad nd cd, .slice Ac nc cc, .slice As ns c4, .int .u64 (cp : Int), .int .u64 (of : Int), .slice Ak nk ck, .int .i64 rank, .int .i64 num] := by
      rw [← hw4]
      have h := ((((((((((HK9.out.set_ 0 (.string on)).set_ 1 (.slice Ar nr cr)).set_ 2 (.slice Ad nd cd)).set_ 3 (.slice Ac nc cc)).set_ 4 (.slice As ns c4)).set_ 5 (.int .u64 (cp : Int))).set_ 6 (.int .u64 (of : Int))).set_ 7 (.slice Ak nk ck)).set_ 8 (.int .i64 rank)).set_ 9 (.int .i64 num))
      unfold snd0 at h
      simpa using h
    have HB4 : Hid (Below w3.heap.size w3 w4) := Lib.hid (by rw [← hw4]; exact (Bs (Bs (Bs (Bs (Bs (Bs (Bs (Bs (Bs (Bs HB9.out _ hsb) _ hsb) _ hsb) _ hsb) _ hsb) _ hsb) _ hsb) _ hsb) _ hsb) _ hsb))
    have hA4 : Agree X w9 w4 := by
      have hF : ∀ c, X c → c ≠ sb := fun c hc e => hXs (e ▸ hc)
      rw [← hw4]
      exact ((((((((((Agree.setCell _ hF).trans (Agree.setCell _ hF)).trans (Agree.setCell _ hF)).trans (Agree.setCell _ hF)).trans (Agree.setCell _ hF)).trans (Agree.setCell _ hF)).trans (Agree.setCell _ hF)).trans (Agree.setCell _ hF)).trans (Agree.setCell _ hF)).trans (Agree.setCell _ hF))
    have hZ4 : w4.heap.size = w9.heap.size := by rw [← hw4]; simp [World.setCell]
    have hX4 : ∀ c, X c → c < w4.heap.size := fun c hc => by rw [hZ4]; exact hX c hc
    have HC4 := Lib.hid (fun W (hb : Below w4.heap.size w4 W) => relSnd.keep (relSnd.keep HC9.out hA4) (Agree.below hb hX4))
    have HX4 := Lib.hid (fun W (hb : Below w4.heap.size w4 W) c (hc : X c) => Nat.lt_of_lt_of_le (hX4 c hc) hb.size)
    rw [hw4]
    clear hw4 hA4 hZ4 hX4 hX hXs s0 s1 s2 s3 s4 s5 s6 s7 s8 s9 f0 f1 f2 f3 f4 f5 f6 f7 f8 f9 e22 e7
    have HK4 := Lib.hid K4
    have hRI := fun W (hb : Below w4.heap.size w4 W) => right_any _ hn _ W X (HX4.out W hb) (HC4.out W hb)
    have hLR := fun W (hb : Below w4.heap.size w4 W) => lright_any _ hn _ W X (HX4.out W hb) (HC4.out W hb)
    have hSN := fun (hr : rightF ⟨⟨on, ors, ods, ocs⟩, ⟨rst, cp, of⟩, kys, rank, num⟩ = false) W (hb : Below w4.heap.size w4 W) => speaks_not _ hn hr _ W X (HX4.out W hb) (HC4.out W hb)
    have hRN := fun (hr : rightF ⟨⟨on, ors, ods, ocs⟩, ⟨rst, cp, of⟩, kys, rank, num⟩ = false) W (hb : Below w4.heap.size w4 W) => reason_not _ hn hr _ W X (HX4.out W hb) (HC4.out W hb)
    obtain ⟨T, hT⟩ : ∃ T, rightF ⟨⟨on, ors, ods, ocs⟩, ⟨rst, cp, of⟩, kys, rank, num⟩ = T := ⟨_, rfl⟩
    rw [hT] at hRI hLR hSN hRN
    have HRI := Lib.hid hRI
    have HLR := Lib.hid hLR
    have HSN := Lib.hid hSN
    have HRN := Lib.hid hRN
    clear hRI hLR hSN hRN hT hn
    have z0 : w4.cell? ⟨sb, 0, none⟩ = some (.string on) := K4.cell 0
    have z1 : w4.cell? ⟨sb, 1, none⟩ = some (.slice Ar nr cr) := K4.cell 1
    have z2 : w4.cell? ⟨sb, 2, none⟩ = some (.slice Ad nd cd) := K4.cell 2
    have z3 : w4.cell? ⟨sb, 3, none⟩ = some (.slice Ac nc cc) := K4.cell 3
    have z4 : w4.cell? ⟨sb, 4, none⟩ = some (.slice As ns c4) := K4.cell 4
    have z5 : w4.cell? ⟨sb, 5, none⟩ = some (.int .u64 (cp : Int)) := K4.cell 5
    have z6 : w4.cell? ⟨sb, 6, none⟩ = some (.int .u64 (of : Int)) := K4.cell 6
    have z7 : w4.cell? ⟨sb, 7, none⟩ = some (.slice Ak nk ck) := K4.cell 7
    have z8 : w4.cell? ⟨sb, 8, none⟩ = some (.int .i64 rank) := K4.cell 8
    have z9 : w4.cell? ⟨sb, 9, none⟩ = some (.int .i64 num) := K4.cell 9
    clear K4
    have HZ := Lib.hid (fun W (hb : Below w4.heap.size w4 W) => HK4.out.below hb HK4.out.lt)
    cases T with
    | true =>
      go_upto_region 5 with (go_at_call 9; (with_reducible refine ((HLR.out _ (B0 w4)).mono ?_)); rintro e w5 ⟨rfl, hb5⟩; have HB5 := Lib.hid hb5; have KZ := HZ.out w5 hb5; clear hb5 z0 z1 z2 z3 z4 z5 z6 z7 z8 z9)
      have z0 : w5.cell? ⟨sb, 0, none⟩ = some (.string on) := KZ.cell 0
      have z1 : w5.cell? ⟨sb, 1, none⟩ = some (.slice Ar nr cr) := KZ.cell 1
      have z2 : w5.cell? ⟨sb, 2, none⟩ = some (.slice Ad nd cd) := KZ.cell 2
      have z3 : w5.cell? ⟨sb, 3, none⟩ = some (.slice Ac nc cc) := KZ.cell 3
      have z4 : w5.cell? ⟨sb, 4, none⟩ = some (.slice As ns c4) := KZ.cell 4
      have z5 : w5.cell? ⟨sb, 5, none⟩ = some (.int .u64 (cp : Int)) := KZ.cell 5
      have z6 : w5.cell? ⟨sb, 6, none⟩ = some (.int .u64 (of : Int)) := KZ.cell 6
      have z7 : w5.cell? ⟨sb, 7, none⟩ = some (.slice Ak nk ck) := KZ.cell 7
      have z8 : w5.cell? ⟨sb, 8, none⟩ = some (.int .i64 rank) := KZ.cell 8
      have z9 : w5.cell? ⟨sb, 9, none⟩ = some (.int .i64 num) := KZ.cell 9
      clear KZ
      go_wp2_with (go_at_call 10; (with_reducible refine ((HRI.out _ HB5.out).mono ?_)); rintro e w6 ⟨rfl, hb6⟩; have HB6 := Lib.hid (Bt HB5.out hb6); clear hb6)
      go_ret
      exact ⟨rfl, Bt HB1.out (Bt HB3.out (Bt HB4.out HB6.out))⟩
    | false =>
      have HSP' := Lib.hid (HSN.out rfl)
      have HRE' := Lib.hid (HRN.out rfl)
      clear HSN HRN
      go_upto_region 5 with (go_at_call 9; (with_reducible refine ((HLR.out _ (B0 w4)).mono ?_)); rintro e w5 ⟨rfl, hb5⟩; have HB5 := Lib.hid hb5; have KZ := HZ.out w5 hb5; clear hb5 z0 z1 z2 z3 z4 z5 z6 z7 z8 z9)
      have z0 : w5.cell? ⟨sb, 0, none⟩ = some (.string on) := KZ.cell 0
      have z1 : w5.cell? ⟨sb, 1, none⟩ = some (.slice Ar nr cr) := KZ.cell 1
      have z2 : w5.cell? ⟨sb, 2, none⟩ = some (.slice Ad nd cd) := KZ.cell 2
      have z3 : w5.cell? ⟨sb, 3, none⟩ = some (.slice Ac nc cc) := KZ.cell 3
      have z4 : w5.cell? ⟨sb, 4, none⟩ = some (.slice As ns c4) := KZ.cell 4
      have z5 : w5.cell? ⟨sb, 5, none⟩ = some (.int .u64 (cp : Int)) := KZ.cell 5
      have z6 : w5.cell? ⟨sb, 6, none⟩ = some (.int .u64 (of : Int)) := KZ.cell 6
      have z7 : w5.cell? ⟨sb, 7, none⟩ = some (.slice Ak nk ck) := KZ.cell 7
      have z8 : w5.cell? ⟨sb, 8, none⟩ = some (.int .i64 rank) := KZ.cell 8
      have z9 : w5.cell? ⟨sb, 9, none⟩ = some (.int .i64 num) := KZ.cell 9
      clear KZ
      go_wp2_with (first
        | (go_at_call 10; (with_reducible refine ((HRI.out _ HB5.out).mono ?_)); rintro e w6 ⟨rfl, hb6⟩; have HB6 := Lib.hid (Bt HB5.out hb6); have KZ := HZ.out w6 HB6.out; clear hb6 z0 z1 z2 z3 z4 z5 z6 z7 z8 z9; have z0 : w6.cell? ⟨sb, 0, none⟩ = some (.string on) := KZ.cell 0; have z1 : w6.cell? ⟨sb, 1, none⟩ = some (.slice Ar nr cr) := KZ.cell 1; have z2 : w6.cell? ⟨sb, 2, none⟩ = some (.slice Ad nd cd) := KZ.cell 2; have z3 : w6.cell? ⟨sb, 3, none⟩ = some (.slice Ac nc cc) := KZ.cell 3; have z4 : w6.cell? ⟨sb, 4, none⟩ = some (.slice As ns c4) := KZ.cell 4; have z5 : w6.cell? ⟨sb, 5, none⟩ = some (.int .u64 (cp : Int)) := KZ.cell 5; have z6 : w6.cell? ⟨sb, 6, none⟩ = some (.int .u64 (of : Int)) := KZ.cell 6; have z7 : w6.cell? ⟨sb, 7, none⟩ = some (.slice Ak nk ck) := KZ.cell 7; have z8 : w6.cell? ⟨sb, 8, none⟩ = some (.int .i64 rank) := KZ.cell 8; have z9 : w6.cell? ⟨sb, 9, none⟩ = some (.int .i64 num) := KZ.cell 9; clear KZ)
        | (go_at_call 11; (with_reducible refine ((HSP'.out _ HB6.out).mono ?_)); rintro e w7 ⟨rfl, hb7⟩; have HB7 := Lib.hid (Bt HB6.out hb7); have KZ := HZ.out w7 HB7.out; clear hb7 z0 z1 z2 z3 z4 z5 z6 z7 z8 z9; have z0 : w7.cell? ⟨sb, 0, none⟩ = some (.string on) := KZ.cell 0; have z1 : w7.cell? ⟨sb, 1, none⟩ = some (.slice Ar nr cr) := KZ.cell 1; have z2 : w7.cell? ⟨sb, 2, none⟩ = some (.slice Ad nd cd) := KZ.cell 2; have z3 : w7.cell? ⟨sb, 3, none⟩ = some (.slice Ac nc cc) := KZ.cell 3; have z4 : w7.cell? ⟨sb, 4, none⟩ = some (.slice As ns c4) := KZ.cell 4; have z5 : w7.cell? ⟨sb, 5, none⟩ = some (.int .u64 (cp : Int)) := KZ.cell 5; have z6 : w7.cell? ⟨sb, 6, none⟩ = some (.int .u64 (of : Int)) := KZ.cell 6; have z7 : w7.cell? ⟨sb, 7, none⟩ = some (.slice Ak nk ck) := KZ.cell 7; have z8 : w7.cell? ⟨sb, 8, none⟩ = some (.int .i64 rank) := KZ.cell 8; have z9 : w7.cell? ⟨sb, 9, none⟩ = some (.int .i64 num) := KZ.cell 9; clear KZ)
        | (go_at_call 12; (with_reducible refine ((HRE'.out _ HB7.out).mono ?_)); rintro e w8 ⟨rfl, hb8⟩; have HB8 := Lib.hid (Bt HB7.out hb8); clear hb8))
      go_ret
      exact ⟨rfl, Bt HB1.out (Bt HB3.out (Bt HB4.out HB8.out))⟩
end Go.Proofs.YtnfpjcjlapljjaaGreatDoor
