/- Walk over law 18: pull (its drawn regions printed by mk18.py). -/
import Derived.Test.YtnfpjcjlapljjaaGreatDoorDi
namespace Go.Proofs.YtnfpjcjlapljjaaGreatDoor
open Go Go.RowKit Go.Shelf
open Org
def stp0 : Array Value := #[.string ⟨#[]⟩, .int .i64 0, .int .i64 0, .slice none 0 0]
def stpA (w : World) (v : Value) (lim : Nat) : Prop := ∃ g, v = .pointer (some ⟨g, 0, none⟩) ∧ lim ≤ g ∧ Blk w g 92 stp0
theorem stpA_below {w w' : World} {v : Value} {lim : Nat} (h : stpA w v lim) (hb : Below w.heap.size w w') : stpA w' v lim := by
  obtain ⟨g, e, hl, hk⟩ := h
  exact ⟨g, e, hl, hk.below hb hk.lt⟩
/-- What holds behind each operation of a drawn region. -/
def FP2 (b i f : Nat) (dg nm : ByteArray) (fa fd lim : Nat) (j : Nat) (s : Nat → Value) (w : World) : Prop :=
  match j with
  | 0 => s 25 = .int .i64 (i : Int)
  | 1 => s 26 = .int .i64 (48 + (i : Int))
  | 2 => s 27 = .int .u8 (48 + (i : Int))
  | 3 => bytA w (s 28) i
  | 4 => s 29 = .string dg
  | 5 => s 30 = .string nm
  | 6 => s 31 = .pointer (some ⟨b + 1, 1, none⟩)
  | 7 => s 32 = .int .u8 (f : Int)
  | 8 => s 33 = .agg #[.int .i64 (fa : Int), .int .i64 (fd : Int)]
  | 9 => s 34 = .agg #[.string nm, .int .i64 (fa : Int), .int .i64 (fd : Int), .slice none 0 0]
  | 10 => stpA w (s 10) lim
  | _ => True
def VP2 (j : Nat) : List Nat := match j with
  | 0 => [25] | 1 => [26] | 2 => [27] | 3 => [28] | 4 => [29] | 5 => [30] | 6 => [31] | 7 => [32] | 8 => [33] | 9 => [34] | 10 => [10] | _ => []
def EP2 (j : Nat) : Bool := j == 9 || j == 10
theorem FP2_V (b i f : Nat) (dg nm : ByteArray) (fa fd lim : Nat) (j : Nat) (s s' : Nat → Value) (w : World) (h : ∀ t, t ∈ VP2 j → s' t = s t) (hF : FP2 b i f dg nm fa fd lim j s w) : FP2 b i f dg nm fa fd lim j s' w := by
  match j with
  | 0 => unfold FP2 at hF ⊢; simp only at hF ⊢; rw [h 25 (by simp [VP2])]; exact hF
  | 1 => unfold FP2 at hF ⊢; simp only at hF ⊢; rw [h 26 (by simp [VP2])]; exact hF
  | 2 => unfold FP2 at hF ⊢; simp only at hF ⊢; rw [h 27 (by simp [VP2])]; exact hF
  | 3 => unfold FP2 at hF ⊢; simp only at hF ⊢; rw [h 28 (by simp [VP2])]; exact hF
  | 4 => unfold FP2 at hF ⊢; simp only at hF ⊢; rw [h 29 (by simp [VP2])]; exact hF
  | 5 => unfold FP2 at hF ⊢; simp only at hF ⊢; rw [h 30 (by simp [VP2])]; exact hF
  | 6 => unfold FP2 at hF ⊢; simp only at hF ⊢; rw [h 31 (by simp [VP2])]; exact hF
  | 7 => unfold FP2 at hF ⊢; simp only at hF ⊢; rw [h 32 (by simp [VP2])]; exact hF
  | 8 => unfold FP2 at hF ⊢; simp only at hF ⊢; rw [h 33 (by simp [VP2])]; exact hF
  | 9 => unfold FP2 at hF ⊢; simp only at hF ⊢; rw [h 34 (by simp [VP2])]; exact hF
  | 10 => unfold FP2 at hF ⊢; simp only at hF ⊢; rw [h 10 (by simp [VP2])]; exact hF
  | _ + 11 => trivial
theorem FP2_below (b i f : Nat) (dg nm : ByteArray) (fa fd lim : Nat) (j : Nat) (s : Nat → Value) (w w' : World) (hb : Below w.heap.size w w') (hF : FP2 b i f dg nm fa fd lim j s w) : FP2 b i f dg nm fa fd lim j s w' := by
  match j with
  | 0 => exact hF
  | 1 => exact hF
  | 2 => exact hF
  | 3 => exact bytA_below hF hb
  | 4 => exact hF
  | 5 => exact hF
  | 6 => exact hF
  | 7 => exact hF
  | 8 => exact hF
  | 9 => exact hF
  | 10 => exact stpA_below hF hb
  | _ + 11 => trivial
/-- What holds behind each operation of a drawn region. -/
def FP3 (sb m cR : Nat) (ad p : Addr) (fa fd ra rd n : Nat) (sv : Int) (j : Nat) (s : Nat → Value) (_w : World) : Prop :=
  match j with
  | 0 => s 36 = .pointer (some ⟨sb, 1, none⟩)
  | 1 => s 37 = .agg #[.int .i64 (fa : Int), .int .i64 (fd : Int)]
  | 2 => s 38 = .slice (some ad) m cR
  | 3 => s 39 = .int .i64 (n : Int)
  | 4 => s 40 = .pointer (some p)
  | 5 => s 41 = .pointer (some ⟨p.block, p.off + 2, none⟩)
  | 6 => s 42 = .agg #[.int .i64 (ra : Int), .int .i64 (rd : Int)]
  | 7 => s 43 = .tuple #[.int .i64 sv, .int .i64 0]
  | 8 => s 35 = .tuple #[.int .i64 sv, .int .i64 0]
  | 9 => s 44 = .int .i64 sv
  | 10 => s 45 = .int .i64 0
  | 11 => s 11 = .int .i64 sv
  | _ => True
def VP3 (j : Nat) : List Nat := match j with
  | 0 => [36] | 1 => [37] | 2 => [38] | 3 => [39] | 4 => [40] | 5 => [41] | 6 => [42] | 7 => [43] | 8 => [35] | 9 => [44] | 10 => [45] | 11 => [11] | _ => []
def EP3 (j : Nat) : Bool := j == 10 || j == 11
theorem FP3_V (sb m cR : Nat) (ad p : Addr) (fa fd ra rd n : Nat) (sv : Int) (j : Nat) (s s' : Nat → Value) (w : World) (h : ∀ t, t ∈ VP3 j → s' t = s t) (hF : FP3 sb m cR ad p fa fd ra rd n sv j s w) : FP3 sb m cR ad p fa fd ra rd n sv j s' w := by
  match j with
  | 0 => unfold FP3 at hF ⊢; simp only at hF ⊢; rw [h 36 (by simp [VP3])]; exact hF
  | 1 => unfold FP3 at hF ⊢; simp only at hF ⊢; rw [h 37 (by simp [VP3])]; exact hF
  | 2 => unfold FP3 at hF ⊢; simp only at hF ⊢; rw [h 38 (by simp [VP3])]; exact hF
  | 3 => unfold FP3 at hF ⊢; simp only at hF ⊢; rw [h 39 (by simp [VP3])]; exact hF
  | 4 => unfold FP3 at hF ⊢; simp only at hF ⊢; rw [h 40 (by simp [VP3])]; exact hF
  | 5 => unfold FP3 at hF ⊢; simp only at hF ⊢; rw [h 41 (by simp [VP3])]; exact hF
  | 6 => unfold FP3 at hF ⊢; simp only at hF ⊢; rw [h 42 (by simp [VP3])]; exact hF
  | 7 => unfold FP3 at hF ⊢; simp only at hF ⊢; rw [h 43 (by simp [VP3])]; exact hF
  | 8 => unfold FP3 at hF ⊢; simp only at hF ⊢; rw [h 35 (by simp [VP3])]; exact hF
  | 9 => unfold FP3 at hF ⊢; simp only at hF ⊢; rw [h 44 (by simp [VP3])]; exact hF
  | 10 => unfold FP3 at hF ⊢; simp only at hF ⊢; rw [h 45 (by simp [VP3])]; exact hF
  | 11 => unfold FP3 at hF ⊢; simp only at hF ⊢; rw [h 11 (by simp [VP3])]; exact hF
  | _ + 12 => trivial
theorem FP3_below (sb m cR : Nat) (ad p : Addr) (fa fd ra rd n : Nat) (sv : Int) (j : Nat) (s : Nat → Value) (w w' : World) (_hb : Below w.heap.size w w') (hF : FP3 sb m cR ad p fa fd ra rd n sv j s w) : FP3 sb m cR ad p fa fd ra rd n sv j s w' := by
  match j with
  | 0 => exact hF
  | 1 => exact hF
  | 2 => exact hF
  | 3 => exact hF
  | 4 => exact hF
  | 5 => exact hF
  | 6 => exact hF
  | 7 => exact hF
  | 8 => exact hF
  | 9 => exact hF
  | 10 => exact hF
  | 11 => exact hF
  | _ + 12 => trivial
/-- What holds behind each operation of a drawn region. -/
def FP15 (sb m cR : Nat) (ad p : Addr) (fa fd ra rd n : Nat) (sv : Int) (j : Nat) (s : Nat → Value) (_w : World) : Prop :=
  match j with
  | 0 => s 109 = .pointer (some ⟨sb, 1, none⟩)
  | 1 => s 110 = .agg #[.int .i64 (fa : Int), .int .i64 (fd : Int)]
  | 2 => s 111 = .slice (some ad) m cR
  | 3 => s 112 = .int .i64 (n : Int)
  | 4 => s 113 = .pointer (some p)
  | 5 => s 114 = .pointer (some ⟨p.block, p.off + 2, none⟩)
  | 6 => s 115 = .agg #[.int .i64 (ra : Int), .int .i64 (rd : Int)]
  | 7 => s 116 = .tuple #[.int .i64 sv, .int .i64 0]
  | 8 => s 108 = .tuple #[.int .i64 sv, .int .i64 0]
  | 9 => s 117 = .int .i64 sv
  | 10 => s 118 = .int .i64 0
  | 11 => s 17 = .int .i64 sv
  | _ => True
def VP15 (j : Nat) : List Nat := match j with
  | 0 => [109] | 1 => [110] | 2 => [111] | 3 => [112] | 4 => [113] | 5 => [114] | 6 => [115] | 7 => [116] | 8 => [108] | 9 => [117] | 10 => [118] | 11 => [17] | _ => []
def EP15 (j : Nat) : Bool := j == 10 || j == 11
theorem FP15_V (sb m cR : Nat) (ad p : Addr) (fa fd ra rd n : Nat) (sv : Int) (j : Nat) (s s' : Nat → Value) (w : World) (h : ∀ t, t ∈ VP15 j → s' t = s t) (hF : FP15 sb m cR ad p fa fd ra rd n sv j s w) : FP15 sb m cR ad p fa fd ra rd n sv j s' w := by
  match j with
  | 0 => unfold FP15 at hF ⊢; simp only at hF ⊢; rw [h 109 (by simp [VP15])]; exact hF
  | 1 => unfold FP15 at hF ⊢; simp only at hF ⊢; rw [h 110 (by simp [VP15])]; exact hF
  | 2 => unfold FP15 at hF ⊢; simp only at hF ⊢; rw [h 111 (by simp [VP15])]; exact hF
  | 3 => unfold FP15 at hF ⊢; simp only at hF ⊢; rw [h 112 (by simp [VP15])]; exact hF
  | 4 => unfold FP15 at hF ⊢; simp only at hF ⊢; rw [h 113 (by simp [VP15])]; exact hF
  | 5 => unfold FP15 at hF ⊢; simp only at hF ⊢; rw [h 114 (by simp [VP15])]; exact hF
  | 6 => unfold FP15 at hF ⊢; simp only at hF ⊢; rw [h 115 (by simp [VP15])]; exact hF
  | 7 => unfold FP15 at hF ⊢; simp only at hF ⊢; rw [h 116 (by simp [VP15])]; exact hF
  | 8 => unfold FP15 at hF ⊢; simp only at hF ⊢; rw [h 108 (by simp [VP15])]; exact hF
  | 9 => unfold FP15 at hF ⊢; simp only at hF ⊢; rw [h 117 (by simp [VP15])]; exact hF
  | 10 => unfold FP15 at hF ⊢; simp only at hF ⊢; rw [h 118 (by simp [VP15])]; exact hF
  | 11 => unfold FP15 at hF ⊢; simp only at hF ⊢; rw [h 17 (by simp [VP15])]; exact hF
  | _ + 12 => trivial
theorem FP15_below (sb m cR : Nat) (ad p : Addr) (fa fd ra rd n : Nat) (sv : Int) (j : Nat) (s : Nat → Value) (w w' : World) (_hb : Below w.heap.size w w') (hF : FP15 sb m cR ad p fa fd ra rd n sv j s w) : FP15 sb m cR ad p fa fd ra rd n sv j s w' := by
  match j with
  | 0 => exact hF
  | 1 => exact hF
  | 2 => exact hF
  | 3 => exact hF
  | 4 => exact hF
  | 5 => exact hF
  | 6 => exact hF
  | 7 => exact hF
  | 8 => exact hF
  | 9 => exact hF
  | 10 => exact hF
  | 11 => exact hF
  | _ + 12 => trivial
set_option maxRecDepth 100000 in
set_option maxHeartbeats 4000000 in
theorem pull_any (rs : List Rnk) (lo h : Nat) (x : Pl) (i : Nat) (hx : x.Ok) (hi : i < 10) (hrs : 1 ≤ rs.length) (hrs2 : rs.length ≤ 1000) (hft : FtR rs) (hlo : lo ≤ 1000) (hh : h ≤ 1000) (vr : Value) (w : World) (hT : TabP w) (F : Nat → Prop) (hF : ∀ c, F c → c < w.heap.size) (hR : Sl F 6 (RnkC F) w vr rs) :
    Calls Tryz.prog 42 #[vr, .agg #[.int .i64 (lo : Int), .int .i64 ((lo + h : Nat) : Int)], .agg x.cs.toArray, .int .i64 (i : Int)] w fun e w' => ∃ cs, e = .returned (.agg cs.toArray) ∧ cs.length = 4 ∧ StpC (fun b => w.heap.size ≤ b ∧ b < w'.heap.size) w' cs (mkStp rs lo h x i) ∧ Below w.heap.size w w' := by
  have HRX := Lib.hid (show ∀ n (hn : n < rs.length), ∃ m d : Nat, rs[n].num = (m : Int) ∧ rs[n].den = (d : Int) ∧ FtOk m d from fun n hn => hft _ (List.getElem_mem hn))
  have HXO := Lib.hid hx
  have hxr := hx.r
  have hxf := hx.f
  have hxk := hx.k
  have hxa := hx.a
  obtain ⟨segs, hsegs⟩ : ∃ segs, mkSegs rs lo h x = segs := ⟨_, rfl⟩
  have hMK : mkStp rs lo h x i = ⟨⟨#[83]⟩ ++ digS i, ((ft18 (x.f % 6)).1 : Int), ((ft18 (x.f % 6)).2 : Int), segs⟩ := by rw [← hsegs]; rfl
  have HMK := Lib.hid hMK
  have HSG := Lib.hid hsegs
  clear hx hft hMK hsegs
  obtain ⟨A, cR, rfl, hcR, -, hat⟩ := id hR
  have hAx := hat 0 (by omega)
  obtain ⟨ad, -, rfl, -⟩ := hAx
  have hRC : ∀ n (hn : n < rs.length), ∃ p, ad.add (n * 6) = p ∧ ∀ W, Below w.heap.size w W → W.cell? ⟨p.block, p.off + 2, none⟩ = some (.int .i64 rs[n].num) ∧ W.cell? ⟨p.block, p.off + 3, none⟩ = some (.int .i64 rs[n].den) := fun n hn => by
    obtain ⟨ad', cs, e, hFa, hl, ⟨v, ecs, -⟩, hfl⟩ := hat n hn
    injection e with e
    subst e ecs
    refine ⟨_, rfl, fun W hb => ?_⟩
    have hk : (ad.add (n * 6)).block < w.heap.size := by rw [block_of_add]; exact hF _ hFa
    exact ⟨(hb.cell (p := ⟨(ad.add (n * 6)).block, (ad.add (n * 6)).off + 2, none⟩) hk).trans (hfl.fs 1 rfl), (hb.cell (p := ⟨(ad.add (n * 6)).block, (ad.add (n * 6)).off + 3, none⟩) hk).trans (hfl.fs 2 rfl)⟩
  have HRC := Lib.hid hRC
  clear hRC hat hR
  obtain ⟨up, hup⟩ : ∃ up, lo + h = up := ⟨_, rfl⟩
  rw [hup]
  have HUP := Lib.hid hup
  obtain ⟨m, hm⟩ : ∃ m, rs.length = m := ⟨_, rfl⟩
  have HM := Lib.hid hm
  obtain ⟨xr, xf, xk, xa⟩ := x
  unfold Pl.cs
  dsimp only at hxr hxf hxk hxa ⊢
  rw [hm] at hcR hrs hrs2 ⊢
  obtain ⟨w1, hw1⟩ : ∃ w1 : World, ((w.alloc (.cells #[.int .i64 (lo : Int), .int .i64 (up : Int)] 77)).alloc (.cells #[.int .u8 (xr : Int), .int .u8 (xf : Int), .int .u8 (xk : Int), .int .u8 (xa : Int)] 135)).alloc (.cells stp0 92) = w1 := ⟨_, rfl⟩
  obtain ⟨b, hb⟩ : ∃ b, w.heap.size = b := ⟨_, rfl⟩
  have C1 : Blk w1 b 77 #[.int .i64 (lo : Int), .int .i64 (up : Int)] := by rw [← hw1, ← hb]; exact ((Blk.new _ _ _).alloc _).alloc _
  have C2 : Blk w1 (b + 1) 135 #[.int .u8 (xr : Int), .int .u8 (xf : Int), .int .u8 (xk : Int), .int .u8 (xa : Int)] := by
    rw [← hw1, ← hb]
    have h := (Blk.new (w.alloc (.cells #[.int .i64 (lo : Int), .int .i64 (up : Int)] 77)) 135 #[.int .u8 (xr : Int), .int .u8 (xf : Int), .int .u8 (xk : Int), .int .u8 (xa : Int)]).alloc (.cells stp0 92)
    simpa using h
  have C3 : Blk w1 (b + 1 + 1) 92 stp0 := by
    rw [← hw1, ← hb]
    have h := Blk.new ((w.alloc (.cells #[.int .i64 (lo : Int), .int .i64 (up : Int)] 77)).alloc (.cells #[.int .u8 (xr : Int), .int .u8 (xf : Int), .int .u8 (xk : Int), .int .u8 (xa : Int)] 135)) 92 stp0
    simpa using h
  have hB1 : Below w.heap.size w w1 := by rw [← hw1]; exact Ba (Ba (Ba (B0 w) _) _) _
  have HSZ1 : Hid (b + 3 = w1.heap.size) := Lib.hid (by rw [← hw1, ← hb]; simp)
  have HSC := Lib.hid (fun W (hb : Below w1.heap.size w1 W) => (show (W.cell? ⟨b, 0, none⟩ = some (.int .i64 (lo : Int)) ∧ W.cell? ⟨b, 1, none⟩ = some (.int .i64 (up : Int))) ∧ W.cell? ⟨b + 1, 0, none⟩ = some (.int .u8 (xr : Int)) ∧ W.cell? ⟨b + 1, 1, none⟩ = some (.int .u8 (xf : Int)) ∧ W.cell? ⟨b + 1, 2, none⟩ = some (.int .u8 (xk : Int)) ∧ W.cell? ⟨b + 1, 3, none⟩ = some (.int .u8 (xa : Int)) from
    ⟨⟨(Bc hb C1.lt).trans (by simpa using C1.cell 0), (Bc hb C1.lt).trans (by simpa using C1.cell 1)⟩, (Bc hb C2.lt).trans (by simpa using C2.cell 0), (Bc hb C2.lt).trans (by simpa using C2.cell 1), (Bc hb C2.lt).trans (by simpa using C2.cell 2), (Bc hb C2.lt).trans (by simpa using C2.cell 3)⟩))
  have HC3 := Lib.hid C3
  have HB1 := Lib.hid hB1
  have HW1 := Lib.hid hw1
  have HBB := Lib.hid hb
  have HTW := Lib.hid (fun W (hb : Below w1.heap.size w1 W) => hT.below (Bt hB1 hb))
  obtain ⟨n, hn⟩ : ∃ n, xr % m = n := ⟨_, rfl⟩
  have hnm : n < m := by rw [← hn]; exact Nat.mod_lt _ hrs
  have hn1 : (xr : Int).tmod (m : Int) = (n : Int) := by rw [Int.tmod_eq_emod_of_nonneg (by omega), ← hn]; simp
  have hn2 : (xr : Int) % (m : Int) = (n : Int) := by rw [← hn]; simp
  have hn3 : (m : Int) ≠ 0 := by omega
  have hn4 : ¬ m = 0 := by omega
  have hwr : IntKind.i64.wrap (xr : Int) = (xr : Int) := by rw [IntKind.wrap_i64]; omega
  have hwm : IntKind.i64.wrap (m : Int) = (m : Int) := by rw [IntKind.wrap_i64]; omega
  have hwn : IntKind.i64.wrap (n : Int) = (n : Int) := by rw [IntKind.wrap_i64]; omega
  obtain ⟨⟨z0, z1⟩, z2, z3, z4, z5⟩ := HSC.out w1 (B0 w1)
  obtain ⟨dg, hdg⟩ : ∃ dg, digS i = dg := ⟨_, rfl⟩
  obtain ⟨nm, hnm9⟩ : ∃ nm, (⟨#[83]⟩ : ByteArray) ++ dg = nm := ⟨_, rfl⟩
  have hdl : 1 + dg.size ≤ 9223372036854775807 := by rw [← hdg]; show 1 + 1 ≤ _; omega
  have HCV := Lib.hid (fun W g (h : Blk W g 5 #[.int .u8 (48 + (i : Int))]) => dig_conv i hi W g h)
  rw [hdg] at HCV
  have HFT := Lib.hid (fun W => feet18_any xf hxf W)
  obtain ⟨fa, hfa⟩ : ∃ x, (ft18 (xf % 6)).1 = x := ⟨_, rfl⟩
  obtain ⟨fd, hfd⟩ : ∃ x, (ft18 (xf % 6)).2 = x := ⟨_, rfl⟩
  have hfo := ft18_ok (xf % 6)
  rw [hfa, hfd] at HFT hfo
  unfold ftV at HFT
  have HFO := Lib.hid hfo
  have HNM : Hid (⟨#[83]⟩ ++ digS i = nm ∧ (ft18 (xf % 6)).1 = fa ∧ (ft18 (xf % 6)).2 = fd) := Lib.hid ⟨by rw [hdg]; exact hnm9, hfa, hfd⟩
  have hw48 : IntKind.i64.wrap (48 + (i : Int)) = 48 + (i : Int) := by rw [IntKind.wrap_i64]; omega
  have hw8 : IntKind.u8.wrap (48 + (i : Int)) = 48 + (i : Int) := by rw [IntKind.wrap_u8]; omega
  have hBB : ∀ (L : Nat → Bool) (i : Nat) (w w' : World), Below w.heap.size w w' → Below w1.heap.size w1 w → Below w1.heap.size w1 w' := fun _ _ _ _ h1 h2 => Bt h2 h1
  clear hdg hfa hfd hfo
  have HN := Lib.hid hn
  clear hw1 hb C1 C2 C3 hB1 hT hn
  go_enter Tryz.func42, Tryz.ntmps42
  unfold stp0 at HW1
  go_upto_region 1 with fail
  rw [HW1.out, HBB.out]
  go_upto_region 2 with fail
  refine region_blocks (by kernel_rfl) ?_
  refine from_lawW 11 EP2 (fun _ W => Below w1.heap.size w1 W) (FP2 b i xf dg nm fa fd w1.heap.size) VP2 (by kernel_rfl) rfl (FP2_V _ _ _ _ _ _ _ _) (by kernel_rfl) (by kernel_rfl) ((B0 w1).drew) ⟨?_, ?_, ?_, ?_, ?_, ?_, ?_, ?_, ?_, ?_, ?_, trivial⟩ ?_
  · refine OpFactW.value rfl (FP2_below _ _ _ _ _ _ _ _) hBB fun L a w2 hl hf D hb => ?_
    have h0 : sl a 3 = .int .i64 (i : Int) := hf 3 (by kernel_rfl)
    refine ⟨.int .i64 (i : Int), w2, ?_, B0 _, fun s _ h => h 25 rfl⟩
    unfold sl at h0
    simp [go_sem, h0]
  · refine OpFactW.value rfl (FP2_below _ _ _ _ _ _ _ _) hBB fun L a w2 hl hf D hb => ?_
    have h11 : sl a 25 = .int .i64 (i : Int) := D 0 (by kernel_rfl)
    refine ⟨.int .i64 (48 + (i : Int)), w2, ?_, B0 _, fun s _ h => h 26 rfl⟩
    unfold sl at h11
    simp at h11
    simp [go_sem, h11, hw48]
  · refine OpFactW.value rfl (FP2_below _ _ _ _ _ _ _ _) hBB fun L a w2 hl hf D hb => ?_
    have h11 : sl a 26 = .int .i64 (48 + (i : Int)) := D 1 (by kernel_rfl)
    refine ⟨.int .u8 (48 + (i : Int)), w2, ?_, B0 _, fun s _ h => h 27 rfl⟩
    unfold sl at h11
    simp at h11
    simp [go_sem, h11, hw8]
  · refine OpFactW.value rfl (FP2_below _ _ _ _ _ _ _ _) hBB fun L a w2 hl hf D hb => ?_
    have h11 : sl a 27 = .int .u8 (48 + (i : Int)) := D 2 (by kernel_rfl)
    refine ⟨.slice (some ⟨w2.heap.size, 0, none⟩) 1 1, w2.alloc (.cells #[.int .u8 (48 + (i : Int))] 5), ?_, Ba (B0 w2) _, fun s _ h => ⟨_, h 28 rfl, Blk.new _ _ _⟩⟩
    unfold sl at h11
    simp at h11
    simp [go_sem, h11]
  · refine OpFactW.value rfl (FP2_below _ _ _ _ _ _ _ _) hBB fun L a w2 hl hf D hb => ?_
    obtain ⟨g, h11, hk⟩ : bytA w2 (sl a 28) i := D 3 (by kernel_rfl)
    have hc := HCV.out w2 g hk
    refine ⟨.string dg, w2, ?_, B0 _, fun s _ h => h 29 rfl⟩
    unfold sl at h11
    simp at h11
    simp [go_sem, h11, hc]
  · refine OpFactW.value rfl (FP2_below _ _ _ _ _ _ _ _) hBB fun L a w2 hl hf D hb => ?_
    have h11 : sl a 29 = .string dg := D 4 (by kernel_rfl)
    refine ⟨.string nm, w2, ?_, B0 _, fun s _ h => h 30 rfl⟩
    unfold sl at h11
    simp at h11
    simp [go_sem, h11, hnm9, hdl]
  · refine OpFactW.value rfl (FP2_below _ _ _ _ _ _ _ _) hBB fun L a w2 hl hf D hb => ?_
    have h0 : sl a 6 = .pointer (some ⟨b + 1, 0, none⟩) := hf 6 (by kernel_rfl)
    refine ⟨.pointer (some ⟨b + 1, 1, none⟩), w2, ?_, B0 _, fun s _ h => h 31 rfl⟩
    unfold sl at h0
    simp at h0
    simp [go_sem, h0]
  · refine OpFactW.value rfl (FP2_below _ _ _ _ _ _ _ _) hBB fun L a w2 hl hf D hb => ?_
    have h0 : sl a 31 = .pointer (some ⟨b + 1, 1, none⟩) := D 6 (by kernel_rfl)
    have es := HSC.out w2 hb
    refine ⟨.int .u8 (xf : Int), w2, ?_, B0 _, fun s _ h => h 32 rfl⟩
    unfold sl at h0
    simp at h0
    simp [go_sem, h0, es]
  · refine OpFactW.call rfl (FP2_below _ _ _ _ _ _ _ _) hBB fun L a w2 hl hf D hb => ?_
    have h11 : sl a 32 = .int .u8 (xf : Int) := D 7 (by kernel_rfl)
    refine ⟨57, #[.int .u8 (xf : Int)], ?_, (HFT.out w2).mono ?_⟩
    · unfold sl at h11
      simp at h11
      simp [go_sem, h11]
    · rintro e w' ⟨rfl, hb3⟩
      exact ⟨_, rfl, hb3, fun s _ h => h 33 rfl⟩
  · refine OpFactW.value rfl (FP2_below _ _ _ _ _ _ _ _) hBB fun L a w2 hl hf D hb => ?_
    have h11 : sl a 30 = .string nm := D 5 (by kernel_rfl)
    have h12 : sl a 33 = .agg #[.int .i64 (fa : Int), .int .i64 (fd : Int)] := D 8 (by kernel_rfl)
    refine ⟨.agg #[.string nm, .int .i64 (fa : Int), .int .i64 (fd : Int), .slice none 0 0], w2, ?_, B0 _, fun s _ h => h 34 rfl⟩
    unfold sl at h11 h12
    simp at h11 h12
    simp [go_sem, h11, h12]
  · refine OpFactW.value rfl (FP2_below _ _ _ _ _ _ _ _) hBB fun L a w2 hl hf D hb => ?_
    refine ⟨.pointer (some ⟨w2.heap.size, 0, none⟩), w2.alloc (.cells stp0 92), ?_, Ba (B0 w2) _, fun s _ h => ⟨_, h 10 rfl, Below.size hb, Blk.new _ _ _⟩⟩
    unfold stp0
    simp [go_sem]
  intro L9 y9 w9 hb9 hF9
  have y34 := hF9 9 (by decide) rfl
  obtain ⟨sb, y10, hsb, hK9⟩ : stpA w9 (y9 10) w1.heap.size := hF9 10 (by decide) rfl
  simp only [FP2] at y34
  clear hF9
  have f0 := hK9.frozen 0
  have f1 := hK9.frozen 1
  have f2 := hK9.frozen 2
  have f3 := hK9.frozen 3
  have s0 := hK9.cell 0
  have s1 := hK9.cell 1
  have s2 := hK9.cell 2
  have s3 := hK9.cell 3
  unfold stp0 at s0 s1 s2 s3
  simp only [List.getElem?_toArray, List.getElem?_cons_zero, List.getElem?_cons_succ] at s0 s1 s2 s3
  have HB9 := Lib.hid (show Below w1.heap.size w1 w9 from hb9)
  have HK9 := Lib.hid hK9
  clear hb9 hK9
  rw [aft11 (d0 := 25) (d1 := 26) (d2 := 27) (d3 := 28) (d4 := 29) (d5 := 30) (d6 := 31) (d7 := 32) (d8 := 33) (d9 := 34) (d10 := 10) (by kernel_rfl) rfl]
  rw [y34, y10]
  simp only [List.set_cons_succ, List.set_cons_zero]
  refine from_list 12 (by kernel_rfl) (by simp only [List.take_succ_cons, List.take_zero, List.drop_succ_cons, List.drop_zero]; exact rfl) ?_
  (intro Q' hQ' hX; clear hX)
  go_wp2_with fail
  refine from_end rfl ?_
  obtain ⟨w10, hw10⟩ : ∃ w10 : World, ((((w9.setCell ⟨sb, 0, none⟩ (.string nm)).setCell ⟨sb, 1, none⟩ (.int .i64 (fa : Int))).setCell ⟨sb, 2, none⟩ (.int .i64 (fd : Int))).setCell ⟨sb, 3, none⟩ (.slice none 0 0)) = w10 := ⟨_, rfl⟩
  have KS : Blk w10 sb 92 #[.string nm, .int .i64 (fa : Int), .int .i64 (fd : Int), .slice none 0 0] := by
    rw [← hw10]
    have h := (((HK9.out.set_ 0 (.string nm)).set_ 1 (.int .i64 (fa : Int))).set_ 2 (.int .i64 (fd : Int))).set_ 3 (.slice none 0 0)
    unfold stp0 at h
    simpa using h
  have HB10 : Hid (Below w1.heap.size w1 w10) := Lib.hid (by rw [← hw10]; exact Bs (Bs (Bs (Bs HB9.out _ hsb) _ hsb) _ hsb) _ hsb)
  rw [hw10]
  have HKS := Lib.hid KS
  have hsz1 : b + 3 = w1.heap.size := HSZ1.out
  have HSB := Lib.hid (fun W (hb : Below w10.heap.size w10 W) => (show W.cell? ⟨sb, 1, none⟩ = some (.int .i64 (fa : Int)) ∧ W.cell? ⟨sb, 2, none⟩ = some (.int .i64 (fd : Int)) from
    ⟨(Bc hb HKS.out.lt).trans (by simpa using HKS.out.cell 1), (Bc hb HKS.out.lt).trans (by simpa using HKS.out.cell 2)⟩))
  have hnl : n < rs.length := by rw [HM.out]; exact hnm
  obtain ⟨ra, rd, hra, hrd, hok⟩ := HRX.out n hnl
  obtain ⟨p, hpA, hpc⟩ := HRC.out n hnl
  rw [hra, hrd] at hpc
  obtain ⟨sh, hsh⟩ : ∃ sh, Pit.shF (ra * fd) (rd * fa) = sh := ⟨_, rfl⟩
  have hshR : shR rs (xf % 6) n = sh := by
    unfold shR
    rw [List.getElem?_eq_getElem hnl]
    dsimp only
    rw [hra, hrd, HNM.out.2.1, HNM.out.2.2, Int.toNat_natCast, Int.toNat_natCast]
    exact hsh
  have hshb : -384 ≤ sh ∧ sh ≤ 416 := by rw [← hsh]; exact Pit.shF_bd _ _
  have HSR := Lib.hid hshR
  have HRP := Lib.hid (fun W (hb : Below w10.heap.size w10 W) => hpc W (Bt HB1.out (Bt HB10.out hb)))
  have HSH := Lib.hid (fun W (hb : Below w10.heap.size w10 W) => show Calls Tryz.prog 58 #[.agg #[.int .i64 (fa : Int), .int .i64 (fd : Int)], .agg #[.int .i64 (ra : Int), .int .i64 (rd : Int)]] W fun r w' => r = .returned (.tuple #[.int .i64 sh, .int .i64 0]) ∧ Below W.heap.size W w' from by
    have h := Shift_ok fa fd ra rd HFO.out hok W (HTW.out W (Bt HB10.out hb))
    rw [hsh] at h
    exact h)
  have hBB9 : ∀ (L : Nat → Bool) (i : Nat) (w w' : World), Below w.heap.size w w' → Below w10.heap.size w10 w → Below w10.heap.size w10 w' := fun _ _ _ _ h1 h2 => Bt h2 h1
  have hnI : (n : Int) < (m : Int) := by omega
  clear hw10 KS hra hrd hok hpc hsh hshR s0 s1 s2 s3 f0 f1 f2 f3 y34 y10
  go_upto_region 3 with fail
  refine region_blocks (by kernel_rfl) ?_
  refine from_lawW 12 EP3 (fun _ W => Below w10.heap.size w10 W) (FP3 sb m cR ad p fa fd ra rd n sh) VP3 (by kernel_rfl) rfl (FP3_V _ _ _ _ _ _ _ _ _ _ _) (by kernel_rfl) (by kernel_rfl) ((B0 w10).drew) ⟨?_, ?_, ?_, ?_, ?_, ?_, ?_, ?_, ?_, ?_, ?_, ?_, trivial⟩ ?_
  · refine OpFactW.value rfl (FP3_below _ _ _ _ _ _ _ _ _ _ _) hBB9 fun L a w2 hl hf D hb => ?_
    have h0 : sl a 10 = .pointer (some ⟨sb, 0, none⟩) := hf 10 (by kernel_rfl)
    refine ⟨.pointer (some ⟨sb, 1, none⟩), w2, ?_, B0 _, fun s _ h => h 36 rfl⟩
    unfold sl at h0
    simp at h0
    simp [go_sem, h0]
  · refine OpFactW.value rfl (FP3_below _ _ _ _ _ _ _ _ _ _ _) hBB9 fun L a w2 hl hf D hb => ?_
    have h0 : sl a 36 = .pointer (some ⟨sb, 1, none⟩) := D 0 (by kernel_rfl)
    have es := HSB.out w2 hb
    refine ⟨.agg #[.int .i64 (fa : Int), .int .i64 (fd : Int)], w2, ?_, B0 _, fun s _ h => h 37 rfl⟩
    unfold sl at h0
    simp at h0
    simp [go_sem, h0, es]
  · refine OpFactW.value rfl (FP3_below _ _ _ _ _ _ _ _ _ _ _) hBB9 fun L a w2 hl hf D hb => ?_
    have h0 : sl a 0 = .slice (some ad) m cR := hf 0 (by kernel_rfl)
    refine ⟨.slice (some ad) m cR, w2, ?_, B0 _, fun s _ h => h 38 rfl⟩
    unfold sl at h0
    simp [go_sem, h0]
  · refine OpFactW.value rfl (FP3_below _ _ _ _ _ _ _ _ _ _ _) hBB9 fun L a w2 hl hf D hb => ?_
    have h0 : sl a 9 = .int .i64 (n : Int) := hf 9 (by kernel_rfl)
    refine ⟨.int .i64 (n : Int), w2, ?_, B0 _, fun s _ h => h 39 rfl⟩
    unfold sl at h0
    simp [go_sem, h0]
  · refine OpFactW.value rfl (FP3_below _ _ _ _ _ _ _ _ _ _ _) hBB9 fun L a w2 hl hf D hb => ?_
    have h11 : sl a 38 = .slice (some ad) m cR := D 2 (by kernel_rfl)
    have h12 : sl a 39 = .int .i64 (n : Int) := D 3 (by kernel_rfl)
    refine ⟨.pointer (some p), w2, ?_, B0 _, fun s _ h => h 40 rfl⟩
    unfold sl at h11 h12
    simp at h11 h12
    simp [go_sem, h11, h12, hnI, hpA]
  · refine OpFactW.value rfl (FP3_below _ _ _ _ _ _ _ _ _ _ _) hBB9 fun L a w2 hl hf D hb => ?_
    have h11 : sl a 40 = .pointer (some p) := D 4 (by kernel_rfl)
    refine ⟨.pointer (some ⟨p.block, p.off + 2, none⟩), w2, ?_, B0 _, fun s _ h => h 41 rfl⟩
    unfold sl at h11
    simp at h11
    simp [go_sem, h11]
  · refine OpFactW.value rfl (FP3_below _ _ _ _ _ _ _ _ _ _ _) hBB9 fun L a w2 hl hf D hb => ?_
    have h0 : sl a 41 = .pointer (some ⟨p.block, p.off + 2, none⟩) := D 5 (by kernel_rfl)
    have es := HRP.out w2 hb
    refine ⟨.agg #[.int .i64 (ra : Int), .int .i64 (rd : Int)], w2, ?_, B0 _, fun s _ h => h 42 rfl⟩
    unfold sl at h0
    simp at h0
    simp [go_sem, h0, es]
  · refine OpFactW.call rfl (FP3_below _ _ _ _ _ _ _ _ _ _ _) hBB9 fun L a w2 hl hf D hb => ?_
    have h11 : sl a 37 = .agg #[.int .i64 (fa : Int), .int .i64 (fd : Int)] := D 1 (by kernel_rfl)
    have h12 : sl a 42 = .agg #[.int .i64 (ra : Int), .int .i64 (rd : Int)] := D 6 (by kernel_rfl)
    refine ⟨58, #[.agg #[.int .i64 (fa : Int), .int .i64 (fd : Int)], .agg #[.int .i64 (ra : Int), .int .i64 (rd : Int)]], ?_, (HSH.out w2 hb).mono ?_⟩
    · unfold sl at h11 h12
      simp at h11 h12
      simp [go_sem, h11, h12]
    · rintro e w' ⟨rfl, hb3⟩
      exact ⟨_, rfl, hb3, fun s _ h => h 43 rfl⟩
  · refine OpFactW.value rfl (FP3_below _ _ _ _ _ _ _ _ _ _ _) hBB9 fun L a w2 hl hf D hb => ?_
    have h11 : sl a 43 = .tuple #[.int .i64 sh, .int .i64 0] := D 7 (by kernel_rfl)
    refine ⟨.tuple #[.int .i64 sh, .int .i64 0], w2, ?_, B0 _, fun s _ h => h 35 rfl⟩
    unfold sl at h11
    simp at h11
    simp [go_sem, h11]
  · refine OpFactW.value rfl (FP3_below _ _ _ _ _ _ _ _ _ _ _) hBB9 fun L a w2 hl hf D hb => ?_
    have h11 : sl a 35 = .tuple #[.int .i64 sh, .int .i64 0] := D 8 (by kernel_rfl)
    refine ⟨.int .i64 sh, w2, ?_, B0 _, fun s _ h => h 44 rfl⟩
    unfold sl at h11
    simp at h11
    simp [go_sem, h11]
  · refine OpFactW.value rfl (FP3_below _ _ _ _ _ _ _ _ _ _ _) hBB9 fun L a w2 hl hf D hb => ?_
    have h11 : sl a 35 = .tuple #[.int .i64 sh, .int .i64 0] := D 8 (by kernel_rfl)
    refine ⟨.int .i64 0, w2, ?_, B0 _, fun s _ h => h 45 rfl⟩
    unfold sl at h11
    simp at h11
    simp [go_sem, h11]
  · refine OpFactW.value rfl (FP3_below _ _ _ _ _ _ _ _ _ _ _) hBB9 fun L a w2 hl hf D hb => ?_
    have h11 : sl a 44 = .int .i64 sh := D 9 (by kernel_rfl)
    refine ⟨.int .i64 sh, w2, ?_, B0 _, fun s _ h => h 11 rfl⟩
    unfold sl at h11
    simp at h11
    simp [go_sem, h11]
  intro L11 y11 w11 hb11 hF11
  have x45 := hF11 10 (by decide) rfl
  have x11 := hF11 11 (by decide) rfl
  simp only [FP3] at x45 x11
  have HB11 := Lib.hid (show Below w10.heap.size w10 w11 from hb11)
  clear hF11 hb11
  rw [aft12 (d0 := 36) (d1 := 37) (d2 := 38) (d3 := 39) (d4 := 40) (d5 := 41) (d6 := 42) (d7 := 43) (d8 := 35) (d9 := 44) (d10 := 45) (d11 := 11) (by kernel_rfl) rfl]
  rw [x45, x11]
  simp only [List.set_cons_succ, List.set_cons_zero]
  refine from_list 13 (by kernel_rfl) (by simp only [List.take_succ_cons, List.take_zero, List.drop_succ_cons, List.drop_zero]; exact rfl) ?_
  (intro Q' hQ' hX; clear hX)
  go_wp2_with fail
  refine from_end rfl ?_
  go_upto_region 5 with fail
  obtain ⟨w12, hw12⟩ : ∃ w12 : World, w11.alloc (.cells #[.int .i64 (n : Int), .int .i64 sh] 86) = w12 := ⟨_, rfl⟩
  obtain ⟨ob, hob⟩ : ∃ ob, w11.heap.size = ob := ⟨_, rfl⟩
  have KO : Blk w12 ob 86 #[.int .i64 (n : Int), .int .i64 sh] := by rw [← hw12, ← hob]; exact Blk.new _ _ _
  have HB12 : Hid (Below w10.heap.size w10 w12) := Lib.hid (by rw [← hw12]; exact Ba HB11.out _)
  have HOB : Hid (w10.heap.size ≤ ob) := Lib.hid (by rw [← hob]; exact HB11.out.size)
  rw [hw12, hob]
  have HKO := Lib.hid KO
  have HKS12 := Lib.hid (HKS.out.below HB12.out HKS.out.lt)
  clear hw12 hob KO x45 x11 HB11 z0 z1 z2 z3 z4 z5
  obtain ⟨⟨z0, z1⟩, z2, z3, z4, z5⟩ := HSC.out w12 (Bt HB10.out HB12.out)
  obtain ⟨q, hq⟩ : ∃ q, xa % (h + 1) = q := ⟨_, rfl⟩
  have hqh : q ≤ h := by rw [← hq]; exact Nat.le_of_lt_succ (Nat.mod_lt _ (Nat.succ_pos _))
  obtain ⟨t, ht⟩ : ∃ t, lo + q = t := ⟨_, rfl⟩
  have hup' : lo + h = up := HUP.out
  have ha0 : IntKind.i64.wrap (xa : Int) = (xa : Int) := by rw [IntKind.wrap_i64]; omega
  have ha1 : IntKind.i64.wrap ((up : Int) - (lo : Int)) = (h : Int) := by rw [IntKind.wrap_i64]; omega
  have ha2 : IntKind.i64.wrap ((h : Int) + 1) = (h : Int) + 1 := by rw [IntKind.wrap_i64]; omega
  have ha3 : ¬ (h : Int) + 1 = 0 := by omega
  have ha4 : (xa : Int).tmod ((h : Int) + 1) = (q : Int) := by rw [Int.tmod_eq_emod_of_nonneg (by omega), ← hq]; simp
  have ha5 : (xa : Int) % ((h : Int) + 1) = (q : Int) := by rw [← hq]; simp
  have ha6 : IntKind.i64.wrap ((lo : Int) + (q : Int)) = (t : Int) := by rw [IntKind.wrap_i64]; omega
  have ha7 : IntKind.i64.wrap (q : Int) = (q : Int) := by rw [IntKind.wrap_i64]; omega
  have HT := Lib.hid ht
  have HQ := Lib.hid hq
  clear hq ht hup'
  go_quiet (fail)
  obtain ⟨w13, hw13⟩ : ∃ w13 : World, w12.drewN nq = w13 := ⟨_, rfl⟩
  rw [hw13]
  have HB13 : Hid (Below w10.heap.size w10 w13) := Lib.hid (by rw [← hw13]; exact below_drewN HB12.out _)
  have HKO13 : Hid (Blk w13 ob 86 #[.int .i64 (n : Int), .int .i64 sh]) := Lib.hid (by rw [← hw13]; exact HKO.out)
  have HKS13 : Hid (Blk w13 sb 92 #[.string nm, .int .i64 (fa : Int), .int .i64 (fd : Int), .slice none 0 0]) := Lib.hid (by rw [← hw13]; exact HKS12.out)
  clear hw13 HKO HKS12 HB12 z0 z1 z2 z3 z4 z5 ha0 ha1 ha2 ha3 ha4 ha5 ha6 ha7
  obtain ⟨⟨z0, z1⟩, z2, z3, z4, z5⟩ := HSC.out w13 (Bt HB10.out HB13.out)
  have lsb := HKS13.out.lt
  have s3 : w13.cell? ⟨sb, 3, none⟩ = some (.slice none 0 0) := HKS13.out.cell 3
  have f3 := HKS13.out.frozen 3
  have S3 : ∀ o, (w13.alloc o).cell? ⟨sb, 3, none⟩ = some (.slice none 0 0) := fun o => (Bc (Ba (B0 w13) o) lsb).trans s3
  have F3 : ∀ o, (w13.alloc o).frozen? ⟨sb, 3, none⟩ = false := fun o => (HKS13.out.alloc o).frozen 3
  have lbb : b < w13.heap.size := by have := HB13.out.size; have := HB10.out.size; omega
  have Z0 : ∀ o, (w13.alloc o).cell? ⟨b, 0, none⟩ = some (.int .i64 (lo : Int)) := fun o => (Bc (Ba (B0 w13) o) lbb).trans z0
  have Z1 : ∀ o, (w13.alloc o).cell? ⟨b, 1, none⟩ = some (.int .i64 (up : Int)) := fun o => (Bc (Ba (B0 w13) o) lbb).trans z1
  have Z4 : ∀ o, (w13.alloc o).cell? ⟨b + 1, 2, none⟩ = some (.int .u8 (xk : Int)) := fun o => (Bc (Ba (B0 w13) o) (by have := HB13.out.size; have := HB10.out.size; omega)).trans z4
  obtain ⟨κ, hκ⟩ : ∃ κ, xk % 6 = κ := ⟨_, rfl⟩
  have hκ6 : κ = 0 ∨ κ = 1 ∨ κ = 2 ∨ κ = 3 ∨ κ = 4 ∨ κ = 5 := by omega
  have hh7 : IntKind.i64.wrap (sh + 7) = sh + 7 := by rw [IntKind.wrap_i64]; omega
  have hh12 : IntKind.i64.wrap (sh - 12) = sh - 12 := by rw [IntKind.wrap_i64]; omega
  have hsz13 : w1.heap.size ≤ w13.heap.size := by have := HB13.out.size; have := HB10.out.size; omega
  have hsgs := HSG.out
  unfold mkSegs at hsgs
  dsimp only at hsgs
  rw [hκ, HM.out, HN.out, HSR.out, HQ.out, HT.out, HUP.out] at hsgs
  have HSGS := Lib.hid hsgs
  clear hsgs HSG
  rcases hκ6 with rfl | rfl | rfl | rfl | rfl | rfl
  · have hk1 : (xk : Int).tmod 6 = 0 := by rw [Int.tmod_eq_emod_of_nonneg (by omega)]; omega
    have hk2 : (xk : Int) % 6 = 0 := by omega
    have hsegs : segs = [⟨(lo : Int), (up : Int), [⟨(n : Int), sh⟩]⟩] := by
      have h := HSGS.out
      rw [if_neg (by decide), if_neg (by decide), if_neg (by decide), if_neg (by decide)] at h
      exact h.symm
    go_upto_region 22 with fail
    obtain ⟨w14, hw14c⟩ : ∃ w14 : World, (w13.setCell ⟨sb, 3, none⟩ (.slice (some ⟨w13.heap.size, 0, none⟩) 1 1)).alloc (.cells #[.int .i64 (lo : Int), .int .i64 (up : Int), .slice (some ⟨ob, 0, none⟩) 1 1] 89) = w14 := ⟨_, rfl⟩
    rw [hw14c]
    have hw14 : (w13.alloc (.cells #[.int .i64 (lo : Int), .int .i64 (up : Int), .slice (some ⟨ob, 0, none⟩) 1 1] 89)).setCell ⟨sb, 3, none⟩ (.slice (some ⟨w13.heap.size, 0, none⟩) 1 1) = w14 := by rw [← hw14c]; simp [go_sem, lsb]
    clear hw14c
    have KS14 : Blk w14 sb 92 #[.string nm, .int .i64 (fa : Int), .int .i64 (fd : Int), .slice (some ⟨w13.heap.size, 0, none⟩) 1 1] := by
      rw [← hw14]
      have h := (HKS13.out.alloc (.cells #[.int .i64 (lo : Int), .int .i64 (up : Int), .slice (some ⟨ob, 0, none⟩) 1 1] 89)).set_ 3 (.slice (some ⟨w13.heap.size, 0, none⟩) 1 1)
      simpa using h
    have hB14 : Below w1.heap.size w1 w14 := by
      rw [← hw14]
      exact Bs (Ba (Bt HB10.out HB13.out) _) _ hsb
    have hsz14 : w14.heap.size = w13.heap.size + 1 := by rw [← hw14]; simp [World.setCell]
    have hSeg : Sl (fun c => w1.heap.size ≤ c ∧ c < w14.heap.size) 3 (SegC fun c => w1.heap.size ≤ c ∧ c < w14.heap.size) w14 (.slice (some ⟨w13.heap.size, 0, none⟩) 1 1) segs := by
      rw [hsegs]
      have hG : Blk w14 w13.heap.size 89 [.int .i64 (lo : Int), .int .i64 (up : Int), .slice (some ⟨ob, 0, none⟩) 1 1].toArray := by
        rw [← hw14]
        exact (Blk.new _ _ _).far (by simp; omega) _
      have hO : Blk w14 ob 86 [.int .i64 (n : Int), .int .i64 sh].toArray := by
        rw [← hw14]
        exact (HKO13.out.alloc _).far (by have := HKO13.out.ne_ HKS13.out (by decide); simpa using this) _
      have hob := HKO13.out.lt
      have hob1 := HOB.out
      have hs10 := HB10.out.size
      exact Sl.one_ hG ⟨hsz13, by omega⟩ rfl ⟨_, rfl, Sl.one_ hO ⟨by omega, by omega⟩ rfl rfl⟩
    clear hw14
    have HKS14 := Lib.hid KS14
    have HSEG := Lib.hid hSeg
    have HB14 := Lib.hid hB14
    have r0 := KS14.cell 0
    have r1 := KS14.cell 1
    have r2 := KS14.cell 2
    have r3 := KS14.cell 3
    have KR := HC3.out.below hB14 HC3.out.lt
    have g0 := KR.frozen 0
    have g1 := KR.frozen 1
    have g2 := KR.frozen 2
    have g3 := KR.frozen 3
    have q0 := KR.cell 0
    have q1 := KR.cell 1
    have q2 := KR.cell 2
    have q3 := KR.cell 3
    unfold stp0 at q0 q1 q2 q3
    simp only [List.getElem?_toArray, List.getElem?_cons_zero, List.getElem?_cons_succ] at q0 q1 q2 q3 r0 r1 r2 r3
    have HKR := Lib.hid KR
    clear KS14 hSeg hB14 KR z0 z1 z2 z3 z4 z5 s3 f3 S3 F3 Z0 Z1 Z4 
    go_wp2_with fail
    obtain ⟨W, hW⟩ : ∃ W : World, ((((w14.setCell ⟨b + 1 + 1, 0, none⟩ (.string nm)).setCell ⟨b + 1 + 1, 1, none⟩ (.int .i64 (fa : Int))).setCell ⟨b + 1 + 1, 2, none⟩ (.int .i64 (fd : Int))).setCell ⟨b + 1 + 1, 3, none⟩ (.slice (some ⟨w13.heap.size, 0, none⟩) 1 1)) = W := ⟨_, rfl⟩
    rw [hW]
    have KZ : Blk W (b + 1 + 1) 92 #[.string nm, .int .i64 (fa : Int), .int .i64 (fd : Int), .slice (some ⟨w13.heap.size, 0, none⟩) 1 1] := by
      rw [← hW]
      have h := (((HKR.out.set_ 0 (.string nm)).set_ 1 (.int .i64 (fa : Int))).set_ 2 (.int .i64 (fd : Int))).set_ 3 (.slice (some ⟨w13.heap.size, 0, none⟩) 1 1)
      unfold stp0 at h
      simpa using h
    have HBZ : Below w.heap.size w14 W := by
      have h1 : w.heap.size ≤ b + 1 + 1 := by rw [HBB.out]; omega
      have h0 : Below w.heap.size w14 w14 := Below.refl _ w14
      rw [← hW]
      exact (((h0.setCell h1 _).setCell h1 _).setCell h1 _).setCell h1 _
    have HSW : W.heap.size = w14.heap.size := by rw [← hW]; simp [World.setCell]
    have HSS : Sl (fun c => w.heap.size ≤ c ∧ c < W.heap.size) 3 (SegC fun c => w.heap.size ≤ c ∧ c < W.heap.size) W (.slice (some ⟨w13.heap.size, 0, none⟩) 1 1) segs := by
      have h1 : ∀ c, w1.heap.size ≤ c ∧ c < w14.heap.size → c ≠ b + 1 + 1 := fun c hc e => by omega
      have h := Sl.keepF relSeg HSEG.out (w' := W) (by rw [← hW]; exact (((Agree.setCell _ h1).trans (Agree.setCell _ h1)).trans (Agree.setCell _ h1)).trans (Agree.setCell _ h1))
      exact Sl.monoF relSeg h fun c hc => ⟨by have := HB1.out.size; omega, by rw [HSW]; exact hc.2⟩
    have x0 := KZ.cell 0
    have x1 := KZ.cell 1
    have x2 := KZ.cell 2
    have x3 := KZ.cell 3
    simp only [List.getElem?_toArray, List.getElem?_cons_zero, List.getElem?_cons_succ] at x0 x1 x2 x3
    refine bodyPost_ret (v := .agg #[.string nm, .int .i64 (fa : Int), .int .i64 (fd : Int), .slice (some ⟨w13.heap.size, 0, none⟩) 1 1]) (by simp [results, Tryz.f42, go_sem, x0, x1, x2, x3]) rfl ?_
    refine ⟨_, rfl, rfl, ?_, ?_⟩
    · rw [HMK.out]
      refine ⟨.slice (some ⟨w13.heap.size, 0, none⟩) 1 1, ?_, HSS⟩
      show [_, _, _, _] = [_, _, _, _]
      dsimp only
      rw [HNM.out.1, HNM.out.2.1, HNM.out.2.2]
    · exact (HB1.out.trans (Below.mono HB14.out HB1.out.size)).trans HBZ
  · have hk1 : (xk : Int).tmod 6 = 1 := by rw [Int.tmod_eq_emod_of_nonneg (by omega)]; omega
    have hk2 : (xk : Int) % 6 = 1 := by omega
    have hsegs : segs = [⟨(lo : Int), (up : Int), [⟨(n : Int), sh⟩]⟩] := by
      have h := HSGS.out
      rw [if_neg (by decide), if_neg (by decide), if_neg (by decide), if_neg (by decide)] at h
      exact h.symm
    go_upto_region 22 with fail
    obtain ⟨w14, hw14c⟩ : ∃ w14 : World, (w13.setCell ⟨sb, 3, none⟩ (.slice (some ⟨w13.heap.size, 0, none⟩) 1 1)).alloc (.cells #[.int .i64 (lo : Int), .int .i64 (up : Int), .slice (some ⟨ob, 0, none⟩) 1 1] 89) = w14 := ⟨_, rfl⟩
    rw [hw14c]
    have hw14 : (w13.alloc (.cells #[.int .i64 (lo : Int), .int .i64 (up : Int), .slice (some ⟨ob, 0, none⟩) 1 1] 89)).setCell ⟨sb, 3, none⟩ (.slice (some ⟨w13.heap.size, 0, none⟩) 1 1) = w14 := by rw [← hw14c]; simp [go_sem, lsb]
    clear hw14c
    have KS14 : Blk w14 sb 92 #[.string nm, .int .i64 (fa : Int), .int .i64 (fd : Int), .slice (some ⟨w13.heap.size, 0, none⟩) 1 1] := by
      rw [← hw14]
      have h := (HKS13.out.alloc (.cells #[.int .i64 (lo : Int), .int .i64 (up : Int), .slice (some ⟨ob, 0, none⟩) 1 1] 89)).set_ 3 (.slice (some ⟨w13.heap.size, 0, none⟩) 1 1)
      simpa using h
    have hB14 : Below w1.heap.size w1 w14 := by
      rw [← hw14]
      exact Bs (Ba (Bt HB10.out HB13.out) _) _ hsb
    have hsz14 : w14.heap.size = w13.heap.size + 1 := by rw [← hw14]; simp [World.setCell]
    have hSeg : Sl (fun c => w1.heap.size ≤ c ∧ c < w14.heap.size) 3 (SegC fun c => w1.heap.size ≤ c ∧ c < w14.heap.size) w14 (.slice (some ⟨w13.heap.size, 0, none⟩) 1 1) segs := by
      rw [hsegs]
      have hG : Blk w14 w13.heap.size 89 [.int .i64 (lo : Int), .int .i64 (up : Int), .slice (some ⟨ob, 0, none⟩) 1 1].toArray := by
        rw [← hw14]
        exact (Blk.new _ _ _).far (by simp; omega) _
      have hO : Blk w14 ob 86 [.int .i64 (n : Int), .int .i64 sh].toArray := by
        rw [← hw14]
        exact (HKO13.out.alloc _).far (by have := HKO13.out.ne_ HKS13.out (by decide); simpa using this) _
      have hob := HKO13.out.lt
      have hob1 := HOB.out
      have hs10 := HB10.out.size
      exact Sl.one_ hG ⟨hsz13, by omega⟩ rfl ⟨_, rfl, Sl.one_ hO ⟨by omega, by omega⟩ rfl rfl⟩
    clear hw14
    have HKS14 := Lib.hid KS14
    have HSEG := Lib.hid hSeg
    have HB14 := Lib.hid hB14
    have r0 := KS14.cell 0
    have r1 := KS14.cell 1
    have r2 := KS14.cell 2
    have r3 := KS14.cell 3
    have KR := HC3.out.below hB14 HC3.out.lt
    have g0 := KR.frozen 0
    have g1 := KR.frozen 1
    have g2 := KR.frozen 2
    have g3 := KR.frozen 3
    have q0 := KR.cell 0
    have q1 := KR.cell 1
    have q2 := KR.cell 2
    have q3 := KR.cell 3
    unfold stp0 at q0 q1 q2 q3
    simp only [List.getElem?_toArray, List.getElem?_cons_zero, List.getElem?_cons_succ] at q0 q1 q2 q3 r0 r1 r2 r3
    have HKR := Lib.hid KR
    clear KS14 hSeg hB14 KR z0 z1 z2 z3 z4 z5 s3 f3 S3 F3 Z0 Z1 Z4 
    go_wp2_with fail
    obtain ⟨W, hW⟩ : ∃ W : World, ((((w14.setCell ⟨b + 1 + 1, 0, none⟩ (.string nm)).setCell ⟨b + 1 + 1, 1, none⟩ (.int .i64 (fa : Int))).setCell ⟨b + 1 + 1, 2, none⟩ (.int .i64 (fd : Int))).setCell ⟨b + 1 + 1, 3, none⟩ (.slice (some ⟨w13.heap.size, 0, none⟩) 1 1)) = W := ⟨_, rfl⟩
    rw [hW]
    have KZ : Blk W (b + 1 + 1) 92 #[.string nm, .int .i64 (fa : Int), .int .i64 (fd : Int), .slice (some ⟨w13.heap.size, 0, none⟩) 1 1] := by
      rw [← hW]
      have h := (((HKR.out.set_ 0 (.string nm)).set_ 1 (.int .i64 (fa : Int))).set_ 2 (.int .i64 (fd : Int))).set_ 3 (.slice (some ⟨w13.heap.size, 0, none⟩) 1 1)
      unfold stp0 at h
      simpa using h
    have HBZ : Below w.heap.size w14 W := by
      have h1 : w.heap.size ≤ b + 1 + 1 := by rw [HBB.out]; omega
      have h0 : Below w.heap.size w14 w14 := Below.refl _ w14
      rw [← hW]
      exact (((h0.setCell h1 _).setCell h1 _).setCell h1 _).setCell h1 _
    have HSW : W.heap.size = w14.heap.size := by rw [← hW]; simp [World.setCell]
    have HSS : Sl (fun c => w.heap.size ≤ c ∧ c < W.heap.size) 3 (SegC fun c => w.heap.size ≤ c ∧ c < W.heap.size) W (.slice (some ⟨w13.heap.size, 0, none⟩) 1 1) segs := by
      have h1 : ∀ c, w1.heap.size ≤ c ∧ c < w14.heap.size → c ≠ b + 1 + 1 := fun c hc e => by omega
      have h := Sl.keepF relSeg HSEG.out (w' := W) (by rw [← hW]; exact (((Agree.setCell _ h1).trans (Agree.setCell _ h1)).trans (Agree.setCell _ h1)).trans (Agree.setCell _ h1))
      exact Sl.monoF relSeg h fun c hc => ⟨by have := HB1.out.size; omega, by rw [HSW]; exact hc.2⟩
    have x0 := KZ.cell 0
    have x1 := KZ.cell 1
    have x2 := KZ.cell 2
    have x3 := KZ.cell 3
    simp only [List.getElem?_toArray, List.getElem?_cons_zero, List.getElem?_cons_succ] at x0 x1 x2 x3
    refine bodyPost_ret (v := .agg #[.string nm, .int .i64 (fa : Int), .int .i64 (fd : Int), .slice (some ⟨w13.heap.size, 0, none⟩) 1 1]) (by simp [results, Tryz.f42, go_sem, x0, x1, x2, x3]) rfl ?_
    refine ⟨_, rfl, rfl, ?_, ?_⟩
    · rw [HMK.out]
      refine ⟨.slice (some ⟨w13.heap.size, 0, none⟩) 1 1, ?_, HSS⟩
      show [_, _, _, _] = [_, _, _, _]
      dsimp only
      rw [HNM.out.1, HNM.out.2.1, HNM.out.2.2]
    · exact (HB1.out.trans (Below.mono HB14.out HB1.out.size)).trans HBZ
  · have hk1 : (xk : Int).tmod 6 = 2 := by rw [Int.tmod_eq_emod_of_nonneg (by omega)]; omega
    have hk2 : (xk : Int) % 6 = 2 := by omega
    have hsegs : segs = [⟨(lo : Int), (up : Int), [⟨(n : Int), sh⟩, ⟨(n : Int), sh + 7⟩]⟩] := by
      have h := HSGS.out
      rw [if_pos rfl] at h
      exact h.symm
    have S33 : ∀ o1 o2, ((w13.alloc o1).alloc o2).cell? ⟨sb, 3, none⟩ = some (.slice none 0 0) := fun o1 o2 => (Bc (Ba (Ba (B0 w13) o1) o2) lsb).trans s3
    have F33 : ∀ o1 o2, ((w13.alloc o1).alloc o2).frozen? ⟨sb, 3, none⟩ = false := fun o1 o2 => ((HKS13.out.alloc o1).alloc o2).frozen 3
    go_upto_region 22 with fail
    obtain ⟨w14, hw14c⟩ : ∃ w14 : World, ((w13.setCell ⟨sb, 3, none⟩ (.slice (some ⟨w13.heap.size + 1, 0, none⟩) 1 1)).alloc (.cells #[.int .i64 (n : Int), .int .i64 sh, .int .i64 (n : Int), .int .i64 (sh + 7)] 86)).alloc (.cells #[.int .i64 (lo : Int), .int .i64 (up : Int), .slice (some ⟨w13.heap.size, 0, none⟩) 2 2] 89) = w14 := ⟨_, rfl⟩
    rw [hw14c]
    have hw14 : ((w13.alloc (.cells #[.int .i64 (n : Int), .int .i64 sh, .int .i64 (n : Int), .int .i64 (sh + 7)] 86)).alloc (.cells #[.int .i64 (lo : Int), .int .i64 (up : Int), .slice (some ⟨w13.heap.size, 0, none⟩) 2 2] 89)).setCell ⟨sb, 3, none⟩ (.slice (some ⟨w13.heap.size + 1, 0, none⟩) 1 1) = w14 := by rw [← hw14c]; simp [go_sem, lsb]
    clear hw14c
    have KS14 : Blk w14 sb 92 #[.string nm, .int .i64 (fa : Int), .int .i64 (fd : Int), .slice (some ⟨w13.heap.size + 1, 0, none⟩) 1 1] := by
      rw [← hw14]
      have h := ((HKS13.out.alloc (.cells #[.int .i64 (n : Int), .int .i64 sh, .int .i64 (n : Int), .int .i64 (sh + 7)] 86)).alloc (.cells #[.int .i64 (lo : Int), .int .i64 (up : Int), .slice (some ⟨w13.heap.size, 0, none⟩) 2 2] 89)).set_ 3 (.slice (some ⟨w13.heap.size + 1, 0, none⟩) 1 1)
      simpa using h
    have hB14 : Below w1.heap.size w1 w14 := by
      rw [← hw14]
      exact Bs (Ba (Ba (Bt HB10.out HB13.out) _) _) _ hsb
    have hsz14 : w14.heap.size = w13.heap.size + 1 + 1 := by rw [← hw14]; simp [World.setCell]
    have hSeg : Sl (fun c => w1.heap.size ≤ c ∧ c < w14.heap.size) 3 (SegC fun c => w1.heap.size ≤ c ∧ c < w14.heap.size) w14 (.slice (some ⟨w13.heap.size + 1, 0, none⟩) 1 1) segs := by
      rw [hsegs]
      have hG : Blk w14 (w13.heap.size + 1) 89 [.int .i64 (lo : Int), .int .i64 (up : Int), .slice (some ⟨w13.heap.size, 0, none⟩) 2 2].toArray := by
        rw [← hw14]
        have h := Blk.new (w13.alloc (.cells #[.int .i64 (n : Int), .int .i64 sh, .int .i64 (n : Int), .int .i64 (sh + 7)] 86)) 89 #[.int .i64 (lo : Int), .int .i64 (up : Int), .slice (some ⟨w13.heap.size, 0, none⟩) 2 2]
        rw [World.size_alloc] at h
        exact h.far (by simp; omega) _
      have hO : Blk w14 w13.heap.size 86 ([.int .i64 (n : Int), .int .i64 sh] ++ [.int .i64 (n : Int), .int .i64 (sh + 7)] : List Value).toArray := by
        rw [← hw14]
        exact ((Blk.new w13 86 #[.int .i64 (n : Int), .int .i64 sh, .int .i64 (n : Int), .int .i64 (sh + 7)]).alloc _).far (by simp; omega) _
      exact Sl.one_ hG ⟨by omega, by omega⟩ rfl ⟨_, rfl, Sl.two_ hO ⟨hsz13, by omega⟩ rfl rfl rfl rfl⟩
    clear hw14
    have HKS14 := Lib.hid KS14
    have HSEG := Lib.hid hSeg
    have HB14 := Lib.hid hB14
    have r0 := KS14.cell 0
    have r1 := KS14.cell 1
    have r2 := KS14.cell 2
    have r3 := KS14.cell 3
    have KR := HC3.out.below hB14 HC3.out.lt
    have g0 := KR.frozen 0
    have g1 := KR.frozen 1
    have g2 := KR.frozen 2
    have g3 := KR.frozen 3
    have q0 := KR.cell 0
    have q1 := KR.cell 1
    have q2 := KR.cell 2
    have q3 := KR.cell 3
    unfold stp0 at q0 q1 q2 q3
    simp only [List.getElem?_toArray, List.getElem?_cons_zero, List.getElem?_cons_succ] at q0 q1 q2 q3 r0 r1 r2 r3
    have HKR := Lib.hid KR
    clear KS14 hSeg hB14 KR z0 z1 z2 z3 z4 z5 s3 f3 S3 F3 Z0 Z1 Z4 S33 F33
    go_wp2_with fail
    obtain ⟨W, hW⟩ : ∃ W : World, ((((w14.setCell ⟨b + 1 + 1, 0, none⟩ (.string nm)).setCell ⟨b + 1 + 1, 1, none⟩ (.int .i64 (fa : Int))).setCell ⟨b + 1 + 1, 2, none⟩ (.int .i64 (fd : Int))).setCell ⟨b + 1 + 1, 3, none⟩ (.slice (some ⟨w13.heap.size + 1, 0, none⟩) 1 1)) = W := ⟨_, rfl⟩
    rw [hW]
    have KZ : Blk W (b + 1 + 1) 92 #[.string nm, .int .i64 (fa : Int), .int .i64 (fd : Int), .slice (some ⟨w13.heap.size + 1, 0, none⟩) 1 1] := by
      rw [← hW]
      have h := (((HKR.out.set_ 0 (.string nm)).set_ 1 (.int .i64 (fa : Int))).set_ 2 (.int .i64 (fd : Int))).set_ 3 (.slice (some ⟨w13.heap.size + 1, 0, none⟩) 1 1)
      unfold stp0 at h
      simpa using h
    have HBZ : Below w.heap.size w14 W := by
      have h1 : w.heap.size ≤ b + 1 + 1 := by rw [HBB.out]; omega
      have h0 : Below w.heap.size w14 w14 := Below.refl _ w14
      rw [← hW]
      exact (((h0.setCell h1 _).setCell h1 _).setCell h1 _).setCell h1 _
    have HSW : W.heap.size = w14.heap.size := by rw [← hW]; simp [World.setCell]
    have HSS : Sl (fun c => w.heap.size ≤ c ∧ c < W.heap.size) 3 (SegC fun c => w.heap.size ≤ c ∧ c < W.heap.size) W (.slice (some ⟨w13.heap.size + 1, 0, none⟩) 1 1) segs := by
      have h1 : ∀ c, w1.heap.size ≤ c ∧ c < w14.heap.size → c ≠ b + 1 + 1 := fun c hc e => by omega
      have h := Sl.keepF relSeg HSEG.out (w' := W) (by rw [← hW]; exact (((Agree.setCell _ h1).trans (Agree.setCell _ h1)).trans (Agree.setCell _ h1)).trans (Agree.setCell _ h1))
      exact Sl.monoF relSeg h fun c hc => ⟨by have := HB1.out.size; omega, by rw [HSW]; exact hc.2⟩
    have x0 := KZ.cell 0
    have x1 := KZ.cell 1
    have x2 := KZ.cell 2
    have x3 := KZ.cell 3
    simp only [List.getElem?_toArray, List.getElem?_cons_zero, List.getElem?_cons_succ] at x0 x1 x2 x3
    refine bodyPost_ret (v := .agg #[.string nm, .int .i64 (fa : Int), .int .i64 (fd : Int), .slice (some ⟨w13.heap.size + 1, 0, none⟩) 1 1]) (by simp [results, Tryz.f42, go_sem, x0, x1, x2, x3]) rfl ?_
    refine ⟨_, rfl, rfl, ?_, ?_⟩
    · rw [HMK.out]
      refine ⟨.slice (some ⟨w13.heap.size + 1, 0, none⟩) 1 1, ?_, HSS⟩
      show [_, _, _, _] = [_, _, _, _]
      dsimp only
      rw [HNM.out.1, HNM.out.2.1, HNM.out.2.2]
    · exact (HB1.out.trans (Below.mono HB14.out HB1.out.size)).trans HBZ
  · have hk1 : (xk : Int).tmod 6 = 3 := by rw [Int.tmod_eq_emod_of_nonneg (by omega)]; omega
    have hk2 : (xk : Int) % 6 = 3 := by omega
    obtain ⟨n2, hn2e⟩ : ∃ n2, (n + 1) % m = n2 := ⟨_, rfl⟩
    have hn2m : n2 < m := by rw [← hn2e]; exact Nat.mod_lt _ hrs
    have hm1 : ((n : Int) + 1).tmod (m : Int) = (n2 : Int) := by rw [Int.tmod_eq_emod_of_nonneg (by omega), ← hn2e]; simp
    have hm2 : ((n : Int) + 1) % (m : Int) = (n2 : Int) := by rw [← hn2e]; simp
    have hm3 : IntKind.i64.wrap ((n : Int) + 1) = (n : Int) + 1 := by rw [IntKind.wrap_i64]; omega
    have hm4 : IntKind.i64.wrap (n2 : Int) = (n2 : Int) := by rw [IntKind.wrap_i64]; omega
    have HN2 := Lib.hid hn2e
    clear hn2e
    go_upto_region 15 with fail
    obtain ⟨wB, hwB⟩ : ∃ wB : World, w13.alloc (.cells #[.int .i64 (n : Int), .int .i64 (sh - 12)] 86) = wB := ⟨_, rfl⟩
    have HBB0 : Hid (Below w13.heap.size w13 wB) := Lib.hid (by rw [← hwB]; exact Ba (B0 w13) _)
    rw [hwB]
    clear hwB
    have HBB1 : Hid (Below w10.heap.size w10 wB) := Lib.hid (Bt HB13.out HBB0.out)
    have hnl2 : n2 < rs.length := by rw [HM.out]; exact hn2m
    obtain ⟨ra2, rd2, hra2, hrd2, hok2⟩ := HRX.out n2 hnl2
    obtain ⟨p2, hpA2, hpc2⟩ := HRC.out n2 hnl2
    rw [hra2, hrd2] at hpc2
    obtain ⟨sh2, hsh2⟩ : ∃ sh2, Pit.shF (ra2 * fd) (rd2 * fa) = sh2 := ⟨_, rfl⟩
    have hshR2 : shR rs (xf % 6) n2 = sh2 := by
      unfold shR
      rw [List.getElem?_eq_getElem hnl2]
      dsimp only
      rw [hra2, hrd2, HNM.out.2.1, HNM.out.2.2, Int.toNat_natCast, Int.toNat_natCast]
      exact hsh2
    have HSR2 := Lib.hid hshR2
    have HSB12 := Lib.hid (fun W (hb : Below wB.heap.size wB W) => HSB.out W (Bt HBB1.out hb))
    have HRP2 := Lib.hid (fun W (hb : Below wB.heap.size wB W) => hpc2 W (Bt HB1.out (Bt HB10.out (Bt HBB1.out hb))))
    have HSH2 := Lib.hid (fun W (hb : Below wB.heap.size wB W) => show Calls Tryz.prog 58 #[.agg #[.int .i64 (fa : Int), .int .i64 (fd : Int)], .agg #[.int .i64 (ra2 : Int), .int .i64 (rd2 : Int)]] W fun r w' => r = .returned (.tuple #[.int .i64 sh2, .int .i64 0]) ∧ Below W.heap.size W w' from by
      have h := Shift_ok fa fd ra2 rd2 HFO.out hok2 W (HTW.out W (Bt HB10.out (Bt HBB1.out hb)))
      rw [hsh2] at h
      exact h)
    have hBBB : ∀ (L : Nat → Bool) (i : Nat) (w w' : World), Below w.heap.size w w' → Below wB.heap.size wB w → Below wB.heap.size wB w' := fun _ _ _ _ h1 h2 => Bt h2 h1
    have hnI2 : (n2 : Int) < (m : Int) := by omega
    have HKSB : Hid (Blk wB sb 92 #[.string nm, .int .i64 (fa : Int), .int .i64 (fd : Int), .slice none 0 0]) := Lib.hid (HKS13.out.below HBB0.out HKS13.out.lt)
    have HKOB : Hid (Blk wB ob 86 #[.int .i64 (n : Int), .int .i64 sh]) := Lib.hid (HKO13.out.below HBB0.out HKO13.out.lt)
    clear hra2 hrd2 hok2 hpc2 hsh2 hshR2 z0 z1 z2 z3 z4 z5 s3 f3 S3 F3 Z0 Z1 Z4
    refine region_blocks (by kernel_rfl) ?_
    refine from_lawW 12 EP15 (fun _ W => Below wB.heap.size wB W) (FP15 sb m cR ad p2 fa fd ra2 rd2 n2 sh2) VP15 (by kernel_rfl) rfl (FP15_V _ _ _ _ _ _ _ _ _ _ _) (by kernel_rfl) (by kernel_rfl) ((B0 wB).drew) ⟨?_, ?_, ?_, ?_, ?_, ?_, ?_, ?_, ?_, ?_, ?_, ?_, trivial⟩ ?_
    · refine OpFactW.value rfl (FP15_below _ _ _ _ _ _ _ _ _ _ _) hBBB fun L a w2 hl hf D hb => ?_
      have h0 : sl a 10 = .pointer (some ⟨sb, 0, none⟩) := hf 10 (by kernel_rfl)
      refine ⟨.pointer (some ⟨sb, 1, none⟩), w2, ?_, B0 _, fun s _ h => h 109 rfl⟩
      unfold sl at h0
      simp at h0
      simp [go_sem, h0]
    · refine OpFactW.value rfl (FP15_below _ _ _ _ _ _ _ _ _ _ _) hBBB fun L a w2 hl hf D hb => ?_
      have h0 : sl a 109 = .pointer (some ⟨sb, 1, none⟩) := D 0 (by kernel_rfl)
      have es := HSB12.out w2 hb
      refine ⟨.agg #[.int .i64 (fa : Int), .int .i64 (fd : Int)], w2, ?_, B0 _, fun s _ h => h 110 rfl⟩
      unfold sl at h0
      simp at h0
      simp [go_sem, h0, es]
    · refine OpFactW.value rfl (FP15_below _ _ _ _ _ _ _ _ _ _ _) hBBB fun L a w2 hl hf D hb => ?_
      have h0 : sl a 0 = .slice (some ad) m cR := hf 0 (by kernel_rfl)
      refine ⟨.slice (some ad) m cR, w2, ?_, B0 _, fun s _ h => h 111 rfl⟩
      unfold sl at h0
      simp [go_sem, h0]
    · refine OpFactW.value rfl (FP15_below _ _ _ _ _ _ _ _ _ _ _) hBBB fun L a w2 hl hf D hb => ?_
      have h0 : sl a 16 = .int .i64 (n2 : Int) := hf 16 (by kernel_rfl)
      refine ⟨.int .i64 (n2 : Int), w2, ?_, B0 _, fun s _ h => h 112 rfl⟩
      unfold sl at h0
      simp [go_sem, h0]
    · refine OpFactW.value rfl (FP15_below _ _ _ _ _ _ _ _ _ _ _) hBBB fun L a w2 hl hf D hb => ?_
      have h11 : sl a 111 = .slice (some ad) m cR := D 2 (by kernel_rfl)
      have h12 : sl a 112 = .int .i64 (n2 : Int) := D 3 (by kernel_rfl)
      refine ⟨.pointer (some p2), w2, ?_, B0 _, fun s _ h => h 113 rfl⟩
      unfold sl at h11 h12
      simp at h11 h12
      simp [go_sem, h11, h12, hnI2, hpA2]
    · refine OpFactW.value rfl (FP15_below _ _ _ _ _ _ _ _ _ _ _) hBBB fun L a w2 hl hf D hb => ?_
      have h11 : sl a 113 = .pointer (some p2) := D 4 (by kernel_rfl)
      refine ⟨.pointer (some ⟨p2.block, p2.off + 2, none⟩), w2, ?_, B0 _, fun s _ h => h 114 rfl⟩
      unfold sl at h11
      simp at h11
      simp [go_sem, h11]
    · refine OpFactW.value rfl (FP15_below _ _ _ _ _ _ _ _ _ _ _) hBBB fun L a w2 hl hf D hb => ?_
      have h0 : sl a 114 = .pointer (some ⟨p2.block, p2.off + 2, none⟩) := D 5 (by kernel_rfl)
      have es := HRP2.out w2 hb
      refine ⟨.agg #[.int .i64 (ra2 : Int), .int .i64 (rd2 : Int)], w2, ?_, B0 _, fun s _ h => h 115 rfl⟩
      unfold sl at h0
      simp at h0
      simp [go_sem, h0, es]
    · refine OpFactW.call rfl (FP15_below _ _ _ _ _ _ _ _ _ _ _) hBBB fun L a w2 hl hf D hb => ?_
      have h11 : sl a 110 = .agg #[.int .i64 (fa : Int), .int .i64 (fd : Int)] := D 1 (by kernel_rfl)
      have h12 : sl a 115 = .agg #[.int .i64 (ra2 : Int), .int .i64 (rd2 : Int)] := D 6 (by kernel_rfl)
      refine ⟨58, #[.agg #[.int .i64 (fa : Int), .int .i64 (fd : Int)], .agg #[.int .i64 (ra2 : Int), .int .i64 (rd2 : Int)]], ?_, (HSH2.out w2 hb).mono ?_⟩
      · unfold sl at h11 h12
        simp at h11 h12
        simp [go_sem, h11, h12]
      · rintro e w' ⟨rfl, hb3⟩
        exact ⟨_, rfl, hb3, fun s _ h => h 116 rfl⟩
    · refine OpFactW.value rfl (FP15_below _ _ _ _ _ _ _ _ _ _ _) hBBB fun L a w2 hl hf D hb => ?_
      have h11 : sl a 116 = .tuple #[.int .i64 sh2, .int .i64 0] := D 7 (by kernel_rfl)
      refine ⟨.tuple #[.int .i64 sh2, .int .i64 0], w2, ?_, B0 _, fun s _ h => h 108 rfl⟩
      unfold sl at h11
      simp at h11
      simp [go_sem, h11]
    · refine OpFactW.value rfl (FP15_below _ _ _ _ _ _ _ _ _ _ _) hBBB fun L a w2 hl hf D hb => ?_
      have h11 : sl a 108 = .tuple #[.int .i64 sh2, .int .i64 0] := D 8 (by kernel_rfl)
      refine ⟨.int .i64 sh2, w2, ?_, B0 _, fun s _ h => h 117 rfl⟩
      unfold sl at h11
      simp at h11
      simp [go_sem, h11]
    · refine OpFactW.value rfl (FP15_below _ _ _ _ _ _ _ _ _ _ _) hBBB fun L a w2 hl hf D hb => ?_
      have h11 : sl a 108 = .tuple #[.int .i64 sh2, .int .i64 0] := D 8 (by kernel_rfl)
      refine ⟨.int .i64 0, w2, ?_, B0 _, fun s _ h => h 118 rfl⟩
      unfold sl at h11
      simp at h11
      simp [go_sem, h11]
    · refine OpFactW.value rfl (FP15_below _ _ _ _ _ _ _ _ _ _ _) hBBB fun L a w2 hl hf D hb => ?_
      have h11 : sl a 117 = .int .i64 sh2 := D 9 (by kernel_rfl)
      refine ⟨.int .i64 sh2, w2, ?_, B0 _, fun s _ h => h 17 rfl⟩
      unfold sl at h11
      simp at h11
      simp [go_sem, h11]
    intro L15 y15 w15 hb15 hF15
    have x1 := hF15 10 (by decide) rfl
    have x2 := hF15 11 (by decide) rfl
    simp only [FP15] at x1 x2
    have HB15 := Lib.hid (show Below wB.heap.size wB w15 from hb15)
    clear hF15 hb15
    rw [aft12 (d0 := 109) (d1 := 110) (d2 := 111) (d3 := 112) (d4 := 113) (d5 := 114) (d6 := 115) (d7 := 116) (d8 := 108) (d9 := 117) (d10 := 118) (d11 := 17) (by kernel_rfl) rfl]
    rw [x1, x2]
    simp only [List.set_cons_succ, List.set_cons_zero]
    refine from_list 13 (by kernel_rfl) (by simp only [List.take_succ_cons, List.take_zero, List.drop_succ_cons, List.drop_zero]; exact rfl) ?_
    (intro Q' hQ' hX; clear hX)
    go_wp2_with fail
    refine from_end rfl ?_
    clear x1 x2
    go_upto_region 17 with fail
    obtain ⟨wA, hwA⟩ : ∃ wA : World, w15.alloc (.cells #[.int .i64 (n2 : Int), .int .i64 sh2] 86) = wA := ⟨_, rfl⟩
    obtain ⟨tb, htb⟩ : ∃ tb, w15.heap.size = tb := ⟨_, rfl⟩
    have HKTA : Hid (Blk wA tb 86 #[.int .i64 (n2 : Int), .int .i64 sh2]) := Lib.hid (by rw [← hwA, ← htb]; exact Blk.new _ _ _)
    have HKSA : Hid (Blk wA sb 92 #[.string nm, .int .i64 (fa : Int), .int .i64 (fd : Int), .slice none 0 0]) := Lib.hid (by rw [← hwA]; exact (HKSB.out.below HB15.out HKSB.out.lt).alloc _)
    have HKOA : Hid (Blk wA ob 86 #[.int .i64 (n : Int), .int .i64 sh]) := Lib.hid (by rw [← hwA]; exact (HKOB.out.below HB15.out HKOB.out.lt).alloc _)
    have HBA : Hid (Below w1.heap.size w1 wA) := Lib.hid (by rw [← hwA]; exact Ba (Bt HB10.out (Bt HBB1.out HB15.out)) _)
    have HTB : Hid (w1.heap.size ≤ tb) := Lib.hid (by rw [← htb]; have := HBB0.out.size; have := HB15.out.size; omega)
    have z0 := True.intro
    have z1 := True.intro
    have z2 := True.intro
    have z3 := True.intro
    have z4 := True.intro
    have z5 := True.intro
    have s3 := True.intro
    have f3 := True.intro
    have S3 := True.intro
    have F3 := True.intro
    have Z0 := True.intro
    have Z1 := True.intro
    have Z4 := True.intro
    rw [hwA, htb]
    clear hwA htb
    have htb1 : w1.heap.size ≤ tb := HTB.out
    clear z0 z1 z2 z3 z4 z5 s3 f3 S3 F3 Z0 Z1 Z4
    obtain ⟨⟨z0, z1⟩, z2, z3, z4, z5⟩ := HSC.out wA HBA.out
    have s3 : wA.cell? ⟨sb, 3, none⟩ = some (.slice none 0 0) := HKSA.out.cell 3
    have f3 := HKSA.out.frozen 3
    have HOA : Hid (wA.ownsRow w1.heap.size 89 3 (.slice none 0 0) 0 []) := Lib.hid (World.ownsRow_nil _ _ _ _)
    have hszA : w1.heap.size ≤ wA.heap.size := HBA.out.size
    have ht1 : IntKind.i64.wrap ((t : Int) - 1) = (t : Int) - 1 := by have := HT.out; rw [IntKind.wrap_i64]; omega
    have S3 := True.intro
    have F3 := True.intro
    have Z0 := True.intro
    have Z1 := True.intro
    have Z4 := True.intro
    by_cases hlt : lo < t
    · have hltI : (lo : Int) < (t : Int) := by omega
      have hltd : decide ((lo : Int) < (t : Int)) = true := decide_eq_true hltI
      have hsegs : segs = [⟨(lo : Int), (t : Int) - 1, [⟨(n : Int), sh⟩]⟩, ⟨(t : Int), (up : Int), [⟨(n2 : Int), sh2⟩]⟩] := by
        have h := HSGS.out
        rw [if_neg (by decide), if_pos (by decide), HN2.out, HSR2.out] at h
        rw [if_pos hlt] at h
        exact h.symm
      go_upto_region 18 with fail
      go_upto_region 19 with (at_builtin; refine wpList_appS elemSg (by omega) rfl _ _ rfl w1.heap.size (.slice none 0 0) 0 [] rfl (HOA.out.alloc _) ⟨wA.heap.size, 0, none⟩ 1 [.int .i64 (lo : Int), .int .i64 ((t : Int) - 1), .slice (some ⟨ob, 0, none⟩) 1 1] rfl rfl (Flds.new wA _ _) (by simp [Value.oneCell']) (by omega) (by omega) (by simp; omega) ?_; intro ga capa w8a hown8 hg8 hgg; have HO8a := Lib.hid hown8; have HG8a := Lib.hid hg8; have A8 := (HKSA.out.alloc (.cells #[.int .i64 (lo : Int), .int .i64 ((t : Int) - 1), .slice (some ⟨ob, 0, none⟩) 1 1] 89)).grown hg8 (fun e => own_ne HOA.out HKSA.out (by decide) e.symm); have HA8a := Lib.hid A8; have a8a := A8.cell 3; have f8a := A8.frozen 3; simp only [List.getElem?_toArray, List.getElem?_cons_zero, List.getElem?_cons_succ] at a8a; clear hown8 hg8 hgg A8)
      obtain ⟨wD, hwD⟩ : ∃ wD : World, w8a.setCell ⟨sb, 3, none⟩ (.slice (some ⟨ga, 0, none⟩) (0 + 1) capa) = wD := ⟨_, rfl⟩
      have HKSD : Hid (Blk wD sb 92 #[.string nm, .int .i64 (fa : Int), .int .i64 (fd : Int), .slice (some ⟨ga, 0, none⟩) (0 + 1) capa]) := Lib.hid (by rw [← hwD]; simpa using HA8a.out.set_ 3 (.slice (some ⟨ga, 0, none⟩) (0 + 1) capa))
      have HOD : Hid (wD.ownsRow w1.heap.size 89 3 (.slice (some ⟨ga, 0, none⟩) (0 + 1) capa) (0 + 1) _) := Lib.hid (by
        rw [← hwD]
        exact HO8a.out.kept (row := some sb) ⟨rfl, rfl, rfl, by simp [World.setCell], fun i hi hr => Below.heap_setCell _ _ _ i (fun e => hr (by rw [e]))⟩ (.inr (own_blk_ne HO8a.out HA8a.out (by decide))))
      have HKOD : Hid (Blk wD ob 86 #[.int .i64 (n : Int), .int .i64 sh]) := Lib.hid (by
        rw [← hwD]
        exact ((HKOA.out.alloc _).grown HG8a.out (fun e => own_ne HOA.out HKOA.out (by decide) e.symm)).far (by have := HKOA.out.ne_ HKSA.out (by decide); simpa using this) _)
      have HKTD : Hid (Blk wD tb 86 #[.int .i64 (n2 : Int), .int .i64 sh2]) := Lib.hid (by
        rw [← hwD]
        exact ((HKTA.out.alloc _).grown HG8a.out (fun e => own_ne HOA.out HKTA.out (by decide) e.symm)).far (by have := HKTA.out.ne_ HKSA.out (by decide); simpa using this) _)
      have HBD : Hid (Below w1.heap.size w1 wD) := Lib.hid (by
        rw [← hwD]
        exact Bs ((Ba HBA.out _).grown HG8a.out (by have := HBA.out.size; simp; omega) fun j e => (HOA.out.lt j e).1) _ hsb)
      have hszD : wA.heap.size ≤ wD.heap.size := by
        have := HG8a.out.size
        rw [← hwD]
        simp [World.setCell] at this ⊢
        omega
      rw [hwD]
      clear hwD a8a f8a
      clear s3 f3 z0 z1
      have s3 : wD.cell? ⟨sb, 3, none⟩ = some (.slice (some ⟨ga, 0, none⟩) (0 + 1) capa) := HKSD.out.cell 3
      have z0 := (HSC.out wD HBD.out).1.1
      have f3 := True.intro
      have z1 : wD.cell? ⟨b, 1, none⟩ = some (.int .i64 (up : Int)) := (HSC.out wD HBD.out).1.2
      go_upto_region 22 with (at_builtin; refine wpList_appS elemSg (by omega) rfl _ _ rfl w1.heap.size (.slice (some ⟨ga, 0, none⟩) (0 + 1) capa) 1 ([] ++ [.int .i64 (lo : Int), .int .i64 ((t : Int) - 1), .slice (some ⟨ob, 0, none⟩) 1 1]) rfl (HOD.out.alloc _) ⟨wD.heap.size, 0, none⟩ 1 [.int .i64 (t : Int), .int .i64 (up : Int), .slice (some ⟨tb, 0, none⟩) 1 1] rfl rfl (Flds.new wD _ _) (by simp [Value.oneCell']) (by omega) (by omega) (by simp; omega) ?_; intro gb capb w8b hown8 hg8 hgg; have HO8b := Lib.hid hown8; have HG8b := Lib.hid hg8; have A8 := (HKSD.out.alloc (.cells #[.int .i64 (t : Int), .int .i64 (up : Int), .slice (some ⟨tb, 0, none⟩) 1 1] 89)).grown hg8 (fun e => own_ne HOD.out HKSD.out (by decide) e.symm); have HA8b := Lib.hid A8; have a8b := A8.cell 3; have f8b := A8.frozen 3; simp only [List.getElem?_toArray, List.getElem?_cons_zero, List.getElem?_cons_succ] at a8b; clear hown8 hg8 hgg A8)
      obtain ⟨w14, hwD⟩ : ∃ wD : World, w8b.setCell ⟨sb, 3, none⟩ (.slice (some ⟨gb, 0, none⟩) (1 + 1) capb) = wD := ⟨_, rfl⟩
      have HKSE : Hid (Blk w14 sb 92 #[.string nm, .int .i64 (fa : Int), .int .i64 (fd : Int), .slice (some ⟨gb, 0, none⟩) (1 + 1) capb]) := Lib.hid (by rw [← hwD]; simpa using HA8b.out.set_ 3 (.slice (some ⟨gb, 0, none⟩) (1 + 1) capb))
      have HOE : Hid (w14.ownsRow w1.heap.size 89 3 (.slice (some ⟨gb, 0, none⟩) (1 + 1) capb) (1 + 1) _) := Lib.hid (by
        rw [← hwD]
        exact HO8b.out.kept (row := some sb) ⟨rfl, rfl, rfl, by simp [World.setCell], fun i hi hr => Below.heap_setCell _ _ _ i (fun e => hr (by rw [e]))⟩ (.inr (own_blk_ne HO8b.out HA8b.out (by decide))))
      have HKOE : Hid (Blk w14 ob 86 #[.int .i64 (n : Int), .int .i64 sh]) := Lib.hid (by
        rw [← hwD]
        exact ((HKOD.out.alloc _).grown HG8b.out (fun e => own_ne HOD.out HKOD.out (by decide) e.symm)).far (by have := HKOD.out.ne_ HKSD.out (by decide); simpa using this) _)
      have HKTE : Hid (Blk w14 tb 86 #[.int .i64 (n2 : Int), .int .i64 sh2]) := Lib.hid (by
        rw [← hwD]
        exact ((HKTD.out.alloc _).grown HG8b.out (fun e => own_ne HOD.out HKTD.out (by decide) e.symm)).far (by have := HKTD.out.ne_ HKSD.out (by decide); simpa using this) _)
      have HBE : Hid (Below w1.heap.size w1 w14) := Lib.hid (by
        rw [← hwD]
        exact Bs ((Ba HBD.out _).grown HG8b.out (by have := HBD.out.size; simp; omega) fun j e => (HOD.out.lt j e).1) _ hsb)
      have hszE : wD.heap.size ≤ w14.heap.size := by
        have := HG8b.out.size
        rw [← hwD]
        simp [World.setCell] at this ⊢
        omega
      rw [hwD]
      clear hwD a8b f8b
      have KS14 := HKSE.out
      have hB14 := HBE.out
      have hobE := HKOE.out.lt
      have htbE := HKTE.out.lt
      have hSeg : Sl (fun c => w1.heap.size ≤ c ∧ c < w14.heap.size) 3 (SegC fun c => w1.heap.size ≤ c ∧ c < w14.heap.size) w14 (.slice (some ⟨gb, 0, none⟩) (1 + 1) capb) segs := by
        rw [hsegs]
        refine Sl.of_own (cs := [[.int .i64 (lo : Int), .int .i64 ((t : Int) - 1), .slice (some ⟨ob, 0, none⟩) 1 1], [.int .i64 (t : Int), .int .i64 (up : Int), .slice (some ⟨tb, 0, none⟩) 1 1]]) HOE.out rfl (by simp) rfl rfl (fun i hi => ?_) (fun b h1 h2 _ => ⟨h1, h2⟩)
        have hi2 : i = 0 ∨ i = 1 := by simp at hi; omega
        rcases hi2 with rfl | rfl
        · exact ⟨_, rfl, rfl, _, rfl, Sl.one_ (cs := [.int .i64 (n : Int), .int .i64 sh]) HKOE.out ⟨by have := HOB.out; have := HB10.out.size; omega, hobE⟩ rfl rfl⟩
        · exact ⟨_, rfl, rfl, _, rfl, Sl.one_ (cs := [.int .i64 (n2 : Int), .int .i64 sh2]) HKTE.out ⟨htb1, htbE⟩ rfl rfl⟩
      have HKS14 := Lib.hid KS14
      have HSEG := Lib.hid hSeg
      have HB14 := Lib.hid hB14
      have r0 := KS14.cell 0
      have r1 := KS14.cell 1
      have r2 := KS14.cell 2
      have r3 := KS14.cell 3
      have KR := HC3.out.below hB14 HC3.out.lt
      have g0 := KR.frozen 0
      have g1 := KR.frozen 1
      have g2 := KR.frozen 2
      have g3 := KR.frozen 3
      have q0 := KR.cell 0
      have q1 := KR.cell 1
      have q2 := KR.cell 2
      have q3 := KR.cell 3
      unfold stp0 at q0 q1 q2 q3
      simp only [List.getElem?_toArray, List.getElem?_cons_zero, List.getElem?_cons_succ] at q0 q1 q2 q3 r0 r1 r2 r3
      have HKR := Lib.hid KR
      clear KS14 hSeg hB14 KR z0 z1 z2 z3 z4 z5 s3 f3 S3 F3 Z0 Z1 Z4 
      go_wp2_with fail
      obtain ⟨W, hW⟩ : ∃ W : World, ((((w14.setCell ⟨b + 1 + 1, 0, none⟩ (.string nm)).setCell ⟨b + 1 + 1, 1, none⟩ (.int .i64 (fa : Int))).setCell ⟨b + 1 + 1, 2, none⟩ (.int .i64 (fd : Int))).setCell ⟨b + 1 + 1, 3, none⟩ (.slice (some ⟨gb, 0, none⟩) (1 + 1) capb)) = W := ⟨_, rfl⟩
      rw [hW]
      have KZ : Blk W (b + 1 + 1) 92 #[.string nm, .int .i64 (fa : Int), .int .i64 (fd : Int), .slice (some ⟨gb, 0, none⟩) (1 + 1) capb] := by
        rw [← hW]
        have h := (((HKR.out.set_ 0 (.string nm)).set_ 1 (.int .i64 (fa : Int))).set_ 2 (.int .i64 (fd : Int))).set_ 3 (.slice (some ⟨gb, 0, none⟩) (1 + 1) capb)
        unfold stp0 at h
        simpa using h
      have HBZ : Below w.heap.size w14 W := by
        have h1 : w.heap.size ≤ b + 1 + 1 := by rw [HBB.out]; omega
        have h0 : Below w.heap.size w14 w14 := Below.refl _ w14
        rw [← hW]
        exact (((h0.setCell h1 _).setCell h1 _).setCell h1 _).setCell h1 _
      have HSW : W.heap.size = w14.heap.size := by rw [← hW]; simp [World.setCell]
      have HSS : Sl (fun c => w.heap.size ≤ c ∧ c < W.heap.size) 3 (SegC fun c => w.heap.size ≤ c ∧ c < W.heap.size) W (.slice (some ⟨gb, 0, none⟩) (1 + 1) capb) segs := by
        have h1 : ∀ c, w1.heap.size ≤ c ∧ c < w14.heap.size → c ≠ b + 1 + 1 := fun c hc e => by omega
        have h := Sl.keepF relSeg HSEG.out (w' := W) (by rw [← hW]; exact (((Agree.setCell _ h1).trans (Agree.setCell _ h1)).trans (Agree.setCell _ h1)).trans (Agree.setCell _ h1))
        exact Sl.monoF relSeg h fun c hc => ⟨by have := HB1.out.size; omega, by rw [HSW]; exact hc.2⟩
      have x0 := KZ.cell 0
      have x1 := KZ.cell 1
      have x2 := KZ.cell 2
      have x3 := KZ.cell 3
      simp only [List.getElem?_toArray, List.getElem?_cons_zero, List.getElem?_cons_succ] at x0 x1 x2 x3
      refine bodyPost_ret (v := .agg #[.string nm, .int .i64 (fa : Int), .int .i64 (fd : Int), .slice (some ⟨gb, 0, none⟩) (1 + 1) capb]) (by simp [results, Tryz.f42, go_sem, x0, x1, x2, x3]) rfl ?_
      refine ⟨_, rfl, rfl, ?_, ?_⟩
      · rw [HMK.out]
        refine ⟨.slice (some ⟨gb, 0, none⟩) (1 + 1) capb, ?_, HSS⟩
        show [_, _, _, _] = [_, _, _, _]
        dsimp only
        rw [HNM.out.1, HNM.out.2.1, HNM.out.2.2]
      · exact (HB1.out.trans (Below.mono HB14.out HB1.out.size)).trans HBZ
    · have hltI : ¬ (lo : Int) < (t : Int) := by omega
      have hltd : decide ((lo : Int) < (t : Int)) = false := decide_eq_false hltI
      have hsegs : segs = [⟨(t : Int), (up : Int), [⟨(n2 : Int), sh2⟩]⟩] := by
        have h := HSGS.out
        rw [if_neg (by decide), if_pos (by decide), HN2.out, HSR2.out] at h
        rw [if_neg hlt] at h
        exact h.symm
      go_upto_region 19 with fail
      go_upto_region 22 with (at_builtin; refine wpList_appS elemSg (by omega) rfl _ _ rfl w1.heap.size (.slice none 0 0) 0 [] rfl (HOA.out.alloc _) ⟨wA.heap.size, 0, none⟩ 1 [.int .i64 (t : Int), .int .i64 (up : Int), .slice (some ⟨tb, 0, none⟩) 1 1] rfl rfl (Flds.new wA _ _) (by simp [Value.oneCell']) (by omega) (by omega) (by simp; omega) ?_; intro gb capb w8b hown8 hg8 hgg; have HO8b := Lib.hid hown8; have HG8b := Lib.hid hg8; have A8 := (HKSA.out.alloc (.cells #[.int .i64 (t : Int), .int .i64 (up : Int), .slice (some ⟨tb, 0, none⟩) 1 1] 89)).grown hg8 (fun e => own_ne HOA.out HKSA.out (by decide) e.symm); have HA8b := Lib.hid A8; have a8b := A8.cell 3; have f8b := A8.frozen 3; simp only [List.getElem?_toArray, List.getElem?_cons_zero, List.getElem?_cons_succ] at a8b; clear hown8 hg8 hgg A8)
      obtain ⟨w14, hwD⟩ : ∃ wD : World, w8b.setCell ⟨sb, 3, none⟩ (.slice (some ⟨gb, 0, none⟩) (0 + 1) capb) = wD := ⟨_, rfl⟩
      have HKSE : Hid (Blk w14 sb 92 #[.string nm, .int .i64 (fa : Int), .int .i64 (fd : Int), .slice (some ⟨gb, 0, none⟩) (0 + 1) capb]) := Lib.hid (by rw [← hwD]; simpa using HA8b.out.set_ 3 (.slice (some ⟨gb, 0, none⟩) (0 + 1) capb))
      have HOE : Hid (w14.ownsRow w1.heap.size 89 3 (.slice (some ⟨gb, 0, none⟩) (0 + 1) capb) (0 + 1) _) := Lib.hid (by
        rw [← hwD]
        exact HO8b.out.kept (row := some sb) ⟨rfl, rfl, rfl, by simp [World.setCell], fun i hi hr => Below.heap_setCell _ _ _ i (fun e => hr (by rw [e]))⟩ (.inr (own_blk_ne HO8b.out HA8b.out (by decide))))
      have HKOE : Hid (Blk w14 ob 86 #[.int .i64 (n : Int), .int .i64 sh]) := Lib.hid (by
        rw [← hwD]
        exact ((HKOA.out.alloc _).grown HG8b.out (fun e => own_ne HOA.out HKOA.out (by decide) e.symm)).far (by have := HKOA.out.ne_ HKSA.out (by decide); simpa using this) _)
      have HKTE : Hid (Blk w14 tb 86 #[.int .i64 (n2 : Int), .int .i64 sh2]) := Lib.hid (by
        rw [← hwD]
        exact ((HKTA.out.alloc _).grown HG8b.out (fun e => own_ne HOA.out HKTA.out (by decide) e.symm)).far (by have := HKTA.out.ne_ HKSA.out (by decide); simpa using this) _)
      have HBE : Hid (Below w1.heap.size w1 w14) := Lib.hid (by
        rw [← hwD]
        exact Bs ((Ba HBA.out _).grown HG8b.out (by have := HBA.out.size; simp; omega) fun j e => (HOA.out.lt j e).1) _ hsb)
      have hszE : wA.heap.size ≤ w14.heap.size := by
        have := HG8b.out.size
        rw [← hwD]
        simp [World.setCell] at this ⊢
        omega
      rw [hwD]
      clear hwD a8b f8b
      have KS14 := HKSE.out
      have hB14 := HBE.out
      have htbE := HKTE.out.lt
      have hSeg : Sl (fun c => w1.heap.size ≤ c ∧ c < w14.heap.size) 3 (SegC fun c => w1.heap.size ≤ c ∧ c < w14.heap.size) w14 (.slice (some ⟨gb, 0, none⟩) (0 + 1) capb) segs := by
        rw [hsegs]
        refine Sl.of_own (cs := [[.int .i64 (t : Int), .int .i64 (up : Int), .slice (some ⟨tb, 0, none⟩) 1 1]]) HOE.out rfl (by simp) rfl rfl (fun i hi => ?_) (fun b h1 h2 _ => ⟨h1, h2⟩)
        obtain rfl : i = 0 := by simp at hi; omega
        exact ⟨_, rfl, rfl, _, rfl, Sl.one_ (cs := [.int .i64 (n2 : Int), .int .i64 sh2]) HKTE.out ⟨htb1, htbE⟩ rfl rfl⟩
      have HKS14 := Lib.hid KS14
      have HSEG := Lib.hid hSeg
      have HB14 := Lib.hid hB14
      have r0 := KS14.cell 0
      have r1 := KS14.cell 1
      have r2 := KS14.cell 2
      have r3 := KS14.cell 3
      have KR := HC3.out.below hB14 HC3.out.lt
      have g0 := KR.frozen 0
      have g1 := KR.frozen 1
      have g2 := KR.frozen 2
      have g3 := KR.frozen 3
      have q0 := KR.cell 0
      have q1 := KR.cell 1
      have q2 := KR.cell 2
      have q3 := KR.cell 3
      unfold stp0 at q0 q1 q2 q3
      simp only [List.getElem?_toArray, List.getElem?_cons_zero, List.getElem?_cons_succ] at q0 q1 q2 q3 r0 r1 r2 r3
      have HKR := Lib.hid KR
      clear KS14 hSeg hB14 KR z0 z1 z2 z3 z4 z5 s3 f3 S3 F3 Z0 Z1 Z4 
      go_wp2_with fail
      obtain ⟨W, hW⟩ : ∃ W : World, ((((w14.setCell ⟨b + 1 + 1, 0, none⟩ (.string nm)).setCell ⟨b + 1 + 1, 1, none⟩ (.int .i64 (fa : Int))).setCell ⟨b + 1 + 1, 2, none⟩ (.int .i64 (fd : Int))).setCell ⟨b + 1 + 1, 3, none⟩ (.slice (some ⟨gb, 0, none⟩) (0 + 1) capb)) = W := ⟨_, rfl⟩
      rw [hW]
      have KZ : Blk W (b + 1 + 1) 92 #[.string nm, .int .i64 (fa : Int), .int .i64 (fd : Int), .slice (some ⟨gb, 0, none⟩) (0 + 1) capb] := by
        rw [← hW]
        have h := (((HKR.out.set_ 0 (.string nm)).set_ 1 (.int .i64 (fa : Int))).set_ 2 (.int .i64 (fd : Int))).set_ 3 (.slice (some ⟨gb, 0, none⟩) (0 + 1) capb)
        unfold stp0 at h
        simpa using h
      have HBZ : Below w.heap.size w14 W := by
        have h1 : w.heap.size ≤ b + 1 + 1 := by rw [HBB.out]; omega
        have h0 : Below w.heap.size w14 w14 := Below.refl _ w14
        rw [← hW]
        exact (((h0.setCell h1 _).setCell h1 _).setCell h1 _).setCell h1 _
      have HSW : W.heap.size = w14.heap.size := by rw [← hW]; simp [World.setCell]
      have HSS : Sl (fun c => w.heap.size ≤ c ∧ c < W.heap.size) 3 (SegC fun c => w.heap.size ≤ c ∧ c < W.heap.size) W (.slice (some ⟨gb, 0, none⟩) (0 + 1) capb) segs := by
        have h1 : ∀ c, w1.heap.size ≤ c ∧ c < w14.heap.size → c ≠ b + 1 + 1 := fun c hc e => by omega
        have h := Sl.keepF relSeg HSEG.out (w' := W) (by rw [← hW]; exact (((Agree.setCell _ h1).trans (Agree.setCell _ h1)).trans (Agree.setCell _ h1)).trans (Agree.setCell _ h1))
        exact Sl.monoF relSeg h fun c hc => ⟨by have := HB1.out.size; omega, by rw [HSW]; exact hc.2⟩
      have x0 := KZ.cell 0
      have x1 := KZ.cell 1
      have x2 := KZ.cell 2
      have x3 := KZ.cell 3
      simp only [List.getElem?_toArray, List.getElem?_cons_zero, List.getElem?_cons_succ] at x0 x1 x2 x3
      refine bodyPost_ret (v := .agg #[.string nm, .int .i64 (fa : Int), .int .i64 (fd : Int), .slice (some ⟨gb, 0, none⟩) (0 + 1) capb]) (by simp [results, Tryz.f42, go_sem, x0, x1, x2, x3]) rfl ?_
      refine ⟨_, rfl, rfl, ?_, ?_⟩
      · rw [HMK.out]
        refine ⟨.slice (some ⟨gb, 0, none⟩) (0 + 1) capb, ?_, HSS⟩
        show [_, _, _, _] = [_, _, _, _]
        dsimp only
        rw [HNM.out.1, HNM.out.2.1, HNM.out.2.2]
      · exact (HB1.out.trans (Below.mono HB14.out HB1.out.size)).trans HBZ
  · have hk1 : (xk : Int).tmod 6 = 4 := by rw [Int.tmod_eq_emod_of_nonneg (by omega)]; omega
    have hk2 : (xk : Int) % 6 = 4 := by omega
    go_upto_region 17 with fail
    obtain ⟨wA, hwA⟩ : ∃ wA : World, w13.alloc (.cells #[.int .i64 (n : Int), .int .i64 (sh - 12)] 86) = wA := ⟨_, rfl⟩
    obtain ⟨tb, htb⟩ : ∃ tb, w13.heap.size = tb := ⟨_, rfl⟩
    have HKTA : Hid (Blk wA tb 86 #[.int .i64 (n : Int), .int .i64 (sh - 12)]) := Lib.hid (by rw [← hwA, ← htb]; exact Blk.new _ _ _)
    have HKSA : Hid (Blk wA sb 92 #[.string nm, .int .i64 (fa : Int), .int .i64 (fd : Int), .slice none 0 0]) := Lib.hid (by rw [← hwA]; exact HKS13.out.alloc _)
    have HKOA : Hid (Blk wA ob 86 #[.int .i64 (n : Int), .int .i64 sh]) := Lib.hid (by rw [← hwA]; exact HKO13.out.alloc _)
    have HBA : Hid (Below w1.heap.size w1 wA) := Lib.hid (by rw [← hwA]; exact Ba (Bt HB10.out HB13.out) _)
    have HTB : Hid (w1.heap.size ≤ tb) := Lib.hid (by rw [← htb]; exact hsz13)
    rw [hwA, htb]
    clear hwA htb
    have htb1 : w1.heap.size ≤ tb := HTB.out
    clear z0 z1 z2 z3 z4 z5 s3 f3 S3 F3 Z0 Z1 Z4
    obtain ⟨⟨z0, z1⟩, z2, z3, z4, z5⟩ := HSC.out wA HBA.out
    have s3 : wA.cell? ⟨sb, 3, none⟩ = some (.slice none 0 0) := HKSA.out.cell 3
    have f3 := HKSA.out.frozen 3
    have HOA : Hid (wA.ownsRow w1.heap.size 89 3 (.slice none 0 0) 0 []) := Lib.hid (World.ownsRow_nil _ _ _ _)
    have hszA : w1.heap.size ≤ wA.heap.size := HBA.out.size
    have ht1 : IntKind.i64.wrap ((t : Int) - 1) = (t : Int) - 1 := by have := HT.out; rw [IntKind.wrap_i64]; omega
    have S3 := True.intro
    have F3 := True.intro
    have Z0 := True.intro
    have Z1 := True.intro
    have Z4 := True.intro
    by_cases hlt : lo < t
    · have hltI : (lo : Int) < (t : Int) := by omega
      have hltd : decide ((lo : Int) < (t : Int)) = true := decide_eq_true hltI
      have hsegs : segs = [⟨(lo : Int), (t : Int) - 1, [⟨(n : Int), sh⟩]⟩, ⟨(t : Int), (up : Int), [⟨(n : Int), sh - 12⟩]⟩] := by
        have h := HSGS.out
        rw [if_neg (by decide), if_neg (by decide), if_pos rfl] at h
        rw [if_pos hlt] at h
        exact h.symm
      go_upto_region 18 with fail
      go_upto_region 19 with (at_builtin; refine wpList_appS elemSg (by omega) rfl _ _ rfl w1.heap.size (.slice none 0 0) 0 [] rfl (HOA.out.alloc _) ⟨wA.heap.size, 0, none⟩ 1 [.int .i64 (lo : Int), .int .i64 ((t : Int) - 1), .slice (some ⟨ob, 0, none⟩) 1 1] rfl rfl (Flds.new wA _ _) (by simp [Value.oneCell']) (by omega) (by omega) (by simp; omega) ?_; intro ga capa w8a hown8 hg8 hgg; have HO8a := Lib.hid hown8; have HG8a := Lib.hid hg8; have A8 := (HKSA.out.alloc (.cells #[.int .i64 (lo : Int), .int .i64 ((t : Int) - 1), .slice (some ⟨ob, 0, none⟩) 1 1] 89)).grown hg8 (fun e => own_ne HOA.out HKSA.out (by decide) e.symm); have HA8a := Lib.hid A8; have a8a := A8.cell 3; have f8a := A8.frozen 3; simp only [List.getElem?_toArray, List.getElem?_cons_zero, List.getElem?_cons_succ] at a8a; clear hown8 hg8 hgg A8)
      obtain ⟨wD, hwD⟩ : ∃ wD : World, w8a.setCell ⟨sb, 3, none⟩ (.slice (some ⟨ga, 0, none⟩) (0 + 1) capa) = wD := ⟨_, rfl⟩
      have HKSD : Hid (Blk wD sb 92 #[.string nm, .int .i64 (fa : Int), .int .i64 (fd : Int), .slice (some ⟨ga, 0, none⟩) (0 + 1) capa]) := Lib.hid (by rw [← hwD]; simpa using HA8a.out.set_ 3 (.slice (some ⟨ga, 0, none⟩) (0 + 1) capa))
      have HOD : Hid (wD.ownsRow w1.heap.size 89 3 (.slice (some ⟨ga, 0, none⟩) (0 + 1) capa) (0 + 1) _) := Lib.hid (by
        rw [← hwD]
        exact HO8a.out.kept (row := some sb) ⟨rfl, rfl, rfl, by simp [World.setCell], fun i hi hr => Below.heap_setCell _ _ _ i (fun e => hr (by rw [e]))⟩ (.inr (own_blk_ne HO8a.out HA8a.out (by decide))))
      have HKOD : Hid (Blk wD ob 86 #[.int .i64 (n : Int), .int .i64 sh]) := Lib.hid (by
        rw [← hwD]
        exact ((HKOA.out.alloc _).grown HG8a.out (fun e => own_ne HOA.out HKOA.out (by decide) e.symm)).far (by have := HKOA.out.ne_ HKSA.out (by decide); simpa using this) _)
      have HKTD : Hid (Blk wD tb 86 #[.int .i64 (n : Int), .int .i64 (sh - 12)]) := Lib.hid (by
        rw [← hwD]
        exact ((HKTA.out.alloc _).grown HG8a.out (fun e => own_ne HOA.out HKTA.out (by decide) e.symm)).far (by have := HKTA.out.ne_ HKSA.out (by decide); simpa using this) _)
      have HBD : Hid (Below w1.heap.size w1 wD) := Lib.hid (by
        rw [← hwD]
        exact Bs ((Ba HBA.out _).grown HG8a.out (by have := HBA.out.size; simp; omega) fun j e => (HOA.out.lt j e).1) _ hsb)
      have hszD : wA.heap.size ≤ wD.heap.size := by
        have := HG8a.out.size
        rw [← hwD]
        simp [World.setCell] at this ⊢
        omega
      rw [hwD]
      clear hwD a8a f8a
      clear s3 f3 z0 z1
      have s3 : wD.cell? ⟨sb, 3, none⟩ = some (.slice (some ⟨ga, 0, none⟩) (0 + 1) capa) := HKSD.out.cell 3
      have z0 := (HSC.out wD HBD.out).1.1
      have f3 := True.intro
      have z1 : wD.cell? ⟨b, 1, none⟩ = some (.int .i64 (up : Int)) := (HSC.out wD HBD.out).1.2
      go_upto_region 22 with (at_builtin; refine wpList_appS elemSg (by omega) rfl _ _ rfl w1.heap.size (.slice (some ⟨ga, 0, none⟩) (0 + 1) capa) 1 ([] ++ [.int .i64 (lo : Int), .int .i64 ((t : Int) - 1), .slice (some ⟨ob, 0, none⟩) 1 1]) rfl (HOD.out.alloc _) ⟨wD.heap.size, 0, none⟩ 1 [.int .i64 (t : Int), .int .i64 (up : Int), .slice (some ⟨tb, 0, none⟩) 1 1] rfl rfl (Flds.new wD _ _) (by simp [Value.oneCell']) (by omega) (by omega) (by simp; omega) ?_; intro gb capb w8b hown8 hg8 hgg; have HO8b := Lib.hid hown8; have HG8b := Lib.hid hg8; have A8 := (HKSD.out.alloc (.cells #[.int .i64 (t : Int), .int .i64 (up : Int), .slice (some ⟨tb, 0, none⟩) 1 1] 89)).grown hg8 (fun e => own_ne HOD.out HKSD.out (by decide) e.symm); have HA8b := Lib.hid A8; have a8b := A8.cell 3; have f8b := A8.frozen 3; simp only [List.getElem?_toArray, List.getElem?_cons_zero, List.getElem?_cons_succ] at a8b; clear hown8 hg8 hgg A8)
      obtain ⟨w14, hwD⟩ : ∃ wD : World, w8b.setCell ⟨sb, 3, none⟩ (.slice (some ⟨gb, 0, none⟩) (1 + 1) capb) = wD := ⟨_, rfl⟩
      have HKSE : Hid (Blk w14 sb 92 #[.string nm, .int .i64 (fa : Int), .int .i64 (fd : Int), .slice (some ⟨gb, 0, none⟩) (1 + 1) capb]) := Lib.hid (by rw [← hwD]; simpa using HA8b.out.set_ 3 (.slice (some ⟨gb, 0, none⟩) (1 + 1) capb))
      have HOE : Hid (w14.ownsRow w1.heap.size 89 3 (.slice (some ⟨gb, 0, none⟩) (1 + 1) capb) (1 + 1) _) := Lib.hid (by
        rw [← hwD]
        exact HO8b.out.kept (row := some sb) ⟨rfl, rfl, rfl, by simp [World.setCell], fun i hi hr => Below.heap_setCell _ _ _ i (fun e => hr (by rw [e]))⟩ (.inr (own_blk_ne HO8b.out HA8b.out (by decide))))
      have HKOE : Hid (Blk w14 ob 86 #[.int .i64 (n : Int), .int .i64 sh]) := Lib.hid (by
        rw [← hwD]
        exact ((HKOD.out.alloc _).grown HG8b.out (fun e => own_ne HOD.out HKOD.out (by decide) e.symm)).far (by have := HKOD.out.ne_ HKSD.out (by decide); simpa using this) _)
      have HKTE : Hid (Blk w14 tb 86 #[.int .i64 (n : Int), .int .i64 (sh - 12)]) := Lib.hid (by
        rw [← hwD]
        exact ((HKTD.out.alloc _).grown HG8b.out (fun e => own_ne HOD.out HKTD.out (by decide) e.symm)).far (by have := HKTD.out.ne_ HKSD.out (by decide); simpa using this) _)
      have HBE : Hid (Below w1.heap.size w1 w14) := Lib.hid (by
        rw [← hwD]
        exact Bs ((Ba HBD.out _).grown HG8b.out (by have := HBD.out.size; simp; omega) fun j e => (HOD.out.lt j e).1) _ hsb)
      have hszE : wD.heap.size ≤ w14.heap.size := by
        have := HG8b.out.size
        rw [← hwD]
        simp [World.setCell] at this ⊢
        omega
      rw [hwD]
      clear hwD a8b f8b
      have KS14 := HKSE.out
      have hB14 := HBE.out
      have hobE := HKOE.out.lt
      have htbE := HKTE.out.lt
      have hSeg : Sl (fun c => w1.heap.size ≤ c ∧ c < w14.heap.size) 3 (SegC fun c => w1.heap.size ≤ c ∧ c < w14.heap.size) w14 (.slice (some ⟨gb, 0, none⟩) (1 + 1) capb) segs := by
        rw [hsegs]
        refine Sl.of_own (cs := [[.int .i64 (lo : Int), .int .i64 ((t : Int) - 1), .slice (some ⟨ob, 0, none⟩) 1 1], [.int .i64 (t : Int), .int .i64 (up : Int), .slice (some ⟨tb, 0, none⟩) 1 1]]) HOE.out rfl (by simp) rfl rfl (fun i hi => ?_) (fun b h1 h2 _ => ⟨h1, h2⟩)
        have hi2 : i = 0 ∨ i = 1 := by simp at hi; omega
        rcases hi2 with rfl | rfl
        · exact ⟨_, rfl, rfl, _, rfl, Sl.one_ (cs := [.int .i64 (n : Int), .int .i64 sh]) HKOE.out ⟨by have := HOB.out; have := HB10.out.size; omega, hobE⟩ rfl rfl⟩
        · exact ⟨_, rfl, rfl, _, rfl, Sl.one_ (cs := [.int .i64 (n : Int), .int .i64 (sh - 12)]) HKTE.out ⟨htb1, htbE⟩ rfl rfl⟩
      have HKS14 := Lib.hid KS14
      have HSEG := Lib.hid hSeg
      have HB14 := Lib.hid hB14
      have r0 := KS14.cell 0
      have r1 := KS14.cell 1
      have r2 := KS14.cell 2
      have r3 := KS14.cell 3
      have KR := HC3.out.below hB14 HC3.out.lt
      have g0 := KR.frozen 0
      have g1 := KR.frozen 1
      have g2 := KR.frozen 2
      have g3 := KR.frozen 3
      have q0 := KR.cell 0
      have q1 := KR.cell 1
      have q2 := KR.cell 2
      have q3 := KR.cell 3
      unfold stp0 at q0 q1 q2 q3
      simp only [List.getElem?_toArray, List.getElem?_cons_zero, List.getElem?_cons_succ] at q0 q1 q2 q3 r0 r1 r2 r3
      have HKR := Lib.hid KR
      clear KS14 hSeg hB14 KR z0 z1 z2 z3 z4 z5 s3 f3 S3 F3 Z0 Z1 Z4 
      go_wp2_with fail
      obtain ⟨W, hW⟩ : ∃ W : World, ((((w14.setCell ⟨b + 1 + 1, 0, none⟩ (.string nm)).setCell ⟨b + 1 + 1, 1, none⟩ (.int .i64 (fa : Int))).setCell ⟨b + 1 + 1, 2, none⟩ (.int .i64 (fd : Int))).setCell ⟨b + 1 + 1, 3, none⟩ (.slice (some ⟨gb, 0, none⟩) (1 + 1) capb)) = W := ⟨_, rfl⟩
      rw [hW]
      have KZ : Blk W (b + 1 + 1) 92 #[.string nm, .int .i64 (fa : Int), .int .i64 (fd : Int), .slice (some ⟨gb, 0, none⟩) (1 + 1) capb] := by
        rw [← hW]
        have h := (((HKR.out.set_ 0 (.string nm)).set_ 1 (.int .i64 (fa : Int))).set_ 2 (.int .i64 (fd : Int))).set_ 3 (.slice (some ⟨gb, 0, none⟩) (1 + 1) capb)
        unfold stp0 at h
        simpa using h
      have HBZ : Below w.heap.size w14 W := by
        have h1 : w.heap.size ≤ b + 1 + 1 := by rw [HBB.out]; omega
        have h0 : Below w.heap.size w14 w14 := Below.refl _ w14
        rw [← hW]
        exact (((h0.setCell h1 _).setCell h1 _).setCell h1 _).setCell h1 _
      have HSW : W.heap.size = w14.heap.size := by rw [← hW]; simp [World.setCell]
      have HSS : Sl (fun c => w.heap.size ≤ c ∧ c < W.heap.size) 3 (SegC fun c => w.heap.size ≤ c ∧ c < W.heap.size) W (.slice (some ⟨gb, 0, none⟩) (1 + 1) capb) segs := by
        have h1 : ∀ c, w1.heap.size ≤ c ∧ c < w14.heap.size → c ≠ b + 1 + 1 := fun c hc e => by omega
        have h := Sl.keepF relSeg HSEG.out (w' := W) (by rw [← hW]; exact (((Agree.setCell _ h1).trans (Agree.setCell _ h1)).trans (Agree.setCell _ h1)).trans (Agree.setCell _ h1))
        exact Sl.monoF relSeg h fun c hc => ⟨by have := HB1.out.size; omega, by rw [HSW]; exact hc.2⟩
      have x0 := KZ.cell 0
      have x1 := KZ.cell 1
      have x2 := KZ.cell 2
      have x3 := KZ.cell 3
      simp only [List.getElem?_toArray, List.getElem?_cons_zero, List.getElem?_cons_succ] at x0 x1 x2 x3
      refine bodyPost_ret (v := .agg #[.string nm, .int .i64 (fa : Int), .int .i64 (fd : Int), .slice (some ⟨gb, 0, none⟩) (1 + 1) capb]) (by simp [results, Tryz.f42, go_sem, x0, x1, x2, x3]) rfl ?_
      refine ⟨_, rfl, rfl, ?_, ?_⟩
      · rw [HMK.out]
        refine ⟨.slice (some ⟨gb, 0, none⟩) (1 + 1) capb, ?_, HSS⟩
        show [_, _, _, _] = [_, _, _, _]
        dsimp only
        rw [HNM.out.1, HNM.out.2.1, HNM.out.2.2]
      · exact (HB1.out.trans (Below.mono HB14.out HB1.out.size)).trans HBZ
    · have hltI : ¬ (lo : Int) < (t : Int) := by omega
      have hltd : decide ((lo : Int) < (t : Int)) = false := decide_eq_false hltI
      have hsegs : segs = [⟨(t : Int), (up : Int), [⟨(n : Int), sh - 12⟩]⟩] := by
        have h := HSGS.out
        rw [if_neg (by decide), if_neg (by decide), if_pos rfl] at h
        rw [if_neg hlt] at h
        exact h.symm
      go_upto_region 19 with fail
      go_upto_region 22 with (at_builtin; refine wpList_appS elemSg (by omega) rfl _ _ rfl w1.heap.size (.slice none 0 0) 0 [] rfl (HOA.out.alloc _) ⟨wA.heap.size, 0, none⟩ 1 [.int .i64 (t : Int), .int .i64 (up : Int), .slice (some ⟨tb, 0, none⟩) 1 1] rfl rfl (Flds.new wA _ _) (by simp [Value.oneCell']) (by omega) (by omega) (by simp; omega) ?_; intro gb capb w8b hown8 hg8 hgg; have HO8b := Lib.hid hown8; have HG8b := Lib.hid hg8; have A8 := (HKSA.out.alloc (.cells #[.int .i64 (t : Int), .int .i64 (up : Int), .slice (some ⟨tb, 0, none⟩) 1 1] 89)).grown hg8 (fun e => own_ne HOA.out HKSA.out (by decide) e.symm); have HA8b := Lib.hid A8; have a8b := A8.cell 3; have f8b := A8.frozen 3; simp only [List.getElem?_toArray, List.getElem?_cons_zero, List.getElem?_cons_succ] at a8b; clear hown8 hg8 hgg A8)
      obtain ⟨w14, hwD⟩ : ∃ wD : World, w8b.setCell ⟨sb, 3, none⟩ (.slice (some ⟨gb, 0, none⟩) (0 + 1) capb) = wD := ⟨_, rfl⟩
      have HKSE : Hid (Blk w14 sb 92 #[.string nm, .int .i64 (fa : Int), .int .i64 (fd : Int), .slice (some ⟨gb, 0, none⟩) (0 + 1) capb]) := Lib.hid (by rw [← hwD]; simpa using HA8b.out.set_ 3 (.slice (some ⟨gb, 0, none⟩) (0 + 1) capb))
      have HOE : Hid (w14.ownsRow w1.heap.size 89 3 (.slice (some ⟨gb, 0, none⟩) (0 + 1) capb) (0 + 1) _) := Lib.hid (by
        rw [← hwD]
        exact HO8b.out.kept (row := some sb) ⟨rfl, rfl, rfl, by simp [World.setCell], fun i hi hr => Below.heap_setCell _ _ _ i (fun e => hr (by rw [e]))⟩ (.inr (own_blk_ne HO8b.out HA8b.out (by decide))))
      have HKOE : Hid (Blk w14 ob 86 #[.int .i64 (n : Int), .int .i64 sh]) := Lib.hid (by
        rw [← hwD]
        exact ((HKOA.out.alloc _).grown HG8b.out (fun e => own_ne HOA.out HKOA.out (by decide) e.symm)).far (by have := HKOA.out.ne_ HKSA.out (by decide); simpa using this) _)
      have HKTE : Hid (Blk w14 tb 86 #[.int .i64 (n : Int), .int .i64 (sh - 12)]) := Lib.hid (by
        rw [← hwD]
        exact ((HKTA.out.alloc _).grown HG8b.out (fun e => own_ne HOA.out HKTA.out (by decide) e.symm)).far (by have := HKTA.out.ne_ HKSA.out (by decide); simpa using this) _)
      have HBE : Hid (Below w1.heap.size w1 w14) := Lib.hid (by
        rw [← hwD]
        exact Bs ((Ba HBA.out _).grown HG8b.out (by have := HBA.out.size; simp; omega) fun j e => (HOA.out.lt j e).1) _ hsb)
      have hszE : wA.heap.size ≤ w14.heap.size := by
        have := HG8b.out.size
        rw [← hwD]
        simp [World.setCell] at this ⊢
        omega
      rw [hwD]
      clear hwD a8b f8b
      have KS14 := HKSE.out
      have hB14 := HBE.out
      have htbE := HKTE.out.lt
      have hSeg : Sl (fun c => w1.heap.size ≤ c ∧ c < w14.heap.size) 3 (SegC fun c => w1.heap.size ≤ c ∧ c < w14.heap.size) w14 (.slice (some ⟨gb, 0, none⟩) (0 + 1) capb) segs := by
        rw [hsegs]
        refine Sl.of_own (cs := [[.int .i64 (t : Int), .int .i64 (up : Int), .slice (some ⟨tb, 0, none⟩) 1 1]]) HOE.out rfl (by simp) rfl rfl (fun i hi => ?_) (fun b h1 h2 _ => ⟨h1, h2⟩)
        obtain rfl : i = 0 := by simp at hi; omega
        exact ⟨_, rfl, rfl, _, rfl, Sl.one_ (cs := [.int .i64 (n : Int), .int .i64 (sh - 12)]) HKTE.out ⟨htb1, htbE⟩ rfl rfl⟩
      have HKS14 := Lib.hid KS14
      have HSEG := Lib.hid hSeg
      have HB14 := Lib.hid hB14
      have r0 := KS14.cell 0
      have r1 := KS14.cell 1
      have r2 := KS14.cell 2
      have r3 := KS14.cell 3
      have KR := HC3.out.below hB14 HC3.out.lt
      have g0 := KR.frozen 0
      have g1 := KR.frozen 1
      have g2 := KR.frozen 2
      have g3 := KR.frozen 3
      have q0 := KR.cell 0
      have q1 := KR.cell 1
      have q2 := KR.cell 2
      have q3 := KR.cell 3
      unfold stp0 at q0 q1 q2 q3
      simp only [List.getElem?_toArray, List.getElem?_cons_zero, List.getElem?_cons_succ] at q0 q1 q2 q3 r0 r1 r2 r3
      have HKR := Lib.hid KR
      clear KS14 hSeg hB14 KR z0 z1 z2 z3 z4 z5 s3 f3 S3 F3 Z0 Z1 Z4 
      go_wp2_with fail
      obtain ⟨W, hW⟩ : ∃ W : World, ((((w14.setCell ⟨b + 1 + 1, 0, none⟩ (.string nm)).setCell ⟨b + 1 + 1, 1, none⟩ (.int .i64 (fa : Int))).setCell ⟨b + 1 + 1, 2, none⟩ (.int .i64 (fd : Int))).setCell ⟨b + 1 + 1, 3, none⟩ (.slice (some ⟨gb, 0, none⟩) (0 + 1) capb)) = W := ⟨_, rfl⟩
      rw [hW]
      have KZ : Blk W (b + 1 + 1) 92 #[.string nm, .int .i64 (fa : Int), .int .i64 (fd : Int), .slice (some ⟨gb, 0, none⟩) (0 + 1) capb] := by
        rw [← hW]
        have h := (((HKR.out.set_ 0 (.string nm)).set_ 1 (.int .i64 (fa : Int))).set_ 2 (.int .i64 (fd : Int))).set_ 3 (.slice (some ⟨gb, 0, none⟩) (0 + 1) capb)
        unfold stp0 at h
        simpa using h
      have HBZ : Below w.heap.size w14 W := by
        have h1 : w.heap.size ≤ b + 1 + 1 := by rw [HBB.out]; omega
        have h0 : Below w.heap.size w14 w14 := Below.refl _ w14
        rw [← hW]
        exact (((h0.setCell h1 _).setCell h1 _).setCell h1 _).setCell h1 _
      have HSW : W.heap.size = w14.heap.size := by rw [← hW]; simp [World.setCell]
      have HSS : Sl (fun c => w.heap.size ≤ c ∧ c < W.heap.size) 3 (SegC fun c => w.heap.size ≤ c ∧ c < W.heap.size) W (.slice (some ⟨gb, 0, none⟩) (0 + 1) capb) segs := by
        have h1 : ∀ c, w1.heap.size ≤ c ∧ c < w14.heap.size → c ≠ b + 1 + 1 := fun c hc e => by omega
        have h := Sl.keepF relSeg HSEG.out (w' := W) (by rw [← hW]; exact (((Agree.setCell _ h1).trans (Agree.setCell _ h1)).trans (Agree.setCell _ h1)).trans (Agree.setCell _ h1))
        exact Sl.monoF relSeg h fun c hc => ⟨by have := HB1.out.size; omega, by rw [HSW]; exact hc.2⟩
      have x0 := KZ.cell 0
      have x1 := KZ.cell 1
      have x2 := KZ.cell 2
      have x3 := KZ.cell 3
      simp only [List.getElem?_toArray, List.getElem?_cons_zero, List.getElem?_cons_succ] at x0 x1 x2 x3
      refine bodyPost_ret (v := .agg #[.string nm, .int .i64 (fa : Int), .int .i64 (fd : Int), .slice (some ⟨gb, 0, none⟩) (0 + 1) capb]) (by simp [results, Tryz.f42, go_sem, x0, x1, x2, x3]) rfl ?_
      refine ⟨_, rfl, rfl, ?_, ?_⟩
      · rw [HMK.out]
        refine ⟨.slice (some ⟨gb, 0, none⟩) (0 + 1) capb, ?_, HSS⟩
        show [_, _, _, _] = [_, _, _, _]
        dsimp only
        rw [HNM.out.1, HNM.out.2.1, HNM.out.2.2]
      · exact (HB1.out.trans (Below.mono HB14.out HB1.out.size)).trans HBZ
  · have hk1 : (xk : Int).tmod 6 = 5 := by rw [Int.tmod_eq_emod_of_nonneg (by omega)]; omega
    have hk2 : (xk : Int) % 6 = 5 := by omega
    have hsegs : segs = [⟨(t : Int), (up : Int), [⟨(n : Int), sh⟩]⟩] := by
      have h := HSGS.out
      rw [if_neg (by decide), if_neg (by decide), if_neg (by decide), if_pos rfl] at h
      exact h.symm
    go_upto_region 22 with fail
    obtain ⟨w14, hw14c⟩ : ∃ w14 : World, (w13.setCell ⟨sb, 3, none⟩ (.slice (some ⟨w13.heap.size, 0, none⟩) 1 1)).alloc (.cells #[.int .i64 (t : Int), .int .i64 (up : Int), .slice (some ⟨ob, 0, none⟩) 1 1] 89) = w14 := ⟨_, rfl⟩
    rw [hw14c]
    have hw14 : (w13.alloc (.cells #[.int .i64 (t : Int), .int .i64 (up : Int), .slice (some ⟨ob, 0, none⟩) 1 1] 89)).setCell ⟨sb, 3, none⟩ (.slice (some ⟨w13.heap.size, 0, none⟩) 1 1) = w14 := by rw [← hw14c]; simp [go_sem, lsb]
    clear hw14c
    have KS14 : Blk w14 sb 92 #[.string nm, .int .i64 (fa : Int), .int .i64 (fd : Int), .slice (some ⟨w13.heap.size, 0, none⟩) 1 1] := by
      rw [← hw14]
      have h := (HKS13.out.alloc (.cells #[.int .i64 (t : Int), .int .i64 (up : Int), .slice (some ⟨ob, 0, none⟩) 1 1] 89)).set_ 3 (.slice (some ⟨w13.heap.size, 0, none⟩) 1 1)
      simpa using h
    have hB14 : Below w1.heap.size w1 w14 := by
      rw [← hw14]
      exact Bs (Ba (Bt HB10.out HB13.out) _) _ hsb
    have hsz14 : w14.heap.size = w13.heap.size + 1 := by rw [← hw14]; simp [World.setCell]
    have hSeg : Sl (fun c => w1.heap.size ≤ c ∧ c < w14.heap.size) 3 (SegC fun c => w1.heap.size ≤ c ∧ c < w14.heap.size) w14 (.slice (some ⟨w13.heap.size, 0, none⟩) 1 1) segs := by
      rw [hsegs]
      have hG : Blk w14 w13.heap.size 89 [.int .i64 (t : Int), .int .i64 (up : Int), .slice (some ⟨ob, 0, none⟩) 1 1].toArray := by
        rw [← hw14]
        exact (Blk.new _ _ _).far (by simp; omega) _
      have hO : Blk w14 ob 86 [.int .i64 (n : Int), .int .i64 sh].toArray := by
        rw [← hw14]
        exact (HKO13.out.alloc _).far (by have := HKO13.out.ne_ HKS13.out (by decide); simpa using this) _
      have hob := HKO13.out.lt
      have hob1 := HOB.out
      have hs10 := HB10.out.size
      exact Sl.one_ hG ⟨hsz13, by omega⟩ rfl ⟨_, rfl, Sl.one_ hO ⟨by omega, by omega⟩ rfl rfl⟩
    clear hw14
    have HKS14 := Lib.hid KS14
    have HSEG := Lib.hid hSeg
    have HB14 := Lib.hid hB14
    have r0 := KS14.cell 0
    have r1 := KS14.cell 1
    have r2 := KS14.cell 2
    have r3 := KS14.cell 3
    have KR := HC3.out.below hB14 HC3.out.lt
    have g0 := KR.frozen 0
    have g1 := KR.frozen 1
    have g2 := KR.frozen 2
    have g3 := KR.frozen 3
    have q0 := KR.cell 0
    have q1 := KR.cell 1
    have q2 := KR.cell 2
    have q3 := KR.cell 3
    unfold stp0 at q0 q1 q2 q3
    simp only [List.getElem?_toArray, List.getElem?_cons_zero, List.getElem?_cons_succ] at q0 q1 q2 q3 r0 r1 r2 r3
    have HKR := Lib.hid KR
    clear KS14 hSeg hB14 KR z0 z1 z2 z3 z4 z5 s3 f3 S3 F3 Z0 Z1 Z4 
    go_wp2_with fail
    obtain ⟨W, hW⟩ : ∃ W : World, ((((w14.setCell ⟨b + 1 + 1, 0, none⟩ (.string nm)).setCell ⟨b + 1 + 1, 1, none⟩ (.int .i64 (fa : Int))).setCell ⟨b + 1 + 1, 2, none⟩ (.int .i64 (fd : Int))).setCell ⟨b + 1 + 1, 3, none⟩ (.slice (some ⟨w13.heap.size, 0, none⟩) 1 1)) = W := ⟨_, rfl⟩
    rw [hW]
    have KZ : Blk W (b + 1 + 1) 92 #[.string nm, .int .i64 (fa : Int), .int .i64 (fd : Int), .slice (some ⟨w13.heap.size, 0, none⟩) 1 1] := by
      rw [← hW]
      have h := (((HKR.out.set_ 0 (.string nm)).set_ 1 (.int .i64 (fa : Int))).set_ 2 (.int .i64 (fd : Int))).set_ 3 (.slice (some ⟨w13.heap.size, 0, none⟩) 1 1)
      unfold stp0 at h
      simpa using h
    have HBZ : Below w.heap.size w14 W := by
      have h1 : w.heap.size ≤ b + 1 + 1 := by rw [HBB.out]; omega
      have h0 : Below w.heap.size w14 w14 := Below.refl _ w14
      rw [← hW]
      exact (((h0.setCell h1 _).setCell h1 _).setCell h1 _).setCell h1 _
    have HSW : W.heap.size = w14.heap.size := by rw [← hW]; simp [World.setCell]
    have HSS : Sl (fun c => w.heap.size ≤ c ∧ c < W.heap.size) 3 (SegC fun c => w.heap.size ≤ c ∧ c < W.heap.size) W (.slice (some ⟨w13.heap.size, 0, none⟩) 1 1) segs := by
      have h1 : ∀ c, w1.heap.size ≤ c ∧ c < w14.heap.size → c ≠ b + 1 + 1 := fun c hc e => by omega
      have h := Sl.keepF relSeg HSEG.out (w' := W) (by rw [← hW]; exact (((Agree.setCell _ h1).trans (Agree.setCell _ h1)).trans (Agree.setCell _ h1)).trans (Agree.setCell _ h1))
      exact Sl.monoF relSeg h fun c hc => ⟨by have := HB1.out.size; omega, by rw [HSW]; exact hc.2⟩
    have x0 := KZ.cell 0
    have x1 := KZ.cell 1
    have x2 := KZ.cell 2
    have x3 := KZ.cell 3
    simp only [List.getElem?_toArray, List.getElem?_cons_zero, List.getElem?_cons_succ] at x0 x1 x2 x3
    refine bodyPost_ret (v := .agg #[.string nm, .int .i64 (fa : Int), .int .i64 (fd : Int), .slice (some ⟨w13.heap.size, 0, none⟩) 1 1]) (by simp [results, Tryz.f42, go_sem, x0, x1, x2, x3]) rfl ?_
    refine ⟨_, rfl, rfl, ?_, ?_⟩
    · rw [HMK.out]
      refine ⟨.slice (some ⟨w13.heap.size, 0, none⟩) 1 1, ?_, HSS⟩
      show [_, _, _, _] = [_, _, _, _]
      dsimp only
      rw [HNM.out.1, HNM.out.2.1, HNM.out.2.2]
    · exact (HB1.out.trans (Below.mono HB14.out HB1.out.size)).trans HBZ
end Go.Proofs.YtnfpjcjlapljjaaGreatDoor
