/- Walk over law 18: Make (its drawn regions printed by mkmk.py). -/
import Derived.Test.YtnfpjcjlapljjaaGreatDoorDd
import Derived.Test.YtnfpjcjlapljjaaGreatDoorDf
namespace Go.Proofs.YtnfpjcjlapljjaaGreatDoor
open Go Go.RowKit Go.Shelf
open Org
theorem RnkC.one {F : Nat → Prop} {w : World} {cs : List Value} {y : Rnk} (h : RnkC F w cs y) : ∀ u ∈ cs, u.oneCell' = true := by
  obtain ⟨v, rfl, hs⟩ := h
  obtain ⟨A, c, rfl, -⟩ := Sl.openF hs
  simp [Value.oneCell']
theorem StpC.one {F : Nat → Prop} {w : World} {cs : List Value} {y : Stp} (h : StpC F w cs y) : ∀ u ∈ cs, u.oneCell' = true := by
  obtain ⟨v, rfl, hs⟩ := h
  obtain ⟨A, c, rfl, -⟩ := Sl.openF hs
  simp [Value.oneCell']
theorem DvsC.one {F : Nat → Prop} {w : World} {cs : List Value} {y : Dvs} (h : DvsC F w cs y) : ∀ u ∈ cs, u.oneCell' = true := by
  obtain ⟨v, rfl, hs⟩ := h
  obtain ⟨A, c, rfl, -⟩ := Sl.openF hs
  simp [Value.oneCell']
def cpl0 : Array Value := #[.string ⟨#[]⟩, .int .i64 0, .int .i64 0, .int .i64 0, .bool false]
def cplA (w : World) (v : Value) (lim : Nat) : Prop := ∃ g, v = .pointer (some ⟨g, 0, none⟩) ∧ lim ≤ g ∧ Blk w g 94 cpl0
theorem cplA_below {w w' : World} {v : Value} {lim : Nat} (h : cplA w v lim) (hb : Below w.heap.size w w') : cplA w' v lim := by
  obtain ⟨g, e, hl, hk⟩ := h
  exact ⟨g, e, hl, hk.below hb hk.lt⟩
def org0 : Array Value := #[.string ⟨#[]⟩, .slice none 0 0, .slice none 0 0, .slice none 0 0]
/-- What holds behind each operation of a drawn region. -/
def FK5 (b ob n1 cr k : Nat) (ad p : Addr) (v : Value) (rt rf rp r0 r1 r2 r3 r4 : Nat) (rfi : Int) (lim : Nat) (y : Rnk) (j : Nat) (s : Nat → Value) (w : World) : Prop :=
  match j with
  | 0 => s 22 = .pointer (some ⟨ob, 1, none⟩)
  | 1 => s 23 = v
  | 2 => s 24 = .pointer (some ⟨b, 0, none⟩)
  | 3 => s 25 = .slice (some ad) n1 cr
  | 4 => s 26 = .int .i64 (k : Int)
  | 5 => s 27 = .pointer (some p)
  | 6 => s 28 = .agg #[.int .u8 (rt : Int), .int .u8 (rf : Int), .int .i8 rfi, .int .u8 (rp : Int), .int .u8 (r0 : Int), .int .u8 (r1 : Int), .int .u8 (r2 : Int), .int .u8 (r3 : Int), .int .u8 (r4 : Int)]
  | 7 => s 29 = .int .i64 (k : Int)
  | 8 => AggA RnkC 6 lim w (s 30) y
  | 9 => RowA RnkC 84 6 lim w (s 31) y
  | _ => True
def VK5 (j : Nat) : List Nat := match j with
  | 0 => [22] | 1 => [23] | 2 => [24] | 3 => [25] | 4 => [26] | 5 => [27] | 6 => [28] | 7 => [29] | 8 => [30] | 9 => [31] | _ => []
def EK5 (j : Nat) : Bool := j == 1 || j == 9
theorem FK5_V (b ob n1 cr k : Nat) (ad p : Addr) (v : Value) (rt rf rp r0 r1 r2 r3 r4 : Nat) (rfi : Int) (lim : Nat) (y : Rnk) (j : Nat) (s s' : Nat → Value) (w : World) (h : ∀ t, t ∈ VK5 j → s' t = s t) (hF : FK5 b ob n1 cr k ad p v rt rf rp r0 r1 r2 r3 r4 rfi lim y j s w) : FK5 b ob n1 cr k ad p v rt rf rp r0 r1 r2 r3 r4 rfi lim y j s' w := by
  match j with
  | 0 => unfold FK5 at hF ⊢; simp only at hF ⊢; rw [h 22 (by simp [VK5])]; exact hF
  | 1 => unfold FK5 at hF ⊢; simp only at hF ⊢; rw [h 23 (by simp [VK5])]; exact hF
  | 2 => unfold FK5 at hF ⊢; simp only at hF ⊢; rw [h 24 (by simp [VK5])]; exact hF
  | 3 => unfold FK5 at hF ⊢; simp only at hF ⊢; rw [h 25 (by simp [VK5])]; exact hF
  | 4 => unfold FK5 at hF ⊢; simp only at hF ⊢; rw [h 26 (by simp [VK5])]; exact hF
  | 5 => unfold FK5 at hF ⊢; simp only at hF ⊢; rw [h 27 (by simp [VK5])]; exact hF
  | 6 => unfold FK5 at hF ⊢; simp only at hF ⊢; rw [h 28 (by simp [VK5])]; exact hF
  | 7 => unfold FK5 at hF ⊢; simp only at hF ⊢; rw [h 29 (by simp [VK5])]; exact hF
  | 8 => unfold FK5 at hF ⊢; simp only at hF ⊢; rw [h 30 (by simp [VK5])]; exact hF
  | 9 => unfold FK5 at hF ⊢; simp only at hF ⊢; rw [h 31 (by simp [VK5])]; exact hF
  | _ + 10 => trivial
theorem FK5_below (b ob n1 cr k : Nat) (ad p : Addr) (v : Value) (rt rf rp r0 r1 r2 r3 r4 : Nat) (rfi : Int) (lim : Nat) (y : Rnk) (j : Nat) (s : Nat → Value) (w w' : World) (hb : Below w.heap.size w w') (hF : FK5 b ob n1 cr k ad p v rt rf rp r0 r1 r2 r3 r4 rfi lim y j s w) : FK5 b ob n1 cr k ad p v rt rf rp r0 r1 r2 r3 r4 rfi lim y j s w' := by
  match j with
  | 0 => exact hF
  | 1 => exact hF
  | 2 => exact hF
  | 3 => exact hF
  | 4 => exact hF
  | 5 => exact hF
  | 6 => exact hF
  | 7 => exact hF
  | 8 => exact AggA.below relRnk hF hb
  | 9 => exact RowA.below relRnk hF hb
  | _ + 10 => trivial
/-- What holds behind each operation of a drawn region. -/
def FK15 (bb ob db ns cs7 ji l up : Nat) (sa p : Addr) (u vR : Value) (q0 q1 q2 q3 : Nat) (lim : Nat) (yt : Stp) (j : Nat) (s : Nat → Value) (w : World) : Prop :=
  match j with
  | 0 => s 75 = .pointer (some ⟨db, 4, none⟩)
  | 1 => s 76 = u
  | 2 => s 77 = .pointer (some ⟨ob, 1, none⟩)
  | 3 => s 78 = vR
  | 4 => s 79 = .pointer (some ⟨db, 2, none⟩)
  | 5 => s 80 = .agg #[.int .i64 (l : Int), .int .i64 (up : Int)]
  | 6 => s 81 = .pointer (some ⟨bb, 3, none⟩)
  | 7 => s 82 = .slice (some sa) ns cs7
  | 8 => s 83 = .int .i64 (ji : Int)
  | 9 => s 84 = .pointer (some p)
  | 10 => s 85 = .agg #[.int .u8 (q0 : Int), .int .u8 (q1 : Int), .int .u8 (q2 : Int), .int .u8 (q3 : Int)]
  | 11 => s 86 = .int .i64 (ji : Int)
  | 12 => AggA StpC 4 lim w (s 87) yt
  | 13 => RowA StpC 92 4 lim w (s 88) yt
  | _ => True
def VK15 (j : Nat) : List Nat := match j with
  | 0 => [75] | 1 => [76] | 2 => [77] | 3 => [78] | 4 => [79] | 5 => [80] | 6 => [81] | 7 => [82] | 8 => [83] | 9 => [84] | 10 => [85] | 11 => [86] | 12 => [87] | 13 => [88] | _ => []
def EK15 (j : Nat) : Bool := j == 1 || j == 13
theorem FK15_V (bb ob db ns cs7 ji l up : Nat) (sa p : Addr) (u vR : Value) (q0 q1 q2 q3 : Nat) (lim : Nat) (yt : Stp) (j : Nat) (s s' : Nat → Value) (w : World) (h : ∀ t, t ∈ VK15 j → s' t = s t) (hF : FK15 bb ob db ns cs7 ji l up sa p u vR q0 q1 q2 q3 lim yt j s w) : FK15 bb ob db ns cs7 ji l up sa p u vR q0 q1 q2 q3 lim yt j s' w := by
  match j with
  | 0 => unfold FK15 at hF ⊢; simp only at hF ⊢; rw [h 75 (by simp [VK15])]; exact hF
  | 1 => unfold FK15 at hF ⊢; simp only at hF ⊢; rw [h 76 (by simp [VK15])]; exact hF
  | 2 => unfold FK15 at hF ⊢; simp only at hF ⊢; rw [h 77 (by simp [VK15])]; exact hF
  | 3 => unfold FK15 at hF ⊢; simp only at hF ⊢; rw [h 78 (by simp [VK15])]; exact hF
  | 4 => unfold FK15 at hF ⊢; simp only at hF ⊢; rw [h 79 (by simp [VK15])]; exact hF
  | 5 => unfold FK15 at hF ⊢; simp only at hF ⊢; rw [h 80 (by simp [VK15])]; exact hF
  | 6 => unfold FK15 at hF ⊢; simp only at hF ⊢; rw [h 81 (by simp [VK15])]; exact hF
  | 7 => unfold FK15 at hF ⊢; simp only at hF ⊢; rw [h 82 (by simp [VK15])]; exact hF
  | 8 => unfold FK15 at hF ⊢; simp only at hF ⊢; rw [h 83 (by simp [VK15])]; exact hF
  | 9 => unfold FK15 at hF ⊢; simp only at hF ⊢; rw [h 84 (by simp [VK15])]; exact hF
  | 10 => unfold FK15 at hF ⊢; simp only at hF ⊢; rw [h 85 (by simp [VK15])]; exact hF
  | 11 => unfold FK15 at hF ⊢; simp only at hF ⊢; rw [h 86 (by simp [VK15])]; exact hF
  | 12 => unfold FK15 at hF ⊢; simp only at hF ⊢; rw [h 87 (by simp [VK15])]; exact hF
  | 13 => unfold FK15 at hF ⊢; simp only at hF ⊢; rw [h 88 (by simp [VK15])]; exact hF
  | _ + 14 => trivial
theorem FK15_below (bb ob db ns cs7 ji l up : Nat) (sa p : Addr) (u vR : Value) (q0 q1 q2 q3 : Nat) (lim : Nat) (yt : Stp) (j : Nat) (s : Nat → Value) (w w' : World) (hb : Below w.heap.size w w') (hF : FK15 bb ob db ns cs7 ji l up sa p u vR q0 q1 q2 q3 lim yt j s w) : FK15 bb ob db ns cs7 ji l up sa p u vR q0 q1 q2 q3 lim yt j s w' := by
  match j with
  | 0 => exact hF
  | 1 => exact hF
  | 2 => exact hF
  | 3 => exact hF
  | 4 => exact hF
  | 5 => exact hF
  | 6 => exact hF
  | 7 => exact hF
  | 8 => exact hF
  | 9 => exact hF
  | 10 => exact hF
  | 11 => exact hF
  | 12 => exact AggA.below relStp hF hb
  | 13 => exact RowA.below relStp hF hb
  | _ + 14 => trivial
/-- What holds behind each operation of a drawn region. -/
def FK22 (lb n2 k src dst f t : Nat) (csh s9 : Int) (thr : Bool) (dg nm : ByteArray) (lim : Nat) (j : Nat) (s : Nat → Value) (w : World) : Prop :=
  match j with
  | 0 => s 112 = .int .i64 (k : Int)
  | 1 => s 113 = .int .i64 (48 + (k : Int))
  | 2 => s 114 = .int .u8 (48 + (k : Int))
  | 3 => bytA w (s 115) k
  | 4 => s 116 = .string dg
  | 5 => s 117 = .string nm
  | 6 => s 118 = .pointer (some ⟨lb, 0, none⟩)
  | 7 => s 119 = .int .u8 (src : Int)
  | 8 => s 120 = .int .i64 (src : Int)
  | 9 => s 121 = .int .i64 (n2 : Int)
  | 10 => s 122 = .int .i64 (f : Int)
  | 11 => s 123 = .pointer (some ⟨lb, 1, none⟩)
  | 12 => s 124 = .int .u8 (dst : Int)
  | 13 => s 125 = .int .i64 (dst : Int)
  | 14 => s 126 = .int .i64 (n2 : Int)
  | 15 => s 127 = .int .i64 (t : Int)
  | 16 => s 128 = .pointer (some ⟨lb, 2, none⟩)
  | 17 => s 129 = .int .i8 csh
  | 18 => s 130 = .int .i64 csh
  | 19 => s 131 = .int .i64 s9
  | 20 => s 132 = .pointer (some ⟨lb, 3, none⟩)
  | 21 => s 133 = .bool thr
  | 22 => s 134 = .agg #[.string nm, .int .i64 (f : Int), .int .i64 (t : Int), .int .i64 s9, .bool thr]
  | 23 => cplA w (s 13) lim
  | _ => True
def VK22 (j : Nat) : List Nat := match j with
  | 0 => [112] | 1 => [113] | 2 => [114] | 3 => [115] | 4 => [116] | 5 => [117] | 6 => [118] | 7 => [119] | 8 => [120] | 9 => [121] | 10 => [122] | 11 => [123] | 12 => [124] | 13 => [125] | 14 => [126] | 15 => [127] | 16 => [128] | 17 => [129] | 18 => [130] | 19 => [131] | 20 => [132] | 21 => [133] | 22 => [134] | 23 => [13] | _ => []
def EK22 (j : Nat) : Bool := j == 22 || j == 23
theorem FK22_V (lb n2 k src dst f t : Nat) (csh s9 : Int) (thr : Bool) (dg nm : ByteArray) (lim : Nat) (j : Nat) (s s' : Nat → Value) (w : World) (h : ∀ t, t ∈ VK22 j → s' t = s t) (hF : FK22 lb n2 k src dst f t csh s9 thr dg nm lim j s w) : FK22 lb n2 k src dst f t csh s9 thr dg nm lim j s' w := by
  match j with
  | 0 => unfold FK22 at hF ⊢; simp only at hF ⊢; rw [h 112 (by simp [VK22])]; exact hF
  | 1 => unfold FK22 at hF ⊢; simp only at hF ⊢; rw [h 113 (by simp [VK22])]; exact hF
  | 2 => unfold FK22 at hF ⊢; simp only at hF ⊢; rw [h 114 (by simp [VK22])]; exact hF
  | 3 => unfold FK22 at hF ⊢; simp only at hF ⊢; rw [h 115 (by simp [VK22])]; exact hF
  | 4 => unfold FK22 at hF ⊢; simp only at hF ⊢; rw [h 116 (by simp [VK22])]; exact hF
  | 5 => unfold FK22 at hF ⊢; simp only at hF ⊢; rw [h 117 (by simp [VK22])]; exact hF
  | 6 => unfold FK22 at hF ⊢; simp only at hF ⊢; rw [h 118 (by simp [VK22])]; exact hF
  | 7 => unfold FK22 at hF ⊢; simp only at hF ⊢; rw [h 119 (by simp [VK22])]; exact hF
  | 8 => unfold FK22 at hF ⊢; simp only at hF ⊢; rw [h 120 (by simp [VK22])]; exact hF
  | 9 => unfold FK22 at hF ⊢; simp only at hF ⊢; rw [h 121 (by simp [VK22])]; exact hF
  | 10 => unfold FK22 at hF ⊢; simp only at hF ⊢; rw [h 122 (by simp [VK22])]; exact hF
  | 11 => unfold FK22 at hF ⊢; simp only at hF ⊢; rw [h 123 (by simp [VK22])]; exact hF
  | 12 => unfold FK22 at hF ⊢; simp only at hF ⊢; rw [h 124 (by simp [VK22])]; exact hF
  | 13 => unfold FK22 at hF ⊢; simp only at hF ⊢; rw [h 125 (by simp [VK22])]; exact hF
  | 14 => unfold FK22 at hF ⊢; simp only at hF ⊢; rw [h 126 (by simp [VK22])]; exact hF
  | 15 => unfold FK22 at hF ⊢; simp only at hF ⊢; rw [h 127 (by simp [VK22])]; exact hF
  | 16 => unfold FK22 at hF ⊢; simp only at hF ⊢; rw [h 128 (by simp [VK22])]; exact hF
  | 17 => unfold FK22 at hF ⊢; simp only at hF ⊢; rw [h 129 (by simp [VK22])]; exact hF
  | 18 => unfold FK22 at hF ⊢; simp only at hF ⊢; rw [h 130 (by simp [VK22])]; exact hF
  | 19 => unfold FK22 at hF ⊢; simp only at hF ⊢; rw [h 131 (by simp [VK22])]; exact hF
  | 20 => unfold FK22 at hF ⊢; simp only at hF ⊢; rw [h 132 (by simp [VK22])]; exact hF
  | 21 => unfold FK22 at hF ⊢; simp only at hF ⊢; rw [h 133 (by simp [VK22])]; exact hF
  | 22 => unfold FK22 at hF ⊢; simp only at hF ⊢; rw [h 134 (by simp [VK22])]; exact hF
  | 23 => unfold FK22 at hF ⊢; simp only at hF ⊢; rw [h 13 (by simp [VK22])]; exact hF
  | _ + 24 => trivial
theorem FK22_below (lb n2 k src dst f t : Nat) (csh s9 : Int) (thr : Bool) (dg nm : ByteArray) (lim : Nat) (j : Nat) (s : Nat → Value) (w w' : World) (hb : Below w.heap.size w w') (hF : FK22 lb n2 k src dst f t csh s9 thr dg nm lim j s w) : FK22 lb n2 k src dst f t csh s9 thr dg nm lim j s w' := by
  match j with
  | 0 => exact hF
  | 1 => exact hF
  | 2 => exact hF
  | 3 => exact bytA_below hF hb
  | 4 => exact hF
  | 5 => exact hF
  | 6 => exact hF
  | 7 => exact hF
  | 8 => exact hF
  | 9 => exact hF
  | 10 => exact hF
  | 11 => exact hF
  | 12 => exact hF
  | 13 => exact hF
  | 14 => exact hF
  | 15 => exact hF
  | 16 => exact hF
  | 17 => exact hF
  | 18 => exact hF
  | 19 => exact hF
  | 20 => exact hF
  | 21 => exact hF
  | 22 => exact hF
  | 23 => exact cplA_below hF hb
  | _ + 24 => trivial
set_option maxRecDepth 100000 in
set_option maxHeartbeats 4000000 in
theorem make18_any (x : Pn) (hx : x.Ok) (hf : x.Fits) (vr vd vc : Value) (w : World) (hT : TabP w) (F : Nat → Prop) (hF : ∀ c, F c → c < w.heap.size) (hR : Sl F 9 P14C w vr x.ranks) (hD : Sl F 4 (BdC F) w vd x.divs) (hC : Sl F 4 LnkC w vc x.cpls) :
    Calls Tryz.prog 16 #[.agg #[vr, vd, vc]] w fun e w' => ∃ cs, e = .returned (.agg cs.toArray) ∧ cs.length = 4 ∧ OgC (fun b => w.heap.size ≤ b ∧ b < w'.heap.size) w' cs (mkOg x) ∧ Below w.heap.size w w' := by
  have HXO := Lib.hid hx
  have HXF := Lib.hid hf
  obtain ⟨hr1, hr3, hd1, hd3, hc3, -⟩ := hf
  obtain ⟨Ar, cr, rfl, hcr, -, hatr⟩ := id hR
  obtain ⟨Ad, cd, rfl, hcd, -, hatd⟩ := id hD
  obtain ⟨Ac, cc, rfl, hcc, -, hatc⟩ := id hC
  have HR := Lib.hid (fun k (hk : k < x.ranks.length) W (hb : Below w.heap.size w W) => show ∃ ad, Ar = some ad ∧ Flds W (ad.add (k * 9)) x.ranks[k].cs from by
    obtain ⟨ad, cs, e, hFa, -, ecs, hfl⟩ := hatr k hk
    have h := hfl.below hb (by rw [block_of_add]; exact hF _ hFa)
    rw [show cs = x.ranks[k].cs from ecs] at h
    exact ⟨ad, e, h⟩)
  have HD := Lib.hid (fun k (hk : k < x.divs.length) W (hb : Below w.heap.size w W) => show ∃ ad vs, Ad = some ad ∧ Flds W (ad.add (k * 4)) [.int .u8 (x.divs[k].lo : Int), .int .u8 (x.divs[k].ks : Int), .bool x.divs[k].ped, vs] ∧ Sl F 4 PlC W vs x.divs[k].stops from by
    obtain ⟨ad, cs, e, hFa, -, ⟨vs, rfl, hs⟩, hfl⟩ := hatd k hk
    exact ⟨ad, vs, e, hfl.below hb (by rw [block_of_add]; exact hF _ hFa), Sl.keep hs (Agree.below hb hF) fun _ _ h => h⟩)
  have HC := Lib.hid (fun k (hk : k < x.cpls.length) W (hb : Below w.heap.size w W) => show ∃ ad, Ac = some ad ∧ Flds W (ad.add (k * 4)) [.int .u8 (x.cpls[k].src : Int), .int .u8 (x.cpls[k].dst : Int), .int .i8 x.cpls[k].sh, .bool x.cpls[k].thr] from by
    obtain ⟨ad, cs, e, hFa, -, ecs, hfl⟩ := hatc k hk
    have h := hfl.below hb (by rw [block_of_add]; exact hF _ hFa)
    rw [show cs = _ from ecs] at h
    exact ⟨ad, e, h⟩)
  clear hatr hatd hatc hR hD hC hx
  obtain ⟨n1, hn1⟩ : ∃ n, x.ranks.length = n := ⟨_, rfl⟩
  obtain ⟨n2, hn2⟩ : ∃ n, x.divs.length = n := ⟨_, rfl⟩
  obtain ⟨n3, hn3⟩ : ∃ n, x.cpls.length = n := ⟨_, rfl⟩
  have HN1 := Lib.hid hn1
  have HN2 := Lib.hid hn2
  have HN3 := Lib.hid hn3
  rw [hn1] at hr1 hr3 hcr ⊢
  rw [hn2] at hd1 hd3 hcd ⊢
  rw [hn3] at hc3 hcc ⊢
  clear hn1 hn2 hn3
  obtain ⟨w1, hw1⟩ : ∃ w1 : World, (w.alloc (.cells #[.slice Ar n1 cr, .slice Ad n2 cd, .slice Ac n3 cc] 26)).alloc (.cells org0 40) = w1 := ⟨_, rfl⟩
  obtain ⟨b, hb⟩ : ∃ b, w.heap.size = b := ⟨_, rfl⟩
  have C1 : Blk w1 b 26 #[.slice Ar n1 cr, .slice Ad n2 cd, .slice Ac n3 cc] := by rw [← hw1, ← hb]; exact (Blk.new _ _ _).alloc _
  have C2 : Blk w1 (b + 1) 40 org0 := by
    rw [← hw1, ← hb]
    have h := Blk.new (w.alloc (.cells #[.slice Ar n1 cr, .slice Ad n2 cd, .slice Ac n3 cc] 26)) 40 org0
    simpa using h
  have hB1 : Below w.heap.size w w1 := by rw [← hw1]; exact Ba (Ba (B0 w) _) _
  have hsz1 : b + 2 = w1.heap.size := by rw [← hw1, ← hb]; simp
  have HSC := Lib.hid (fun W (hb : Below w1.heap.size w1 W) => (show W.cell? ⟨b, 0, none⟩ = some (.slice Ar n1 cr) ∧ W.cell? ⟨b, 1, none⟩ = some (.slice Ad n2 cd) ∧ W.cell? ⟨b, 2, none⟩ = some (.slice Ac n3 cc) from
    ⟨(Bc hb C1.lt).trans (by simpa using C1.cell 0), (Bc hb C1.lt).trans (by simpa using C1.cell 1), (Bc hb C1.lt).trans (by simpa using C1.cell 2)⟩))
  have HC2 := Lib.hid C2
  have HB1 := Lib.hid hB1
  have HW1 := Lib.hid hw1
  have HBB := Lib.hid hb
  have HTW := Lib.hid (fun W (hb : Below w1.heap.size w1 W) => hT.below (Bt hB1 hb))
  clear hw1 hb C1 C2 hB1 hT
  go_enter Tryz.func16, Tryz.ntmps16
  unfold org0 at HW1
  go_upto_region 1 with fail
  rw [HW1.out, HBB.out]
  go_upto_region 2 with fail
  go_upto_region 2 with fail
  obtain ⟨wO, hwO⟩ : ∃ wO : World, w1.alloc (.cells #[.string ⟨#[79, 114, 103, 97, 110]⟩, .slice none 0 0, .slice none 0 0, .slice none 0 0] 40) = wO := ⟨_, rfl⟩
  obtain ⟨ob, hob⟩ : ∃ ob, w1.heap.size = ob := ⟨_, rfl⟩
  have KO : Blk wO ob 40 #[.string ⟨#[79, 114, 103, 97, 110]⟩, .slice none 0 0, .slice none 0 0, .slice none 0 0] := by rw [← hwO, ← hob]; exact Blk.new _ _ _
  have HBO : Hid (Below w1.heap.size w1 wO) := Lib.hid (by rw [← hwO]; exact Ba (B0 w1) _)
  have HOW : Hid (ob < wO.heap.size) := Lib.hid KO.lt
  have HO1 : Hid (w1.heap.size ≤ ob) := Lib.hid (by omega)
  rw [hwO, hob]
  have HKO := Lib.hid KO
  clear hwO KO hob
  obtain ⟨ad, hAr, -⟩ := HR.out 0 (by rw [HN1.out]; omega) w (B0 w)
  subst hAr
  obtain ⟨add, -, hAd, -⟩ := HD.out 0 (by rw [HN2.out]; omega) w (B0 w)
  subst hAd
  go_upto_region 3 with fail
  go_loopg [4] n1 (fun gg s4 wr => ∃ (k : Nat) (v : Value), k ≤ n1 ∧ n1 - k ≤ gg ∧ s4 = .int .i64 (k : Int) ∧ Aside (InF wO ob 40 84 6 RnkC (fun v => [.string ⟨#[79, 114, 103, 97, 110]⟩, v, .slice none 0 0, .slice none 0 0]) wr v ((x.ranks.take k).mapIdx fun i r => mkRnk r i)))
  case atStart => exact ⟨0, .slice none 0 0, by omega, by omega, rfl, InF.start HKO.out⟩
  case round =>
    obtain ⟨k, v, hk, hg, rfl, hI⟩ := hrel
    have hBr := InF.under hI HBO.out HO1.out
    obtain ⟨z0, z1, z2⟩ := HSC.out wr hBr
    have HI := Lib.hid hI
    have HBR := Lib.hid hBr
    by_cases hlt : k < n1
    · have hkI : (k : Int) < (n1 : Int) := by omega
      have hkd : decide ((k : Int) < (n1 : Int)) = true := decide_eq_true hkI
      have hkl : k < x.ranks.length := by rw [HN1.out]; exact hlt
      obtain ⟨r, hr⟩ : ∃ r, x.ranks[k] = r := ⟨_, rfl⟩
      have hrok : r.Ok := by rw [← hr]; exact HXO.out.ranks _ (List.getElem_mem hkl)
      obtain ⟨y, hy⟩ : ∃ y, mkRnk r k = y := ⟨_, rfl⟩
      obtain ⟨p, hpA⟩ : ∃ p, ad.add (k * 9) = p := ⟨_, rfl⟩
      have hE := fun W (hb : Below wr.heap.size wr W) => HR.out k hkl W (Bt HB1.out (Bt hBr hb))
      rw [hr] at hE
      have hMR := fun W (hb : Below wr.heap.size wr W) => mk14_any r hrok k (by omega) W
      rw [hy] at hMR
      have HYR : Hid ((x.ranks.take (k + 1)).mapIdx (fun i r => mkRnk r i) = (x.ranks.take k).mapIdx (fun i r => mkRnk r i) ++ [y]) := Lib.hid (by rw [mapIdx_take _ _ _ hkl, hr, hy])
      obtain ⟨rt, rf, rfi, rp, r0, r1, r2, r3, r4⟩ := r
      have HMR := Lib.hid hMR
      have HE := Lib.hid (fun W (hb : Below wr.heap.size wr W) => (show (W.cell? p = some (.int .u8 (rt : Int)) ∧ W.cell? ⟨p.block, p.off + 1, none⟩ = some (.int .u8 (rf : Int)) ∧ W.cell? ⟨p.block, p.off + 2, none⟩ = some (.int .i8 rfi) ∧ W.cell? ⟨p.block, p.off + 3, none⟩ = some (.int .u8 (rp : Int))) ∧ W.cell? ⟨p.block, p.off + 4, none⟩ = some (.int .u8 (r0 : Int)) ∧ W.cell? ⟨p.block, p.off + 5, none⟩ = some (.int .u8 (r1 : Int)) ∧ W.cell? ⟨p.block, p.off + 6, none⟩ = some (.int .u8 (r2 : Int)) ∧ W.cell? ⟨p.block, p.off + 7, none⟩ = some (.int .u8 (r3 : Int)) ∧ W.cell? ⟨p.block, p.off + 8, none⟩ = some (.int .u8 (r4 : Int)) from by
        obtain ⟨ad', e, h⟩ := hE W hb
        injection e with e
        rw [← e, hpA] at h
        exact ⟨⟨h.f0 rfl, h.fs 0 rfl, h.fs 1 rfl, h.fs 2 rfl⟩, h.fs 3 rfl, h.fs 4 rfl, h.fs 5 rfl, h.fs 6 rfl, h.fs 7 rfl⟩))
      have lob : ob < wr.heap.size := hI.blk.lt
      have lbb : b < wr.heap.size := by have := hBr.size; omega
      have o1 : wr.cell? ⟨ob, 1, none⟩ = some v := hI.blk.cell 1
      have HS := Lib.hid (fun W (hb : Below wr.heap.size wr W) => (show W.cell? ⟨b, 0, none⟩ = some (.slice (some ad) n1 cr) ∧ W.cell? ⟨ob, 1, none⟩ = some v from ⟨(Bc hb lbb).trans z0, (Bc hb lob).trans o1⟩))
      have hBBr : ∀ (L : Nat → Bool) (i : Nat) (w w' : World), Below w.heap.size w w' → Below wr.heap.size wr w → Below wr.heap.size wr w' := fun _ _ _ _ h1 h2 => Bt h2 h1
      clear hE hMR hr hy hrok hI hBr
      go_upto_region 5 with fail
      refine region_blocks (by kernel_rfl) ?_
      refine from_lawW 10 EK5 (fun _ W => Below wr.heap.size wr W) (FK5 b ob n1 cr k ad p v rt rf rp r0 r1 r2 r3 r4 rfi wr.heap.size y) VK5 (by kernel_rfl) rfl (FK5_V _ _ _ _ _ _ _ _ _ _ _ _ _ _ _ _ _ _ _) (by kernel_rfl) (by kernel_rfl) ((B0 wr).drew) ⟨?_, ?_, ?_, ?_, ?_, ?_, ?_, ?_, ?_, ?_, trivial⟩ ?_
      · refine OpFactW.value rfl (FK5_below _ _ _ _ _ _ _ _ _ _ _ _ _ _ _ _ _ _ _) hBBr fun L a w2 hl hf D hb => ?_
        have h0 : sl a 3 = .pointer (some ⟨ob, 0, none⟩) := hf 3 (by kernel_rfl)
        refine ⟨.pointer (some ⟨ob, 1, none⟩), w2, ?_, B0 _, fun s _ h => h 22 rfl⟩
        unfold sl at h0
        simp at h0
        simp [go_sem, h0]
      · refine OpFactW.value rfl (FK5_below _ _ _ _ _ _ _ _ _ _ _ _ _ _ _ _ _ _ _) hBBr fun L a w2 hl hf D hb => ?_
        have h0 : sl a 22 = .pointer (some ⟨ob, 1, none⟩) := D 0 (by kernel_rfl)
        have es := (HS.out w2 hb).2
        refine ⟨v, w2, ?_, B0 _, fun s _ h => h 23 rfl⟩
        unfold sl at h0
        simp at h0
        simp [go_sem, h0, es]
      · refine OpFactW.value rfl (FK5_below _ _ _ _ _ _ _ _ _ _ _ _ _ _ _ _ _ _ _) hBBr fun L a w2 hl hf D hb => ?_
        have h0 : sl a 1 = .pointer (some ⟨b, 0, none⟩) := hf 1 (by kernel_rfl)
        refine ⟨.pointer (some ⟨b, 0, none⟩), w2, ?_, B0 _, fun s _ h => h 24 rfl⟩
        unfold sl at h0
        simp at h0
        simp [go_sem, h0]
      · refine OpFactW.value rfl (FK5_below _ _ _ _ _ _ _ _ _ _ _ _ _ _ _ _ _ _ _) hBBr fun L a w2 hl hf D hb => ?_
        have h0 : sl a 24 = .pointer (some ⟨b, 0, none⟩) := D 2 (by kernel_rfl)
        have es := (HS.out w2 hb).1
        refine ⟨.slice (some ad) n1 cr, w2, ?_, B0 _, fun s _ h => h 25 rfl⟩
        unfold sl at h0
        simp at h0
        simp [go_sem, h0, es]
      · refine OpFactW.value rfl (FK5_below _ _ _ _ _ _ _ _ _ _ _ _ _ _ _ _ _ _ _) hBBr fun L a w2 hl hf D hb => ?_
        have h0 : sl a 4 = .int .i64 (k : Int) := hf 4 (by kernel_rfl)
        refine ⟨.int .i64 (k : Int), w2, ?_, B0 _, fun s _ h => h 26 rfl⟩
        unfold sl at h0
        simp [go_sem, h0]
      · refine OpFactW.value rfl (FK5_below _ _ _ _ _ _ _ _ _ _ _ _ _ _ _ _ _ _ _) hBBr fun L a w2 hl hf D hb => ?_
        have h11 : sl a 25 = .slice (some ad) n1 cr := D 3 (by kernel_rfl)
        have h12 : sl a 26 = .int .i64 (k : Int) := D 4 (by kernel_rfl)
        refine ⟨.pointer (some p), w2, ?_, B0 _, fun s _ h => h 27 rfl⟩
        unfold sl at h11 h12
        simp at h11 h12
        simp [go_sem, h11, h12, hkI, hpA]
      · refine OpFactW.value rfl (FK5_below _ _ _ _ _ _ _ _ _ _ _ _ _ _ _ _ _ _ _) hBBr fun L a w2 hl hf D hb => ?_
        have h0 : sl a 27 = .pointer (some p) := D 5 (by kernel_rfl)
        have es := HE.out w2 hb
        refine ⟨.agg #[.int .u8 (rt : Int), .int .u8 (rf : Int), .int .i8 rfi, .int .u8 (rp : Int), .int .u8 (r0 : Int), .int .u8 (r1 : Int), .int .u8 (r2 : Int), .int .u8 (r3 : Int), .int .u8 (r4 : Int)], w2, ?_, B0 _, fun s _ h => h 28 rfl⟩
        unfold sl at h0
        simp at h0
        simp [go_sem, h0, es]
      · refine OpFactW.value rfl (FK5_below _ _ _ _ _ _ _ _ _ _ _ _ _ _ _ _ _ _ _) hBBr fun L a w2 hl hf D hb => ?_
        have h0 : sl a 4 = .int .i64 (k : Int) := hf 4 (by kernel_rfl)
        refine ⟨.int .i64 (k : Int), w2, ?_, B0 _, fun s _ h => h 29 rfl⟩
        unfold sl at h0
        simp [go_sem, h0]
      · refine OpFactW.call rfl (FK5_below _ _ _ _ _ _ _ _ _ _ _ _ _ _ _ _ _ _ _) hBBr fun L a w2 hl hf D hb => ?_
        have h11 : sl a 28 = .agg #[.int .u8 (rt : Int), .int .u8 (rf : Int), .int .i8 rfi, .int .u8 (rp : Int), .int .u8 (r0 : Int), .int .u8 (r1 : Int), .int .u8 (r2 : Int), .int .u8 (r3 : Int), .int .u8 (r4 : Int)] := D 6 (by kernel_rfl)
        have h12 : sl a 29 = .int .i64 (k : Int) := D 7 (by kernel_rfl)
        refine ⟨41, #[.agg #[.int .u8 (rt : Int), .int .u8 (rf : Int), .int .i8 rfi, .int .u8 (rp : Int), .int .u8 (r0 : Int), .int .u8 (r1 : Int), .int .u8 (r2 : Int), .int .u8 (r3 : Int), .int .u8 (r4 : Int)], .int .i64 (k : Int)], ?_, (HMR.out w2 hb).mono ?_⟩
        · unfold sl at h11 h12
          simp at h11 h12
          simp [go_sem, h11, h12]
        · rintro e w' ⟨cs, rfl, hl, hr, hb3⟩
          exact ⟨_, rfl, hb3, fun s _ h => ⟨cs, h 30 rfl, hl, relRnk.mono hr fun b q => ⟨Nat.le_trans (Below.size hb) q.1, q.2⟩⟩⟩
      · refine OpFactW.value rfl (FK5_below _ _ _ _ _ _ _ _ _ _ _ _ _ _ _ _ _ _ _) hBBr fun L a w2 hl hf D hb => ?_
        obtain ⟨cs, h11, hl, hr⟩ : AggA RnkC 6 _ w2 (sl a 30) y := D 8 (by kernel_rfl)
        obtain ⟨vv, rfl, hs⟩ := id hr
        obtain ⟨A9, c9, rfl, -⟩ := Sl.openF hs
        refine ⟨.slice (some ⟨w2.heap.size, 0, none⟩) 1 1, w2.alloc (.cells #[.string y.name, .string y.tone, .int .i64 y.num, .int .i64 y.den, .int .i64 y.first, .slice A9 y.wind.length c9] 84), ?_, Ba (B0 w2) _, fun s _ h => (show RowA RnkC 84 6 _ _ (s 31) y from by rw [h 31 rfl]; exact RowA.new relRnk rfl hr)⟩
        unfold sl at h11
        simp at h11
        simp [go_sem, h11]
      intro L9 y9 w9 hb9 hF9
      have e23 := hF9 1 (by decide) rfl
      obtain ⟨g9, cs9, e31, hk9, hl9, hr9⟩ : RowA RnkC 84 6 wr.heap.size w9 (y9 31) y := hF9 9 (by decide) rfl
      simp only [FK5] at e23
      have HB9 := Lib.hid (show Below wr.heap.size wr w9 from hb9)
      have HI9 := Lib.hid (InF.below relRnk HI.out HB9.out)
      have H19 := Lib.hid (RnkC.one hr9)
      have HK9 := Lib.hid hk9
      have HR9 := Lib.hid hr9
      have HFX : Hid (∀ b, wr.heap.size ≤ b ∧ b < w9.heap.size → (wO.heap.size ≤ b ∧ b < w9.heap.size) ∧ v.ownBlock ≠ some b) := Lib.hid fun b hb => ⟨⟨Nat.le_trans HI.out.grown.size hb.1, hb.2⟩, fun e => by have := (HI.out.own.lt b e).2; omega⟩
      have HLN : Hid (((x.ranks.take k).mapIdx fun i r => mkRnk r i).length = k) := Lib.hid (by rw [List.length_mapIdx, List.length_take]; omega)
      have HBS : Hid (wO.heap.size ≤ w9.heap.size) := Lib.hid (Nat.le_trans HI.out.grown.size HB9.out.size)
      clear hF9 hb9 hk9 hr9
      rw [aft10 (d0 := 22) (d1 := 23) (d2 := 24) (d3 := 25) (d4 := 26) (d5 := 27) (d6 := 28) (d7 := 29) (d8 := 30) (d9 := 31) (by kernel_rfl) rfl]
      rw [e23, e31]
      simp only [List.set_cons_succ, List.set_cons_zero]
      refine from_list 13 (by kernel_rfl) (by simp only [List.take_succ_cons, List.take_zero, List.drop_succ_cons, List.drop_zero]; exact rfl) ?_
      (intro Q' hQ' hX; clear hX)
      go_wp2_with (at_builtin; refine wpList_appF elemRk (by omega) rfl _ _ rfl relRnk rfl HI9.out.own k HLN.out ⟨g9, 0, none⟩ 1 cs9 rfl hl9 (flds_blk HK9.out) H19.out (by omega) (by omega) HBS.out y _ HR9.out HFX.out ?_; intro g cap w8 ho8 hg8 hbel; have HO8 := Lib.hid ho8; have HG8 : Hid (w9.grownBy w8 v.ownBlock) := Lib.hid hg8; have A8 := HI9.out.blk.grown hg8 (HI9.out.ne HOW.out); have a8 := A8.cell 1; have f8 := A8.frozen 1; simp only [List.getElem?_toArray, List.getElem?_cons_zero, List.getElem?_cons_succ] at a8; clear ho8 hg8 hbel A8)
      refine from_end rfl ?_
      go_wp2_with fail
      go_roundg (n1 - (k + 1))
      case measure => omega
      case rel =>
        refine ⟨k + 1, .slice (some ⟨g, 0, none⟩) (k + 1) cap, by omega, by omega, by go_num, (show InF _ _ _ _ _ _ _ _ _ _ from ?_)⟩
        rw [HYR.out]
        exact InF.app relRnk HI9.out HO8.out HG8.out HOW.out 1 rfl
    · obtain rfl : n1 = k := by omega
      have hkd : decide ((n1 : Int) < (n1 : Int)) = false := decide_eq_false (by omega)
      rw [List.take_of_length_le (by rw [HN1.out]; omega)] at hI
      obtain ⟨rs, hrs⟩ : ∃ rs, mkRs x = rs := ⟨_, rfl⟩
      rw [show (x.ranks.mapIdx fun i r => mkRnk r i) = rs from hrs] at hI
      have hrl : rs.length = n1 := by rw [← hrs, mkRs_len, HN1.out]
      have hft : FtR rs := by rw [← hrs]; exact mkRs_ft x
      have HRS := Lib.hid hrs
      have HIR := Lib.hid hI
      have HBA := HBR
      clear HI hI hrs HBR
      go_upto_region 7 with fail
      obtain ⟨wA, rfl⟩ : ∃ W : World, W = wr := ⟨wr, rfl⟩
      obtain ⟨vR, rfl⟩ : ∃ u : Value, u = v := ⟨v, rfl⟩
      have hslR := HIR.out.own.sl (by rw [hrl]; omega) relRnk
      have HRK := Lib.hid (fun W (hg : wA.grownBy W (some ob)) => (show Sl (fun c => wO.heap.size ≤ c ∧ c < wA.heap.size) 6 (RnkC fun c => wO.heap.size ≤ c ∧ c < wA.heap.size) W vR rs from
        Sl.keepF relRnk hslR (Agree.grown hg fun c hc => ⟨hc.2, fun e => by injection e with e; have := HOW.out; omega⟩)))
      have HOA : Hid (ob < wA.heap.size) := Lib.hid HIR.out.blk.lt
      have HOS : Hid (wO.heap.size ≤ wA.heap.size) := Lib.hid HIR.out.grown.size
      clear z0 z1 z2
      go_loopg [5] n2 (fun gg s5 wr => ∃ (k : Nat) (v : Value), k ≤ n2 ∧ n2 - k ≤ gg ∧ s5 = .int .i64 (k : Int) ∧ Aside (InF wA ob 40 80 5 DvsC (fun v => [.string ⟨#[79, 114, 103, 97, 110]⟩, vR, v, .slice none 0 0]) wr v ((x.divs.take k).mapIdx fun i b => mkDv rs b i)))
      case atStart => exact ⟨0, .slice none 0 0, by omega, by omega, rfl, InF.start HIR.out.blk⟩
      case round =>
        obtain ⟨k, v, hk, hg, rfl, hI⟩ := hrel
        have hBr := InF.under hI HBA.out HO1.out
        obtain ⟨z0, z1, z2⟩ := HSC.out wr hBr
        have HI := Lib.hid hI
        have HBR := Lib.hid hBr
        by_cases hlt : k < n2
        · have hkI : (k : Int) < (n2 : Int) := by omega
          have hkd : decide ((k : Int) < (n2 : Int)) = true := decide_eq_true hkI
          have hkl : k < x.divs.length := by rw [HN2.out]; exact hlt
          obtain ⟨d, hd⟩ : ∃ d, x.divs[k] = d := ⟨_, rfl⟩
          have hdok : d.Ok := by rw [← hd]; exact HXO.out.divs _ (List.getElem_mem hkl)
          have hds3 : d.stops.length ≤ 3 := by rw [← hd]; exact HXF.out.s3 _ (List.getElem_mem hkl)
          obtain ⟨y, hy⟩ : ∃ y, mkDv rs d k = y := ⟨_, rfl⟩
          have HYR : Hid ((x.divs.take (k + 1)).mapIdx (fun i b => mkDv rs b i) = (x.divs.take k).mapIdx (fun i b => mkDv rs b i) ++ [y]) := Lib.hid (by rw [mapIdx_take _ _ _ hkl, hd, hy])
          have HY := Lib.hid hy
          obtain ⟨p, hpA⟩ : ∃ p, add.add (k * 4) = p := ⟨_, rfl⟩
          obtain ⟨ad', vs, e, hfl, hst⟩ := HD.out k hkl wr (Bt HB1.out hBr)
          injection e with e
          rw [← e, hpA, hd] at hfl
          rw [hd] at hst
          clear e
          obtain ⟨dlo, dks, ped, stops⟩ := d
          dsimp only at *
          obtain ⟨As, cs7, rfl, hcs7, -, hats⟩ := Sl.openF hst
          obtain ⟨ns, hns⟩ : ∃ n, stops.length = n := ⟨_, rfl⟩
          have HNS := Lib.hid hns
          rw [hns] at hds3 hcs7 hfl
          have p0 := hfl.f0 rfl
          have p1 := hfl.fs 0 rfl
          have p2 := hfl.fs 1 rfl
          have p3 := hfl.fs 2 rfl
          obtain ⟨hdlo, hdks, hdst⟩ := hdok
          dsimp only at hdlo hdks hdst
          obtain ⟨q, hq⟩ : ∃ q, dlo % 12 = q := ⟨_, rfl⟩
          obtain ⟨h, hh⟩ : ∃ h, dks % 9 = h := ⟨_, rfl⟩
          obtain ⟨l, hl⟩ : ∃ l, 36 + q = l := ⟨_, rfl⟩
          obtain ⟨up, hup⟩ : ∃ up, l + h = up := ⟨_, rfl⟩
          have m1 : (dlo : Int).tmod 12 = (q : Int) := by rw [Int.tmod_eq_emod_of_nonneg (by omega)]; omega
          have m2 : (dlo : Int) % 12 = (q : Int) := by omega
          have m3 : IntKind.i64.wrap (q : Int) = (q : Int) := by rw [IntKind.wrap_i64]; omega
          have m4 : IntKind.i64.wrap (36 + (q : Int)) = (l : Int) := by rw [IntKind.wrap_i64]; omega
          have m5 : (dks : Int).tmod 9 = (h : Int) := by rw [Int.tmod_eq_emod_of_nonneg (by omega)]; omega
          have m6 : (dks : Int) % 9 = (h : Int) := by omega
          have m7 : IntKind.i64.wrap (h : Int) = (h : Int) := by rw [IntKind.wrap_i64]; omega
          have m8 : IntKind.i64.wrap ((l : Int) + (h : Int)) = (up : Int) := by rw [IntKind.wrap_i64]; omega
          have m9 : IntKind.i64.wrap (48 + (k : Int)) = 48 + (k : Int) := by rw [IntKind.wrap_i64]; omega
          have m10 : IntKind.u8.wrap (48 + (k : Int)) = 48 + (k : Int) := by rw [IntKind.wrap_u8]; omega
          obtain ⟨dg, hdg⟩ : ∃ dg, digS k = dg := ⟨_, rfl⟩
          obtain ⟨nm, hnm9⟩ : ∃ nm, (⟨#[68]⟩ : ByteArray) ++ dg = nm := ⟨_, rfl⟩
          have hdl : 1 + dg.size ≤ 9223372036854775807 := by rw [← hdg]; show 1 + 1 ≤ _; omega
          have HM : Hid (mkDv rs ⟨dlo, dks, ped, stops⟩ k = ⟨nm, ped, (l : Int), (up : Int), stops.mapIdx fun i s => mkStp rs l h s i⟩) := Lib.hid (by
            unfold mkDv
            dsimp only
            rw [hq, hh, hl, hup, hdg, hnm9])
          have HQS := Lib.hid (And.intro hh hup)
          have HDG := Lib.hid hdg
          have HLB : Hid (l ≤ 1000 ∧ h ≤ 1000) := Lib.hid ⟨by omega, by omega⟩
          obtain ⟨bb, hbb⟩ : ∃ bb, wr.heap.size = bb := ⟨_, rfl⟩
          obtain ⟨wB, hwB⟩ : ∃ wB : World, wr.alloc (.cells #[.int .u8 (dlo : Int), .int .u8 (dks : Int), .bool ped, .slice As ns cs7] 75) = wB := ⟨_, rfl⟩
          have KB : Blk wB bb 75 #[.int .u8 (dlo : Int), .int .u8 (dks : Int), .bool ped, .slice As ns cs7] := by rw [← hwB, ← hbb]; exact Blk.new _ _ _
          have hBB0 : Below wr.heap.size wr wB := by rw [← hwB]; exact Ba (B0 wr) _
          have hszB : wB.heap.size = bb + 1 := by rw [← hwB, ← hbb]; simp
          clear hI hy hd hns hq hl hdg
          go_upto_region 10 with fail
          have b0 : wB.cell? ⟨bb, 0, none⟩ = some (.int .u8 (dlo : Int)) := KB.cell 0
          have b1 : wB.cell? ⟨bb, 1, none⟩ = some (.int .u8 (dks : Int)) := KB.cell 1
          have b2 : wB.cell? ⟨bb, 2, none⟩ = some (.bool ped) := KB.cell 2
          have a1 : ∀ o, (wB.alloc o).cell? ⟨bb, 1, none⟩ = some (.int .u8 (dks : Int)) := fun o => (Bc (Ba (B0 wB) o) KB.lt).trans b1
          have a2 : ∀ o, (wB.alloc o).cell? ⟨bb, 2, none⟩ = some (.bool ped) := fun o => (Bc (Ba (B0 wB) o) KB.lt).trans b2
          have hcv : (convert 132 9 (.slice (some ⟨wB.heap.size, 0, none⟩) 1 1)).run Tryz.prog (wB.alloc (.cells #[.int .u8 (48 + (k : Int))] 5)) = .ok (.string dg) (wB.alloc (.cells #[.int .u8 (48 + (k : Int))] 5)) := by
            have hc := dig_conv k (by omega) (wB.alloc (.cells #[.int .u8 (48 + (k : Int))] 5)) wB.heap.size (Blk.new _ _ _)
            rw [HDG.out] at hc
            exact hc
          rw [hszB] at hcv
          clear p0 p1 p2 p3 hwB
          go_upto_region 12 with fail
          obtain ⟨wD, hwD⟩ : ∃ wD : World, (wB.alloc (.cells #[.int .u8 (48 + (k : Int))] 5)).alloc (.cells #[.string nm, .bool ped, .int .i64 (l : Int), .int .i64 (up : Int), .slice none 0 0] 80) = wD := ⟨_, rfl⟩
          obtain ⟨db, hdb⟩ : ∃ db, bb + 1 + 1 = db := ⟨_, rfl⟩
          have hsz2 : (wB.alloc (.cells #[.int .u8 (48 + (k : Int))] 5)).heap.size = db := by rw [← hdb, World.size_alloc, hszB]
          have KD : Blk wD db 80 #[.string nm, .bool ped, .int .i64 (l : Int), .int .i64 (up : Int), .slice none 0 0] := by rw [← hwD, ← hsz2]; exact Blk.new _ _ _
          have hBD : Below wB.heap.size wB wD := by rw [← hwD]; exact Ba (Ba (B0 wB) _) _
          have HBD : Hid (Below wr.heap.size wr wD) := Lib.hid (Bt hBB0 hBD)
          have HKB : Hid (Blk wD bb 75 #[.int .u8 (dlo : Int), .int .u8 (dks : Int), .bool ped, .slice As ns cs7]) := Lib.hid (KB.below hBD KB.lt)
          have HDB : Hid (wr.heap.size ≤ db ∧ db < wD.heap.size ∧ bb ≠ db ∧ bb < wD.heap.size) := Lib.hid ⟨by omega, KD.lt, by omega, by have := hBD.size; omega⟩
          rw [hwD, hdb]
          have HKD := Lib.hid KD
          have HSTL := Lib.hid hats
          have HST := Lib.hid hst
          have HPO := Lib.hid hdst
          clear hwD hdb hsz2 KD hBD hBB0 KB b0 b1 b2 a1 a2 hcv hszB z0 z1 z2 hats hst hdst m1 m2 m3 m4 m5 m6 m7 m8 m9 m10
          obtain ⟨ga, rfl⟩ : ∃ ga : Nat, ga = gk := ⟨gk, rfl⟩
          go_upto_region 13 with fail
          go_loopg [9] ns (fun gg s9 w3 => ∃ (j : Nat) (u : Value), j ≤ ns ∧ ns - j ≤ gg ∧ s9 = .int .i64 (j : Int) ∧ Aside (InF wD db 80 92 4 StpC (fun v => [.string nm, .bool ped, .int .i64 (l : Int), .int .i64 (up : Int), v]) w3 u ((stops.take j).mapIdx fun i s => mkStp rs l h s i)))
          case atStart => exact ⟨0, .slice none 0 0, by omega, by omega, rfl, InF.start HKD.out⟩
          case round =>
            obtain ⟨wq, rfl⟩ : ∃ W : World, W = wr := ⟨wr, rfl⟩
            obtain ⟨ji, u, hj, hg3, rfl, hJ⟩ := hrel
            have hB3 : Below wr.heap.size wr wq := InF.under hJ HBD.out HDB.out.1
            have hBw : Below w1.heap.size w1 wq := Bt HBR.out hB3
            have ldb : db < wq.heap.size := hJ.blk.lt
            have lbb : bb < wq.heap.size := Nat.lt_of_lt_of_le HDB.out.2.2.2 hJ.grown.size
            have lob : ob < wq.heap.size := Nat.lt_of_lt_of_le HOA.out (Nat.le_trans HI.out.grown.size hB3.size)
            have KB3 := HKB.out.grown hJ.grown (fun e => HDB.out.2.2.1 (by injection e))
            have KO3 := HI.out.blk.below hB3 HI.out.blk.lt
            have b3 : wq.cell? ⟨bb, 3, none⟩ = some (.slice As ns cs7) := KB3.cell 3
            have d0 : wq.cell? ⟨db, 0, none⟩ = some (.string nm) := hJ.blk.cell 0
            have d1 : wq.cell? ⟨db, 1, none⟩ = some (.bool ped) := hJ.blk.cell 1
            have d2 : wq.cell? ⟨db, 2, none⟩ = some (.int .i64 (l : Int)) := hJ.blk.cell 2
            have d3 : wq.cell? ⟨db, 3, none⟩ = some (.int .i64 (up : Int)) := hJ.blk.cell 3
            have d4 : wq.cell? ⟨db, 4, none⟩ = some u := hJ.blk.cell 4
            have o1 : wq.cell? ⟨ob, 1, none⟩ = some vR := KO3.cell 1
            have o2 : wq.cell? ⟨ob, 2, none⟩ = some v := KO3.cell 2
            have HJ := Lib.hid hJ
            have HB3 := Lib.hid hB3
            clear KB3 KO3 hJ
            by_cases hjt : ji < ns
            · have hjI : (ji : Int) < (ns : Int) := by omega
              have hjd : decide ((ji : Int) < (ns : Int)) = true := decide_eq_true hjI
              have hjl : ji < stops.length := by rw [HNS.out]; exact hjt
              obtain ⟨pl, hpl⟩ : ∃ s, stops[ji] = s := ⟨_, rfl⟩
              have hpok : pl.Ok := by rw [← hpl]; exact HPO.out _ (List.getElem_mem hjl)
              obtain ⟨yt, hyt⟩ : ∃ y, mkStp rs l h pl ji = y := ⟨_, rfl⟩
              have HYT : Hid ((stops.take (ji + 1)).mapIdx (fun i s => mkStp rs l h s i) = (stops.take ji).mapIdx (fun i s => mkStp rs l h s i) ++ [yt]) := Lib.hid (by rw [mapIdx_take _ _ _ hjl, hpl, hyt])
              obtain ⟨sa, csp, eA, hFa, -, ecs, hflp⟩ := HSTL.out ji hjl
              have ecs : csp = pl.cs := by rw [← hpl]; exact ecs
              subst eA
              obtain ⟨p, hpA⟩ : ∃ p, sa.add (ji * 4) = p := ⟨_, rfl⟩
              rw [hpA, ecs] at hflp
              have hpb : p.block < wr.heap.size := by rw [← hpA, block_of_add]; exact Nat.lt_of_lt_of_le (hF _ hFa) (Nat.le_trans HB1.out.size HBR.out.size)
              have hPL := fun W (hb : Below wq.heap.size wq W) => pull_any rs l h pl ji hpok (by omega) (by rw [hrl]; omega) (by rw [hrl]; omega) hft HLB.out.1 HLB.out.2 vR W (HTW.out W (Bt hBw hb)) (fun c => wO.heap.size ≤ c ∧ c < wA.heap.size) (fun c hc => Nat.lt_of_lt_of_le hc.2 (Nat.le_trans HI.out.grown.size (Nat.le_trans HB3.out.size hb.size))) (HRK.out W (grown_belowO HI.out.grown (Bt HB3.out hb)))
              rw [hyt, HQS.out.2] at hPL
              obtain ⟨q0, q1, q2, q3⟩ := pl
              have HPL := Lib.hid hPL
              have HE := Lib.hid (fun W (hb : Below wq.heap.size wq W) => (show W.cell? p = some (.int .u8 (q0 : Int)) ∧ W.cell? ⟨p.block, p.off + 1, none⟩ = some (.int .u8 (q1 : Int)) ∧ W.cell? ⟨p.block, p.off + 2, none⟩ = some (.int .u8 (q2 : Int)) ∧ W.cell? ⟨p.block, p.off + 3, none⟩ = some (.int .u8 (q3 : Int)) from by
                have h := hflp.below (Bt HB3.out hb) hpb
                exact ⟨h.f0 rfl, h.fs 0 rfl, h.fs 1 rfl, h.fs 2 rfl⟩))
              have HS := Lib.hid (fun W (hb : Below wq.heap.size wq W) => (show (W.cell? ⟨bb, 3, none⟩ = some (.slice (some sa) ns cs7) ∧ W.cell? ⟨ob, 1, none⟩ = some vR) ∧ (W.cell? ⟨db, 2, none⟩ = some (.int .i64 (l : Int)) ∧ W.cell? ⟨db, 3, none⟩ = some (.int .i64 (up : Int)) ∧ W.cell? ⟨db, 4, none⟩ = some u) from
                ⟨⟨(Bc hb lbb).trans b3, (Bc hb lob).trans o1⟩, (Bc hb ldb).trans d2, (Bc hb ldb).trans d3, (Bc hb ldb).trans d4⟩))
              have hBBr : ∀ (L : Nat → Bool) (i : Nat) (w w' : World), Below w.heap.size w w' → Below wq.heap.size wq w → Below wq.heap.size wq w' := fun _ _ _ _ h1 h2 => Bt h2 h1
              clear hPL hpl hyt hpok hflp ecs hpb
              go_upto_region 15 with fail
              refine region_blocks (by kernel_rfl) ?_
              refine from_lawW 14 EK15 (fun _ W => Below wq.heap.size wq W) (FK15 bb ob db ns cs7 ji l up sa p u vR q0 q1 q2 q3 wq.heap.size yt) VK15 (by kernel_rfl) rfl (FK15_V _ _ _ _ _ _ _ _ _ _ _ _ _ _ _ _ _ _) (by kernel_rfl) (by kernel_rfl) ((B0 wq).drew) ⟨?_, ?_, ?_, ?_, ?_, ?_, ?_, ?_, ?_, ?_, ?_, ?_, ?_, ?_, trivial⟩ ?_
              · refine OpFactW.value rfl (FK15_below _ _ _ _ _ _ _ _ _ _ _ _ _ _ _ _ _ _) hBBr fun L a w2 hl hf D hb => ?_
                have h0 : sl a 8 = .pointer (some ⟨db, 0, none⟩) := hf 8 (by kernel_rfl)
                refine ⟨.pointer (some ⟨db, 4, none⟩), w2, ?_, B0 _, fun s _ h => h 75 rfl⟩
                unfold sl at h0
                simp at h0
                simp [go_sem, h0]
              · refine OpFactW.value rfl (FK15_below _ _ _ _ _ _ _ _ _ _ _ _ _ _ _ _ _ _) hBBr fun L a w2 hl hf D hb => ?_
                have h0 : sl a 75 = .pointer (some ⟨db, 4, none⟩) := D 0 (by kernel_rfl)
                have es := HS.out w2 hb
                refine ⟨u, w2, ?_, B0 _, fun s _ h => h 76 rfl⟩
                unfold sl at h0
                simp at h0
                simp [go_sem, h0, es]
              · refine OpFactW.value rfl (FK15_below _ _ _ _ _ _ _ _ _ _ _ _ _ _ _ _ _ _) hBBr fun L a w2 hl hf D hb => ?_
                have h0 : sl a 3 = .pointer (some ⟨ob, 0, none⟩) := hf 3 (by kernel_rfl)
                refine ⟨.pointer (some ⟨ob, 1, none⟩), w2, ?_, B0 _, fun s _ h => h 77 rfl⟩
                unfold sl at h0
                simp at h0
                simp [go_sem, h0]
              · refine OpFactW.value rfl (FK15_below _ _ _ _ _ _ _ _ _ _ _ _ _ _ _ _ _ _) hBBr fun L a w2 hl hf D hb => ?_
                have h0 : sl a 77 = .pointer (some ⟨ob, 1, none⟩) := D 2 (by kernel_rfl)
                have es := HS.out w2 hb
                refine ⟨vR, w2, ?_, B0 _, fun s _ h => h 78 rfl⟩
                unfold sl at h0
                simp at h0
                simp [go_sem, h0, es]
              · refine OpFactW.value rfl (FK15_below _ _ _ _ _ _ _ _ _ _ _ _ _ _ _ _ _ _) hBBr fun L a w2 hl hf D hb => ?_
                have h0 : sl a 8 = .pointer (some ⟨db, 0, none⟩) := hf 8 (by kernel_rfl)
                refine ⟨.pointer (some ⟨db, 2, none⟩), w2, ?_, B0 _, fun s _ h => h 79 rfl⟩
                unfold sl at h0
                simp at h0
                simp [go_sem, h0]
              · refine OpFactW.value rfl (FK15_below _ _ _ _ _ _ _ _ _ _ _ _ _ _ _ _ _ _) hBBr fun L a w2 hl hf D hb => ?_
                have h0 : sl a 79 = .pointer (some ⟨db, 2, none⟩) := D 4 (by kernel_rfl)
                have es := HS.out w2 hb
                refine ⟨.agg #[.int .i64 (l : Int), .int .i64 (up : Int)], w2, ?_, B0 _, fun s _ h => h 80 rfl⟩
                unfold sl at h0
                simp at h0
                simp [go_sem, h0, es]
              · refine OpFactW.value rfl (FK15_below _ _ _ _ _ _ _ _ _ _ _ _ _ _ _ _ _ _) hBBr fun L a w2 hl hf D hb => ?_
                have h0 : sl a 6 = .pointer (some ⟨bb, 0, none⟩) := hf 6 (by kernel_rfl)
                refine ⟨.pointer (some ⟨bb, 3, none⟩), w2, ?_, B0 _, fun s _ h => h 81 rfl⟩
                unfold sl at h0
                simp at h0
                simp [go_sem, h0]
              · refine OpFactW.value rfl (FK15_below _ _ _ _ _ _ _ _ _ _ _ _ _ _ _ _ _ _) hBBr fun L a w2 hl hf D hb => ?_
                have h0 : sl a 81 = .pointer (some ⟨bb, 3, none⟩) := D 6 (by kernel_rfl)
                have es := HS.out w2 hb
                refine ⟨.slice (some sa) ns cs7, w2, ?_, B0 _, fun s _ h => h 82 rfl⟩
                unfold sl at h0
                simp at h0
                simp [go_sem, h0, es]
              · refine OpFactW.value rfl (FK15_below _ _ _ _ _ _ _ _ _ _ _ _ _ _ _ _ _ _) hBBr fun L a w2 hl hf D hb => ?_
                have h0 : sl a 9 = .int .i64 (ji : Int) := hf 9 (by kernel_rfl)
                refine ⟨.int .i64 (ji : Int), w2, ?_, B0 _, fun s _ h => h 83 rfl⟩
                unfold sl at h0
                simp [go_sem, h0]
              · refine OpFactW.value rfl (FK15_below _ _ _ _ _ _ _ _ _ _ _ _ _ _ _ _ _ _) hBBr fun L a w2 hl hf D hb => ?_
                have h11 : sl a 82 = .slice (some sa) ns cs7 := D 7 (by kernel_rfl)
                have h12 : sl a 83 = .int .i64 (ji : Int) := D 8 (by kernel_rfl)
                refine ⟨.pointer (some p), w2, ?_, B0 _, fun s _ h => h 84 rfl⟩
                unfold sl at h11 h12
                simp at h11 h12
                simp [go_sem, h11, h12, hjI, hpA]
              · refine OpFactW.value rfl (FK15_below _ _ _ _ _ _ _ _ _ _ _ _ _ _ _ _ _ _) hBBr fun L a w2 hl hf D hb => ?_
                have h0 : sl a 84 = .pointer (some p) := D 9 (by kernel_rfl)
                have es := HE.out w2 hb
                refine ⟨.agg #[.int .u8 (q0 : Int), .int .u8 (q1 : Int), .int .u8 (q2 : Int), .int .u8 (q3 : Int)], w2, ?_, B0 _, fun s _ h => h 85 rfl⟩
                unfold sl at h0
                simp at h0
                simp [go_sem, h0, es]
              · refine OpFactW.value rfl (FK15_below _ _ _ _ _ _ _ _ _ _ _ _ _ _ _ _ _ _) hBBr fun L a w2 hl hf D hb => ?_
                have h0 : sl a 9 = .int .i64 (ji : Int) := hf 9 (by kernel_rfl)
                refine ⟨.int .i64 (ji : Int), w2, ?_, B0 _, fun s _ h => h 86 rfl⟩
                unfold sl at h0
                simp [go_sem, h0]
              · refine OpFactW.call rfl (FK15_below _ _ _ _ _ _ _ _ _ _ _ _ _ _ _ _ _ _) hBBr fun L a w2 hl hf D hb => ?_
                have h11 : sl a 78 = vR := D 3 (by kernel_rfl)
                have h12 : sl a 80 = .agg #[.int .i64 (l : Int), .int .i64 (up : Int)] := D 5 (by kernel_rfl)
                have h13 : sl a 85 = .agg #[.int .u8 (q0 : Int), .int .u8 (q1 : Int), .int .u8 (q2 : Int), .int .u8 (q3 : Int)] := D 10 (by kernel_rfl)
                have h14 : sl a 86 = .int .i64 (ji : Int) := D 11 (by kernel_rfl)
                refine ⟨42, #[vR, .agg #[.int .i64 (l : Int), .int .i64 (up : Int)], .agg #[.int .u8 (q0 : Int), .int .u8 (q1 : Int), .int .u8 (q2 : Int), .int .u8 (q3 : Int)], .int .i64 (ji : Int)], ?_, (HPL.out w2 hb).mono ?_⟩
                · unfold sl at h11 h12 h13 h14
                  simp at h11 h12 h13 h14
                  simp [go_sem, h11, h12, h13, h14]
                · rintro e w' ⟨cs, rfl, hl, hr, hb3⟩
                  exact ⟨_, rfl, hb3, fun s _ h => ⟨cs, h 87 rfl, hl, relStp.mono hr fun b q => ⟨Nat.le_trans (Below.size hb) q.1, q.2⟩⟩⟩
              · refine OpFactW.value rfl (FK15_below _ _ _ _ _ _ _ _ _ _ _ _ _ _ _ _ _ _) hBBr fun L a w2 hl hf D hb => ?_
                obtain ⟨cs, h11, hl, hr⟩ : AggA StpC 4 _ w2 (sl a 87) yt := D 12 (by kernel_rfl)
                obtain ⟨vv, rfl, hs⟩ := id hr
                obtain ⟨A9, c9, rfl, -⟩ := Sl.openF hs
                refine ⟨.slice (some ⟨w2.heap.size, 0, none⟩) 1 1, w2.alloc (.cells #[.string yt.name, .int .i64 yt.num, .int .i64 yt.den, .slice A9 yt.segs.length c9] 92), ?_, Ba (B0 w2) _, fun s _ h => (show RowA StpC 92 4 _ _ (s 88) yt from by rw [h 88 rfl]; exact RowA.new relStp rfl hr)⟩
                unfold sl at h11
                simp at h11
                simp [go_sem, h11]
              intro L9 y9 w9 hb9 hF9
              have e76 := hF9 1 (by decide) rfl
              obtain ⟨g9, cs9, e88, hk9, hl9, hr9⟩ : RowA StpC 92 4 wq.heap.size w9 (y9 88) yt := hF9 13 (by decide) rfl
              simp only [FK15] at e76
              have HB9 := Lib.hid (show Below wq.heap.size wq w9 from hb9)
              have HI9 := Lib.hid (InF.below relStp HJ.out HB9.out)
              have H19 := Lib.hid (StpC.one hr9)
              have HK9 := Lib.hid hk9
              have HR9 := Lib.hid hr9
              have HFX : Hid (∀ b, wq.heap.size ≤ b ∧ b < w9.heap.size → (wD.heap.size ≤ b ∧ b < w9.heap.size) ∧ u.ownBlock ≠ some b) := Lib.hid fun b hb => ⟨⟨Nat.le_trans HJ.out.grown.size hb.1, hb.2⟩, fun e => by have := (HJ.out.own.lt b e).2; omega⟩
              have HLN : Hid (((stops.take ji).mapIdx fun i s => mkStp rs l h s i).length = ji) := Lib.hid (by rw [List.length_mapIdx, List.length_take]; omega)
              have HBS : Hid (wD.heap.size ≤ w9.heap.size) := Lib.hid (Nat.le_trans HJ.out.grown.size HB9.out.size)
              clear hF9 hb9 hk9 hr9
              rw [aft14 (d0 := 75) (d1 := 76) (d2 := 77) (d3 := 78) (d4 := 79) (d5 := 80) (d6 := 81) (d7 := 82) (d8 := 83) (d9 := 84) (d10 := 85) (d11 := 86) (d12 := 87) (d13 := 88) (by kernel_rfl) rfl]
              rw [e76, e88]
              simp only [List.set_cons_succ, List.set_cons_zero]
              refine from_list 17 (by kernel_rfl) (by simp only [List.take_succ_cons, List.take_zero, List.drop_succ_cons, List.drop_zero]; exact rfl) ?_
              (intro Q' hQ' hX; clear hX)
              go_wp2_with (at_builtin; refine wpList_appF elemSt (by omega) rfl _ _ rfl relStp rfl HI9.out.own ji HLN.out ⟨g9, 0, none⟩ 1 cs9 rfl hl9 (flds_blk HK9.out) H19.out (by omega) (by omega) HBS.out yt _ HR9.out HFX.out ?_; intro g cap w8 ho8 hg8 hbel; have HO8 := Lib.hid ho8; have HG8 : Hid (w9.grownBy w8 u.ownBlock) := Lib.hid hg8; have A8 := HI9.out.blk.grown hg8 (HI9.out.ne HDB.out.2.1); have a8 := A8.cell 4; have f8 := A8.frozen 4; simp only [List.getElem?_toArray, List.getElem?_cons_zero, List.getElem?_cons_succ] at a8; clear ho8 hg8 hbel A8)
              refine from_end rfl ?_
              go_wp2_with fail
              go_roundg (ns - (ji + 1))
              case measure => omega
              case rel =>
                refine ⟨ji + 1, .slice (some ⟨g, 0, none⟩) (ji + 1) cap, by omega, by omega, by go_num, (show InF _ _ _ _ _ _ _ _ _ _ from ?_)⟩
                rw [HYT.out]
                exact InF.app relStp HI9.out HO8.out HG8.out HDB.out.2.1 4 rfl
            · obtain rfl : ns = ji := by omega
              have hjd : decide ((ns : Int) < (ns : Int)) = false := decide_eq_false (by omega)
              have hJ := HJ.out
              rw [List.take_of_length_le (by rw [HNS.out]; omega)] at hJ
              have hSU := hJ.own.sl (by rw [List.length_mapIdx, HNS.out]; omega) relStp
              obtain ⟨Au, cu, eu, -⟩ := Sl.openF hSU
              rw [List.length_mapIdx, HNS.out] at eu
              subst eu
              have hDC : DvsC (fun c => wD.heap.size ≤ c ∧ c < wq.heap.size) wq [.string nm, .bool ped, .int .i64 (l : Int), .int .i64 (up : Int), .slice Au ns cu] y := by
                rw [← HY.out, HM.out]
                exact ⟨_, rfl, hSU⟩
              obtain ⟨wE, hwE⟩ : ∃ wE : World, wq.alloc (.cells #[.string nm, .bool ped, .int .i64 (l : Int), .int .i64 (up : Int), .slice Au ns cu] 80) = wE := ⟨_, rfl⟩
              have HBE : Hid (Below wq.heap.size wq wE) := Lib.hid (by rw [← hwE]; exact Ba (B0 wq) _)
              have HFE : Hid (Flds wE ⟨wq.heap.size, 0, none⟩ [.string nm, .bool ped, .int .i64 (l : Int), .int .i64 (up : Int), .slice Au ns cu]) := Lib.hid (by rw [← hwE]; exact Flds.new wq _ _)
              have HIE := Lib.hid (InF.below relDvs HI.out (Bt HB3.out HBE.out))
              have HDC := Lib.hid (relDvs.keep hDC (Agree.below HBE.out fun _ h => h.2))
              have HFX : Hid (∀ b, wD.heap.size ≤ b ∧ b < wq.heap.size → (wA.heap.size ≤ b ∧ b < wE.heap.size) ∧ v.ownBlock ≠ some b) := Lib.hid fun b hb => ⟨⟨Nat.le_trans HI.out.grown.size (Nat.le_trans HBD.out.size hb.1), Nat.lt_of_lt_of_le hb.2 HBE.out.size⟩, fun e => by have := (HI.out.own.lt b e).2; have := HBD.out.size; omega⟩
              have HLN : Hid (((x.divs.take k).mapIdx fun i b => mkDv rs b i).length = k) := Lib.hid (by rw [List.length_mapIdx, List.length_take]; omega)
              have HBS : Hid (wA.heap.size ≤ wE.heap.size) := Lib.hid HIE.out.grown.size
              have oe : wE.cell? ⟨ob, 2, none⟩ = some v := HIE.out.blk.cell 2
              clear hJ HJ hSU hDC
              go_upto_region 8 with (at_builtin; refine wpList_appF elemDv (by omega) rfl _ _ rfl relDvs rfl HIE.out.own k HLN.out ⟨wq.heap.size, 0, none⟩ 1 [.string nm, .bool ped, .int .i64 (l : Int), .int .i64 (up : Int), .slice Au ns cu] rfl rfl HFE.out (by simp [Value.oneCell']) (by omega) (by omega) HBS.out y _ HDC.out HFX.out ?_; intro g cap w8 ho8 hg8 hbel; have HO8 := Lib.hid ho8; have HG8 : Hid (wE.grownBy w8 v.ownBlock) := Lib.hid hg8; have A8 := HIE.out.blk.grown hg8 (HIE.out.ne HOA.out); have a8 := A8.cell 2; have f8 := A8.frozen 2; simp only [List.getElem?_toArray, List.getElem?_cons_zero, List.getElem?_cons_succ] at a8; clear ho8 hg8 hbel A8)
              go_wp2_with fail
              go_roundg (n2 - (k + 1))
              case measure => omega
              case rel =>
                refine ⟨k + 1, .slice (some ⟨g, 0, none⟩) (k + 1) cap, by omega, by omega, by go_num, (show InF _ _ _ _ _ _ _ _ _ _ from ?_)⟩
                rw [HYR.out]
                exact InF.app relDvs HIE.out HO8.out HG8.out HOA.out 2 rfl
        · obtain rfl : n2 = k := by omega
          have hkd : decide ((n2 : Int) < (n2 : Int)) = false := decide_eq_false (by omega)
          rw [List.take_of_length_le (by rw [HN2.out]; omega)] at hI
          obtain ⟨ds, hds⟩ : ∃ ds, (x.divs.mapIdx fun i b => mkDv rs b i) = ds := ⟨_, rfl⟩
          rw [hds] at hI
          have hdl : ds.length = n2 := by rw [← hds, List.length_mapIdx, HN2.out]
          have HDS := Lib.hid hds
          have HID := Lib.hid hI
          have HBC := HBR
          clear HI hI hds HBR
          go_upto_region 19 with fail
          obtain ⟨wC, rfl⟩ : ∃ W : World, W = wr := ⟨wr, rfl⟩
          obtain ⟨vD, rfl⟩ : ∃ u : Value, u = v := ⟨v, rfl⟩
          have hslD := HID.out.own.sl (by rw [hdl]; omega) relDvs
          have HDK := Lib.hid (fun W (hg : wC.grownBy W (some ob)) => (show Sl (fun c => wA.heap.size ≤ c ∧ c < wC.heap.size) 5 (DvsC fun c => wA.heap.size ≤ c ∧ c < wC.heap.size) W vD ds from
            Sl.keepF relDvs hslD (Agree.grown hg fun c hc => ⟨hc.2, fun e => by injection e with e; have := HOA.out; omega⟩)))
          have HRK2 := Lib.hid (fun W (hg : wC.grownBy W (some ob)) => HRK.out W (grown_transO HID.out.grown hg))
          have HOC : Hid (ob < wC.heap.size) := Lib.hid HID.out.blk.lt
          clear z0 z1 z2
          go_loopg [11] n3 (fun gg s11 wr => ∃ (k : Nat) (v : Value), k ≤ n3 ∧ n3 - k ≤ gg ∧ s11 = .int .i64 (k : Int) ∧ Aside (InF wC ob 40 94 5 CpC (fun v => [.string ⟨#[79, 114, 103, 97, 110]⟩, vR, vD, v]) wr v ((x.cpls.take k).mapIdx fun i c => mkCp n2 c i)))
          case atStart => exact ⟨0, .slice none 0 0, by omega, by omega, rfl, InF.start HID.out.blk⟩
          case round =>
            obtain ⟨k, v, hk, hg, rfl, hI⟩ := hrel
            have hBr := InF.under hI HBC.out HO1.out
            obtain ⟨z0, z1, z2⟩ := HSC.out wr hBr
            have HI := Lib.hid hI
            have HBR := Lib.hid hBr
            by_cases hlt : k < n3
            · have hkI : (k : Int) < (n3 : Int) := by omega
              have hkd : decide ((k : Int) < (n3 : Int)) = true := decide_eq_true hkI
              have hkl : k < x.cpls.length := by rw [HN3.out]; exact hlt
              obtain ⟨c, hc⟩ : ∃ c, x.cpls[k] = c := ⟨_, rfl⟩
              have hcok : c.Ok := by rw [← hc]; exact HXO.out.cpls _ (List.getElem_mem hkl)
              have HYR : Hid ((x.cpls.take (k + 1)).mapIdx (fun i c => mkCp n2 c i) = (x.cpls.take k).mapIdx (fun i c => mkCp n2 c i) ++ [mkCp n2 c k]) := Lib.hid (by rw [mapIdx_take _ _ _ hkl, hc])
              obtain ⟨adc, hAc, hfl⟩ := HC.out k hkl wr (Bt HB1.out hBr)
              subst hAc
              obtain ⟨p, hpA⟩ : ∃ p, adc.add (k * 4) = p := ⟨_, rfl⟩
              rw [hpA, hc] at hfl
              obtain ⟨src, dst, csh, thr⟩ := c
              dsimp only at hfl
              have p0 := hfl.f0 rfl
              have p1 := hfl.fs 0 rfl
              have p2 := hfl.fs 1 rfl
              have p3 := hfl.fs 2 rfl
              obtain ⟨hcs, hcd, hch⟩ := hcok
              dsimp only at hcs hcd hch
              obtain ⟨lb, hlb⟩ : ∃ lb, wr.heap.size = lb := ⟨_, rfl⟩
              obtain ⟨wL, hwL⟩ : ∃ wL : World, wr.alloc (.cells #[.int .u8 (src : Int), .int .u8 (dst : Int), .int .i8 csh, .bool thr] 137) = wL := ⟨_, rfl⟩
              have KL : Blk wL lb 137 #[.int .u8 (src : Int), .int .u8 (dst : Int), .int .i8 csh, .bool thr] := by rw [← hwL, ← hlb]; exact Blk.new _ _ _
              have HBL : Hid (Below wr.heap.size wr wL) := Lib.hid (by rw [← hwL]; exact Ba (B0 wr) _)
              clear hI hc hfl
              go_upto_region 22 with fail
              clear p0 p1 p2 p3
              obtain ⟨f, hf⟩ : ∃ f, src % n2 = f := ⟨_, rfl⟩
              obtain ⟨t, ht⟩ : ∃ t, dst % n2 = t := ⟨_, rfl⟩
              obtain ⟨s9, hs9⟩ : ∃ s, csh.tmod 25 = s := ⟨_, rfl⟩
              obtain ⟨dg, hdg⟩ : ∃ dg, digS k = dg := ⟨_, rfl⟩
              obtain ⟨nm, hnm9⟩ : ∃ nm, (⟨#[67]⟩ : ByteArray) ++ dg = nm := ⟨_, rfl⟩
              have hdl : 1 + dg.size ≤ 9223372036854775807 := by rw [← hdg]; show 1 + 1 ≤ _; omega
              have HCV := Lib.hid (fun W g (h : Blk W g 5 #[.int .u8 (48 + (k : Int))]) => dig_conv k (by omega) W g h)
              rw [hdg] at HCV
              have HMK : Hid (mkCp n2 ⟨src, dst, csh, thr⟩ k = ⟨nm, (f : Int), (t : Int), if f = t ∧ s9 = 0 then 12 else s9, thr⟩) := Lib.hid (by
                unfold mkCp
                dsimp only
                rw [hf, ht, hs9, hdg, hnm9])
              have m1 : IntKind.i64.wrap (src : Int) = (src : Int) := by rw [IntKind.wrap_i64]; omega
              have m2 : (src : Int).tmod (n2 : Int) = (f : Int) := by rw [Int.tmod_eq_emod_of_nonneg (by omega), ← hf]; simp
              have m3 : ¬ n2 = 0 := by omega
              have m4 : IntKind.i64.wrap (dst : Int) = (dst : Int) := by rw [IntKind.wrap_i64]; omega
              have m5 : (dst : Int).tmod (n2 : Int) = (t : Int) := by rw [Int.tmod_eq_emod_of_nonneg (by omega), ← ht]; simp
              have m6 : IntKind.i64.wrap csh = csh := by rw [IntKind.wrap_i64]; omega
              have m7 : csh.tmod 25 = s9 := hs9
              have m9 : IntKind.i64.wrap (48 + (k : Int)) = 48 + (k : Int) := by rw [IntKind.wrap_i64]; omega
              have m10 : IntKind.u8.wrap (48 + (k : Int)) = 48 + (k : Int) := by rw [IntKind.wrap_u8]; omega
              have HS := Lib.hid (fun W (hb : Below wL.heap.size wL W) => (show W.cell? ⟨lb, 0, none⟩ = some (.int .u8 (src : Int)) ∧ W.cell? ⟨lb, 1, none⟩ = some (.int .u8 (dst : Int)) ∧ W.cell? ⟨lb, 2, none⟩ = some (.int .i8 csh) ∧ W.cell? ⟨lb, 3, none⟩ = some (.bool thr) from
                ⟨(Bc hb KL.lt).trans (KL.cell 0), (Bc hb KL.lt).trans (KL.cell 1), (Bc hb KL.lt).trans (KL.cell 2), (Bc hb KL.lt).trans (KL.cell 3)⟩))
              have hBBr : ∀ (L : Nat → Bool) (i : Nat) (w w' : World), Below w.heap.size w w' → Below wL.heap.size wL w → Below wL.heap.size wL w' := fun _ _ _ _ h1 h2 => Bt h2 h1
              clear hwL hf ht hs9 hdg KL
              refine region_blocks (by kernel_rfl) ?_
              refine from_lawW 24 EK22 (fun _ W => Below wL.heap.size wL W) (FK22 lb n2 k src dst f t csh s9 thr dg nm wL.heap.size) VK22 (by kernel_rfl) rfl (FK22_V _ _ _ _ _ _ _ _ _ _ _ _ _) (by kernel_rfl) (by kernel_rfl) ((B0 wL).drew) ⟨?_, ?_, ?_, ?_, ?_, ?_, ?_, ?_, ?_, ?_, ?_, ?_, ?_, ?_, ?_, ?_, ?_, ?_, ?_, ?_, ?_, ?_, ?_, ?_, trivial⟩ ?_
              · refine OpFactW.value rfl (FK22_below _ _ _ _ _ _ _ _ _ _ _ _ _) hBBr fun L a w2 hl hf D hb => ?_
                have h0 : sl a 11 = .int .i64 (k : Int) := hf 11 (by kernel_rfl)
                refine ⟨.int .i64 (k : Int), w2, ?_, B0 _, fun s _ h => h 112 rfl⟩
                unfold sl at h0
                simp [go_sem, h0]
              · refine OpFactW.value rfl (FK22_below _ _ _ _ _ _ _ _ _ _ _ _ _) hBBr fun L a w2 hl hf D hb => ?_
                have h11 : sl a 112 = .int .i64 (k : Int) := D 0 (by kernel_rfl)
                refine ⟨.int .i64 (48 + (k : Int)), w2, ?_, B0 _, fun s _ h => h 113 rfl⟩
                unfold sl at h11
                simp at h11
                simp [go_sem, h11, m9]
              · refine OpFactW.value rfl (FK22_below _ _ _ _ _ _ _ _ _ _ _ _ _) hBBr fun L a w2 hl hf D hb => ?_
                have h11 : sl a 113 = .int .i64 (48 + (k : Int)) := D 1 (by kernel_rfl)
                refine ⟨.int .u8 (48 + (k : Int)), w2, ?_, B0 _, fun s _ h => h 114 rfl⟩
                unfold sl at h11
                simp at h11
                simp [go_sem, h11, m10]
              · refine OpFactW.value rfl (FK22_below _ _ _ _ _ _ _ _ _ _ _ _ _) hBBr fun L a w2 hl hf D hb => ?_
                have h11 : sl a 114 = .int .u8 (48 + (k : Int)) := D 2 (by kernel_rfl)
                refine ⟨.slice (some ⟨w2.heap.size, 0, none⟩) 1 1, w2.alloc (.cells #[.int .u8 (48 + (k : Int))] 5), ?_, Ba (B0 w2) _, fun s _ h => ⟨_, h 115 rfl, Blk.new _ _ _⟩⟩
                unfold sl at h11
                simp at h11
                simp [go_sem, h11]
              · refine OpFactW.value rfl (FK22_below _ _ _ _ _ _ _ _ _ _ _ _ _) hBBr fun L a w2 hl hf D hb => ?_
                obtain ⟨g, h11, hk⟩ : bytA w2 (sl a 115) k := D 3 (by kernel_rfl)
                have hc := HCV.out w2 g hk
                refine ⟨.string dg, w2, ?_, B0 _, fun s _ h => h 116 rfl⟩
                unfold sl at h11
                simp at h11
                simp [go_sem, h11, hc]
              · refine OpFactW.value rfl (FK22_below _ _ _ _ _ _ _ _ _ _ _ _ _) hBBr fun L a w2 hl hf D hb => ?_
                have h11 : sl a 116 = .string dg := D 4 (by kernel_rfl)
                refine ⟨.string nm, w2, ?_, B0 _, fun s _ h => h 117 rfl⟩
                unfold sl at h11
                simp at h11
                simp [go_sem, h11, hnm9, hdl]
              · refine OpFactW.value rfl (FK22_below _ _ _ _ _ _ _ _ _ _ _ _ _) hBBr fun L a w2 hl hf D hb => ?_
                have h0 : sl a 12 = .pointer (some ⟨lb, 0, none⟩) := hf 12 (by kernel_rfl)
                refine ⟨.pointer (some ⟨lb, 0, none⟩), w2, ?_, B0 _, fun s _ h => h 118 rfl⟩
                unfold sl at h0
                simp at h0
                simp [go_sem, h0]
              · refine OpFactW.value rfl (FK22_below _ _ _ _ _ _ _ _ _ _ _ _ _) hBBr fun L a w2 hl hf D hb => ?_
                have h0 : sl a 118 = .pointer (some ⟨lb, 0, none⟩) := D 6 (by kernel_rfl)
                have es := HS.out w2 hb
                refine ⟨.int .u8 (src : Int), w2, ?_, B0 _, fun s _ h => h 119 rfl⟩
                unfold sl at h0
                simp at h0
                simp [go_sem, h0, es]
              · refine OpFactW.value rfl (FK22_below _ _ _ _ _ _ _ _ _ _ _ _ _) hBBr fun L a w2 hl hf D hb => ?_
                have h11 : sl a 119 = .int .u8 (src : Int) := D 7 (by kernel_rfl)
                refine ⟨.int .i64 (src : Int), w2, ?_, B0 _, fun s _ h => h 120 rfl⟩
                unfold sl at h11
                simp at h11
                simp [go_sem, h11, m1]
              · refine OpFactW.value rfl (FK22_below _ _ _ _ _ _ _ _ _ _ _ _ _) hBBr fun L a w2 hl hf D hb => ?_
                have h0 : sl a 10 = .int .i64 (n2 : Int) := hf 10 (by kernel_rfl)
                refine ⟨.int .i64 (n2 : Int), w2, ?_, B0 _, fun s _ h => h 121 rfl⟩
                unfold sl at h0
                simp [go_sem, h0]
              · refine OpFactW.value rfl (FK22_below _ _ _ _ _ _ _ _ _ _ _ _ _) hBBr fun L a w2 hl hf D hb => ?_
                have h11 : sl a 120 = .int .i64 (src : Int) := D 8 (by kernel_rfl)
                have h12 : sl a 121 = .int .i64 (n2 : Int) := D 9 (by kernel_rfl)
                refine ⟨.int .i64 (f : Int), w2, ?_, B0 _, fun s _ h => h 122 rfl⟩
                unfold sl at h11 h12
                simp at h11 h12
                simp [go_sem, h11, h12, m2, m3]
              · refine OpFactW.value rfl (FK22_below _ _ _ _ _ _ _ _ _ _ _ _ _) hBBr fun L a w2 hl hf D hb => ?_
                have h0 : sl a 12 = .pointer (some ⟨lb, 0, none⟩) := hf 12 (by kernel_rfl)
                refine ⟨.pointer (some ⟨lb, 1, none⟩), w2, ?_, B0 _, fun s _ h => h 123 rfl⟩
                unfold sl at h0
                simp at h0
                simp [go_sem, h0]
              · refine OpFactW.value rfl (FK22_below _ _ _ _ _ _ _ _ _ _ _ _ _) hBBr fun L a w2 hl hf D hb => ?_
                have h0 : sl a 123 = .pointer (some ⟨lb, 1, none⟩) := D 11 (by kernel_rfl)
                have es := HS.out w2 hb
                refine ⟨.int .u8 (dst : Int), w2, ?_, B0 _, fun s _ h => h 124 rfl⟩
                unfold sl at h0
                simp at h0
                simp [go_sem, h0, es]
              · refine OpFactW.value rfl (FK22_below _ _ _ _ _ _ _ _ _ _ _ _ _) hBBr fun L a w2 hl hf D hb => ?_
                have h11 : sl a 124 = .int .u8 (dst : Int) := D 12 (by kernel_rfl)
                refine ⟨.int .i64 (dst : Int), w2, ?_, B0 _, fun s _ h => h 125 rfl⟩
                unfold sl at h11
                simp at h11
                simp [go_sem, h11, m4]
              · refine OpFactW.value rfl (FK22_below _ _ _ _ _ _ _ _ _ _ _ _ _) hBBr fun L a w2 hl hf D hb => ?_
                have h0 : sl a 10 = .int .i64 (n2 : Int) := hf 10 (by kernel_rfl)
                refine ⟨.int .i64 (n2 : Int), w2, ?_, B0 _, fun s _ h => h 126 rfl⟩
                unfold sl at h0
                simp [go_sem, h0]
              · refine OpFactW.value rfl (FK22_below _ _ _ _ _ _ _ _ _ _ _ _ _) hBBr fun L a w2 hl hf D hb => ?_
                have h11 : sl a 125 = .int .i64 (dst : Int) := D 13 (by kernel_rfl)
                have h12 : sl a 126 = .int .i64 (n2 : Int) := D 14 (by kernel_rfl)
                refine ⟨.int .i64 (t : Int), w2, ?_, B0 _, fun s _ h => h 127 rfl⟩
                unfold sl at h11 h12
                simp at h11 h12
                simp [go_sem, h11, h12, m5, m3]
              · refine OpFactW.value rfl (FK22_below _ _ _ _ _ _ _ _ _ _ _ _ _) hBBr fun L a w2 hl hf D hb => ?_
                have h0 : sl a 12 = .pointer (some ⟨lb, 0, none⟩) := hf 12 (by kernel_rfl)
                refine ⟨.pointer (some ⟨lb, 2, none⟩), w2, ?_, B0 _, fun s _ h => h 128 rfl⟩
                unfold sl at h0
                simp at h0
                simp [go_sem, h0]
              · refine OpFactW.value rfl (FK22_below _ _ _ _ _ _ _ _ _ _ _ _ _) hBBr fun L a w2 hl hf D hb => ?_
                have h0 : sl a 128 = .pointer (some ⟨lb, 2, none⟩) := D 16 (by kernel_rfl)
                have es := HS.out w2 hb
                refine ⟨.int .i8 csh, w2, ?_, B0 _, fun s _ h => h 129 rfl⟩
                unfold sl at h0
                simp at h0
                simp [go_sem, h0, es]
              · refine OpFactW.value rfl (FK22_below _ _ _ _ _ _ _ _ _ _ _ _ _) hBBr fun L a w2 hl hf D hb => ?_
                have h11 : sl a 129 = .int .i8 csh := D 17 (by kernel_rfl)
                refine ⟨.int .i64 csh, w2, ?_, B0 _, fun s _ h => h 130 rfl⟩
                unfold sl at h11
                simp at h11
                simp [go_sem, h11, m6]
              · refine OpFactW.value rfl (FK22_below _ _ _ _ _ _ _ _ _ _ _ _ _) hBBr fun L a w2 hl hf D hb => ?_
                have h11 : sl a 130 = .int .i64 csh := D 18 (by kernel_rfl)
                refine ⟨.int .i64 s9, w2, ?_, B0 _, fun s _ h => h 131 rfl⟩
                unfold sl at h11
                simp at h11
                simp [go_sem, h11, m7]
              · refine OpFactW.value rfl (FK22_below _ _ _ _ _ _ _ _ _ _ _ _ _) hBBr fun L a w2 hl hf D hb => ?_
                have h0 : sl a 12 = .pointer (some ⟨lb, 0, none⟩) := hf 12 (by kernel_rfl)
                refine ⟨.pointer (some ⟨lb, 3, none⟩), w2, ?_, B0 _, fun s _ h => h 132 rfl⟩
                unfold sl at h0
                simp at h0
                simp [go_sem, h0]
              · refine OpFactW.value rfl (FK22_below _ _ _ _ _ _ _ _ _ _ _ _ _) hBBr fun L a w2 hl hf D hb => ?_
                have h0 : sl a 132 = .pointer (some ⟨lb, 3, none⟩) := D 20 (by kernel_rfl)
                have es := HS.out w2 hb
                refine ⟨.bool thr, w2, ?_, B0 _, fun s _ h => h 133 rfl⟩
                unfold sl at h0
                simp at h0
                simp [go_sem, h0, es]
              · refine OpFactW.value rfl (FK22_below _ _ _ _ _ _ _ _ _ _ _ _ _) hBBr fun L a w2 hl hf D hb => ?_
                have h11 : sl a 117 = .string nm := D 5 (by kernel_rfl)
                have h12 : sl a 122 = .int .i64 (f : Int) := D 10 (by kernel_rfl)
                have h13 : sl a 127 = .int .i64 (t : Int) := D 15 (by kernel_rfl)
                have h14 : sl a 131 = .int .i64 s9 := D 19 (by kernel_rfl)
                have h15 : sl a 133 = .bool thr := D 21 (by kernel_rfl)
                refine ⟨.agg #[.string nm, .int .i64 (f : Int), .int .i64 (t : Int), .int .i64 s9, .bool thr], w2, ?_, B0 _, fun s _ h => h 134 rfl⟩
                unfold sl at h11 h12 h13 h14 h15
                simp at h11 h12 h13 h14 h15
                simp [go_sem, h11, h12, h13, h14, h15]
              · refine OpFactW.value rfl (FK22_below _ _ _ _ _ _ _ _ _ _ _ _ _) hBBr fun L a w2 hl hf D hb => ?_
                refine ⟨.pointer (some ⟨w2.heap.size, 0, none⟩), w2.alloc (.cells cpl0 94), ?_, Ba (B0 w2) _, fun s _ h => ⟨_, h 13 rfl, Below.size hb, Blk.new _ _ _⟩⟩
                unfold cpl0
                simp [go_sem]
              intro L9 y9 w9 hb9 hF9
              have e134 := hF9 22 (by decide) rfl
              obtain ⟨cb, e13, hcb, hK9⟩ : cplA w9 (y9 13) wL.heap.size := hF9 23 (by decide) rfl
              simp only [FK22] at e134
              have f0 := hK9.frozen 0
              have f1 := hK9.frozen 1
              have f2 := hK9.frozen 2
              have f3 := hK9.frozen 3
              have f4 := hK9.frozen 4
              have s0 := hK9.cell 0
              have s1 := hK9.cell 1
              have s2 := hK9.cell 2
              have s3 := hK9.cell 3
              have s4 := hK9.cell 4
              unfold cpl0 at s0 s1 s2 s3 s4
              simp only [List.getElem?_toArray, List.getElem?_cons_zero, List.getElem?_cons_succ] at s0 s1 s2 s3 s4
              have HB9 := Lib.hid (show Below wL.heap.size wL w9 from hb9)
              have HK9 := Lib.hid hK9
              clear hF9 hb9 hK9 m1 m2 m3 m4 m5 m6 m7 m9 m10 hnm9 hdl
              rw [aft24 (d0 := 112) (d1 := 113) (d2 := 114) (d3 := 115) (d4 := 116) (d5 := 117) (d6 := 118) (d7 := 119) (d8 := 120) (d9 := 121) (d10 := 122) (d11 := 123) (d12 := 124) (d13 := 125) (d14 := 126) (d15 := 127) (d16 := 128) (d17 := 129) (d18 := 130) (d19 := 131) (d20 := 132) (d21 := 133) (d22 := 134) (d23 := 13) (by kernel_rfl) rfl]
              rw [e134, e13]
              simp only [List.set_cons_succ, List.set_cons_zero]
              refine from_list 25 (by kernel_rfl) (by simp only [List.take_succ_cons, List.take_zero, List.drop_succ_cons, List.drop_zero]; exact rfl) ?_
              (intro Q' hQ' hX; clear hX)
              go_wp2_with fail
              refine from_end rfl ?_
              obtain ⟨wM, hwM⟩ : ∃ wM : World, (((((w9.setCell ⟨cb, 0, none⟩ (.string nm)).setCell ⟨cb, 1, none⟩ (.int .i64 (f : Int))).setCell ⟨cb, 2, none⟩ (.int .i64 (t : Int))).setCell ⟨cb, 3, none⟩ (.int .i64 s9)).setCell ⟨cb, 4, none⟩ (.bool thr)) = wM := ⟨_, rfl⟩
              have HKM : Hid (Blk wM cb 94 #[.string nm, .int .i64 (f : Int), .int .i64 (t : Int), .int .i64 s9, .bool thr]) := Lib.hid (by
                rw [← hwM]
                have h := ((((HK9.out.set_ 0 (.string nm)).set_ 1 (.int .i64 (f : Int))).set_ 2 (.int .i64 (t : Int))).set_ 3 (.int .i64 s9)).set_ 4 (.bool thr)
                unfold cpl0 at h
                simpa using h)
              have HCB : Hid (wr.heap.size ≤ cb) := Lib.hid (Nat.le_trans HBL.out.size hcb)
              have HBM : Hid (Below wr.heap.size wr wM) := Lib.hid (by rw [← hwM]; exact Bs (Bs (Bs (Bs (Bs (Bt HBL.out HB9.out) _ HCB.out) _ HCB.out) _ HCB.out) _ HCB.out) _ HCB.out)
              rw [hwM]
              clear hwM s0 s1 s2 s3 s4 f0 f1 f2 f3 f4
              have k0 : wM.cell? ⟨cb, 0, none⟩ = some (.string nm) := HKM.out.cell 0
              have k1 : wM.cell? ⟨cb, 1, none⟩ = some (.int .i64 (f : Int)) := HKM.out.cell 1
              have k2 : wM.cell? ⟨cb, 2, none⟩ = some (.int .i64 (t : Int)) := HKM.out.cell 2
              have k3 : wM.cell? ⟨cb, 3, none⟩ = some (.int .i64 s9) := HKM.out.cell 3
              have k4 : wM.cell? ⟨cb, 4, none⟩ = some (.bool thr) := HKM.out.cell 4
              have fk3 := HKM.out.frozen 3
              have hcase : (¬ f = t) ∨ (f = t ∧ ¬ s9 = 0) ∨ (f = t ∧ s9 = 0) := by
                by_cases h1 : f = t
                · by_cases h2 : s9 = 0
                  · exact .inr (.inr ⟨h1, h2⟩)
                  · exact .inr (.inl ⟨h1, h2⟩)
                · exact .inl h1
              rcases hcase with hne | ⟨hft, hs0⟩ | ⟨hft, hs0⟩
              · have hnd : decide ((f : Int) = (t : Int)) = false := decide_eq_false (by omega)
                have hy : mkCp n2 ⟨src, dst, csh, thr⟩ k = ⟨nm, (f : Int), (t : Int), s9, thr⟩ := by
                  rw [HMK.out]
                  rw [if_neg (fun q => hne q.1)]
                obtain ⟨wE, hwE⟩ : ∃ wE : World, wM.alloc (.cells #[.string nm, .int .i64 (f : Int), .int .i64 (t : Int), .int .i64 s9, .bool thr] 94) = wE := ⟨_, rfl⟩
                have HBE : Hid (Below wr.heap.size wr wE) := Lib.hid (by rw [← hwE]; exact Ba HBM.out _)
                have HFE : Hid (Flds wE ⟨wM.heap.size, 0, none⟩ [.string nm, .int .i64 (f : Int), .int .i64 (t : Int), .int .i64 s9, .bool thr]) := Lib.hid (by rw [← hwE]; exact Flds.new wM _ _)
                have HIE := Lib.hid (InF.below relCpl HI.out HBE.out)
                have HLN : Hid (((x.cpls.take k).mapIdx fun i c => mkCp n2 c i).length = k) := Lib.hid (by rw [List.length_mapIdx, List.length_take]; omega)
                have HBS : Hid (wC.heap.size ≤ wE.heap.size) := Lib.hid HIE.out.grown.size
                have HDC : Hid (CpC (fun _ => False) wE [.string nm, .int .i64 (f : Int), .int .i64 (t : Int), .int .i64 s9, .bool thr] (mkCp n2 ⟨src, dst, csh, thr⟩ k)) := Lib.hid (by rw [hy]; exact rfl)
                have oe : wE.cell? ⟨ob, 3, none⟩ = some v := HIE.out.blk.cell 3
                have on : wM.cell? ⟨ob, 3, none⟩ = some v := (Bc HBM.out HI.out.blk.lt).trans (HI.out.blk.cell 3)
                have k0 := Blk.cell HKM.out 0
                have k1 := Blk.cell HKM.out 1
                have k2 := Blk.cell HKM.out 2
                have k3 := Blk.cell HKM.out 3
                have k4 := Blk.cell HKM.out 4
                simp only [List.getElem?_toArray, List.getElem?_cons_zero, List.getElem?_cons_succ] at k0 k1 k2 k3 k4
                clear hy
                go_upto_region 20 with (at_builtin; refine wpList_appF elemCpl (by omega) rfl _ _ rfl relCpl rfl HIE.out.own k HLN.out ⟨wM.heap.size, 0, none⟩ 1 [.string nm, .int .i64 (f : Int), .int .i64 (t : Int), .int .i64 s9, .bool thr] rfl rfl HFE.out (by simp [Value.oneCell']) (by omega) (by omega) HBS.out _ _ HDC.out (fun _ q => absurd q id) ?_; intro g cap w8 ho8 hg8 hbel; have HO8 := Lib.hid ho8; have HG8 : Hid (wE.grownBy w8 v.ownBlock) := Lib.hid hg8; have A8 := HIE.out.blk.grown hg8 (HIE.out.ne HOC.out); have a8 := A8.cell 3; have f8 := A8.frozen 3; simp only [List.getElem?_toArray, List.getElem?_cons_zero, List.getElem?_cons_succ] at a8; clear ho8 hg8 hbel A8)
                go_wp2_with fail
                go_roundg (n3 - (k + 1))
                case measure => omega
                case rel =>
                  refine ⟨k + 1, .slice (some ⟨g, 0, none⟩) (k + 1) cap, by omega, by omega, by go_num, (show InF _ _ _ _ _ _ _ _ _ _ from ?_)⟩
                  rw [HYR.out]
                  exact InF.app relCpl HIE.out HO8.out HG8.out HOC.out 3 rfl
              · subst hft
                have hy : mkCp n2 ⟨src, dst, csh, thr⟩ k = ⟨nm, (f : Int), (f : Int), s9, thr⟩ := by
                  rw [HMK.out]
                  rw [if_neg (fun q => hs0 q.2)]
                obtain ⟨wE, hwE⟩ : ∃ wE : World, wM.alloc (.cells #[.string nm, .int .i64 (f : Int), .int .i64 (f : Int), .int .i64 s9, .bool thr] 94) = wE := ⟨_, rfl⟩
                have HBE : Hid (Below wr.heap.size wr wE) := Lib.hid (by rw [← hwE]; exact Ba HBM.out _)
                have HFE : Hid (Flds wE ⟨wM.heap.size, 0, none⟩ [.string nm, .int .i64 (f : Int), .int .i64 (f : Int), .int .i64 s9, .bool thr]) := Lib.hid (by rw [← hwE]; exact Flds.new wM _ _)
                have HIE := Lib.hid (InF.below relCpl HI.out HBE.out)
                have HLN : Hid (((x.cpls.take k).mapIdx fun i c => mkCp n2 c i).length = k) := Lib.hid (by rw [List.length_mapIdx, List.length_take]; omega)
                have HBS : Hid (wC.heap.size ≤ wE.heap.size) := Lib.hid HIE.out.grown.size
                have HDC : Hid (CpC (fun _ => False) wE [.string nm, .int .i64 (f : Int), .int .i64 (f : Int), .int .i64 s9, .bool thr] (mkCp n2 ⟨src, dst, csh, thr⟩ k)) := Lib.hid (by rw [hy]; exact rfl)
                have oe : wE.cell? ⟨ob, 3, none⟩ = some v := HIE.out.blk.cell 3
                have on : wM.cell? ⟨ob, 3, none⟩ = some v := (Bc HBM.out HI.out.blk.lt).trans (HI.out.blk.cell 3)
                have k0 := Blk.cell HKM.out 0
                have k1 := Blk.cell HKM.out 1
                have k2 := Blk.cell HKM.out 2
                have k3 := Blk.cell HKM.out 3
                have k4 := Blk.cell HKM.out 4
                simp only [List.getElem?_toArray, List.getElem?_cons_zero, List.getElem?_cons_succ] at k0 k1 k2 k3 k4
                clear hy
                go_upto_region 20 with (at_builtin; refine wpList_appF elemCpl (by omega) rfl _ _ rfl relCpl rfl HIE.out.own k HLN.out ⟨wM.heap.size, 0, none⟩ 1 [.string nm, .int .i64 (f : Int), .int .i64 (f : Int), .int .i64 s9, .bool thr] rfl rfl HFE.out (by simp [Value.oneCell']) (by omega) (by omega) HBS.out _ _ HDC.out (fun _ q => absurd q id) ?_; intro g cap w8 ho8 hg8 hbel; have HO8 := Lib.hid ho8; have HG8 : Hid (wE.grownBy w8 v.ownBlock) := Lib.hid hg8; have A8 := HIE.out.blk.grown hg8 (HIE.out.ne HOC.out); have a8 := A8.cell 3; have f8 := A8.frozen 3; simp only [List.getElem?_toArray, List.getElem?_cons_zero, List.getElem?_cons_succ] at a8; clear ho8 hg8 hbel A8)
                go_wp2_with fail
                go_roundg (n3 - (k + 1))
                case measure => omega
                case rel =>
                  refine ⟨k + 1, .slice (some ⟨g, 0, none⟩) (k + 1) cap, by omega, by omega, by go_num, (show InF _ _ _ _ _ _ _ _ _ _ from ?_)⟩
                  rw [HYR.out]
                  exact InF.app relCpl HIE.out HO8.out HG8.out HOC.out 3 rfl
              · subst hft
                subst hs0
                go_upto_region 25 with fail
                obtain ⟨wN, hwN⟩ : ∃ wN : World, wM.setCell ⟨cb, 3, none⟩ (.int .i64 12) = wN := ⟨_, rfl⟩
                have HKN : Hid (Blk wN cb 94 #[.string nm, .int .i64 (f : Int), .int .i64 (f : Int), .int .i64 12, .bool thr]) := Lib.hid (by
                  rw [← hwN]
                  have h := HKM.out.set_ 3 (.int .i64 12)
                  simpa using h)
                have HBN : Hid (Below wr.heap.size wr wN) := Lib.hid (by rw [← hwN]; exact Bs HBM.out _ HCB.out)
                rw [hwN]
                clear hwN k0 k1 k2 k3 k4
                have hy : mkCp n2 ⟨src, dst, csh, thr⟩ k = ⟨nm, (f : Int), (f : Int), 12, thr⟩ := by
                  rw [HMK.out]
                  rw [if_pos ⟨rfl, rfl⟩]
                obtain ⟨wE, hwE⟩ : ∃ wE : World, wN.alloc (.cells #[.string nm, .int .i64 (f : Int), .int .i64 (f : Int), .int .i64 12, .bool thr] 94) = wE := ⟨_, rfl⟩
                have HBE : Hid (Below wr.heap.size wr wE) := Lib.hid (by rw [← hwE]; exact Ba HBN.out _)
                have HFE : Hid (Flds wE ⟨wN.heap.size, 0, none⟩ [.string nm, .int .i64 (f : Int), .int .i64 (f : Int), .int .i64 12, .bool thr]) := Lib.hid (by rw [← hwE]; exact Flds.new wN _ _)
                have HIE := Lib.hid (InF.below relCpl HI.out HBE.out)
                have HLN : Hid (((x.cpls.take k).mapIdx fun i c => mkCp n2 c i).length = k) := Lib.hid (by rw [List.length_mapIdx, List.length_take]; omega)
                have HBS : Hid (wC.heap.size ≤ wE.heap.size) := Lib.hid HIE.out.grown.size
                have HDC : Hid (CpC (fun _ => False) wE [.string nm, .int .i64 (f : Int), .int .i64 (f : Int), .int .i64 12, .bool thr] (mkCp n2 ⟨src, dst, csh, thr⟩ k)) := Lib.hid (by rw [hy]; exact rfl)
                have oe : wE.cell? ⟨ob, 3, none⟩ = some v := HIE.out.blk.cell 3
                have on : wN.cell? ⟨ob, 3, none⟩ = some v := (Bc HBN.out HI.out.blk.lt).trans (HI.out.blk.cell 3)
                have k0 := Blk.cell HKN.out 0
                have k1 := Blk.cell HKN.out 1
                have k2 := Blk.cell HKN.out 2
                have k3 := Blk.cell HKN.out 3
                have k4 := Blk.cell HKN.out 4
                simp only [List.getElem?_toArray, List.getElem?_cons_zero, List.getElem?_cons_succ] at k0 k1 k2 k3 k4
                clear hy
                go_upto_region 20 with (at_builtin; refine wpList_appF elemCpl (by omega) rfl _ _ rfl relCpl rfl HIE.out.own k HLN.out ⟨wN.heap.size, 0, none⟩ 1 [.string nm, .int .i64 (f : Int), .int .i64 (f : Int), .int .i64 12, .bool thr] rfl rfl HFE.out (by simp [Value.oneCell']) (by omega) (by omega) HBS.out _ _ HDC.out (fun _ q => absurd q id) ?_; intro g cap w8 ho8 hg8 hbel; have HO8 := Lib.hid ho8; have HG8 : Hid (wE.grownBy w8 v.ownBlock) := Lib.hid hg8; have A8 := HIE.out.blk.grown hg8 (HIE.out.ne HOC.out); have a8 := A8.cell 3; have f8 := A8.frozen 3; simp only [List.getElem?_toArray, List.getElem?_cons_zero, List.getElem?_cons_succ] at a8; clear ho8 hg8 hbel A8)
                go_wp2_with fail
                go_roundg (n3 - (k + 1))
                case measure => omega
                case rel =>
                  refine ⟨k + 1, .slice (some ⟨g, 0, none⟩) (k + 1) cap, by omega, by omega, by go_num, (show InF _ _ _ _ _ _ _ _ _ _ from ?_)⟩
                  rw [HYR.out]
                  exact InF.app relCpl HIE.out HO8.out HG8.out HOC.out 3 rfl
            · obtain rfl : n3 = k := by omega
              have hkd : decide ((n3 : Int) < (n3 : Int)) = false := decide_eq_false (by omega)
              rw [List.take_of_length_le (by rw [HN3.out]; omega)] at hI
              obtain ⟨cl, hcl⟩ : ∃ cl, (x.cpls.mapIdx fun i c => mkCp n2 c i) = cl := ⟨_, rfl⟩
              rw [hcl] at hI
              have hcl3 : cl.length = n3 := by rw [← hcl, List.length_mapIdx, HN3.out]
              have HCLS := Lib.hid hcl
              have hsR := HRK2.out wr hI.grown
              have hsD := HDK.out wr hI.grown
              have hsC := hI.own.sl (by rw [hcl3]; omega) relCpl
              obtain ⟨AR, cR, eR, -⟩ := Sl.openF hsR
              obtain ⟨AD, cD, eD, -⟩ := Sl.openF hsD
              obtain ⟨AC, cC, eC, -⟩ := Sl.openF hsC
              rw [hrl] at eR
              rw [hdl] at eD
              rw [hcl3] at eC
              subst eR eD eC
              have o0 : wr.cell? ⟨ob, 0, none⟩ = some (.string ⟨#[79, 114, 103, 97, 110]⟩) := hI.blk.cell 0
              have o1 : wr.cell? ⟨ob, 1, none⟩ = some (.slice AR n1 cR) := hI.blk.cell 1
              have o2 : wr.cell? ⟨ob, 2, none⟩ = some (.slice AD n2 cD) := hI.blk.cell 2
              have o3 : wr.cell? ⟨ob, 3, none⟩ = some (.slice AC n3 cC) := hI.blk.cell 3
              have KRes := HC2.out.below HBR.out HC2.out.lt
              have y0 := KRes.cell 0
              have y1 := KRes.cell 1
              have y2 := KRes.cell 2
              have y3 := KRes.cell 3
              unfold org0 at y0 y1 y2 y3
              simp only [List.getElem?_toArray, List.getElem?_cons_zero, List.getElem?_cons_succ] at y0 y1 y2 y3
              have f0 := KRes.frozen 0
              have f1 := KRes.frozen 1
              have f2 := KRes.frozen 2
              have f3 := KRes.frozen 3
              have HKR := Lib.hid KRes
              have HOG : Hid (mkOg x = ⟨⟨#[79, 114, 103, 97, 110]⟩, rs, ds, cl⟩) := Lib.hid (by
                unfold mkOg
                rw [HRS.out, HDS.out, HN2.out, HCLS.out])
              have HSR := Lib.hid hsR
              have HSD := Lib.hid hsD
              have HSCP := Lib.hid hsC
              have HWA : Hid (w.heap.size ≤ wO.heap.size ∧ w.heap.size ≤ wA.heap.size ∧ w.heap.size ≤ wC.heap.size ∧ wA.heap.size ≤ wr.heap.size ∧ wC.heap.size ≤ wr.heap.size ∧ b + 1 < wO.heap.size ∧ b + 1 < wA.heap.size ∧ b + 1 < wC.heap.size) := Lib.hid (by
                have h1 := HB1.out.size
                have h2 := HBO.out.size
                have h3 := HOS.out
                have h4 := HID.out.grown.size
                have h5 := hI.grown.size
                omega)
              clear HI hI HRK HRK2 HDK HID hsR hsD hsC KRes hslR hslD hcl
              go_upto_region 26 with fail
              go_wp2_with fail
              obtain ⟨W8, hW8⟩ : ∃ W8 : World, ((((wr.setCell ⟨b + 1, 0, none⟩ (.string ⟨#[79, 114, 103, 97, 110]⟩)).setCell ⟨b + 1, 1, none⟩ (.slice AR n1 cR)).setCell ⟨b + 1, 2, none⟩ (.slice AD n2 cD)).setCell ⟨b + 1, 3, none⟩ (.slice AC n3 cC)) = W8 := ⟨_, rfl⟩
              rw [hW8]
              have KZ : Blk W8 (b + 1) 40 #[.string ⟨#[79, 114, 103, 97, 110]⟩, .slice AR n1 cR, .slice AD n2 cD, .slice AC n3 cC] := by
                rw [← hW8]
                have h := (((HKR.out.set_ 0 (.string ⟨#[79, 114, 103, 97, 110]⟩)).set_ 1 (.slice AR n1 cR)).set_ 2 (.slice AD n2 cD)).set_ 3 (.slice AC n3 cC)
                unfold org0 at h
                simpa using h
              have HBZ : Below w.heap.size wr W8 := by
                have h1 : w.heap.size ≤ b + 1 := by rw [HBB.out]; omega
                have h0 : Below w.heap.size wr wr := Below.refl _ wr
                rw [← hW8]
                exact (((h0.setCell h1 _).setCell h1 _).setCell h1 _).setCell h1 _
              have HSW : W8.heap.size = wr.heap.size := by rw [← hW8]; simp [World.setCell]
              have HAG : ∀ F : Nat → Prop, (∀ c, F c → b + 1 < c) → Agree F wr W8 := fun F hF => by
                have h1 : ∀ c, F c → c ≠ b + 1 := fun c hc e => by have := hF c hc; omega
                rw [← hW8]
                exact (((Agree.setCell _ h1).trans (Agree.setCell _ h1)).trans (Agree.setCell _ h1)).trans (Agree.setCell _ h1)
              have x0 := KZ.cell 0
              have x1 := KZ.cell 1
              have x2 := KZ.cell 2
              have x3 := KZ.cell 3
              simp only [List.getElem?_toArray, List.getElem?_cons_zero, List.getElem?_cons_succ] at x0 x1 x2 x3
              obtain ⟨g1, g2, g3, g4, g5, g6, g7, g8⟩ := HWA.out
              refine bodyPost_ret (v := .agg #[.string ⟨#[79, 114, 103, 97, 110]⟩, .slice AR n1 cR, .slice AD n2 cD, .slice AC n3 cC]) (by simp [results, Tryz.f16, go_sem, x0, x1, x2, x3]) rfl ?_
              refine ⟨_, rfl, rfl, ?_, (HB1.out.trans (Below.mono HBR.out HB1.out.size)).trans HBZ⟩
              rw [HOG.out, HSW]
              refine ⟨_, _, _, rfl, ?_, ?_, ?_⟩
              · exact Sl.monoF relRnk (Sl.keepF relRnk HSR.out (HAG _ fun c hc => by omega)) fun c hc => ⟨by omega, by omega⟩
              · exact Sl.monoF relDvs (Sl.keepF relDvs HSD.out (HAG _ fun c hc => by omega)) fun c hc => ⟨by omega, by omega⟩
              · exact Sl.monoF relCpl (Sl.keepF relCpl HSCP.out (HAG _ fun c hc => by omega)) fun c hc => ⟨by omega, by omega⟩
end Go.Proofs.YtnfpjcjlapljjaaGreatDoor
