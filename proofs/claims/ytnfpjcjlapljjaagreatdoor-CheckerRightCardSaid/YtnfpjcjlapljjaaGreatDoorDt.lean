/- Walk over law 54: spoiled, a sound with a change. Condition: the sound's lists have at most 1000 members, and its stops and keys are as many as its divisions. -/
import Derived.Test.YtnfpjcjlapljjaaGreatDoorDu2
import Derived.Deep.CutBlock
import Derived.Deep.DeepCutAuto
import Derived.Deep.MidRow
namespace Go.Proofs.YtnfpjcjlapljjaaGreatDoor
open Go Go.RowKit Go.Shelf
open Org
structure SpOk (s : Snd) : Prop where
  num : s.Num
  r1 : 1 ≤ s.o.ranks.length
  d1 : 1 ≤ s.o.divs.length
  r9 : s.o.ranks.length ≤ 1000
  d9 : s.o.divs.length ≤ 1000
  c9 : s.o.cpls.length ≤ 1000
  t9 : ∀ d ∈ s.o.divs, d.stops.length ≤ 1000
  st : s.r.stops.length = s.o.divs.length
  ky : s.keys.length = s.o.divs.length
theorem CpC.one {F : Nat → Prop} {w : World} {cs : List Value} {y : Cpl} (h : CpC F w cs y) : ∀ u ∈ cs, u.oneCell' = true := by
  rw [show cs = _ from h]
  simp [Value.oneCell']
theorem U64R.one {F : Nat → Prop} {w : World} {cs : List Value} {y : Nat} (h : U64R F w cs y) : ∀ u ∈ cs, u.oneCell' = true := by
  rw [show cs = _ from h]
  simp [Value.oneCell']
theorem NtR.one {F : Nat → Prop} {w : World} {cs : List Value} {y : Nat} (h : NtR F w cs y) : ∀ u ∈ cs, u.oneCell' = true := by
  rw [show cs = _ from h]
  simp [Value.oneCell']
/-- What holds behind each operation of a drawn region. -/
def FS17 (F : Nat → Prop) (db b1 ls ct lim : Nat) (byy : Int) (At : Option Addr) (sts : List Stp) (j : Nat) (s : Nat → Value) (w : World) : Prop :=
  match j with
  | 0 => nilS (s 83)
  | 1 => s 84 = .pointer (some ⟨db, 4, none⟩)
  | 2 => s 85 = .slice At ls ct
  | 3 => stC F lim w (s 86) sts
  | 4 => s 87 = .pointer (some ⟨b1, 2, none⟩)
  | 5 => s 88 = .int .i64 byy
  | 6 => s 89 = .agg #[.int .i64 byy, .int .i64 0]
  | 7 => rw1 DrC 86 2 lim w (s 90) ⟨byy, 0⟩
  | 8 => ag1 SegC 3 lim w (s 91) ⟨0, 127, [⟨byy, 0⟩]⟩
  | 9 => rw1 SegC 89 3 lim w (s 92) ⟨0, 127, [⟨byy, 0⟩]⟩
  | 10 => ag1 StpC 4 lim w (s 93) ⟨⟨#[]⟩, 0, 0, [⟨0, 127, [⟨byy, 0⟩]⟩]⟩
  | 11 => rw1 StpC 92 4 lim w (s 94) ⟨⟨#[]⟩, 0, 0, [⟨0, 127, [⟨byy, 0⟩]⟩]⟩
  | 12 => stF F lim w (s 95) (sts ++ [(⟨⟨#[]⟩, 0, 0, [⟨0, 127, [⟨byy, 0⟩]⟩]⟩ : Stp)]) ∧ ∀ c, F c → c < w.heap.size
  | _ => True
def VS17 (j : Nat) : List Nat := match j with
  | 0 => [83] | 1 => [84] | 2 => [85] | 3 => [86] | 4 => [87] | 5 => [88] | 6 => [89] | 7 => [90] | 8 => [91] | 9 => [92] | 10 => [93] | 11 => [94] | 12 => [95] | _ => []
def ES17 (j : Nat) : Bool := j == 12
theorem FS17_V (F : Nat → Prop) (db b1 ls ct lim : Nat) (byy : Int) (At : Option Addr) (sts : List Stp) (j : Nat) (s s' : Nat → Value) (w : World) (h : ∀ t, t ∈ VS17 j → s' t = s t) (hF : FS17 F db b1 ls ct lim byy At sts j s w) : FS17 F db b1 ls ct lim byy At sts j s' w := by
  match j with
  | 0 => unfold FS17 at hF ⊢; simp only at hF ⊢; rw [h 83 (by simp [VS17])]; exact hF
  | 1 => unfold FS17 at hF ⊢; simp only at hF ⊢; rw [h 84 (by simp [VS17])]; exact hF
  | 2 => unfold FS17 at hF ⊢; simp only at hF ⊢; rw [h 85 (by simp [VS17])]; exact hF
  | 3 => unfold FS17 at hF ⊢; simp only at hF ⊢; rw [h 86 (by simp [VS17])]; exact hF
  | 4 => unfold FS17 at hF ⊢; simp only at hF ⊢; rw [h 87 (by simp [VS17])]; exact hF
  | 5 => unfold FS17 at hF ⊢; simp only at hF ⊢; rw [h 88 (by simp [VS17])]; exact hF
  | 6 => unfold FS17 at hF ⊢; simp only at hF ⊢; rw [h 89 (by simp [VS17])]; exact hF
  | 7 => unfold FS17 at hF ⊢; simp only at hF ⊢; rw [h 90 (by simp [VS17])]; exact hF
  | 8 => unfold FS17 at hF ⊢; simp only at hF ⊢; rw [h 91 (by simp [VS17])]; exact hF
  | 9 => unfold FS17 at hF ⊢; simp only at hF ⊢; rw [h 92 (by simp [VS17])]; exact hF
  | 10 => unfold FS17 at hF ⊢; simp only at hF ⊢; rw [h 93 (by simp [VS17])]; exact hF
  | 11 => unfold FS17 at hF ⊢; simp only at hF ⊢; rw [h 94 (by simp [VS17])]; exact hF
  | 12 => unfold FS17 at hF ⊢; simp only at hF ⊢; rw [h 95 (by simp [VS17])]; exact hF
  | _ + 13 => trivial
theorem FS17_below (F : Nat → Prop) (db b1 ls ct lim : Nat) (byy : Int) (At : Option Addr) (sts : List Stp) (j : Nat) (s : Nat → Value) (w w' : World) (hb : Below w.heap.size w w') (hF : FS17 F db b1 ls ct lim byy At sts j s w) : FS17 F db b1 ls ct lim byy At sts j s w' := by
  match j with
  | 0 => exact hF
  | 1 => exact hF
  | 2 => exact hF
  | 3 => exact stC.below hF hb
  | 4 => exact hF
  | 5 => exact hF
  | 6 => exact hF
  | 7 => exact rw1.below relDr hF hb
  | 8 => exact ag1.below relSeg hF hb
  | 9 => exact rw1.below relSeg hF hb
  | 10 => exact ag1.below relStp hF hb
  | 11 => exact rw1.below relStp hF hb
  | 12 => exact ⟨stF.below hF.1 hF.2 hb, fun c hc => Nat.lt_of_lt_of_le (hF.2 c hc) hb.size⟩
  | _ + 13 => trivial
/-- What holds behind each operation of a drawn region. -/
def FS19 (F : Nat → Prop) (db b1 ls ct lim : Nat) (byy : Int) (At : Option Addr) (sts : List Stp) (j : Nat) (s : Nat → Value) (w : World) : Prop :=
  match j with
  | 0 => nilS (s 99)
  | 1 => s 100 = .pointer (some ⟨db, 4, none⟩)
  | 2 => s 101 = .slice At ls ct
  | 3 => stC F lim w (s 102) sts
  | 4 => s 103 = .pointer (some ⟨b1, 2, none⟩)
  | 5 => s 104 = .int .i64 byy
  | 6 => s 105 = .agg #[.int .i64 0, .int .i64 byy]
  | 7 => rw1 DrC 86 2 lim w (s 106) ⟨0, byy⟩
  | 8 => ag1 SegC 3 lim w (s 107) ⟨0, 127, [⟨0, byy⟩]⟩
  | 9 => rw1 SegC 89 3 lim w (s 108) ⟨0, 127, [⟨0, byy⟩]⟩
  | 10 => ag1 StpC 4 lim w (s 109) ⟨⟨#[]⟩, 0, 0, [⟨0, 127, [⟨0, byy⟩]⟩]⟩
  | 11 => rw1 StpC 92 4 lim w (s 110) ⟨⟨#[]⟩, 0, 0, [⟨0, 127, [⟨0, byy⟩]⟩]⟩
  | 12 => stF F lim w (s 111) (sts ++ [(⟨⟨#[]⟩, 0, 0, [⟨0, 127, [⟨0, byy⟩]⟩]⟩ : Stp)]) ∧ ∀ c, F c → c < w.heap.size
  | _ => True
def VS19 (j : Nat) : List Nat := match j with
  | 0 => [99] | 1 => [100] | 2 => [101] | 3 => [102] | 4 => [103] | 5 => [104] | 6 => [105] | 7 => [106] | 8 => [107] | 9 => [108] | 10 => [109] | 11 => [110] | 12 => [111] | _ => []
def ES19 (j : Nat) : Bool := j == 12
theorem FS19_V (F : Nat → Prop) (db b1 ls ct lim : Nat) (byy : Int) (At : Option Addr) (sts : List Stp) (j : Nat) (s s' : Nat → Value) (w : World) (h : ∀ t, t ∈ VS19 j → s' t = s t) (hF : FS19 F db b1 ls ct lim byy At sts j s w) : FS19 F db b1 ls ct lim byy At sts j s' w := by
  match j with
  | 0 => unfold FS19 at hF ⊢; simp only at hF ⊢; rw [h 99 (by simp [VS19])]; exact hF
  | 1 => unfold FS19 at hF ⊢; simp only at hF ⊢; rw [h 100 (by simp [VS19])]; exact hF
  | 2 => unfold FS19 at hF ⊢; simp only at hF ⊢; rw [h 101 (by simp [VS19])]; exact hF
  | 3 => unfold FS19 at hF ⊢; simp only at hF ⊢; rw [h 102 (by simp [VS19])]; exact hF
  | 4 => unfold FS19 at hF ⊢; simp only at hF ⊢; rw [h 103 (by simp [VS19])]; exact hF
  | 5 => unfold FS19 at hF ⊢; simp only at hF ⊢; rw [h 104 (by simp [VS19])]; exact hF
  | 6 => unfold FS19 at hF ⊢; simp only at hF ⊢; rw [h 105 (by simp [VS19])]; exact hF
  | 7 => unfold FS19 at hF ⊢; simp only at hF ⊢; rw [h 106 (by simp [VS19])]; exact hF
  | 8 => unfold FS19 at hF ⊢; simp only at hF ⊢; rw [h 107 (by simp [VS19])]; exact hF
  | 9 => unfold FS19 at hF ⊢; simp only at hF ⊢; rw [h 108 (by simp [VS19])]; exact hF
  | 10 => unfold FS19 at hF ⊢; simp only at hF ⊢; rw [h 109 (by simp [VS19])]; exact hF
  | 11 => unfold FS19 at hF ⊢; simp only at hF ⊢; rw [h 110 (by simp [VS19])]; exact hF
  | 12 => unfold FS19 at hF ⊢; simp only at hF ⊢; rw [h 111 (by simp [VS19])]; exact hF
  | _ + 13 => trivial
theorem FS19_below (F : Nat → Prop) (db b1 ls ct lim : Nat) (byy : Int) (At : Option Addr) (sts : List Stp) (j : Nat) (s : Nat → Value) (w w' : World) (hb : Below w.heap.size w w') (hF : FS19 F db b1 ls ct lim byy At sts j s w) : FS19 F db b1 ls ct lim byy At sts j s w' := by
  match j with
  | 0 => exact hF
  | 1 => exact hF
  | 2 => exact hF
  | 3 => exact stC.below hF hb
  | 4 => exact hF
  | 5 => exact hF
  | 6 => exact hF
  | 7 => exact rw1.below relDr hF hb
  | 8 => exact ag1.below relSeg hF hb
  | 9 => exact rw1.below relSeg hF hb
  | 10 => exact ag1.below relStp hF hb
  | 11 => exact rw1.below relStp hF hb
  | 12 => exact ⟨stF.below hF.1 hF.2 hb, fun c hc => Nat.lt_of_lt_of_le (hF.2 c hc) hb.size⟩
  | _ + 13 => trivial
theorem results_cellB {P : Program} {fn : Func} {t : Tmp} {ty : TypeId} {tmps : Array Value} {w : World} {b : Nat} {cs : List Value} {d : TypeDesc} (h : fn.results = #[.cell t ty]) (ht : tmps.getD t undef = .pointer (some ⟨b, 0, none⟩)) (hc : Blk w b ty cs.toArray)
    (hu : P.underlying ty = some d) (hd : d.isRow = true) (hi : (P.info? ty).map (·.size) = some cs.length) : (results fn tmps).run P w = .ok (.agg cs.toArray) w := by
  have hl := run_loadVar_mid (P := P) w b 0 ty cs d (fun j v hv => by rw [Nat.zero_add, hc.cell j, List.getElem?_toArray]; exact hv) hu hd hi
  simp at ht
  simp [results, h, ht, asAddr, hl]
theorem wpList_storeM {P : Program} {ops : Array Oper} {rest : List Oper} {op : Oper} {a : Act} {w : World} {Q : Exit → Act → World → Prop} (hgd : op.guard = none) (hd : op.dst = none) (ty : TypeId) (x y : Operand) (ho : op.op = .store ty x y)
    (b o : Nat) (cells : Array Value) (hx : a.eval x = .pointer (some ⟨b, o, none⟩)) (hy : a.eval y = .agg cells)
    (ht : w.there b o cells.size) (hi : (P.info? ty).map (·.size) = some cells.size) (h1 : cells.all (·.oneCell') = true)
    (h : ∀ W, w.setCells b o cells.toList = W → wpList P ops Q rest a W) : wpList P ops Q (op :: rest) a w :=
  wpList_store_mid hgd ty x y ho b o cells hx hy ht hi h1 (by rw [hd]; exact h _ rfl)
set_option maxRecDepth 100000 in
set_option maxHeartbeats 4000000 in
theorem spoiled_any (s : Snd) (hs : SpOk s) (ho att : Nat) (hho : ho < 256) (hat : att < 256) (byy : Int) (_hby : -9223372036854775808 ≤ byy ∧ byy ≤ 9223372036854775807) (cs : List Value) (w : World) (F : Nat → Prop) (hF : ∀ c, F c → c < w.heap.size) (hC : SndC F w cs s) :
    Calls Tryz.prog 6 #[.agg cs.toArray, .agg #[.int .u8 (ho : Int), .int .u8 (att : Int), .int .i64 byy]] w fun e w' => ∃ cs' s', e = .returned (.agg cs'.toArray) ∧ SndC (fun c => F c ∨ (w.heap.size ≤ c ∧ c < w'.heap.size)) w' cs' s' ∧ s'.Num ∧ Below w.heap.size w w' := by
  obtain ⟨vr, vd, vc, vs, vk, rfl, hR, hD, hC, hS, hK⟩ := hC
  obtain ⟨⟨on, ors, ods, ocs⟩, ⟨rst, cp, of⟩, kys, rank, num⟩ := s
  dsimp only at hR hD hC hS hK ⊢
  obtain ⟨⟨hn1, hn2, hn3, hn4⟩, hr1, hd1, hr9, hd9, hc9, ht9, hst, hky⟩ := hs
  dsimp only at hn1 hn2 hn3 hn4 hr1 hd1 hr9 hd9 hc9 ht9 hst hky
  obtain ⟨Ar, cr, rfl, -⟩ := Sl.openF hR
  obtain ⟨Ad, cd, rfl, -⟩ := Sl.openF hD
  obtain ⟨Ac, cc, rfl, -⟩ := Sl.openF hC
  obtain ⟨As, c4, rfl, -⟩ := Sl.openF hS
  obtain ⟨Ak, ck, rfl, -⟩ := Sl.openF hK
  have HR := Lib.hid hR
  have HD := Lib.hid hD
  have HC := Lib.hid hC
  have HST := Lib.hid hS
  have HKY := Lib.hid hK
  obtain ⟨nr, hnr⟩ : ∃ n, ors.length = n := ⟨_, rfl⟩
  obtain ⟨nd, hnd⟩ : ∃ n, ods.length = n := ⟨_, rfl⟩
  obtain ⟨nc, hnc⟩ : ∃ n, ocs.length = n := ⟨_, rfl⟩
  have hns : rst.length = nd := hst.trans hnd
  have hnk : kys.length = nd := hky.trans hnd
  have HNR := Lib.hid hnr
  have HND := Lib.hid hnd
  have HNC := Lib.hid hnc
  have HNS := Lib.hid hns
  have HNK := Lib.hid hnk
  have HN1 := Lib.hid hn1
  have HN2 := Lib.hid hn2
  have HT9 := Lib.hid ht9
  rw [hnr] at hr1 hr9
  rw [hnd] at hd1 hd9
  rw [hnc] at hc9
  rw [hnr, hnd, hnc, hns, hnk]
  rw [hnr] at HR
  rw [hnd] at HD
  rw [hnc] at HC
  rw [hns] at HST
  rw [hnk] at HKY
  clear hR hD hC hS hK hnr hnd hnc hns hnk hn1 hn2 ht9 hst hky
  obtain ⟨w1, hw1⟩ : ∃ w1 : World, ((w.alloc (.cells #[.string on, .slice Ar nr cr, .slice Ad nd cd, .slice Ac nc cc, .slice As nd c4, .int .u64 (cp : Int), .int .u64 (of : Int), .slice Ak nd ck, .int .i64 rank, .int .i64 num] 50)).alloc (.cells #[.int .u8 (ho : Int), .int .u8 (att : Int), .int .i64 byy] 33)).alloc (.cells snd0 50) = w1 := ⟨_, rfl⟩
  obtain ⟨b, hb⟩ : ∃ b, w.heap.size = b := ⟨_, rfl⟩
  obtain ⟨b1, hb1⟩ : ∃ b1, b + 1 = b1 := ⟨_, rfl⟩
  obtain ⟨b2, hb2⟩ : ∃ b2, b1 + 1 = b2 := ⟨_, rfl⟩
  have C1 : Blk w1 b 50 #[.string on, .slice Ar nr cr, .slice Ad nd cd, .slice Ac nc cc, .slice As nd c4, .int .u64 (cp : Int), .int .u64 (of : Int), .slice Ak nd ck, .int .i64 rank, .int .i64 num] := by rw [← hw1, ← hb]; exact ((Blk.new _ _ _).alloc _).alloc _
  have HKB1 := Lib.hid C1
  have C2 : Blk w1 b1 33 #[.int .u8 (ho : Int), .int .u8 (att : Int), .int .i64 byy] := by
    rw [← hw1, ← hb1, ← hb]
    have h := (Blk.new (w.alloc (.cells #[.string on, .slice Ar nr cr, .slice Ad nd cd, .slice Ac nc cc, .slice As nd c4, .int .u64 (cp : Int), .int .u64 (of : Int), .slice Ak nd ck, .int .i64 rank, .int .i64 num] 50)) 33 #[.int .u8 (ho : Int), .int .u8 (att : Int), .int .i64 byy]).alloc (.cells snd0 50)
    simpa using h
  have C3 : Blk w1 b2 50 snd0 := by
    rw [← hw1, ← hb2, ← hb1, ← hb]
    have h := Blk.new ((w.alloc (.cells #[.string on, .slice Ar nr cr, .slice Ad nd cd, .slice Ac nc cc, .slice As nd c4, .int .u64 (cp : Int), .int .u64 (of : Int), .slice Ak nd ck, .int .i64 rank, .int .i64 num] 50)).alloc (.cells #[.int .u8 (ho : Int), .int .u8 (att : Int), .int .i64 byy] 33)) 50 snd0
    simpa using h
  have HKS := Lib.hid C2
  have HKZ := Lib.hid C3
  have HB1 : Hid (Below w.heap.size w w1) := Lib.hid (by rw [← hw1]; exact Ba (Ba (Ba (B0 w) _) _) _)
  have hsz1 : b + 3 = w1.heap.size := by rw [← hw1, ← hb]; simp
  have p0 : w1.cell? ⟨b, 0, none⟩ = some (.string on) := C1.cell 0
  have p1 : w1.cell? ⟨b, 1, none⟩ = some (.slice Ar nr cr) := C1.cell 1
  have p2 : w1.cell? ⟨b, 2, none⟩ = some (.slice Ad nd cd) := C1.cell 2
  have p3 : w1.cell? ⟨b, 3, none⟩ = some (.slice Ac nc cc) := C1.cell 3
  have HW1 := Lib.hid hw1
  have HBB := Lib.hid hb
  have HQ1 := Lib.hid hb1
  have HQ2 := Lib.hid hb2
  clear hw1 hb hb1 hb2 C1 C2 C3
  go_enter Tryz.func6, Tryz.ntmps6
  unfold snd0 at HW1
  go_upto_region 1 with fail
  rw [HW1.out, HBB.out, HQ1.out, HQ2.out]
  go_upto_region 2 with fail
  obtain ⟨wO, hwO⟩ : ∃ wO : World, w1.alloc (.cells #[.string on, .slice Ar nr cr, .slice Ad nd cd, .slice Ac nc cc] 40) = wO := ⟨_, rfl⟩
  obtain ⟨ob, hob⟩ : ∃ ob, w1.heap.size = ob := ⟨_, rfl⟩
  have KO : Blk wO ob 40 #[.string on, .slice Ar nr cr, .slice Ad nd cd, .slice Ac nc cc] := by rw [← hwO, ← hob]; exact Blk.new _ _ _
  have HBO : Hid (Below w1.heap.size w1 wO) := Lib.hid (by rw [← hwO]; exact Ba (B0 w1) _)
  rw [hwO, hob]
  have hszO : wO.heap.size = ob + 1 := by rw [← hwO, ← hob]; simp
  have KB : Blk wO b 50 #[.string on, .slice Ar nr cr, .slice Ad nd cd, .slice Ac nc cc, .slice As nd c4, .int .u64 (cp : Int), .int .u64 (of : Int), .slice Ak nd ck, .int .i64 rank, .int .i64 num] := HKB1.out.below HBO.out HKB1.out.lt
  have hbw0 : w.heap.size = b := HBB.out
  have hbo : b + 3 = ob := by omega
  have hb1e : b + 1 = b1 := HQ1.out
  have hb2e : b1 + 1 = b2 := HQ2.out
  have KS := HKS.out.below HBO.out HKS.out.lt
  have KZ := HKZ.out.below HBO.out HKZ.out.lt
  clear HKS HKZ
  have HKS := Lib.hid KS
  have HKZ := Lib.hid KZ
  clear KS KZ
  have HKO := Lib.hid KO
  have HKB := Lib.hid KB
  have HBW := Lib.hid (Bt HB1.out HBO.out)
  clear hwO p0 p1 p2 p3 KO KB
  have hBx := Ba (B0 wO) (.cells #[] 84)
  have HSL := Lib.hid (Sl.keepF relRnk HR.out (Agree.below (Bt HBW.out hBx) hF))
  have HFL : Hid (∀ c, F c → c < (wO.alloc (.cells #[] 84)).heap.size) := Lib.hid fun c hc => Nat.lt_of_lt_of_le (hF c hc) (Bt HBW.out hBx).size
  have o1 : wO.cell? ⟨ob, 1, none⟩ = some (.slice Ar nr cr) := HKO.out.cell 1
  have lm : ob < wO.heap.size := HKO.out.lt
  have hsR : (wO.alloc (.cells #[] 84)).heap.size = wO.heap.size + 1 := by simp
  clear hBx
  go_upto_region 3 with (at_builtin; go_must (refine wpList_copyF elemRk (by omega) rfl _ _ rfl _ rfl rfl relRnk HSL.out HFL.out (fun _ _ h => RnkC.one h) (by rw [HNR.out]; omega) (by omega) ?_); intro AR cR xR hb2 hcp2; have HB2 := Lib.hid (Bt (Ba (B0 wO) (.cells #[] 84)) hb2); have HCX := Lib.hid hcp2; have K2 := HKO.out.below HB2.out HKO.out.lt; have q2 : xR.cell? ⟨ob, 1, none⟩ = some (.slice Ar nr cr) := K2.cell 1; have fq2 := K2.frozen 1; have hsx : wO.heap.size + 1 ≤ xR.heap.size := (by have := hb2.size; rw [hsR] at this; exact this); clear hb2 hcp2)
  rw [HNR.out]
  have hcx := HCX.out
  rw [HNR.out, hsR] at hcx
  obtain ⟨wR, hwn⟩ : ∃ W : World, xR.setCell ⟨ob, 1, none⟩ (.slice AR nr cR) = W := ⟨_, rfl⟩
  have hszn : wR.heap.size = xR.heap.size := by rw [← hwn]; simp [World.setCell]
  have KM : Blk wR ob 40 #[.string on, .slice AR nr cR, .slice Ad nd cd, .slice Ac nc cc] := by
    rw [← hwn]
    have h := K2.set_ 1 (.slice AR nr cR)
    simpa using h
  have KN : Blk wR b 50 #[.string on, .slice Ar nr cr, .slice Ad nd cd, .slice Ac nc cc, .slice As nd c4, .int .u64 (cp : Int), .int .u64 (of : Int), .slice Ak nd ck, .int .i64 rank, .int .i64 num] := by
    rw [← hwn]
    exact (HKB.out.below HB2.out HKB.out.lt).far (by show b ≠ ob; omega) _
  have KS' : Blk wR b1 33 #[.int .u8 (ho : Int), .int .u8 (att : Int), .int .i64 byy] := by
    rw [← hwn]
    exact (HKS.out.below HB2.out HKS.out.lt).far (by show b1 ≠ ob; omega) _
  have KZ' : Blk wR b2 50 snd0 := by
    rw [← hwn]
    exact (HKZ.out.below HB2.out HKZ.out.lt).far (by show b2 ≠ ob; omega) _
  have hbw : Below w.heap.size w wR := by rw [← hwn]; exact Bs (Bt HBW.out HB2.out) _ (by show w.heap.size ≤ ob; omega)
  have hFt : ∀ c, F c → c ≠ ob := fun c hc e => by have := hF c hc; omega
  have hcn : CopyF (wO.heap.size + 1) 84 6 RnkC F wR (.slice AR nr cR) ors := by
    rw [← hwn]
    exact CopyF.far relRnk hcx (by show ob < (wO.heap.size + 1); omega) hFt _
  rw [hwn]
  clear hwn HKO HKB HKS HKZ HBW HCX hcx K2 q2 fq2 o1 HSL HFL hFt 
  have HBW := Lib.hid hbw
  have HKO := Lib.hid KM
  have HKB := Lib.hid KN
  have HCR := Lib.hid hcn
  have HKS := Lib.hid KS'
  have HKZ := Lib.hid KZ'
  obtain ⟨BR, hBR⟩ : ∃ B, wO.heap.size + 1 = B := ⟨_, rfl⟩
  rw [hBR] at HCR hsx
  have hzR : BR ≤ wR.heap.size := by omega
  have hyR : ob < BR ∧ b < BR := by omega
  clear hbw KM KN KS' KZ' hcn HB2 hsR hszn hsx lm
  have hBx := Ba (B0 wR) (.cells #[] 80)
  have HSL := Lib.hid (Sl.keepF relDvs HD.out (Agree.below (Bt HBW.out hBx) hF))
  have HFL : Hid (∀ c, F c → c < (wR.alloc (.cells #[] 80)).heap.size) := Lib.hid fun c hc => Nat.lt_of_lt_of_le (hF c hc) (Bt HBW.out hBx).size
  have o1 : wR.cell? ⟨ob, 2, none⟩ = some (.slice Ad nd cd) := HKO.out.cell 2
  have lm : ob < wR.heap.size := HKO.out.lt
  have hsD : (wR.alloc (.cells #[] 80)).heap.size = wR.heap.size + 1 := by simp
  clear hBx
  go_upto_region 4 with (at_builtin; go_must (refine wpList_copyF elemDv (by omega) rfl _ _ rfl _ rfl rfl relDvs HSL.out HFL.out (fun _ _ h => DvsC.one h) (by rw [HND.out]; omega) (by omega) ?_); intro AD cD xD hb2 hcp2; have HB2 := Lib.hid (Bt (Ba (B0 wR) (.cells #[] 80)) hb2); have HCX := Lib.hid hcp2; have K2 := HKO.out.below HB2.out HKO.out.lt; have q2 : xD.cell? ⟨ob, 2, none⟩ = some (.slice Ad nd cd) := K2.cell 2; have fq2 := K2.frozen 2; have hsx : wR.heap.size + 1 ≤ xD.heap.size := (by have := hb2.size; rw [hsD] at this; exact this); clear hb2 hcp2)
  rw [HND.out]
  have hcx := HCX.out
  rw [HND.out, hsD] at hcx
  obtain ⟨wD, hwn⟩ : ∃ W : World, xD.setCell ⟨ob, 2, none⟩ (.slice AD nd cD) = W := ⟨_, rfl⟩
  have hszn : wD.heap.size = xD.heap.size := by rw [← hwn]; simp [World.setCell]
  have KM : Blk wD ob 40 #[.string on, .slice AR nr cR, .slice AD nd cD, .slice Ac nc cc] := by
    rw [← hwn]
    have h := K2.set_ 2 (.slice AD nd cD)
    simpa using h
  have KN : Blk wD b 50 #[.string on, .slice Ar nr cr, .slice Ad nd cd, .slice Ac nc cc, .slice As nd c4, .int .u64 (cp : Int), .int .u64 (of : Int), .slice Ak nd ck, .int .i64 rank, .int .i64 num] := by
    rw [← hwn]
    exact (HKB.out.below HB2.out HKB.out.lt).far (by show b ≠ ob; omega) _
  have KS' : Blk wD b1 33 #[.int .u8 (ho : Int), .int .u8 (att : Int), .int .i64 byy] := by
    rw [← hwn]
    exact (HKS.out.below HB2.out HKS.out.lt).far (by show b1 ≠ ob; omega) _
  have KZ' : Blk wD b2 50 snd0 := by
    rw [← hwn]
    exact (HKZ.out.below HB2.out HKZ.out.lt).far (by show b2 ≠ ob; omega) _
  have hbw : Below w.heap.size w wD := by rw [← hwn]; exact Bs (Bt HBW.out HB2.out) _ (by show w.heap.size ≤ ob; omega)
  have hFt : ∀ c, F c → c ≠ ob := fun c hc e => by have := hF c hc; omega
  have hcR' : CopyF BR 84 6 RnkC F wD (.slice AR nr cR) ors := by
    rw [← hwn]
    exact (CopyF.below relRnk HCR.out (fun c hc => Nat.lt_of_lt_of_le (hF c hc) HBW.out.size) HB2.out).far relRnk (by show ob < BR; omega) hFt _
  have hcn : CopyF (wR.heap.size + 1) 80 5 DvsC F wD (.slice AD nd cD) ods := by
    rw [← hwn]
    exact CopyF.far relDvs hcx (by show ob < (wR.heap.size + 1); omega) hFt _
  rw [hwn]
  clear hwn HKO HKB HKS HKZ HBW HCX hcx K2 q2 fq2 o1 HSL HFL hFt HCR
  have HBW := Lib.hid hbw
  have HKO := Lib.hid KM
  have HKB := Lib.hid KN
  have HCD := Lib.hid hcn
  have HKS := Lib.hid KS'
  have HKZ := Lib.hid KZ'
  obtain ⟨BD, hBD⟩ : ∃ B, wR.heap.size + 1 = B := ⟨_, rfl⟩
  rw [hBD] at HCD hsx
  have hzD : BD ≤ wD.heap.size := by omega
  have hyD : ob < BD ∧ b < BD := by omega
  have HCR := Lib.hid hcR'
  clear hcR'
  have hzR : BR ≤ wD.heap.size := by omega
  clear hbw KM KN KS' KZ' hcn HB2 hsD hszn hsx lm
  have hBx := Ba (B0 wD) (.cells #[] 94)
  have HSL := Lib.hid (Sl.keepF relCpl HC.out (Agree.below (Bt HBW.out hBx) hF))
  have HFL : Hid (∀ c, F c → c < (wD.alloc (.cells #[] 94)).heap.size) := Lib.hid fun c hc => Nat.lt_of_lt_of_le (hF c hc) (Bt HBW.out hBx).size
  have o1 : wD.cell? ⟨ob, 3, none⟩ = some (.slice Ac nc cc) := HKO.out.cell 3
  have lm : ob < wD.heap.size := HKO.out.lt
  have hsC : (wD.alloc (.cells #[] 94)).heap.size = wD.heap.size + 1 := by simp
  clear hBx
  go_upto_region 5 with (at_builtin; go_must (refine wpList_copyF elemCpl (by omega) rfl _ _ rfl _ rfl rfl relCpl HSL.out HFL.out (fun _ _ h => CpC.one h) (by rw [HNC.out]; omega) (by omega) ?_); intro AC cC xC hb2 hcp2; have HB2 := Lib.hid (Bt (Ba (B0 wD) (.cells #[] 94)) hb2); have HCX := Lib.hid hcp2; have K2 := HKO.out.below HB2.out HKO.out.lt; have q2 : xC.cell? ⟨ob, 3, none⟩ = some (.slice Ac nc cc) := K2.cell 3; have fq2 := K2.frozen 3; have hsx : wD.heap.size + 1 ≤ xC.heap.size := (by have := hb2.size; rw [hsC] at this; exact this); clear hb2 hcp2)
  rw [HNC.out]
  have hcx := HCX.out
  rw [HNC.out, hsC] at hcx
  obtain ⟨wC, hwn⟩ : ∃ W : World, xC.setCell ⟨ob, 3, none⟩ (.slice AC nc cC) = W := ⟨_, rfl⟩
  have hszn : wC.heap.size = xC.heap.size := by rw [← hwn]; simp [World.setCell]
  have KM : Blk wC ob 40 #[.string on, .slice AR nr cR, .slice AD nd cD, .slice AC nc cC] := by
    rw [← hwn]
    have h := K2.set_ 3 (.slice AC nc cC)
    simpa using h
  have KN : Blk wC b 50 #[.string on, .slice Ar nr cr, .slice Ad nd cd, .slice Ac nc cc, .slice As nd c4, .int .u64 (cp : Int), .int .u64 (of : Int), .slice Ak nd ck, .int .i64 rank, .int .i64 num] := by
    rw [← hwn]
    exact (HKB.out.below HB2.out HKB.out.lt).far (by show b ≠ ob; omega) _
  have KS' : Blk wC b1 33 #[.int .u8 (ho : Int), .int .u8 (att : Int), .int .i64 byy] := by
    rw [← hwn]
    exact (HKS.out.below HB2.out HKS.out.lt).far (by show b1 ≠ ob; omega) _
  have KZ' : Blk wC b2 50 snd0 := by
    rw [← hwn]
    exact (HKZ.out.below HB2.out HKZ.out.lt).far (by show b2 ≠ ob; omega) _
  have hbw : Below w.heap.size w wC := by rw [← hwn]; exact Bs (Bt HBW.out HB2.out) _ (by show w.heap.size ≤ ob; omega)
  have hFt : ∀ c, F c → c ≠ ob := fun c hc e => by have := hF c hc; omega
  have hcR' : CopyF BR 84 6 RnkC F wC (.slice AR nr cR) ors := by
    rw [← hwn]
    exact (CopyF.below relRnk HCR.out (fun c hc => Nat.lt_of_lt_of_le (hF c hc) HBW.out.size) HB2.out).far relRnk (by show ob < BR; omega) hFt _
  have hcD' : CopyF BD 80 5 DvsC F wC (.slice AD nd cD) ods := by
    rw [← hwn]
    exact (CopyF.below relDvs HCD.out (fun c hc => Nat.lt_of_lt_of_le (hF c hc) HBW.out.size) HB2.out).far relDvs (by show ob < BD; omega) hFt _
  have hcn : CopyF (wD.heap.size + 1) 94 5 CpC F wC (.slice AC nc cC) ocs := by
    rw [← hwn]
    exact CopyF.far relCpl hcx (by show ob < (wD.heap.size + 1); omega) hFt _
  rw [hwn]
  clear hwn HKO HKB HKS HKZ HBW HCX hcx K2 q2 fq2 o1 HSL HFL hFt HCR HCD
  have HBW := Lib.hid hbw
  have HKO := Lib.hid KM
  have HKB := Lib.hid KN
  have HCC := Lib.hid hcn
  have HKS := Lib.hid KS'
  have HKZ := Lib.hid KZ'
  obtain ⟨BC, hBC⟩ : ∃ B, wD.heap.size + 1 = B := ⟨_, rfl⟩
  rw [hBC] at HCC hsx
  have hzC : BC ≤ wC.heap.size := by omega
  have hyC : ob < BC ∧ b < BC := by omega
  have HCR := Lib.hid hcR'
  clear hcR'
  have hzR : BR ≤ wC.heap.size := by omega
  have HCD := Lib.hid hcD'
  clear hcD'
  have hzD : BD ≤ wC.heap.size := by omega
  clear hbw KM KN KS' KZ' hcn HB2 hsC hszn hsx lm
  have hBx := Ba (B0 wC) (.cells #[] 42)
  have HSL := Lib.hid (Sl.keepF relU64 HST.out (Agree.below (Bt HBW.out hBx) hF))
  have HFL : Hid (∀ c, F c → c < (wC.alloc (.cells #[] 42)).heap.size) := Lib.hid fun c hc => Nat.lt_of_lt_of_le (hF c hc) (Bt HBW.out hBx).size
  have o1 : wC.cell? ⟨b, 4, none⟩ = some (.slice As nd c4) := HKB.out.cell 4
  have lm : b < wC.heap.size := HKB.out.lt
  have hsS : (wC.alloc (.cells #[] 42)).heap.size = wC.heap.size + 1 := by simp
  clear hBx
  go_upto_region 6 with (at_builtin; go_must (refine wpList_copyF elemU64 (by omega) rfl _ _ rfl _ rfl rfl relU64 HSL.out HFL.out (fun _ _ h => U64R.one h) (by rw [HNS.out]; omega) (by omega) ?_); intro AS cS xS hb2 hcp2; have HB2 := Lib.hid (Bt (Ba (B0 wC) (.cells #[] 42)) hb2); have HCX := Lib.hid hcp2; have K2 := HKB.out.below HB2.out HKB.out.lt; have q2 : xS.cell? ⟨b, 4, none⟩ = some (.slice As nd c4) := K2.cell 4; have fq2 := K2.frozen 4; have hsx : wC.heap.size + 1 ≤ xS.heap.size := (by have := hb2.size; rw [hsS] at this; exact this); clear hb2 hcp2)
  rw [HNS.out]
  have hcx := HCX.out
  rw [HNS.out, hsS] at hcx
  obtain ⟨wS, hwn⟩ : ∃ W : World, xS.setCell ⟨b, 4, none⟩ (.slice AS nd cS) = W := ⟨_, rfl⟩
  have hszn : wS.heap.size = xS.heap.size := by rw [← hwn]; simp [World.setCell]
  have KM : Blk wS b 50 #[.string on, .slice Ar nr cr, .slice Ad nd cd, .slice Ac nc cc, .slice AS nd cS, .int .u64 (cp : Int), .int .u64 (of : Int), .slice Ak nd ck, .int .i64 rank, .int .i64 num] := by
    rw [← hwn]
    have h := K2.set_ 4 (.slice AS nd cS)
    simpa using h
  have KN : Blk wS ob 40 #[.string on, .slice AR nr cR, .slice AD nd cD, .slice AC nc cC] := by
    rw [← hwn]
    exact (HKO.out.below HB2.out HKO.out.lt).far (by show ob ≠ b; omega) _
  have KS' : Blk wS b1 33 #[.int .u8 (ho : Int), .int .u8 (att : Int), .int .i64 byy] := by
    rw [← hwn]
    exact (HKS.out.below HB2.out HKS.out.lt).far (by show b1 ≠ b; omega) _
  have KZ' : Blk wS b2 50 snd0 := by
    rw [← hwn]
    exact (HKZ.out.below HB2.out HKZ.out.lt).far (by show b2 ≠ b; omega) _
  have hbw : Below w.heap.size w wS := by rw [← hwn]; exact Bs (Bt HBW.out HB2.out) _ (by show w.heap.size ≤ b; omega)
  have hFt : ∀ c, F c → c ≠ b := fun c hc e => by have := hF c hc; omega
  have hcR' : CopyF BR 84 6 RnkC F wS (.slice AR nr cR) ors := by
    rw [← hwn]
    exact (CopyF.below relRnk HCR.out (fun c hc => Nat.lt_of_lt_of_le (hF c hc) HBW.out.size) HB2.out).far relRnk (by show b < BR; omega) hFt _
  have hcD' : CopyF BD 80 5 DvsC F wS (.slice AD nd cD) ods := by
    rw [← hwn]
    exact (CopyF.below relDvs HCD.out (fun c hc => Nat.lt_of_lt_of_le (hF c hc) HBW.out.size) HB2.out).far relDvs (by show b < BD; omega) hFt _
  have hcC' : CopyF BC 94 5 CpC F wS (.slice AC nc cC) ocs := by
    rw [← hwn]
    exact (CopyF.below relCpl HCC.out (fun c hc => Nat.lt_of_lt_of_le (hF c hc) HBW.out.size) HB2.out).far relCpl (by show b < BC; omega) hFt _
  have hcn : CopyF (wC.heap.size + 1) 42 1 U64R F wS (.slice AS nd cS) rst := by
    rw [← hwn]
    exact CopyF.far relU64 hcx (by show b < (wC.heap.size + 1); omega) hFt _
  rw [hwn]
  clear hwn HKO HKB HKS HKZ HBW HCX hcx K2 q2 fq2 o1 HSL HFL hFt HCR HCD HCC
  have HBW := Lib.hid hbw
  have HKB := Lib.hid KM
  have HKO := Lib.hid KN
  have HCS := Lib.hid hcn
  have HKS := Lib.hid KS'
  have HKZ := Lib.hid KZ'
  obtain ⟨BS, hBS⟩ : ∃ B, wC.heap.size + 1 = B := ⟨_, rfl⟩
  rw [hBS] at HCS hsx
  have hzS : BS ≤ wS.heap.size := by omega
  have hyS : ob < BS ∧ b < BS := by omega
  have HCR := Lib.hid hcR'
  clear hcR'
  have hzR : BR ≤ wS.heap.size := by omega
  have HCD := Lib.hid hcD'
  clear hcD'
  have hzD : BD ≤ wS.heap.size := by omega
  have HCC := Lib.hid hcC'
  clear hcC'
  have hzC : BC ≤ wS.heap.size := by omega
  clear hbw KM KN KS' KZ' hcn HB2 hsS hszn hsx lm
  have hBx := Ba (B0 wS) (.cells #[] 97)
  have HSL := Lib.hid (Sl.keepF relNt HKY.out (Agree.below (Bt HBW.out hBx) hF))
  have HFL : Hid (∀ c, F c → c < (wS.alloc (.cells #[] 97)).heap.size) := Lib.hid fun c hc => Nat.lt_of_lt_of_le (hF c hc) (Bt HBW.out hBx).size
  have o1 : wS.cell? ⟨b, 7, none⟩ = some (.slice Ak nd ck) := HKB.out.cell 7
  have lm : b < wS.heap.size := HKB.out.lt
  have hsK : (wS.alloc (.cells #[] 97)).heap.size = wS.heap.size + 1 := by simp
  clear hBx
  go_upto_region 7 with (at_builtin; go_must (refine wpList_copyF elemKy (by omega) rfl _ _ rfl _ rfl rfl relNt HSL.out HFL.out (fun _ _ h => NtR.one h) (by rw [HNK.out]; omega) (by omega) ?_); intro AK cK xK hb2 hcp2; have HB2 := Lib.hid (Bt (Ba (B0 wS) (.cells #[] 97)) hb2); have HCX := Lib.hid hcp2; have K2 := HKB.out.below HB2.out HKB.out.lt; have q2 : xK.cell? ⟨b, 7, none⟩ = some (.slice Ak nd ck) := K2.cell 7; have fq2 := K2.frozen 7; have hsx : wS.heap.size + 1 ≤ xK.heap.size := (by have := hb2.size; rw [hsK] at this; exact this); clear hb2 hcp2)
  rw [HNK.out]
  have hcx := HCX.out
  rw [HNK.out, hsK] at hcx
  obtain ⟨wK, hwn⟩ : ∃ W : World, xK.setCell ⟨b, 7, none⟩ (.slice AK nd cK) = W := ⟨_, rfl⟩
  have hszn : wK.heap.size = xK.heap.size := by rw [← hwn]; simp [World.setCell]
  have KM : Blk wK b 50 #[.string on, .slice Ar nr cr, .slice Ad nd cd, .slice Ac nc cc, .slice AS nd cS, .int .u64 (cp : Int), .int .u64 (of : Int), .slice AK nd cK, .int .i64 rank, .int .i64 num] := by
    rw [← hwn]
    have h := K2.set_ 7 (.slice AK nd cK)
    simpa using h
  have KN : Blk wK ob 40 #[.string on, .slice AR nr cR, .slice AD nd cD, .slice AC nc cC] := by
    rw [← hwn]
    exact (HKO.out.below HB2.out HKO.out.lt).far (by show ob ≠ b; omega) _
  have KS' : Blk wK b1 33 #[.int .u8 (ho : Int), .int .u8 (att : Int), .int .i64 byy] := by
    rw [← hwn]
    exact (HKS.out.below HB2.out HKS.out.lt).far (by show b1 ≠ b; omega) _
  have KZ' : Blk wK b2 50 snd0 := by
    rw [← hwn]
    exact (HKZ.out.below HB2.out HKZ.out.lt).far (by show b2 ≠ b; omega) _
  have hbw : Below w.heap.size w wK := by rw [← hwn]; exact Bs (Bt HBW.out HB2.out) _ (by show w.heap.size ≤ b; omega)
  have hFt : ∀ c, F c → c ≠ b := fun c hc e => by have := hF c hc; omega
  have hcR' : CopyF BR 84 6 RnkC F wK (.slice AR nr cR) ors := by
    rw [← hwn]
    exact (CopyF.below relRnk HCR.out (fun c hc => Nat.lt_of_lt_of_le (hF c hc) HBW.out.size) HB2.out).far relRnk (by show b < BR; omega) hFt _
  have hcD' : CopyF BD 80 5 DvsC F wK (.slice AD nd cD) ods := by
    rw [← hwn]
    exact (CopyF.below relDvs HCD.out (fun c hc => Nat.lt_of_lt_of_le (hF c hc) HBW.out.size) HB2.out).far relDvs (by show b < BD; omega) hFt _
  have hcC' : CopyF BC 94 5 CpC F wK (.slice AC nc cC) ocs := by
    rw [← hwn]
    exact (CopyF.below relCpl HCC.out (fun c hc => Nat.lt_of_lt_of_le (hF c hc) HBW.out.size) HB2.out).far relCpl (by show b < BC; omega) hFt _
  have hcS' : CopyF BS 42 1 U64R F wK (.slice AS nd cS) rst := by
    rw [← hwn]
    exact (CopyF.below relU64 HCS.out (fun c hc => Nat.lt_of_lt_of_le (hF c hc) HBW.out.size) HB2.out).far relU64 (by show b < BS; omega) hFt _
  have hcn : CopyF (wS.heap.size + 1) 97 2 NtR F wK (.slice AK nd cK) kys := by
    rw [← hwn]
    exact CopyF.far relNt hcx (by show b < (wS.heap.size + 1); omega) hFt _
  rw [hwn]
  clear hwn HKO HKB HKS HKZ HBW HCX hcx K2 q2 fq2 o1 HSL HFL hFt HCR HCD HCC HCS
  have HBW := Lib.hid hbw
  have HKB := Lib.hid KM
  have HKO := Lib.hid KN
  have HCK := Lib.hid hcn
  have HKS := Lib.hid KS'
  have HKZ := Lib.hid KZ'
  obtain ⟨BK, hBK⟩ : ∃ B, wS.heap.size + 1 = B := ⟨_, rfl⟩
  rw [hBK] at HCK hsx
  have hzK : BK ≤ wK.heap.size := by omega
  have hyK : ob < BK ∧ b < BK := by omega
  have HCR := Lib.hid hcR'
  clear hcR'
  have hzR : BR ≤ wK.heap.size := by omega
  have HCD := Lib.hid hcD'
  clear hcD'
  have hzD : BD ≤ wK.heap.size := by omega
  have HCC := Lib.hid hcC'
  clear hcC'
  have hzC : BC ≤ wK.heap.size := by omega
  have HCS := Lib.hid hcS'
  clear hcS'
  have hzS : BS ≤ wK.heap.size := by omega
  clear hbw KM KN KS' KZ' hcn HB2 hsK hszn hsx lm
  obtain ⟨ki, hki⟩ : ∃ k, att % nr = k := ⟨_, rfl⟩
  obtain ⟨kd, hkd⟩ : ∃ k, att % nd = k := ⟨_, rfl⟩
  have hkin : ki < nr := by rw [← hki]; exact Nat.mod_lt _ hr1
  have hkdn : kd < nd := by rw [← hkd]; exact Nat.mod_lt _ hd1
  have m1 : IntKind.i64.wrap (att : Int) = (att : Int) := by rw [IntKind.wrap_i64]; omega
  have m2 : (att : Int).tmod (nr : Int) = (ki : Int) := by rw [Int.tmod_eq_emod_of_nonneg (by omega), ← hki]; simp
  have m3 : (att : Int).tmod (nd : Int) = (kd : Int) := by rw [Int.tmod_eq_emod_of_nonneg (by omega), ← hkd]; simp
  have m4 : (att : Int) % (nr : Int) = (ki : Int) := by rw [← hki]; simp
  have m5 : (att : Int) % (nd : Int) = (kd : Int) := by rw [← hkd]; simp
  have m6 : ¬ nr = 0 := by omega
  have m7 : ¬ nd = 0 := by omega
  have m8 : IntKind.i64.wrap (ki : Int) = (ki : Int) := by rw [IntKind.wrap_i64]; omega
  have m9 : IntKind.i64.wrap (kd : Int) = (kd : Int) := by rw [IntKind.wrap_i64]; omega
  have o1 : wK.cell? ⟨ob, 1, none⟩ = some (.slice AR nr cR) := HKO.out.cell 1
  have o2 : wK.cell? ⟨ob, 2, none⟩ = some (.slice AD nd cD) := HKO.out.cell 2
  have s1 : wK.cell? ⟨b1, 1, none⟩ = some (.int .u8 (att : Int)) := HKS.out.cell 1
  have HKI := Lib.hid hki
  have HKDI := Lib.hid hkd
  clear hki hkd
  go_quiet (fail)
  obtain ⟨w7, hw7⟩ : ∃ w7 : World, wK.drewN nq = w7 := ⟨_, rfl⟩
  rw [hw7]
  have hb7 : Below wK.heap.size wK w7 := by rw [← hw7]; exact below_drewN (B0 wK) _
  have hz7 : w7.heap.size = wK.heap.size := by rw [← hw7]; rfl
  have HBW7 := Lib.hid (Bt HBW.out hb7)
  have HKO7 := Lib.hid (HKO.out.below hb7 HKO.out.lt)
  have HKB7 := Lib.hid (HKB.out.below hb7 HKB.out.lt)
  have HKS7 := Lib.hid (HKS.out.below hb7 HKS.out.lt)
  have HKZ7 := Lib.hid (HKZ.out.below hb7 HKZ.out.lt)
  have HCR7 := Lib.hid (CopyF.below relRnk HCR.out (fun c hc => Nat.lt_of_lt_of_le (hF c hc) HBW.out.size) hb7)
  have HCD7 := Lib.hid (CopyF.below relDvs HCD.out (fun c hc => Nat.lt_of_lt_of_le (hF c hc) HBW.out.size) hb7)
  have HCC7 := Lib.hid (CopyF.below relCpl HCC.out (fun c hc => Nat.lt_of_lt_of_le (hF c hc) HBW.out.size) hb7)
  have HCS7 := Lib.hid (CopyF.below relU64 HCS.out (fun c hc => Nat.lt_of_lt_of_le (hF c hc) HBW.out.size) hb7)
  have HCK7 := Lib.hid (CopyF.below relNt HCK.out (fun c hc => Nat.lt_of_lt_of_le (hF c hc) HBW.out.size) hb7)
  clear hw7 hb7 HBW HKO HKB HKS HKZ HCR HCD HCC HCS HCK o1 o2 s1 m1 m2 m3 m4 m5 m6 m7 m8 m9
  have hdl : kd < ods.length := by rw [HND.out]; exact hkdn
  obtain ⟨gD, cD', curD, xD, eD, hgD, hkD7, hxl, ⟨vt, rfl, hst⟩, hcD, -⟩ := CopyF.store relDvs HCD7.out kd hdl
  rw [HND.out] at eD
  injection eD with eD1 eD2 eD3
  obtain ⟨adD, hadD⟩ : ∃ a : Addr, (⟨gD, 0, none⟩ : Addr) = a := ⟨_, rfl⟩
  rw [hadD] at eD1
  subst eD1
  obtain ⟨At, ct, rfl, -⟩ := Sl.openF hst
  obtain ⟨⟨dn, dp, lo, hi, sts⟩, hdk⟩ : ∃ d, ods[kd] = d := ⟨_, rfl⟩
  rw [hdk] at hcD hst
  dsimp only at hcD hst
  obtain ⟨ls, hls⟩ : ∃ n, sts.length = n := ⟨_, rfl⟩
  rw [hls] at hcD
  obtain ⟨p, hpA⟩ : ∃ p, adD.add (kd * 5) = p := ⟨_, rfl⟩
  have hpe : p = ⟨gD, kd * 5, none⟩ := by rw [← hpA, ← hadD, add_g, Nat.zero_add]
  have d0 : w7.cell? p = some (.string dn) := by rw [hpe]; exact hcD 0 _ rfl
  have d1 : w7.cell? ⟨p.block, p.off + 1, none⟩ = some (.bool dp) := by rw [hpe]; exact hcD 1 _ rfl
  have d2 : w7.cell? ⟨p.block, p.off + 2, none⟩ = some (.int .i64 lo) := by rw [hpe]; exact hcD 2 _ rfl
  have d3 : w7.cell? ⟨p.block, p.off + 3, none⟩ = some (.int .i64 hi) := by rw [hpe]; exact hcD 3 _ rfl
  have d4 : w7.cell? ⟨p.block, p.off + 4, none⟩ = some (.slice At ls ct) := by rw [hpe]; exact hcD 4 _ rfl
  have o2 : w7.cell? ⟨ob, 2, none⟩ = some (.slice (some adD) nd cD) := HKO7.out.cell 2
  have hkdI : (kd : Int) < (nd : Int) := by omega
  have HST7 := Lib.hid hst
  have HPE := Lib.hid hpe
  have HADD := Lib.hid hadD
  have hBR7 : BR ≤ w7.heap.size ∧ BD ≤ w7.heap.size ∧ BC ≤ w7.heap.size ∧ BS ≤ w7.heap.size ∧ BK ≤ w7.heap.size := by omega
  clear hcD hst hpe hadD eD2 eD3 hz7 hxl
  go_upto_region 9 with fail
  obtain ⟨w8, hw8⟩ : ∃ w8 : World, w7.alloc (.cells #[.string dn, .bool dp, .int .i64 lo, .int .i64 hi, .slice At ls ct] 80) = w8 := ⟨_, rfl⟩
  obtain ⟨db, hdb⟩ : ∃ db, w7.heap.size = db := ⟨_, rfl⟩
  have KD8 : Blk w8 db 80 #[.string dn, .bool dp, .int .i64 lo, .int .i64 hi, .slice At ls ct] := by rw [← hw8, ← hdb]; exact Blk.new _ _ _
  have hb8 : Below w7.heap.size w7 w8 := by rw [← hw8]; exact Ba (B0 w7) _
  rw [hw8, hdb]
  have HKD8 := Lib.hid KD8
  have HB8 := Lib.hid hb8
  clear d0 d1 d2 d3 d4 o2 hw8
  have HKO8 := Lib.hid (HKO7.out.below hb8 HKO7.out.lt)
  have HKB8 := Lib.hid (HKB7.out.below hb8 HKB7.out.lt)
  have HKS8 := Lib.hid (HKS7.out.below hb8 HKS7.out.lt)
  have HKZ8 := Lib.hid (HKZ7.out.below hb8 HKZ7.out.lt)
  have hF7 : ∀ c, F c → c < w7.heap.size := fun c hc => Nat.lt_of_lt_of_le (hF c hc) HBW7.out.size
  have HCR8 := Lib.hid (CopyF.below relRnk HCR7.out hF7 hb8)
  have HCD8 := Lib.hid (CopyF.below relDvs HCD7.out hF7 hb8)
  have HCC8 := Lib.hid (CopyF.below relCpl HCC7.out hF7 hb8)
  have HCS8 := Lib.hid (CopyF.below relU64 HCS7.out hF7 hb8)
  have HCK8 := Lib.hid (CopyF.below relNt HCK7.out hF7 hb8)
  have HST8 := Lib.hid (Sl.keepF relStp HST7.out (Agree.below hb8 hF7))
  have HGD8 := Lib.hid (hkD7.below hb8 hkD7.lt)
  have HBW8 := Lib.hid (Bt HBW7.out hb8)
  rw [hls] at HST8
  have HADD2 := HADD.out
  rw [← HADD2] at HCD8 HKO8
  have hsz8 : db < w8.heap.size := HKD8.out.lt
  have hdb8 : w7.heap.size = db := hdb
  have hnb : b < BR ∧ b2 < BR ∧ ob < BR ∧ b1 < BR ∧ BR ≤ BD ∧ BD ≤ BC ∧ BC ≤ BS ∧ BS ≤ BK ∧ BK ≤ db ∧ BR ≤ gD := by omega
  have hwb : w.heap.size = b := HBB.out
  have HORD : Hid (w.heap.size = b ∧ b < BR ∧ b2 < BR ∧ ob < BR ∧ b1 < BR ∧ BR ≤ BD ∧ BD ≤ BC ∧ BC ≤ BS ∧ BS ≤ BK ∧ BK ≤ db ∧ BD ≤ gD ∧ b + 1 = b1 ∧ b1 + 1 = b2 ∧ b + 3 = ob ∧ w7.heap.size = db ∧ db < w8.heap.size) := Lib.hid (by omega)
  have HDK := Lib.hid hdk
  have HLS := Lib.hid hls
  have hgdb : gD < db := by rw [← hdb]; exact hkD7.lt
  clear hb8 hF7 HADD2 hkD7 KD8 hwb hdb8 hBR7 HKO7 HKB7 HKS7 HKZ7 HCR7 HCD7 HCC7 HCS7 HCK7 HST7 HB8 hdk hls
  have s0 : w8.cell? ⟨b1, 0, none⟩ = some (.int .u8 (ho : Int)) := HKS8.out.cell 0
  obtain ⟨κ, hκ⟩ : ∃ κ, ho % 16 = κ := ⟨_, rfl⟩
  have hκ1 : (ho : Int).tmod 16 = (κ : Int) := by rw [Int.tmod_eq_emod_of_nonneg (by omega)]; omega
  have hκ2 : (ho : Int) % 16 = (κ : Int) := by omega
  have hκ3 : κ < 16 := by omega
  go_upto_block 0 with fail
  go_cut [5] from 60 to 232 (fun s5 wx => s5 = .pointer (some ⟨ob, 0, none⟩) ∧ SpT F w on b ob db b2 gD cD nd BD ods wx)
  case first =>
    have hor := HORD.out
    have HSB : Hid (SpB F w on b ob db b2 gD cD nd BR BD BC BS BK ods (.slice AR nr cR) (.slice AC nc cC) (.slice AC nc cC) (.slice AS nd cS) (.slice AK nd cK) (.slice At ls ct) (.slice Ar nr cr) (.slice Ad nd cd) (.slice Ac nc cc) ors ⟨dn, dp, lo, hi, sts⟩ ocs rst cp of kys rank num w8) := Lib.hid ⟨hF, by omega, HBW8.out, ⟨curD, HGD8.out⟩, HKO8.out, HKB8.out, HKD8.out, HKZ8.out, HCR8.out, HCC8.out, HCS8.out, HCK8.out, HST8.out, HCD8.out⟩
    have hF8 : ∀ c, F c → c < w8.heap.size := fun c hc => Nat.lt_of_lt_of_le (hF c hc) HBW8.out.size
    have HF8 := Lib.hid hF8
    clear s0 hκ hκ1 hκ2 HKO8 HKB8 HKD8 HKZ8 HCR8 HCC8 HCS8 HCK8 HST8 HCD8 hor hF8
    have hκ9 : κ = 0 ∨ κ = 1 ∨ κ = 2 ∨ κ = 3 ∨ κ = 4 ∨ κ = 5 ∨ κ = 6 ∨ κ = 7 ∨ κ = 8 ∨ κ = 9 ∨ κ = 10 ∨ κ = 11 ∨ κ = 12 ∨ κ = 13 ∨ κ = 14 ∨ κ = 15 := by omega
    clear hκ3
    rcases hκ9 with rfl | rfl | rfl | rfl | rfl | rfl | rfl | rfl | rfl | rfl | rfl | rfl | rfl | rfl | rfl | rfl
    · go_wp2_with fail
      go_meet
      exact ⟨rfl, HSB.out.toT0 HN1.out HN2.out hn3 hn4⟩
    · have s2 : w8.cell? ⟨b1, 2, none⟩ = some (.int .i64 byy) := HKS8.out.cell 2
      obtain ⟨g, c, x, e, c4', f4', ors', hs'⟩ := HSB.out.rank1 ki (by rw [HNR.out]; exact hkin) byy
      injection e with e1 e2 e3
      obtain ⟨adR, hadR⟩ : ∃ a : Addr, (⟨g, 0, none⟩ : Addr) = a := ⟨_, rfl⟩
      rw [hadR] at e1
      subst e1
      clear e2 e3
      obtain ⟨pr, hpr⟩ : ∃ p, ki * 6 = p := ⟨_, rfl⟩
      have hpR : adR.add (ki * 6) = ⟨g, pr, none⟩ := by rw [← hadR, add_g, Nat.zero_add, hpr]
      rw [hpr] at c4' f4' hs'
      have o1 : w8.cell? ⟨ob, 1, none⟩ = some (.slice (some adR) nr cR) := HSB.out.hO.cell 1
      have hkiI : (ki : Int) < (nr : Int) := by omega
      have HSR := Lib.hid hs'
      clear hpr hadR hs'
      go_wp2_with fail
      go_meet
      exact ⟨rfl, HSR.out.toT0 HN1.out HN2.out hn3 hn4⟩
    · have s2 : w8.cell? ⟨b1, 2, none⟩ = some (.int .i64 byy) := HKS8.out.cell 2
      have d0 : w8.cell? ⟨db, 2, none⟩ = some (.int .i64 lo) := HSB.out.hD.cell 2
      have fd0 := HSB.out.hD.frozen 2
      go_wp2_with fail
      go_meet
      exact ⟨rfl, (HSB.out.setD 2 (.int .i64 byy) (dv' := ⟨dn, dp, byy, hi, sts⟩) rfl rfl).toT0 HN1.out HN2.out hn3 hn4⟩
    · have s2 : w8.cell? ⟨b1, 2, none⟩ = some (.int .i64 byy) := HKS8.out.cell 2
      have d0 : w8.cell? ⟨db, 3, none⟩ = some (.int .i64 hi) := HSB.out.hD.cell 3
      have fd0 := HSB.out.hD.frozen 3
      go_wp2_with fail
      go_meet
      exact ⟨rfl, (HSB.out.setD 3 (.int .i64 byy) (dv' := ⟨dn, dp, lo, byy, sts⟩) rfl rfl).toT0 HN1.out HN2.out hn3 hn4⟩
    · have hqn := HLS.out
      subst hqn
      clear HLS
      have HSD := Lib.hid (fun W (hb : Below w8.heap.size w8 W) => (show W.cell? ⟨db, 4, none⟩ = some (.slice At sts.length ct) from (Bc hb HSB.out.hD.lt).trans (HSB.out.hD.cell 4)))
      have HSX := Lib.hid (fun W (hb : Below w8.heap.size w8 W) => (show W.cell? ⟨b1, 2, none⟩ = some (.int .i64 byy) from (Bc hb HKS8.out.lt).trans (HKS8.out.cell 2)))
      have HSS := Lib.hid (fun W (hb : Below w8.heap.size w8 W) => (show Sl F 4 (StpC F) W (.slice At sts.length ct) sts from Sl.keepF relStp HSB.out.hT (Agree.below hb HF8.out)))
      have HM9 : Hid (sts.length ≤ 1000) := Lib.hid (by
        have h := HT9.out _ (List.getElem_mem hdl)
        rw [HDK.out] at h
        exact h)
      have hBB : ∀ (L : Nat → Bool) (i : Nat) (w w' : World), Below w.heap.size w w' → Below w8.heap.size w8 w → Below w8.heap.size w8 w' := fun _ _ _ _ h1 h2 => Bt h2 h1
      go_upto_region 17 with fail
      refine region_blocks (by kernel_rfl) ?_
      refine from_lawW 13 ES17 (fun _ W => Below w8.heap.size w8 W) (FS17 F db b1 sts.length ct w8.heap.size byy At sts) VS17 (by kernel_rfl) rfl (FS17_V _ _ _ _ _ _ _ _ _) (by kernel_rfl) (by kernel_rfl) ((B0 w8).drew) ⟨?_, ?_, ?_, ?_, ?_, ?_, ?_, ?_, ?_, ?_, ?_, ?_, ?_, trivial⟩ ?_
      · refine OpFactW.value rfl (FS17_below _ _ _ _ _ _ _ _ _) hBB fun L a w2 hl hf D hb => ?_
        refine ⟨.slice (some ⟨w2.heap.size, 0, none⟩) 0 0, w2.alloc (.cells #[] 92), ?_, Ba (B0 w2) _, fun s _ h => ⟨_, h 83 rfl⟩⟩
        simp [go_sem]
      · refine OpFactW.value rfl (FS17_below _ _ _ _ _ _ _ _ _) hBB fun L a w2 hl hf D hb => ?_
        have h0 : sl a 8 = .pointer (some ⟨db, 0, none⟩) := hf 8 (by kernel_rfl)
        refine ⟨.pointer (some ⟨db, 4, none⟩), w2, ?_, B0 _, fun s _ h => h 84 rfl⟩
        unfold sl at h0
        simp at h0
        simp [go_sem, h0]
      · refine OpFactW.value rfl (FS17_below _ _ _ _ _ _ _ _ _) hBB fun L a w2 hl hf D hb => ?_
        have h0 : sl a 84 = .pointer (some ⟨db, 4, none⟩) := D 1 (by kernel_rfl)
        have es := HSD.out w2 hb
        refine ⟨.slice At sts.length ct, w2, ?_, B0 _, fun s _ h => h 85 rfl⟩
        unfold sl at h0
        simp at h0
        simp [go_sem, h0, es]
      · refine OpFactW.value rfl (FS17_below _ _ _ _ _ _ _ _ _) hBB fun L a w2 hl hf D hb => ?_
        obtain ⟨A0, h11⟩ : nilS (sl a 83) := D 0 (by kernel_rfl)
        have h12 : sl a 85 = .slice At sts.length ct := D 2 (by kernel_rfl)
        obtain ⟨v', w', hrun, hbl, hst⟩ := run_copyStp (F := F) (lim := w8.heap.size) (w := w2) _ A0 HF8.out (Below.size hb) (HSS.out w2 hb) HM9.out
        refine ⟨v', w', exec_app rfl h11 h12 hrun, hbl, fun s _ h => ?_⟩
        show stC F _ w' (s 86) sts
        rw [h 86 rfl]
        exact hst
      · refine OpFactW.value rfl (FS17_below _ _ _ _ _ _ _ _ _) hBB fun L a w2 hl hf D hb => ?_
        have h0 : sl a 3 = .pointer (some ⟨b1, 0, none⟩) := hf 3 (by kernel_rfl)
        refine ⟨.pointer (some ⟨b1, 2, none⟩), w2, ?_, B0 _, fun s _ h => h 87 rfl⟩
        unfold sl at h0
        simp at h0
        simp [go_sem, h0]
      · refine OpFactW.value rfl (FS17_below _ _ _ _ _ _ _ _ _) hBB fun L a w2 hl hf D hb => ?_
        have h0 : sl a 87 = .pointer (some ⟨b1, 2, none⟩) := D 4 (by kernel_rfl)
        have es := HSX.out w2 hb
        refine ⟨.int .i64 byy, w2, ?_, B0 _, fun s _ h => h 88 rfl⟩
        unfold sl at h0
        simp at h0
        simp [go_sem, h0, es]
      · refine OpFactW.value rfl (FS17_below _ _ _ _ _ _ _ _ _) hBB fun L a w2 hl hf D hb => ?_
        have h11 : sl a 88 = .int .i64 byy := D 5 (by kernel_rfl)
        refine ⟨.agg #[.int .i64 byy, .int .i64 0], w2, ?_, B0 _, fun s _ h => h 89 rfl⟩
        unfold sl at h11
        simp at h11
        simp [go_sem, h11]
      · refine OpFactW.value rfl (FS17_below _ _ _ _ _ _ _ _ _) hBB fun L a w2 hl hf D hb => ?_
        have h11 : sl a 89 = .agg #[.int .i64 byy, .int .i64 0] := D 6 (by kernel_rfl)
        refine ⟨.slice (some ⟨w2.heap.size, 0, none⟩) 1 1, w2.alloc (.cells ([.int .i64 byy, .int .i64 0] : List Value).toArray 86), ?_, Ba (B0 w2) _, fun s _ h => ?_⟩
        · unfold sl at h11
          simp at h11
          simp [go_sem, h11]
        · show rw1 DrC 86 2 _ _ (s 90) _
          rw [h 90 rfl]
          exact rw1.new relDr rfl rfl (Below.size hb)
      · refine OpFactW.value rfl (FS17_below _ _ _ _ _ _ _ _ _) hBB fun L a w2 hl hf D hb => ?_
        have hr : rw1 DrC 86 2 _ w2 (sl a 90) ⟨byy, 0⟩ := D 7 (by kernel_rfl)
        obtain ⟨g, h11, hsl⟩ := rw1.sl hr (by decide)
        rw [h11] at hsl
        refine ⟨.agg #[.int .i64 0, .int .i64 127, .slice (some ⟨g, 0, none⟩) 1 1], w2, ?_, B0 _, fun s _ h => ⟨[.int .i64 0, .int .i64 127, .slice (some ⟨g, 0, none⟩) 1 1], h 91 rfl, rfl, _, rfl, hsl⟩⟩
        unfold sl at h11
        simp at h11
        simp [go_sem, h11]
      · refine OpFactW.value rfl (FS17_below _ _ _ _ _ _ _ _ _) hBB fun L a w2 hl hf D hb => ?_
        obtain ⟨cs, h11, -, v, rfl, hv⟩ : ag1 SegC 3 _ w2 (sl a 91) ⟨0, 127, [⟨byy, 0⟩]⟩ := D 8 (by kernel_rfl)
        obtain ⟨A1, c1, rfl, -⟩ := Sl.openF hv
        refine ⟨.slice (some ⟨w2.heap.size, 0, none⟩) 1 1, w2.alloc (.cells ([.int .i64 0, .int .i64 127, .slice A1 1 c1] : List Value).toArray 89), ?_, Ba (B0 w2) _, fun s _ h => ?_⟩
        · unfold sl at h11
          simp at h11
          simp [go_sem, h11]
        · show rw1 SegC 89 3 _ _ (s 92) _
          rw [h 92 rfl]
          exact rw1.new relSeg rfl ⟨_, rfl, hv⟩ (Below.size hb)
      · refine OpFactW.value rfl (FS17_below _ _ _ _ _ _ _ _ _) hBB fun L a w2 hl hf D hb => ?_
        have hr : rw1 SegC 89 3 _ w2 (sl a 92) ⟨0, 127, [⟨byy, 0⟩]⟩ := D 9 (by kernel_rfl)
        obtain ⟨g, h11, hsl⟩ := rw1.sl hr (by decide)
        rw [h11] at hsl
        refine ⟨.agg #[.string ⟨#[]⟩, .int .i64 0, .int .i64 0, .slice (some ⟨g, 0, none⟩) 1 1], w2, ?_, B0 _, fun s _ h => ⟨[.string ⟨#[]⟩, .int .i64 0, .int .i64 0, .slice (some ⟨g, 0, none⟩) 1 1], h 93 rfl, rfl, _, rfl, hsl⟩⟩
        unfold sl at h11
        simp at h11
        simp [go_sem, h11]
      · refine OpFactW.value rfl (FS17_below _ _ _ _ _ _ _ _ _) hBB fun L a w2 hl hf D hb => ?_
        obtain ⟨cs, h11, -, v, rfl, hv⟩ : ag1 StpC 4 _ w2 (sl a 93) ⟨⟨#[]⟩, 0, 0, [⟨0, 127, [⟨byy, 0⟩]⟩]⟩ := D 10 (by kernel_rfl)
        obtain ⟨A1, c1, rfl, -⟩ := Sl.openF hv
        refine ⟨.slice (some ⟨w2.heap.size, 0, none⟩) 1 1, w2.alloc (.cells ([.string ⟨#[]⟩, .int .i64 0, .int .i64 0, .slice A1 1 c1] : List Value).toArray 92), ?_, Ba (B0 w2) _, fun s _ h => ?_⟩
        · unfold sl at h11
          simp at h11
          simp [go_sem, h11]
        · show rw1 StpC 92 4 _ _ (s 94) _
          rw [h 94 rfl]
          exact rw1.new relStp rfl ⟨_, rfl, hv⟩ (Below.size hb)
      · refine OpFactW.write rfl fun L a w2 hl hf D hb => ?_
        have h3 : stC F _ w2 (sl a 86) sts := D 3 (by kernel_rfl)
        have h11 : rw1 StpC 92 4 _ w2 (sl a 94) ⟨⟨#[]⟩, 0, 0, [⟨0, 127, [⟨byy, 0⟩]⟩]⟩ := D 11 (by kernel_rfl)
        obtain ⟨v', w', hrun, hst, hB, hk9, hz9⟩ := run_appStp _ h3 h11 HM9.out
        have hb9 := hB w8 (Nat.le_refl _) hb
        refine ⟨v', w', exec_app rfl rfl rfl hrun, hb9, fun j hj hE hFj => ?_, fun s _ h => ?_⟩
        · match j with
          | 0 => exact hFj
          | 1 => exact hFj
          | 2 => exact hFj
          | 3 => exact absurd hE (by intro hE; rcases hE with h | h; exact absurd h (by decide); rw [show consW _ 12 3 = false by kernel_rfl] at h; cases h)
          | 4 => exact hFj
          | 5 => exact hFj
          | 6 => exact hFj
          | 7 => exact rw1.typ relDr hFj (by decide) hk9
          | 8 => exact ag1.typ relSeg hFj hk9
          | 9 => exact rw1.typ relSeg hFj (by decide) hk9
          | 10 => exact ag1.typ relStp hFj hk9
          | 11 => exact absurd hE (by intro hE; rcases hE with h | h; exact absurd h (by decide); rw [show consW _ 12 11 = false by kernel_rfl] at h; cases h)
          | 12 => exact absurd rfl hj
          | _ + 13 => trivial
        · show stF F _ w' (s 95) _ ∧ _
          rw [h 95 rfl]
          exact ⟨hst, fun c hc => Nat.lt_of_lt_of_le (HF8.out c hc) hb9.size⟩
      intro L9 y9 w9 hb9 hF9
      obtain ⟨h95, -⟩ : stF F w8.heap.size w9 (y9 95) (sts ++ [(⟨⟨#[]⟩, 0, 0, [⟨0, 127, [⟨byy, 0⟩]⟩]⟩ : Stp)]) ∧ ∀ c, F c → c < w9.heap.size := hF9 12 (by decide) rfl
      obtain ⟨A9, c9, e95, -⟩ := Sl.openF h95
      rw [e95] at h95
      have h95' : stF F w8.heap.size w9 (.slice A9 (sts ++ [(⟨⟨#[]⟩, 0, 0, [⟨0, 127, [⟨byy, 0⟩]⟩]⟩ : Stp)]).length c9) (sts ++ [(⟨⟨#[]⟩, 0, 0, [⟨0, 127, [⟨byy, 0⟩]⟩]⟩ : Stp)]) := h95
      obtain ⟨l9, hl9⟩ : ∃ n, (sts ++ [(⟨⟨#[]⟩, 0, 0, [⟨0, 127, [⟨byy, 0⟩]⟩]⟩ : Stp)]).length = n := ⟨_, rfl⟩
      rw [hl9] at h95' e95
      have HS9 := Lib.hid h95'
      have HB9 := Lib.hid (show Below w8.heap.size w8 w9 from hb9)
      have d4 : w9.cell? ⟨db, 4, none⟩ = some (.slice At sts.length ct) := HSD.out w9 HB9.out
      have fd4 := (HSB.out.hD.below HB9.out HSB.out.hD.lt).frozen 4
      clear h95 h95' hb9 hF9 hl9
      rw [aft13 (d0 := 83) (d1 := 84) (d2 := 85) (d3 := 86) (d4 := 87) (d5 := 88) (d6 := 89) (d7 := 90) (d8 := 91) (d9 := 92) (d10 := 93) (d11 := 94) (d12 := 95) (by kernel_rfl) rfl]
      rw [e95]
      simp only [List.set_cons_succ, List.set_cons_zero]
      refine from_list 15 (by kernel_rfl) (by simp only [List.take_succ_cons, List.take_zero, List.drop_succ_cons, List.drop_zero]; exact rfl) ?_
      (intro Q' hQ' hX; clear hX)
      go_wp2_with fail
      refine from_end rfl ?_
      go_wp2_with fail
      go_meet
      exact ⟨rfl, HSB.out.setT HB9.out _ HS9.out HN1.out HN2.out hn3 hn4⟩
    · have hqn := HLS.out
      subst hqn
      clear HLS
      have HSD := Lib.hid (fun W (hb : Below w8.heap.size w8 W) => (show W.cell? ⟨db, 4, none⟩ = some (.slice At sts.length ct) from (Bc hb HSB.out.hD.lt).trans (HSB.out.hD.cell 4)))
      have HSX := Lib.hid (fun W (hb : Below w8.heap.size w8 W) => (show W.cell? ⟨b1, 2, none⟩ = some (.int .i64 byy) from (Bc hb HKS8.out.lt).trans (HKS8.out.cell 2)))
      have HSS := Lib.hid (fun W (hb : Below w8.heap.size w8 W) => (show Sl F 4 (StpC F) W (.slice At sts.length ct) sts from Sl.keepF relStp HSB.out.hT (Agree.below hb HF8.out)))
      have HM9 : Hid (sts.length ≤ 1000) := Lib.hid (by
        have h := HT9.out _ (List.getElem_mem hdl)
        rw [HDK.out] at h
        exact h)
      have hBB : ∀ (L : Nat → Bool) (i : Nat) (w w' : World), Below w.heap.size w w' → Below w8.heap.size w8 w → Below w8.heap.size w8 w' := fun _ _ _ _ h1 h2 => Bt h2 h1
      go_upto_region 19 with fail
      refine region_blocks (by kernel_rfl) ?_
      refine from_lawW 13 ES19 (fun _ W => Below w8.heap.size w8 W) (FS19 F db b1 sts.length ct w8.heap.size byy At sts) VS19 (by kernel_rfl) rfl (FS19_V _ _ _ _ _ _ _ _ _) (by kernel_rfl) (by kernel_rfl) ((B0 w8).drew) ⟨?_, ?_, ?_, ?_, ?_, ?_, ?_, ?_, ?_, ?_, ?_, ?_, ?_, trivial⟩ ?_
      · refine OpFactW.value rfl (FS19_below _ _ _ _ _ _ _ _ _) hBB fun L a w2 hl hf D hb => ?_
        refine ⟨.slice (some ⟨w2.heap.size, 0, none⟩) 0 0, w2.alloc (.cells #[] 92), ?_, Ba (B0 w2) _, fun s _ h => ⟨_, h 99 rfl⟩⟩
        simp [go_sem]
      · refine OpFactW.value rfl (FS19_below _ _ _ _ _ _ _ _ _) hBB fun L a w2 hl hf D hb => ?_
        have h0 : sl a 8 = .pointer (some ⟨db, 0, none⟩) := hf 8 (by kernel_rfl)
        refine ⟨.pointer (some ⟨db, 4, none⟩), w2, ?_, B0 _, fun s _ h => h 100 rfl⟩
        unfold sl at h0
        simp at h0
        simp [go_sem, h0]
      · refine OpFactW.value rfl (FS19_below _ _ _ _ _ _ _ _ _) hBB fun L a w2 hl hf D hb => ?_
        have h0 : sl a 100 = .pointer (some ⟨db, 4, none⟩) := D 1 (by kernel_rfl)
        have es := HSD.out w2 hb
        refine ⟨.slice At sts.length ct, w2, ?_, B0 _, fun s _ h => h 101 rfl⟩
        unfold sl at h0
        simp at h0
        simp [go_sem, h0, es]
      · refine OpFactW.value rfl (FS19_below _ _ _ _ _ _ _ _ _) hBB fun L a w2 hl hf D hb => ?_
        obtain ⟨A0, h11⟩ : nilS (sl a 99) := D 0 (by kernel_rfl)
        have h12 : sl a 101 = .slice At sts.length ct := D 2 (by kernel_rfl)
        obtain ⟨v', w', hrun, hbl, hst⟩ := run_copyStp (F := F) (lim := w8.heap.size) (w := w2) _ A0 HF8.out (Below.size hb) (HSS.out w2 hb) HM9.out
        refine ⟨v', w', exec_app rfl h11 h12 hrun, hbl, fun s _ h => ?_⟩
        show stC F _ w' (s 102) sts
        rw [h 102 rfl]
        exact hst
      · refine OpFactW.value rfl (FS19_below _ _ _ _ _ _ _ _ _) hBB fun L a w2 hl hf D hb => ?_
        have h0 : sl a 3 = .pointer (some ⟨b1, 0, none⟩) := hf 3 (by kernel_rfl)
        refine ⟨.pointer (some ⟨b1, 2, none⟩), w2, ?_, B0 _, fun s _ h => h 103 rfl⟩
        unfold sl at h0
        simp at h0
        simp [go_sem, h0]
      · refine OpFactW.value rfl (FS19_below _ _ _ _ _ _ _ _ _) hBB fun L a w2 hl hf D hb => ?_
        have h0 : sl a 103 = .pointer (some ⟨b1, 2, none⟩) := D 4 (by kernel_rfl)
        have es := HSX.out w2 hb
        refine ⟨.int .i64 byy, w2, ?_, B0 _, fun s _ h => h 104 rfl⟩
        unfold sl at h0
        simp at h0
        simp [go_sem, h0, es]
      · refine OpFactW.value rfl (FS19_below _ _ _ _ _ _ _ _ _) hBB fun L a w2 hl hf D hb => ?_
        have h11 : sl a 104 = .int .i64 byy := D 5 (by kernel_rfl)
        refine ⟨.agg #[.int .i64 0, .int .i64 byy], w2, ?_, B0 _, fun s _ h => h 105 rfl⟩
        unfold sl at h11
        simp at h11
        simp [go_sem, h11]
      · refine OpFactW.value rfl (FS19_below _ _ _ _ _ _ _ _ _) hBB fun L a w2 hl hf D hb => ?_
        have h11 : sl a 105 = .agg #[.int .i64 0, .int .i64 byy] := D 6 (by kernel_rfl)
        refine ⟨.slice (some ⟨w2.heap.size, 0, none⟩) 1 1, w2.alloc (.cells ([.int .i64 0, .int .i64 byy] : List Value).toArray 86), ?_, Ba (B0 w2) _, fun s _ h => ?_⟩
        · unfold sl at h11
          simp at h11
          simp [go_sem, h11]
        · show rw1 DrC 86 2 _ _ (s 106) _
          rw [h 106 rfl]
          exact rw1.new relDr rfl rfl (Below.size hb)
      · refine OpFactW.value rfl (FS19_below _ _ _ _ _ _ _ _ _) hBB fun L a w2 hl hf D hb => ?_
        have hr : rw1 DrC 86 2 _ w2 (sl a 106) ⟨0, byy⟩ := D 7 (by kernel_rfl)
        obtain ⟨g, h11, hsl⟩ := rw1.sl hr (by decide)
        rw [h11] at hsl
        refine ⟨.agg #[.int .i64 0, .int .i64 127, .slice (some ⟨g, 0, none⟩) 1 1], w2, ?_, B0 _, fun s _ h => ⟨[.int .i64 0, .int .i64 127, .slice (some ⟨g, 0, none⟩) 1 1], h 107 rfl, rfl, _, rfl, hsl⟩⟩
        unfold sl at h11
        simp at h11
        simp [go_sem, h11]
      · refine OpFactW.value rfl (FS19_below _ _ _ _ _ _ _ _ _) hBB fun L a w2 hl hf D hb => ?_
        obtain ⟨cs, h11, -, v, rfl, hv⟩ : ag1 SegC 3 _ w2 (sl a 107) ⟨0, 127, [⟨0, byy⟩]⟩ := D 8 (by kernel_rfl)
        obtain ⟨A1, c1, rfl, -⟩ := Sl.openF hv
        refine ⟨.slice (some ⟨w2.heap.size, 0, none⟩) 1 1, w2.alloc (.cells ([.int .i64 0, .int .i64 127, .slice A1 1 c1] : List Value).toArray 89), ?_, Ba (B0 w2) _, fun s _ h => ?_⟩
        · unfold sl at h11
          simp at h11
          simp [go_sem, h11]
        · show rw1 SegC 89 3 _ _ (s 108) _
          rw [h 108 rfl]
          exact rw1.new relSeg rfl ⟨_, rfl, hv⟩ (Below.size hb)
      · refine OpFactW.value rfl (FS19_below _ _ _ _ _ _ _ _ _) hBB fun L a w2 hl hf D hb => ?_
        have hr : rw1 SegC 89 3 _ w2 (sl a 108) ⟨0, 127, [⟨0, byy⟩]⟩ := D 9 (by kernel_rfl)
        obtain ⟨g, h11, hsl⟩ := rw1.sl hr (by decide)
        rw [h11] at hsl
        refine ⟨.agg #[.string ⟨#[]⟩, .int .i64 0, .int .i64 0, .slice (some ⟨g, 0, none⟩) 1 1], w2, ?_, B0 _, fun s _ h => ⟨[.string ⟨#[]⟩, .int .i64 0, .int .i64 0, .slice (some ⟨g, 0, none⟩) 1 1], h 109 rfl, rfl, _, rfl, hsl⟩⟩
        unfold sl at h11
        simp at h11
        simp [go_sem, h11]
      · refine OpFactW.value rfl (FS19_below _ _ _ _ _ _ _ _ _) hBB fun L a w2 hl hf D hb => ?_
        obtain ⟨cs, h11, -, v, rfl, hv⟩ : ag1 StpC 4 _ w2 (sl a 109) ⟨⟨#[]⟩, 0, 0, [⟨0, 127, [⟨0, byy⟩]⟩]⟩ := D 10 (by kernel_rfl)
        obtain ⟨A1, c1, rfl, -⟩ := Sl.openF hv
        refine ⟨.slice (some ⟨w2.heap.size, 0, none⟩) 1 1, w2.alloc (.cells ([.string ⟨#[]⟩, .int .i64 0, .int .i64 0, .slice A1 1 c1] : List Value).toArray 92), ?_, Ba (B0 w2) _, fun s _ h => ?_⟩
        · unfold sl at h11
          simp at h11
          simp [go_sem, h11]
        · show rw1 StpC 92 4 _ _ (s 110) _
          rw [h 110 rfl]
          exact rw1.new relStp rfl ⟨_, rfl, hv⟩ (Below.size hb)
      · refine OpFactW.write rfl fun L a w2 hl hf D hb => ?_
        have h3 : stC F _ w2 (sl a 102) sts := D 3 (by kernel_rfl)
        have h11 : rw1 StpC 92 4 _ w2 (sl a 110) ⟨⟨#[]⟩, 0, 0, [⟨0, 127, [⟨0, byy⟩]⟩]⟩ := D 11 (by kernel_rfl)
        obtain ⟨v', w', hrun, hst, hB, hk9, hz9⟩ := run_appStp _ h3 h11 HM9.out
        have hb9 := hB w8 (Nat.le_refl _) hb
        refine ⟨v', w', exec_app rfl rfl rfl hrun, hb9, fun j hj hE hFj => ?_, fun s _ h => ?_⟩
        · match j with
          | 0 => exact hFj
          | 1 => exact hFj
          | 2 => exact hFj
          | 3 => exact absurd hE (by intro hE; rcases hE with h | h; exact absurd h (by decide); rw [show consW _ 12 3 = false by kernel_rfl] at h; cases h)
          | 4 => exact hFj
          | 5 => exact hFj
          | 6 => exact hFj
          | 7 => exact rw1.typ relDr hFj (by decide) hk9
          | 8 => exact ag1.typ relSeg hFj hk9
          | 9 => exact rw1.typ relSeg hFj (by decide) hk9
          | 10 => exact ag1.typ relStp hFj hk9
          | 11 => exact absurd hE (by intro hE; rcases hE with h | h; exact absurd h (by decide); rw [show consW _ 12 11 = false by kernel_rfl] at h; cases h)
          | 12 => exact absurd rfl hj
          | _ + 13 => trivial
        · show stF F _ w' (s 111) _ ∧ _
          rw [h 111 rfl]
          exact ⟨hst, fun c hc => Nat.lt_of_lt_of_le (HF8.out c hc) hb9.size⟩
      intro L9 y9 w9 hb9 hF9
      obtain ⟨h95, -⟩ : stF F w8.heap.size w9 (y9 111) (sts ++ [(⟨⟨#[]⟩, 0, 0, [⟨0, 127, [⟨0, byy⟩]⟩]⟩ : Stp)]) ∧ ∀ c, F c → c < w9.heap.size := hF9 12 (by decide) rfl
      obtain ⟨A9, c9, e95, -⟩ := Sl.openF h95
      rw [e95] at h95
      have h95' : stF F w8.heap.size w9 (.slice A9 (sts ++ [(⟨⟨#[]⟩, 0, 0, [⟨0, 127, [⟨0, byy⟩]⟩]⟩ : Stp)]).length c9) (sts ++ [(⟨⟨#[]⟩, 0, 0, [⟨0, 127, [⟨0, byy⟩]⟩]⟩ : Stp)]) := h95
      obtain ⟨l9, hl9⟩ : ∃ n, (sts ++ [(⟨⟨#[]⟩, 0, 0, [⟨0, 127, [⟨0, byy⟩]⟩]⟩ : Stp)]).length = n := ⟨_, rfl⟩
      rw [hl9] at h95' e95
      have HS9 := Lib.hid h95'
      have HB9 := Lib.hid (show Below w8.heap.size w8 w9 from hb9)
      have d4 : w9.cell? ⟨db, 4, none⟩ = some (.slice At sts.length ct) := HSD.out w9 HB9.out
      have fd4 := (HSB.out.hD.below HB9.out HSB.out.hD.lt).frozen 4
      clear h95 h95' hb9 hF9 hl9
      rw [aft13 (d0 := 99) (d1 := 100) (d2 := 101) (d3 := 102) (d4 := 103) (d5 := 104) (d6 := 105) (d7 := 106) (d8 := 107) (d9 := 108) (d10 := 109) (d11 := 110) (d12 := 111) (by kernel_rfl) rfl]
      rw [e95]
      simp only [List.set_cons_succ, List.set_cons_zero]
      refine from_list 15 (by kernel_rfl) (by simp only [List.take_succ_cons, List.take_zero, List.drop_succ_cons, List.drop_zero]; exact rfl) ?_
      (intro Q' hQ' hX; clear hX)
      go_wp2_with fail
      refine from_end rfl ?_
      go_wp2_with fail
      go_meet
      exact ⟨rfl, HSB.out.setT HB9.out _ HS9.out HN1.out HN2.out hn3 hn4⟩
    · have hqn := HNC.out
      subst hqn
      clear HNC
      have s2 : w8.cell? ⟨b1, 2, none⟩ = some (.int .i64 byy) := HKS8.out.cell 2
      have t3 : w8.cell? ⟨ob, 3, none⟩ = some (.slice AC ocs.length cC) := HSB.out.hO.cell 3
      have HSA := Lib.hid (HSB.out.below (Ba (B0 w8) (.cells ([.string ⟨#[]⟩, .int .i64 byy, .int .i64 0, .int .i64 0, .bool false] : List Value).toArray 94)))
      have HFL := Lib.hid (flds_new w8 94 [.string ⟨#[]⟩, .int .i64 byy, .int .i64 0, .int .i64 0, .bool false])
      have HCW := Lib.hid HSA.out.hC
      have hnn : ocs.length + 1 ≤ 1000000000 := by omega
      have hbb : BC ≤ (w8.alloc (.cells ([.string ⟨#[]⟩, .int .i64 byy, .int .i64 0, .int .i64 0, .bool false] : List Value).toArray 94)).heap.size := by have := HORD.out; simp; omega
      have hgb : ∀ c, F c → c < BC := fun c hc => by have := HORD.out; have := hF c hc; omega
      have HNN := Lib.hid hnn
      have HBB9 := Lib.hid hbb
      have HGB := Lib.hid hgb
      clear hnn hbb hgb
      go_wp2_with (at_builtin; go_must (refine wpList_appC elemCpl (by omega) rfl _ _ rfl relCpl rfl HCW.out ⟨w8.heap.size, 0, none⟩ 1 [.string ⟨#[]⟩, .int .i64 byy, .int .i64 0, .int .i64 0, .bool false] rfl rfl HFL.out (by simp [Value.oneCell']) HNN.out (by omega) HBB9.out HGB.out ⟨⟨#[]⟩, byy, 0, 0, false⟩ (fun _ => rfl) ?_); intro A9 c9 w9 hc9 hB9 hk9 hA9 hz9; have HS9 := Lib.hid (HSA.out.cpl1 hc9 hB9 hk9 hA9); have t9 := HS9.out.hO.cell 3; have ft9 := HS9.out.hO.frozen 3; clear hc9 hB9 hk9 hA9 hz9)
      go_meet
      exact ⟨rfl, (HS9.out.putO _).toT0 HN1.out HN2.out hn3 hn4⟩
    · have hqn := HNC.out
      subst hqn
      clear HNC
      have s2 : w8.cell? ⟨b1, 2, none⟩ = some (.int .i64 byy) := HKS8.out.cell 2
      have t3 : w8.cell? ⟨ob, 3, none⟩ = some (.slice AC ocs.length cC) := HSB.out.hO.cell 3
      have HSA := Lib.hid (HSB.out.below (Ba (B0 w8) (.cells ([.string ⟨#[]⟩, .int .i64 0, .int .i64 byy, .int .i64 0, .bool false] : List Value).toArray 94)))
      have HFL := Lib.hid (flds_new w8 94 [.string ⟨#[]⟩, .int .i64 0, .int .i64 byy, .int .i64 0, .bool false])
      have HCW := Lib.hid HSA.out.hC
      have hnn : ocs.length + 1 ≤ 1000000000 := by omega
      have hbb : BC ≤ (w8.alloc (.cells ([.string ⟨#[]⟩, .int .i64 0, .int .i64 byy, .int .i64 0, .bool false] : List Value).toArray 94)).heap.size := by have := HORD.out; simp; omega
      have hgb : ∀ c, F c → c < BC := fun c hc => by have := HORD.out; have := hF c hc; omega
      have HNN := Lib.hid hnn
      have HBB9 := Lib.hid hbb
      have HGB := Lib.hid hgb
      clear hnn hbb hgb
      go_wp2_with (at_builtin; go_must (refine wpList_appC elemCpl (by omega) rfl _ _ rfl relCpl rfl HCW.out ⟨w8.heap.size, 0, none⟩ 1 [.string ⟨#[]⟩, .int .i64 0, .int .i64 byy, .int .i64 0, .bool false] rfl rfl HFL.out (by simp [Value.oneCell']) HNN.out (by omega) HBB9.out HGB.out ⟨⟨#[]⟩, 0, byy, 0, false⟩ (fun _ => rfl) ?_); intro A9 c9 w9 hc9 hB9 hk9 hA9 hz9; have HS9 := Lib.hid (HSA.out.cpl1 hc9 hB9 hk9 hA9); have t9 := HS9.out.hO.cell 3; have ft9 := HS9.out.hO.frozen 3; clear hc9 hB9 hk9 hA9 hz9)
      go_meet
      exact ⟨rfl, (HS9.out.putO _).toT0 HN1.out HN2.out hn3 hn4⟩
    · have hqn := HNC.out
      subst hqn
      clear HNC
      have s2 : w8.cell? ⟨b1, 2, none⟩ = some (.int .i64 byy) := HKS8.out.cell 2
      have t3 : w8.cell? ⟨ob, 3, none⟩ = some (.slice AC ocs.length cC) := HSB.out.hO.cell 3
      have HSA := Lib.hid (HSB.out.below (Ba (B0 w8) (.cells ([.string ⟨#[]⟩, .int .i64 0, .int .i64 0, .int .i64 byy, .bool false] : List Value).toArray 94)))
      have HFL := Lib.hid (flds_new w8 94 [.string ⟨#[]⟩, .int .i64 0, .int .i64 0, .int .i64 byy, .bool false])
      have HCW := Lib.hid HSA.out.hC
      have hnn : ocs.length + 1 ≤ 1000000000 := by omega
      have hbb : BC ≤ (w8.alloc (.cells ([.string ⟨#[]⟩, .int .i64 0, .int .i64 0, .int .i64 byy, .bool false] : List Value).toArray 94)).heap.size := by have := HORD.out; simp; omega
      have hgb : ∀ c, F c → c < BC := fun c hc => by have := HORD.out; have := hF c hc; omega
      have HNN := Lib.hid hnn
      have HBB9 := Lib.hid hbb
      have HGB := Lib.hid hgb
      clear hnn hbb hgb
      go_wp2_with (at_builtin; go_must (refine wpList_appC elemCpl (by omega) rfl _ _ rfl relCpl rfl HCW.out ⟨w8.heap.size, 0, none⟩ 1 [.string ⟨#[]⟩, .int .i64 0, .int .i64 0, .int .i64 byy, .bool false] rfl rfl HFL.out (by simp [Value.oneCell']) HNN.out (by omega) HBB9.out HGB.out ⟨⟨#[]⟩, 0, 0, byy, false⟩ (fun _ => rfl) ?_); intro A9 c9 w9 hc9 hB9 hk9 hA9 hz9; have HS9 := Lib.hid (HSA.out.cpl1 hc9 hB9 hk9 hA9); have t9 := HS9.out.hO.cell 3; have ft9 := HS9.out.hO.frozen 3; clear hc9 hB9 hk9 hA9 hz9)
      go_meet
      exact ⟨rfl, (HS9.out.putO _).toT0 HN1.out HN2.out hn3 hn4⟩
    · have s1 : w8.cell? ⟨b1, 1, none⟩ = some (.int .u8 (att : Int)) := HKS8.out.cell 1
      obtain ⟨m, hm⟩ : ∃ k, att % 64 = k := ⟨_, rfl⟩
      have hm9 : m < 64 := by omega
      have hm1 : (att : Int).tmod 64 = (m : Int) := by rw [Int.tmod_eq_emod_of_nonneg (by omega)]; omega
      have hm2 : (att : Int) % 64 = (m : Int) := by omega
      have two := Hit.two_u64w m hm9
      have lb : Hit.bit m < 2 ^ 64 := Hit.bit_lt (k := 64) hm9
      have hm64 : IntKind.u64.wrap (m : Int) = (m : Int) := by rw [IntKind.wrap_u64]; omega
      have hmin : min m 64 = m := by omega
      obtain ⟨g, c, e, c4', f4', hs'⟩ := HSB.out.stop kd (by rw [HNS.out]; exact hkdn)
      injection e with e1 e2 e3
      obtain ⟨adS, hadS⟩ : ∃ a : Addr, (⟨g, 0, none⟩ : Addr) = a := ⟨_, rfl⟩
      rw [hadS] at e1
      subst e1
      clear e2 e3
      have hpS : adS.add kd = ⟨g, kd, none⟩ := by rw [← hadS, add_g, Nat.zero_add]
      have hrl : rst[kd]'(by rw [HNS.out]; exact hkdn) < 2 ^ 64 := HN2.out _ (List.getElem_mem _)
      obtain ⟨rv, hrv⟩ : ∃ x, rst[kd]'(by rw [HNS.out]; exact hkdn) = x := ⟨_, rfl⟩
      rw [hrv] at c4' hrl
      have hor := Hit.u64_or rv (Hit.bit m) hrl lb
      have hzl : rv ||| Hit.bit m < 2 ^ 64 := Nat.or_lt_two_pow hrl lb
      obtain ⟨z, hz⟩ : ∃ z, rv ||| Hit.bit m = z := ⟨_, rfl⟩
      rw [hz] at hor hzl
      have hor9 : bits .or .u64 (rv : Int) (Hit.bit m : Int) = (z : Int) := hor
      have hb4 : w8.cell? ⟨b, 4, none⟩ = some (.slice (some adS) nd cS) := HSB.out.hB.cell 4
      have HS9 := Lib.hid (hs' z)
      have hst9 : Hid (∀ x ∈ rst.set kd z, x < 2 ^ 64) := Lib.hid fun x hx => by
        rcases List.mem_or_eq_of_mem_set hx with h | h
        · exact HN2.out x h
        · rw [h]; exact hzl
      clear hm hor hzl hz hrv hadS hs' hrl
      generalize Hit.bit m = bt at *
      go_upto_region 27 with fail
      go_region
      all_goals
        go_wp2_with fail
        go_meet
        exact ⟨rfl, ((HS9.out.below (B0 _).drew).toT0 HN1.out hst9.out hn3 hn4)⟩
    · have s1 : w8.cell? ⟨b1, 1, none⟩ = some (.int .u8 (att : Int)) := HKS8.out.cell 1
      obtain ⟨m, hm⟩ : ∃ k, att % 64 = k := ⟨_, rfl⟩
      have hm9 : m < 64 := by omega
      have hm1 : (att : Int).tmod 64 = (m : Int) := by rw [Int.tmod_eq_emod_of_nonneg (by omega)]; omega
      have hm2 : (att : Int) % 64 = (m : Int) := by omega
      have two := Hit.two_u64w m hm9
      have lb : Hit.bit m < 2 ^ 64 := Hit.bit_lt (k := 64) hm9
      have hm64 : IntKind.u64.wrap (m : Int) = (m : Int) := by rw [IntKind.wrap_u64]; omega
      have hmin : min m 64 = m := by omega
      have hor := Hit.u64_or cp (Hit.bit m) hn3 lb
      have hzl : cp ||| Hit.bit m < 2 ^ 64 := Nat.or_lt_two_pow hn3 lb
      have HZL := Lib.hid hzl
      have d0 : w8.cell? ⟨b, 5, none⟩ = some (.int .u64 (cp : Int)) := HSB.out.hB.cell 5
      have fd0 := HSB.out.hB.frozen 5
      obtain ⟨z, hz⟩ : ∃ z, cp ||| Hit.bit m = z := ⟨_, rfl⟩
      rw [hz] at hor HZL
      have hor9 : bits .or .u64 (cp : Int) (Hit.bit m : Int) = (z : Int) := hor
      clear hm hor hzl hz
      generalize Hit.bit m = bt at *
      go_wp2_with fail
      go_meet
      exact ⟨rfl, (HSB.out.setB 5 (.int .u64 (z : Int)) (cp' := z) (of' := of) rfl rfl).toT0 HN1.out HN2.out HZL.out hn4⟩
    · have s1 : w8.cell? ⟨b1, 1, none⟩ = some (.int .u8 (att : Int)) := HKS8.out.cell 1
      obtain ⟨m, hm⟩ : ∃ k, att % 64 = k := ⟨_, rfl⟩
      have hm9 : m < 64 := by omega
      have hm1 : (att : Int).tmod 64 = (m : Int) := by rw [Int.tmod_eq_emod_of_nonneg (by omega)]; omega
      have hm2 : (att : Int) % 64 = (m : Int) := by omega
      have two := Hit.two_u64w m hm9
      have lb : Hit.bit m < 2 ^ 64 := Hit.bit_lt (k := 64) hm9
      have hm64 : IntKind.u64.wrap (m : Int) = (m : Int) := by rw [IntKind.wrap_u64]; omega
      have hmin : min m 64 = m := by omega
      have hor := Hit.u64_or of (Hit.bit m) hn4 lb
      have hzl : of ||| Hit.bit m < 2 ^ 64 := Nat.or_lt_two_pow hn4 lb
      have HZL := Lib.hid hzl
      have d0 : w8.cell? ⟨b, 6, none⟩ = some (.int .u64 (of : Int)) := HSB.out.hB.cell 6
      have fd0 := HSB.out.hB.frozen 6
      obtain ⟨z, hz⟩ : ∃ z, of ||| Hit.bit m = z := ⟨_, rfl⟩
      rw [hz] at hor HZL
      have hor9 : bits .or .u64 (of : Int) (Hit.bit m : Int) = (z : Int) := hor
      clear hm hor hzl hz
      generalize Hit.bit m = bt at *
      go_wp2_with fail
      go_meet
      exact ⟨rfl, (HSB.out.setB 6 (.int .u64 (z : Int)) (cp' := cp) (of' := z) rfl rfl).toT0 HN1.out HN2.out hn3 HZL.out⟩
    · have s1 : w8.cell? ⟨b1, 1, none⟩ = some (.int .u8 (att : Int)) := HKS8.out.cell 1
      obtain ⟨m, hm⟩ : ∃ k, att % 64 = k := ⟨_, rfl⟩
      have hm9 : m < 64 := by omega
      have hm1 : (att : Int).tmod 64 = (m : Int) := by rw [Int.tmod_eq_emod_of_nonneg (by omega)]; omega
      have hm2 : (att : Int) % 64 = (m : Int) := by omega
      have two := Hit.two_u64w m hm9
      have lb : Hit.bit m < 2 ^ 64 := Hit.bit_lt (k := 64) hm9
      have hm64 : IntKind.u64.wrap (m : Int) = (m : Int) := by rw [IntKind.wrap_u64]; omega
      have hmin : min m 64 = m := by omega
      have hkk : kd < kys.length := by rw [HNK.out]; exact hkdn
      obtain ⟨g, c, e, c4', f4', hs'⟩ := HSB.out.key kd hkk
      injection e with e1 e2 e3
      obtain ⟨adK, hadK⟩ : ∃ a : Addr, (⟨g, 0, none⟩ : Addr) = a := ⟨_, rfl⟩
      rw [hadK] at e1
      subst e1
      clear e2 e3
      obtain ⟨pk, hpk⟩ : ∃ p, kd * 2 = p := ⟨_, rfl⟩
      rw [hpk] at c4' f4' hs'
      have hpK : adK.add (kd * 2) = ⟨g, pk, none⟩ := by rw [← hadK, add_g, Nat.zero_add, hpk]
      have hrl : kys[kd] < 2 ^ 128 := HN1.out _ (List.getElem_mem _)
      obtain ⟨rv, hrv⟩ : ∃ x, kys[kd] = x := ⟨_, rfl⟩
      rw [hrv] at c4' hrl hs'
      have hlo : Nt.lo (rv ||| Hit.bit m) = Nt.lo rv ||| Hit.bit m := by rw [Nt.lo_or, Nt.lo_bit hm9]
      have hs9 := hs' (rv ||| Hit.bit m) (by rw [Nt.hi_or, Nt.hi_bit hm9, Nat.or_zero])
      rw [hlo] at hs9
      have hor := Hit.u64_or (Nt.lo rv) (Hit.bit m) (Nt.lo_lt rv) lb
      have hzl : rv ||| Hit.bit m < 2 ^ 128 := Nat.or_lt_two_pow hrl (Hit.bit_lt (k := 128) (by omega))
      obtain ⟨z, hz⟩ : ∃ z, Nt.lo rv ||| Hit.bit m = z := ⟨_, rfl⟩
      rw [hz] at hor hs9
      obtain ⟨lv, hlv⟩ : ∃ z, Nt.lo rv = z := ⟨_, rfl⟩
      rw [hlv] at hor c4'
      have hor9 : bits .or .u64 (lv : Int) (Hit.bit m : Int) = (z : Int) := hor
      obtain ⟨nv, hnv⟩ : ∃ z, rv ||| Hit.bit m = z := ⟨_, rfl⟩
      rw [hnv] at hs9 hzl
      have hb4 : w8.cell? ⟨b, 7, none⟩ = some (.slice (some adK) nd cK) := HSB.out.hB.cell 7
      have HS9 := Lib.hid hs9
      have hst9 : Hid (∀ x ∈ kys.set kd nv, x < 2 ^ 128) := Lib.hid fun x hx => by
        rcases List.mem_or_eq_of_mem_set hx with h | h
        · exact HN1.out x h
        · rw [h]; exact hzl
      clear hm hor hzl hz hrv hadK hs' hrl hlo hs9 hlv hnv hpk
      generalize Hit.bit m = bt at *
      go_upto_region 33 with fail
      go_region
      all_goals
        go_wp2_with fail
        go_meet
        exact ⟨rfl, ((HS9.out.below (B0 _).drew).toT0 hst9.out HN2.out hn3 hn4)⟩
    · have s1 : w8.cell? ⟨b1, 1, none⟩ = some (.int .u8 (att : Int)) := HKS8.out.cell 1
      have s2 : w8.cell? ⟨b1, 2, none⟩ = some (.int .i64 byy) := HKS8.out.cell 2
      obtain ⟨m, hm⟩ : ∃ k, att % 30 = k := ⟨_, rfl⟩
      have hm9 : m < 30 := by omega
      have hm1 : (att : Int).tmod 30 = (m : Int) := by rw [Int.tmod_eq_emod_of_nonneg (by omega)]; omega
      have hm2 : (att : Int) % 30 = (m : Int) := by omega
      have hm64 : IntKind.i64.wrap (m : Int) = (m : Int) := by rw [IntKind.wrap_i64]; omega
      have d0 : w8.cell? ⟨b, 8, none⟩ = some (.int .i64 rank) := HSB.out.hB.cell 8
      have d1 : w8.cell? ⟨b, 9, none⟩ = some (.int .i64 num) := HSB.out.hB.cell 9
      have fd0 := HSB.out.hB.frozen 8
      have fd1 := HSB.out.hB.frozen 9
      clear hm
      go_wp2_with fail
      go_meet
      exact ⟨rfl, ((HSB.out.setB 8 (.int .i64 byy) (cp' := cp) (of' := of) (rank' := byy) rfl rfl).setB 9 (.int .i64 (m : Int)) (cp' := cp) (of' := of) rfl rfl).toT0 HN1.out HN2.out hn3 hn4⟩
    · have d0 : w8.cell? ⟨b, 7, none⟩ = some (.slice AK nd cK) := HSB.out.hB.cell 7
      have fd0 := HSB.out.hB.frozen 7
      have htl := Sl.tailK HSB.out.slK hd1
      have hck : nd ≤ cK := by
        obtain ⟨A0, c0, e0, h0, -⟩ := HSB.out.slK
        injection e0 with e1 e2 e3
        rw [e2, e3]; exact h0
      have hdr : Hid (∀ x ∈ kys.drop 1, x < 2 ^ 128) := Lib.hid fun x hx => HN1.out x (List.mem_of_mem_drop hx)
      have HTL := Lib.hid htl
      have hckI : (nd : Int) ≤ (cK : Int) := by omega
      have hndI : (1 : Int) ≤ (nd : Int) := by omega
      clear htl
      by_cases hc1 : cK = 1
      · subst hc1
        have ht1 := HTL.out
        rw [if_pos rfl, show nd - 1 = 0 by omega, show (1 : Nat) - 1 = 0 from rfl] at ht1
        have HT1 := Lib.hid ht1
        clear ht1 HTL
        go_wp2_with fail
        go_meet
        exact ⟨rfl, HSB.out.setK _ HT1.out hdr.out HN2.out hn3 hn4⟩
      · have ht1 := HTL.out
        rw [if_neg hc1] at ht1
        have HT1 := Lib.hid ht1
        have hc1I : ¬ ((cK : Int) = 1) := by omega
        clear ht1 HTL
        go_wp2_with fail
        go_meet
        exact ⟨rfl, HSB.out.setK _ HT1.out hdr.out HN2.out hn3 hn4⟩
    · obtain ⟨m, hm⟩ : ∃ k, att % 2 = k := ⟨_, rfl⟩
      have hm9 : m < 2 := by omega
      have hm1 : (att : Int).tmod 2 = (m : Int) := by rw [Int.tmod_eq_emod_of_nonneg (by omega)]; omega
      have hm2 : (att : Int) % 2 = (m : Int) := by omega
      have hm64 : IntKind.i64.wrap (m : Int) = (m : Int) := by rw [IntKind.wrap_i64]; omega
      have hm40 : IntKind.i64.wrap (40 + (m : Int)) = 40 + (m : Int) := by rw [IntKind.wrap_i64]; omega
      have hqn := HNC.out
      obtain ⟨nC0, hnC0⟩ : ∃ n, ocs.length = n := ⟨_, rfl⟩
      have hS15 : SpB F w on b ob db b2 gD cD nd BR BD BC BS BK ods (.slice AR nr cR) (.slice AC ocs.length cC) (.slice AC ocs.length cC) (.slice AS nd cS) (.slice AK nd cK) (.slice At ls ct) (.slice Ar nr cr) (.slice Ad nd cd) (.slice Ac nc cc) ors ⟨dn, dp, lo, hi, sts⟩ ocs rst cp of kys rank num w8 := by rw [HNC.out]; exact HSB.out
      have HS15 := Lib.hid hS15
      have HC15 : Hid (ocs.length ≤ 1000) := Lib.hid (by rw [HNC.out]; exact hc9)
      clear hm hqn hS15 hnC0
      go_wp2_with fail
      go_loopg [] 50 (fun gg wr => ∃ (A : Option Addr) (c : Nat) (l : List Cpl), 42 - l.length ≤ gg ∧ l.length ≤ 1000 ∧ Aside (SpB F w on b ob db b2 gD cD nd BR BD BC BS BK ods (.slice AR nr cR) (.slice A l.length c) (.slice A l.length c) (.slice AS nd cS) (.slice AK nd cK) (.slice At ls ct) (.slice Ar nr cr) (.slice Ad nd cd) (.slice Ac nc cc) ors ⟨dn, dp, lo, hi, sts⟩ l rst cp of kys rank num wr) ∧ Aside (Blk wr b1 33 #[.int .u8 (ho : Int), .int .u8 (att : Int), .int .i64 byy]))
      case atStart => exact ⟨AC, cC, ocs, by omega, HC15.out, HS15.out, HKS8.out⟩
      case round =>
        obtain ⟨A, c, l, hl, hl9, hS, hKS⟩ := hrel
        have HS := Lib.hid hS
        have HKS := Lib.hid hKS
        clear hS hKS HS15 HKS8 HSB HC15
        have s1 : wr.cell? ⟨b1, 1, none⟩ = some (.int .u8 (att : Int)) := HKS.out.cell 1
        have t3 : wr.cell? ⟨ob, 3, none⟩ = some (.slice A l.length c) := HS.out.hO.cell 3
        by_cases hlt : l.length < 40 + m
        · have hltI : decide ((l.length : Int) < 40 + (m : Int)) = true := decide_eq_true (by omega)
          have hltI2 : (l.length : Int) < 40 + (m : Int) := by omega
          have HSA := Lib.hid (HS.out.below (Ba (B0 wr) (.cells ([.string ⟨#[]⟩, .int .i64 0, .int .i64 0, .int .i64 1, .bool false] : List Value).toArray 94)))
          have HFL := Lib.hid (flds_new wr 94 [.string ⟨#[]⟩, .int .i64 0, .int .i64 0, .int .i64 1, .bool false])
          have HCW := Lib.hid HSA.out.hC
          have hnn : l.length + 1 ≤ 1000000000 := by omega
          have hbb : BC ≤ (wr.alloc (.cells ([.string ⟨#[]⟩, .int .i64 0, .int .i64 0, .int .i64 1, .bool false] : List Value).toArray 94)).heap.size := by have := HORD.out; have := HS.out.hD.lt; simp; omega
          have hgb : ∀ c, F c → c < BC := fun c hc => by have := HORD.out; have := hF c hc; omega
          have HNN := Lib.hid hnn
          have HBB9 := Lib.hid hbb
          have HGB := Lib.hid hgb
          have HKA := Lib.hid (HKS.out.alloc (.cells ([.string ⟨#[]⟩, .int .i64 0, .int .i64 0, .int .i64 1, .bool false] : List Value).toArray 94))
          clear hnn hbb hgb
          go_wp2_with (at_builtin; go_must (refine wpList_appC elemCpl (by omega) rfl _ _ rfl relCpl rfl HCW.out ⟨wr.heap.size, 0, none⟩ 1 [.string ⟨#[]⟩, .int .i64 0, .int .i64 0, .int .i64 1, .bool false] rfl rfl HFL.out (by simp [Value.oneCell']) HNN.out (by omega) HBB9.out HGB.out ⟨⟨#[]⟩, 0, 0, 1, false⟩ (fun _ => rfl) ?_); intro A9 c9 w9 hc9 hB9 hk9 hA9 hz9; have HS9 := Lib.hid (HSA.out.cpl1 hc9 hB9 hk9 hA9); have t9 := HS9.out.hO.cell 3; have ft9 := HS9.out.hO.frozen 3; have HK9 := Lib.hid (hk9 _ _ _ HKA.out (by decide)); clear hc9 hB9 hk9 hA9 hz9)
          go_roundg (42 - (l.length + 1))
          case measure => omega
          case rel =>
            refine ⟨A9, c9, l ++ [⟨⟨#[]⟩, 0, 0, 1, false⟩], by rw [List.length_append]; show 42 - (l.length + 1) ≤ _; omega, by rw [List.length_append]; show l.length + 1 ≤ _; omega, ?_, HK9.out.far (by have := HORD.out; show b1 ≠ ob; omega) _⟩
            rw [List.length_append]
            exact HS9.out.putO _
        · have hltI : decide ((l.length : Int) < 40 + (m : Int)) = false := decide_eq_false (by omega)
          have hltI2 : ¬ (l.length : Int) < 40 + (m : Int) := by omega
          go_wp2_with fail
          go_meet
          exact ⟨rfl, HS.out.toT0 HN1.out HN2.out hn3 hn4⟩
  case rest =>
    clear s0 hκ hκ1 hκ2 hκ3 HKO8 HKB8 HKS8 HKZ8 HKD8 HCR8 HCD8 HCC8 HCS8 HCK8 HST8 HGD8 HBW8
    obtain ⟨rfl, hsp⟩ := hcut
    obtain ⟨G, vR, vC, vS, vK, vt, u1, u2, u3, ors', dv, ocs', rst', cp', of', kys', rank', num', hG, hO, hB, hD, hZ, hR', hC', hS', hK', hT', hV, n1, n2, n3, n4, hbw⟩ := hsp
    obtain ⟨aR, kR, rfl, -⟩ := Sl.openF hR'
    obtain ⟨aC, kC, rfl, -⟩ := Sl.openF hC'
    obtain ⟨aS, kS, rfl, -⟩ := Sl.openF hS'
    obtain ⟨aK, kK, rfl, -⟩ := Sl.openF hK'
    obtain ⟨aT, kT, rfl, -⟩ := Sl.openF hT'
    obtain ⟨lR, hlR⟩ : ∃ n, ors'.length = n := ⟨_, rfl⟩
    obtain ⟨lC, hlC⟩ : ∃ n, ocs'.length = n := ⟨_, rfl⟩
    obtain ⟨lS, hlS⟩ : ∃ n, rst'.length = n := ⟨_, rfl⟩
    obtain ⟨lK, hlK⟩ : ∃ n, kys'.length = n := ⟨_, rfl⟩
    obtain ⟨lT, hlT⟩ : ∃ n, dv.stops.length = n := ⟨_, rfl⟩
    rw [hlR] at hR' hO
    rw [hlC] at hC' hO
    rw [hlS] at hS' hB
    rw [hlK] at hK' hB
    rw [hlT] at hT' hD
    clear hlR hlC hlS hlK hlT
    have hkl : kd < ods.length := by rw [HND.out]; exact hkdn
    obtain ⟨gE, cE, curE, e1, hgE, hcur, hcl, hV1⟩ := CopyF.putDv hV kd hkl dv _ hT'
    injection e1 with e1 e2 e3
    injection e1 with e1
    injection e1 with e1
    subst e1
    clear e2 e3 hgE hV
    obtain ⟨x0, c0⟩ := hcl 0 (by decide)
    obtain ⟨x1, c1⟩ := hcl 1 (by decide)
    obtain ⟨x2, c2⟩ := hcl 2 (by decide)
    obtain ⟨x3, c3⟩ := hcl 3 (by decide)
    obtain ⟨x4, c4⟩ := hcl 4 (by decide)
    have hpA2 : adD.add (kd * 5) = ⟨gD, kd * 5, none⟩ := by rw [hpA, HPE.out]
    obtain ⟨pq, hpq⟩ : ∃ pq, kd * 5 = pq := ⟨_, rfl⟩
    rw [hpq] at hpA2 c0 c1 c2 c3 c4 hV1
    have hpA3 : adD.add (kd * 5) = ⟨gD, pq, none⟩ := by rw [hpq]; exact hpA2
    have f0 := hcur.frozen (pq + 0)
    have f1 := hcur.frozen (pq + 1)
    have f2 := hcur.frozen (pq + 2)
    have f3 := hcur.frozen (pq + 3)
    have f4 := hcur.frozen (pq + 4)
    rw [Nat.add_zero] at c0 f0 hV1
    have o2 : wc.cell? ⟨ob, 2, none⟩ = some (.slice (some adD) nd cD) := by rw [← HADD.out]; exact hO.cell 2
    have d0 : wc.cell? ⟨db, 0, none⟩ = some (.string dv.name) := hD.cell 0
    have d1 : wc.cell? ⟨db, 1, none⟩ = some (.bool dv.ped) := hD.cell 1
    have d2 : wc.cell? ⟨db, 2, none⟩ = some (.int .i64 dv.lo) := hD.cell 2
    have d3 : wc.cell? ⟨db, 3, none⟩ = some (.int .i64 dv.hi) := hD.cell 3
    have d4 : wc.cell? ⟨db, 4, none⟩ = some (.slice aT lT kT) := hD.cell 4
    have HH := Lib.hid hG
    have HHR := Lib.hid hR'
    have HHC := Lib.hid hC'
    have HHS := Lib.hid hS'
    have HHK := Lib.hid hK'
    have HV1 := Lib.hid hV1
    have HHO := Lib.hid hO
    have HHB := Lib.hid hB
    have HHZ := Lib.hid hZ
    have HBWc := Lib.hid hbw
    have HN1' := Lib.hid n1
    have HN2' := Lib.hid n2
    have hBDc : BD ≤ wc.heap.size := by have := hcur.lt; omega
    clear hG hR' hC' hS' hK' hT' hV1 hO hB hD hZ hbw n1 n2 hcl hcur hpA hpq hkl hpA2
    have hpA := hpA3
    clear hpA3
    go_upto_region 42 with fail
    obtain ⟨wV, hwV⟩ : ∃ W : World, (((((wc.setCell ⟨gD, pq, none⟩ (.string dv.name)).setCell ⟨gD, pq + 1, none⟩ (.bool dv.ped)).setCell ⟨gD, pq + 2, none⟩ (.int .i64 dv.lo)).setCell ⟨gD, pq + 3, none⟩ (.int .i64 dv.hi)).setCell ⟨gD, pq + 4, none⟩ (.slice aT lT kT)) = W := ⟨_, rfl⟩
    rw [hwV]
    have hgd9 : BD ≤ gD := hgD
    have hord := HORD.out
    have A1 : ∀ c, c ≠ gD → wV.heap[c]? = wc.heap[c]? := fun c hc => by
      rw [← hwV]
      have h : ∀ (W : World) (q : Nat) (u : Value), (W.setCell ⟨gD, q, none⟩ u).heap[c]? = W.heap[c]? := fun W q u => Below.heap_setCell W _ u c hc
      rw [h, h, h, h, h]
    have Z1 : wV.heap.size = wc.heap.size := by rw [← hwV]; simp [World.setCell]
    have KB : Blk wV b 50 #[.string on, u1, u2, u3, .slice aS lS kS, .int .u64 (cp' : Int), .int .u64 (of' : Int), .slice aK lK kK, .int .i64 rank', .int .i64 num'] := (A1 b (by omega)).trans HHB.out
    have KO : Blk wV ob 40 #[.string on, .slice aR lR kR, .slice (some ⟨gD, 0, none⟩) nd cD, .slice aC lC kC] := (A1 ob (by omega)).trans HHO.out
    have KZ : Blk wV b2 50 snd0 := (A1 b2 (by omega)).trans HHZ.out
    have HV2 : Hid (CopyF BD 80 5 DvsC G wV (.slice (some ⟨gD, 0, none⟩) nd cD) (ods.set kd dv)) := Lib.hid (by rw [← hwV]; exact HV1.out)
    have HBV : Hid (Below w.heap.size w wV) := Lib.hid (by
      rw [← hwV]
      exact Bs (Bs (Bs (Bs (Bs HBWc.out _ (by show w.heap.size ≤ gD; omega)) _ (by show w.heap.size ≤ gD; omega)) _ (by show w.heap.size ≤ gD; omega)) _ (by show w.heap.size ≤ gD; omega)) _ (by show w.heap.size ≤ gD; omega))
    have HA1 := Lib.hid A1
    have HZ1 := Lib.hid Z1
    have t0 : wV.cell? ⟨ob, 0, none⟩ = some (.string on) := KO.cell 0
    have t1 : wV.cell? ⟨ob, 1, none⟩ = some (.slice aR lR kR) := KO.cell 1
    have t2 : wV.cell? ⟨ob, 2, none⟩ = some (.slice (some ⟨gD, 0, none⟩) nd cD) := KO.cell 2
    have t3 : wV.cell? ⟨ob, 3, none⟩ = some (.slice aC lC kC) := KO.cell 3
    have y0 : wV.cell? ⟨b, 0, none⟩ = some (.string on) := KB.cell 0
    have y1 : wV.cell? ⟨b, 1, none⟩ = some u1 := KB.cell 1
    have y2 : wV.cell? ⟨b, 2, none⟩ = some u2 := KB.cell 2
    have y3 : wV.cell? ⟨b, 3, none⟩ = some u3 := KB.cell 3
    have fy0 := KB.frozen 0
    have fy1 := KB.frozen 1
    have fy2 := KB.frozen 2
    have fy3 := KB.frozen 3
    have HKBV := Lib.hid KB
    have HKZV := Lib.hid KZ
    clear A1 Z1 KB KO KZ hwV hord c0 c1 c2 c3 c4 f0 f1 f2 f3 f4 o2 d0 d1 d2 d3 d4 hpA
    go_upto_region 43 with fail
    obtain ⟨wB, hwB⟩ : ∃ W : World, ((((wV.setCell ⟨b, 0, none⟩ (.string on)).setCell ⟨b, 1, none⟩ (.slice aR lR kR)).setCell ⟨b, 2, none⟩ (.slice (some ⟨gD, 0, none⟩) nd cD)).setCell ⟨b, 3, none⟩ (.slice aC lC kC)) = W := ⟨_, rfl⟩
    rw [hwB]
    have hord := HORD.out
    have KB : Blk wB b 50 #[.string on, .slice aR lR kR, .slice (some ⟨gD, 0, none⟩) nd cD, .slice aC lC kC, .slice aS lS kS, .int .u64 (cp' : Int), .int .u64 (of' : Int), .slice aK lK kK, .int .i64 rank', .int .i64 num'] := by
      rw [← hwB]
      have h := (((HKBV.out.set_ 0 (.string on)).set_ 1 (.slice aR lR kR)).set_ 2 (.slice (some ⟨gD, 0, none⟩) nd cD)).set_ 3 (.slice aC lC kC)
      simpa using h
    have A2 : ∀ c, c ≠ b → wB.heap[c]? = wV.heap[c]? := fun c hc => by
      rw [← hwB]
      have h : ∀ (W : World) (q : Nat) (u : Value), (W.setCell ⟨b, q, none⟩ u).heap[c]? = W.heap[c]? := fun W q u => Below.heap_setCell W _ u c hc
      rw [h, h, h, h]
    have Z2 : wB.heap.size = wV.heap.size := by rw [← hwB]; simp [World.setCell]
    have HBB2 : Hid (Below w.heap.size w wB) := Lib.hid (by
      rw [← hwB]
      exact Bs (Bs (Bs (Bs HBV.out _ (by show w.heap.size ≤ b; omega)) _ (by show w.heap.size ≤ b; omega)) _ (by show w.heap.size ≤ b; omega)) _ (by show w.heap.size ≤ b; omega))
    have KZ : Blk wB b2 50 snd0 := (A2 b2 (by omega)).trans HKZV.out
    have HA2 := Lib.hid A2
    have HZ2 := Lib.hid Z2
    clear t0 t1 t2 t3 y0 y1 y2 y3 fy0 fy1 fy2 fy3 A2 Z2 hwB hord
    have y0 : wB.cell? ⟨b, 0, none⟩ = some (.string on) := KB.cell 0
    have y1 : wB.cell? ⟨b, 1, none⟩ = some (.slice aR lR kR) := KB.cell 1
    have y2 : wB.cell? ⟨b, 2, none⟩ = some (.slice (some ⟨gD, 0, none⟩) nd cD) := KB.cell 2
    have y3 : wB.cell? ⟨b, 3, none⟩ = some (.slice aC lC kC) := KB.cell 3
    have y4 : wB.cell? ⟨b, 4, none⟩ = some (.slice aS lS kS) := KB.cell 4
    have y5 : wB.cell? ⟨b, 5, none⟩ = some (.int .u64 (cp' : Int)) := KB.cell 5
    have y6 : wB.cell? ⟨b, 6, none⟩ = some (.int .u64 (of' : Int)) := KB.cell 6
    have y7 : wB.cell? ⟨b, 7, none⟩ = some (.slice aK lK kK) := KB.cell 7
    have y8 : wB.cell? ⟨b, 8, none⟩ = some (.int .i64 rank') := KB.cell 8
    have y9 : wB.cell? ⟨b, 9, none⟩ = some (.int .i64 num') := KB.cell 9
    have HKZB := Lib.hid KZ
    clear KB KZ
    go_step
    go_step
    go_step
    go_step
    refine wpList_storeM rfl rfl _ _ _ rfl b2 0 #[.string on, .slice aR lR kR, .slice (some ⟨gD, 0, none⟩) nd cD, .slice aC lC kC, .slice aS lS kS, .int .u64 (cp' : Int), .int .u64 (of' : Int), .slice aK lK kK, .int .i64 rank', .int .i64 num'] rfl rfl (fun j hj => ⟨by rw [Nat.zero_add, HKZB.out.cell j, Array.getElem?_eq_getElem (show j < snd0.size from hj)]; rfl, HKZB.out.frozen _⟩) (by kernel_rfl) (by simp [Value.oneCell']) fun wZ hwZ0 => ?_
    have hwZ : ((((((((((wB.setCell ⟨b2, 0, none⟩ (.string on)).setCell ⟨b2, 1, none⟩ (.slice aR lR kR)).setCell ⟨b2, 2, none⟩ (.slice (some ⟨gD, 0, none⟩) nd cD)).setCell ⟨b2, 3, none⟩ (.slice aC lC kC)).setCell ⟨b2, 4, none⟩ (.slice aS lS kS)).setCell ⟨b2, 5, none⟩ (.int .u64 (cp' : Int))).setCell ⟨b2, 6, none⟩ (.int .u64 (of' : Int))).setCell ⟨b2, 7, none⟩ (.slice aK lK kK)).setCell ⟨b2, 8, none⟩ (.int .i64 rank')).setCell ⟨b2, 9, none⟩ (.int .i64 num')) = wZ := hwZ0
    clear hwZ0
    go_step
    go_step
    go_step
    go_step
    have hord := HORD.out
    have KZ : Blk wZ b2 50 #[.string on, .slice aR lR kR, .slice (some ⟨gD, 0, none⟩) nd cD, .slice aC lC kC, .slice aS lS kS, .int .u64 (cp' : Int), .int .u64 (of' : Int), .slice aK lK kK, .int .i64 rank', .int .i64 num'] := by
      rw [← hwZ]
      have h := ((((((((((HKZB.out.set_ 0 (.string on)).set_ 1 (.slice aR lR kR)).set_ 2 (.slice (some ⟨gD, 0, none⟩) nd cD)).set_ 3 (.slice aC lC kC)).set_ 4 (.slice aS lS kS)).set_ 5 (.int .u64 (cp' : Int))).set_ 6 (.int .u64 (of' : Int))).set_ 7 (.slice aK lK kK)).set_ 8 (.int .i64 rank')).set_ 9 (.int .i64 num'))
      unfold snd0 at h
      simpa using h
    have A3 : ∀ c, c ≠ b2 → wZ.heap[c]? = wB.heap[c]? := fun c hc => by
      rw [← hwZ]
      have h : ∀ (W : World) (q : Nat) (u : Value), (W.setCell ⟨b2, q, none⟩ u).heap[c]? = W.heap[c]? := fun W q u => Below.heap_setCell W _ u c hc
      rw [h, h, h, h, h, h, h, h, h, h]
    have Z3 : wZ.heap.size = wB.heap.size := by rw [← hwZ]; simp [World.setCell]
    have hbz : Below w.heap.size w wZ := by
      have h2 : w.heap.size ≤ b2 := by omega
      rw [← hwZ]
      exact (Bs (Bs (Bs (Bs (Bs (Bs (Bs (Bs (Bs (Bs HBB2.out _ h2) _ h2) _ h2) _ h2) _ h2) _ h2) _ h2) _ h2) _ h2) _ h2)
    clear hwZ
    have hfr : Tryz.f6.results = #[.cell 4 50] := rfl
    have hsz : (Tryz.prog.info? 50).map (·.size) = some 10 := by kernel_rfl
    refine bodyPost_ret (fn := Tryz.f6) (v := .agg ([.string on, .slice aR lR kR, .slice (some ⟨gD, 0, none⟩) nd cD, .slice aC lC kC, .slice aS lS kS, .int .u64 (cp' : Int), .int .u64 (of' : Int), .slice aK lK kK, .int .i64 rank', .int .i64 num'] : List Value).toArray) (results_cellB (fn := Tryz.f6) (t := 4) (b := b2) hfr (by rfl) KZ Tryz.underlying50 rfl hsz) (by rfl) ?_
    have h1 : w.heap.size ≤ BD := by clear hn3 hn4 n3 n4; omega
    have h2 : b < BD := by clear hn3 hn4 n3 n4; omega
    have h3 : b2 < BD := by clear hn3 hn4 n3 n4; omega
    refine ⟨[.string on, .slice aR lR kR, .slice (some ⟨gD, 0, none⟩) nd cD, .slice aC lC kC, .slice aS lS kS, .int .u64 (cp' : Int), .int .u64 (of' : Int), .slice aK lK kK, .int .i64 rank', .int .i64 num'], ⟨⟨on, ors', ods.set kd dv, ocs'⟩, ⟨rst', cp', of'⟩, kys', rank', num'⟩, rfl, ?_, ⟨HN1'.out, HN2'.out, n3, n4⟩, hbz⟩
    exact SpT.done HH.out HHR.out HHC.out HHS.out HHK.out HV2.out h1 h2 h3 hBDc HA1.out HZ1.out (fun c h1 h2 => (A3 c h2).trans (HA2.out c h1)) (Z3.trans HZ2.out)
end Go.Proofs.YtnfpjcjlapljjaaGreatDoor
