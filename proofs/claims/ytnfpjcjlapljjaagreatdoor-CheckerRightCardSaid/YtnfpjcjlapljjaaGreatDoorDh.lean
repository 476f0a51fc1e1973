/- Walk over law 18: Drawn (its drawn region printed by mkdr.py). -/
import Derived.Test.YtnfpjcjlapljjaaGreatDoorDf
namespace Go.Proofs.YtnfpjcjlapljjaaGreatDoor
open Go Go.RowKit Go.Shelf
open Org
namespace Org
/-- A registration. -/
structure Rg where
  stops : List Nat
  cpl : Nat
  off : Nat
/-- The registration with some bf. -/
def drawnF (o : Og) (bf : Nat → Nat) : Rg := ⟨o.divs.mapIdx fun i d => bf (i % 3) &&& (Hit.bit d.stops.length - 1), bf 3 &&& (Hit.bit o.cpls.length - 1), bf 4 &&& (Hit.bit o.divs.length - 1)⟩
structure Og.Small (o : Og) : Prop where
  d1 : 1 ≤ o.divs.length
  d8 : o.divs.length ≤ 8
  c40 : o.cpls.length ≤ 40
  s60 : ∀ d ∈ o.divs, d.stops.length ≤ 60
end Org
def U64R (_ : Nat → Prop) (_ : World) (cs : List Value) (x : Nat) : Prop := cs = [.int .u64 (x : Int)]
theorem relU64 : RelF U64R := ⟨fun q _ => q, fun q _ => q⟩
def RgC (F : Nat → Prop) (w : World) (cs : List Value) (x : Rg) : Prop := ∃ v, cs = [v, .int .u64 (x.cpl : Int), .int .u64 (x.off : Int)] ∧ Sl F 1 (U64R F) w v x.stops
theorem relRg : RelF RgC := ⟨fun ⟨v, e, q⟩ ha => ⟨v, e, Sl.keepF relU64 q ha⟩, fun ⟨v, e, q⟩ hF => ⟨v, e, Sl.monoF relU64 q hF⟩⟩
theorem bit_pos (n : Nat) : 0 < Hit.bit n := Nat.two_pow_pos n
/-- What holds behind each operation of a drawn region. -/
def FD5 (rb b b1 n2 k r3 bv ns z bt : Nat) (ad p : Addr) (cd cs7 : Nat) (v : Value) (As : Option Addr) (lim : Nat) (j : Nat) (s : Nat → Value) (w : World) : Prop :=
  match j with
  | 0 => s 35 = .pointer (some ⟨rb, 0, none⟩)
  | 1 => s 36 = v
  | 2 => s 37 = .int .i64 (k : Int)
  | 3 => s 38 = .int .i64 (r3 : Int)
  | 4 => s 39 = .pointer (some ⟨b1, r3, none⟩)
  | 5 => s 40 = .int .u8 (bv : Int)
  | 6 => s 41 = .int .u64 ((bv : Nat) : Int)
  | 7 => s 42 = .pointer (some ⟨b, 2, none⟩)
  | 8 => s 43 = .slice (some ad) n2 cd
  | 9 => s 44 = .int .i64 (k : Int)
  | 10 => s 45 = .pointer (some p)
  | 11 => s 46 = .pointer (some ⟨p.block, p.off + 4, none⟩)
  | 12 => s 47 = .slice As ns cs7
  | 13 => s 48 = .int .i64 (ns : Int)
  | 14 => s 49 = .int .u64 ((ns : Nat) : Int)
  | 15 => s 50 = .int .u64 ((bt : Nat) : Int)
  | 16 => s 51 = .int .u64 ((bt - 1 : Nat) : Int)
  | 17 => s 52 = .int .u64 ((z : Nat) : Int)
  | 18 => RowA U64R 42 1 lim w (s 53) z
  | _ => True
def VD5 (j : Nat) : List Nat := match j with
  | 0 => [35] | 1 => [36] | 2 => [37] | 3 => [38] | 4 => [39] | 5 => [40] | 6 => [41] | 7 => [42] | 8 => [43] | 9 => [44] | 10 => [45] | 11 => [46] | 12 => [47] | 13 => [48] | 14 => [49] | 15 => [50] | 16 => [51] | 17 => [52] | 18 => [53] | _ => []
def ED5 (j : Nat) : Bool := j == 1 || j == 18
theorem FD5_V (rb b b1 n2 k r3 bv ns z bt : Nat) (ad p : Addr) (cd cs7 : Nat) (v : Value) (As : Option Addr) (lim : Nat) (j : Nat) (s s' : Nat → Value) (w : World) (h : ∀ t, t ∈ VD5 j → s' t = s t) (hF : FD5 rb b b1 n2 k r3 bv ns z bt ad p cd cs7 v As lim j s w) : FD5 rb b b1 n2 k r3 bv ns z bt ad p cd cs7 v As lim j s' w := by
  match j with
  | 0 => unfold FD5 at hF ⊢; simp only at hF ⊢; rw [h 35 (by simp [VD5])]; exact hF
  | 1 => unfold FD5 at hF ⊢; simp only at hF ⊢; rw [h 36 (by simp [VD5])]; exact hF
  | 2 => unfold FD5 at hF ⊢; simp only at hF ⊢; rw [h 37 (by simp [VD5])]; exact hF
  | 3 => unfold FD5 at hF ⊢; simp only at hF ⊢; rw [h 38 (by simp [VD5])]; exact hF
  | 4 => unfold FD5 at hF ⊢; simp only at hF ⊢; rw [h 39 (by simp [VD5])]; exact hF
  | 5 => unfold FD5 at hF ⊢; simp only at hF ⊢; rw [h 40 (by simp [VD5])]; exact hF
  | 6 => unfold FD5 at hF ⊢; simp only at hF ⊢; rw [h 41 (by simp [VD5])]; exact hF
  | 7 => unfold FD5 at hF ⊢; simp only at hF ⊢; rw [h 42 (by simp [VD5])]; exact hF
  | 8 => unfold FD5 at hF ⊢; simp only at hF ⊢; rw [h 43 (by simp [VD5])]; exact hF
  | 9 => unfold FD5 at hF ⊢; simp only at hF ⊢; rw [h 44 (by simp [VD5])]; exact hF
  | 10 => unfold FD5 at hF ⊢; simp only at hF ⊢; rw [h 45 (by simp [VD5])]; exact hF
  | 11 => unfold FD5 at hF ⊢; simp only at hF ⊢; rw [h 46 (by simp [VD5])]; exact hF
  | 12 => unfold FD5 at hF ⊢; simp only at hF ⊢; rw [h 47 (by simp [VD5])]; exact hF
  | 13 => unfold FD5 at hF ⊢; simp only at hF ⊢; rw [h 48 (by simp [VD5])]; exact hF
  | 14 => unfold FD5 at hF ⊢; simp only at hF ⊢; rw [h 49 (by simp [VD5])]; exact hF
  | 15 => unfold FD5 at hF ⊢; simp only at hF ⊢; rw [h 50 (by simp [VD5])]; exact hF
  | 16 => unfold FD5 at hF ⊢; simp only at hF ⊢; rw [h 51 (by simp [VD5])]; exact hF
  | 17 => unfold FD5 at hF ⊢; simp only at hF ⊢; rw [h 52 (by simp [VD5])]; exact hF
  | 18 => unfold FD5 at hF ⊢; simp only at hF ⊢; rw [h 53 (by simp [VD5])]; exact hF
  | _ + 19 => trivial
theorem FD5_below (rb b b1 n2 k r3 bv ns z bt : Nat) (ad p : Addr) (cd cs7 : Nat) (v : Value) (As : Option Addr) (lim : Nat) (j : Nat) (s : Nat → Value) (w w' : World) (hb : Below w.heap.size w w') (hF : FD5 rb b b1 n2 k r3 bv ns z bt ad p cd cs7 v As lim j s w) : FD5 rb b b1 n2 k r3 bv ns z bt ad p cd cs7 v As lim j s w' := by
  match j with
  | 0 => exact hF
  | 1 => exact hF
  | 2 => exact hF
  | 3 => exact hF
  | 4 => exact hF
  | 5 => exact hF
  | 6 => exact hF
  | 7 => exact hF
  | 8 => exact hF
  | 9 => exact hF
  | 10 => exact hF
  | 11 => exact hF
  | 12 => exact hF
  | 13 => exact hF
  | 14 => exact hF
  | 15 => exact hF
  | 16 => exact hF
  | 17 => exact hF
  | 18 => exact RowA.below relU64 hF hb
  | _ + 19 => trivial
set_option maxRecDepth 100000 in
set_option maxHeartbeats 4000000 in
theorem drawn18_any (o : Og) (bf : Nat → Nat) (hs : o.Small) (hb : ∀ i, i < 5 → bf i < 256) (vr vd vc : Value) (w : World) (F : Nat → Prop) (hF : ∀ c, F c → c < w.heap.size) (hD : Sl F 5 (DvsC F) w vd o.divs) (hR : ∃ A n c, vr = .slice A n c) (hC : ∃ A c, vc = .slice A o.cpls.length c) :
    Calls Tryz.prog 17 #[.agg #[.string o.name, vr, vd, vc], .agg #[.int .u8 (bf 0 : Int), .int .u8 (bf 1 : Int), .int .u8 (bf 2 : Int), .int .u8 (bf 3 : Int), .int .u8 (bf 4 : Int)]] w fun e w' => ∃ cs, e = .returned (.agg cs.toArray) ∧ cs.length = 3 ∧ RgC (NewT w.heap.size 42 w') w' cs (drawnF o bf) ∧ Below w.heap.size w w' := by
  obtain ⟨Ar, nr, cr, rfl⟩ := hR
  obtain ⟨Ac, cc, rfl⟩ := hC
  obtain ⟨hd1, hd8, hc40, hs60⟩ := hs
  obtain ⟨Ad, cd, rfl, hcd, -, hatd⟩ := id hD
  obtain ⟨ad, -, hAd, -⟩ := hatd 0 (by omega)
  subst hAd
  have HD := Lib.hid (fun k (hk : k < o.divs.length) W (hb : Below w.heap.size w W) => show ∃ As cs7, (ad.add (k * 5)).block < w.heap.size ∧ W.cell? ⟨(ad.add (k * 5)).block, (ad.add (k * 5)).off + 4, none⟩ = some (.slice As o.divs[k].stops.length cs7) from by
    obtain ⟨ad', cs, e, hFa, -, ⟨vs, rfl, hst⟩, hfl⟩ := hatd k hk
    injection e with e
    subst e
    obtain ⟨As, cs7, rfl, -⟩ := Sl.openF hst
    exact ⟨As, cs7, (by rw [block_of_add]; exact hF _ hFa), (hfl.below hb (by rw [block_of_add]; exact hF _ hFa)).fs 3 rfl⟩)
  clear hatd hD
  obtain ⟨n2, hn2⟩ : ∃ n, o.divs.length = n := ⟨_, rfl⟩
  obtain ⟨n3, hn3⟩ : ∃ n, o.cpls.length = n := ⟨_, rfl⟩
  have HN2 := Lib.hid hn2
  have HS60 := Lib.hid hs60
  have HBS := Lib.hid hb
  rw [hn2] at hd1 hd8 hcd ⊢
  rw [hn3] at hc40 ⊢
  obtain ⟨FIN, hFIN⟩ : ∃ r, drawnF o bf = r := ⟨_, rfl⟩
  have hz3 := Hit.u64_and (bf 3) (Hit.bit n3 - 1) (by have := hb 3 (by omega); omega) (by have := Hit.bit_lt (k := 64) (n := n3) (by omega); omega)
  have hz4 := Hit.u64_and (bf 4) (Hit.bit n2 - 1) (by have := hb 4 (by omega); omega) (by have := Hit.bit_lt (k := 64) (n := n2) (by omega); omega)
  obtain ⟨c3, hc3⟩ : ∃ c, bf 3 &&& (Hit.bit n3 - 1) = c := ⟨_, rfl⟩
  obtain ⟨c4, hc4⟩ : ∃ c, bf 4 &&& (Hit.bit n2 - 1) = c := ⟨_, rfl⟩
  rw [hc3] at hz3
  rw [hc4] at hz4
  have HFIN : Hid (FIN = ⟨o.divs.mapIdx fun i d => bf (i % 3) &&& (Hit.bit d.stops.length - 1), c3, c4⟩) := Lib.hid (by rw [← hFIN]; unfold drawnF; rw [hn3, hn2, hc3, hc4])
  rw [hFIN]
  have b3 := hb 3 (by omega)
  have b4 := hb 4 (by omega)
  obtain ⟨e0, he0⟩ : ∃ e, bf 0 = e := ⟨_, rfl⟩
  obtain ⟨e1, he1⟩ : ∃ e, bf 1 = e := ⟨_, rfl⟩
  obtain ⟨e2, he2⟩ : ∃ e, bf 2 = e := ⟨_, rfl⟩
  obtain ⟨e3, he3⟩ : ∃ e, bf 3 = e := ⟨_, rfl⟩
  obtain ⟨e4, he4⟩ : ∃ e, bf 4 = e := ⟨_, rfl⟩
  rw [he3] at b3 hz3
  rw [he4] at b4 hz4
  rw [he0, he1, he2, he3, he4]
  have HE : Hid (bf 0 = e0 ∧ bf 1 = e1 ∧ bf 2 = e2) := Lib.hid ⟨he0, he1, he2⟩
  have t3 := Hit.two_u64w n3 (by omega)
  have t2 := Hit.two_u64w n2 (by omega)
  have p3 := bit_pos n3
  have p2 := bit_pos n2
  have l3 : Hit.bit n3 < 2 ^ 64 := Hit.bit_lt (k := 64) (by omega)
  have l2 : Hit.bit n2 < 2 ^ 64 := Hit.bit_lt (k := 64) (by omega)
  clear hn2 hn3 hs60 hb hFIN hc3 hc4 he0 he1 he2 he3 he4
  generalize Hit.bit n3 = d3 at *
  generalize Hit.bit n2 = d2 at *
  have s3 : IntKind.u64.wrap ((d3 : Int) - 1) = ((d3 - 1 : Nat) : Int) := by rw [IntKind.wrap_u64]; omega
  have s2 : IntKind.u64.wrap ((d2 : Int) - 1) = ((d2 - 1 : Nat) : Int) := by rw [IntKind.wrap_u64]; omega
  have w3 : IntKind.u64.wrap (e3 : Int) = (e3 : Int) := by rw [IntKind.wrap_u64]; omega
  have w4 : IntKind.u64.wrap (e4 : Int) = (e4 : Int) := by rw [IntKind.wrap_u64]; omega
  have v3 : IntKind.u64.wrap (n3 : Int) = (n3 : Int) := by rw [IntKind.wrap_u64]; omega
  have v2 : IntKind.u64.wrap (n2 : Int) = (n2 : Int) := by rw [IntKind.wrap_u64]; omega
  have m3 : min n3 64 = n3 := by omega
  have m2 : min n2 64 = n2 := by omega
  generalize d3 - 1 = d31 at *
  generalize d2 - 1 = d21 at *
  obtain ⟨w1, hw1⟩ : ∃ w1 : World, ((w.alloc (.cells #[.string o.name, .slice Ar nr cr, .slice (some ad) n2 cd, .slice Ac n3 cc] 40)).alloc (.cells #[.int .u8 (e0 : Int), .int .u8 (e1 : Int), .int .u8 (e2 : Int), .int .u8 (e3 : Int), .int .u8 (e4 : Int)] 27)).alloc (.cells #[.slice none 0 0, .int .u64 0, .int .u64 0] 44) = w1 := ⟨_, rfl⟩
  obtain ⟨b, hb⟩ : ∃ b, w.heap.size = b := ⟨_, rfl⟩
  have C1 : Blk w1 b 40 #[.string o.name, .slice Ar nr cr, .slice (some ad) n2 cd, .slice Ac n3 cc] := by rw [← hw1, ← hb]; exact ((Blk.new _ _ _).alloc _).alloc _
  have C2 : Blk w1 (b + 1) 27 #[.int .u8 (e0 : Int), .int .u8 (e1 : Int), .int .u8 (e2 : Int), .int .u8 (e3 : Int), .int .u8 (e4 : Int)] := by
    rw [← hw1, ← hb]
    have h := (Blk.new (w.alloc (.cells #[.string o.name, .slice Ar nr cr, .slice (some ad) n2 cd, .slice Ac n3 cc] 40)) 27 #[.int .u8 (e0 : Int), .int .u8 (e1 : Int), .int .u8 (e2 : Int), .int .u8 (e3 : Int), .int .u8 (e4 : Int)]).alloc (.cells #[.slice none 0 0, .int .u64 0, .int .u64 0] 44)
    simpa using h
  have C3 : Blk w1 (b + 1 + 1) 44 #[.slice none 0 0, .int .u64 0, .int .u64 0] := by
    rw [← hw1, ← hb]
    have h := Blk.new ((w.alloc (.cells #[.string o.name, .slice Ar nr cr, .slice (some ad) n2 cd, .slice Ac n3 cc] 40)).alloc (.cells #[.int .u8 (e0 : Int), .int .u8 (e1 : Int), .int .u8 (e2 : Int), .int .u8 (e3 : Int), .int .u8 (e4 : Int)] 27)) 44 #[.slice none 0 0, .int .u64 0, .int .u64 0]
    simpa using h
  obtain ⟨b1, hb1⟩ : ∃ b1, b + 1 = b1 := ⟨_, rfl⟩
  obtain ⟨q2, hq2⟩ : ∃ q, b1 + 1 = q := ⟨_, rfl⟩
  rw [hb1] at C2
  rw [hb1, hq2] at C3
  have HQ1 := Lib.hid hb1
  have HQ2 := Lib.hid hq2
  have HB1 : Hid (Below w.heap.size w w1) := Lib.hid (by rw [← hw1]; exact Ba (Ba (Ba (B0 w) _) _) _)
  have hsz1 : b + 3 = w1.heap.size := by rw [← hw1, ← hb]; simp
  have HSC := Lib.hid (fun W (hb : Below w1.heap.size w1 W) => (show (W.cell? ⟨b, 2, none⟩ = some (.slice (some ad) n2 cd) ∧ W.cell? ⟨b, 3, none⟩ = some (.slice Ac n3 cc)) ∧ (W.cell? ⟨b1, 0, none⟩ = some (.int .u8 (e0 : Int)) ∧ W.cell? ⟨b1, 1, none⟩ = some (.int .u8 (e1 : Int)) ∧ W.cell? ⟨b1, 2, none⟩ = some (.int .u8 (e2 : Int))) ∧ W.cell? ⟨b1, 3, none⟩ = some (.int .u8 (e3 : Int)) ∧ W.cell? ⟨b1, 4, none⟩ = some (.int .u8 (e4 : Int)) from
    ⟨⟨(Bc hb C1.lt).trans (C1.cell 2), (Bc hb C1.lt).trans (C1.cell 3)⟩, ⟨(Bc hb C2.lt).trans (C2.cell 0), (Bc hb C2.lt).trans (C2.cell 1), (Bc hb C2.lt).trans (C2.cell 2)⟩, (Bc hb C2.lt).trans (C2.cell 3), (Bc hb C2.lt).trans (C2.cell 4)⟩))
  have HC3 := Lib.hid C3
  have HW1 := Lib.hid hw1
  have HBB := Lib.hid hb
  obtain ⟨⟨x2, x3⟩, -, y3, y4⟩ := HSC.out w1 (B0 w1)
  clear hw1 hb C1 C2 C3
  go_enter Tryz.func17, Tryz.ntmps17
  go_upto_region 1 with fail
  rw [HW1.out, HBB.out, HQ1.out, HQ2.out]
  go_upto_region 3 with fail
  obtain ⟨wO, hwO⟩ : ∃ wO : World, w1.alloc (.cells #[.slice none 0 0, .int .u64 (c3 : Int), .int .u64 (c4 : Int)] 44) = wO := ⟨_, rfl⟩
  obtain ⟨rb, hrb⟩ : ∃ rb, w1.heap.size = rb := ⟨_, rfl⟩
  have KO : Blk wO rb 44 #[.slice none 0 0, .int .u64 (c3 : Int), .int .u64 (c4 : Int)] := by rw [← hwO, ← hrb]; exact Blk.new _ _ _
  have HBO : Hid (Below w1.heap.size w1 wO) := Lib.hid (by rw [← hwO]; exact Ba (B0 w1) _)
  have HOW : Hid (rb < wO.heap.size) := Lib.hid KO.lt
  have HO1 : Hid (w1.heap.size ≤ rb) := Lib.hid (by omega)
  rw [hwO, hrb]
  have HKO := Lib.hid KO
  clear hwO KO hrb x2 x3 y3 y4 hz3 hz4 b3 b4 t3 t2 p3 p2 l3 l2 s3 s2 w3 w4 v3 v2 m3 m2
  go_loopg [6] n2 (fun gg s6 wr => ∃ (k : Nat) (v : Value), k ≤ n2 ∧ n2 - k ≤ gg ∧ s6 = .int .i64 (k : Int) ∧ Aside (InF wO rb 44 42 1 U64R (fun v => [v, .int .u64 (c3 : Int), .int .u64 (c4 : Int)]) wr v ((o.divs.take k).mapIdx fun i d => bf (i % 3) &&& (Hit.bit d.stops.length - 1))))
  case atStart => exact ⟨0, .slice none 0 0, by omega, by omega, rfl, InF.start HKO.out⟩
  case round =>
    obtain ⟨k, v, hk, hg, rfl, hI⟩ := hrel
    have hBr := InF.under hI HBO.out HO1.out
    obtain ⟨⟨z2, z3⟩, ⟨g0, g1, g2⟩, -⟩ := HSC.out wr hBr
    have HI := Lib.hid hI
    have HBR := Lib.hid hBr
    by_cases hlt : k < n2
    · have hkI : (k : Int) < (n2 : Int) := by omega
      have hkd : decide ((k : Int) < (n2 : Int)) = true := decide_eq_true hkI
      have hkl : k < o.divs.length := by rw [HN2.out]; exact hlt
      obtain ⟨As, cs7, hpb, hel⟩ := HD.out k hkl wr (Bt HB1.out hBr)
      obtain ⟨ns, hns⟩ : ∃ n, o.divs[k].stops.length = n := ⟨_, rfl⟩
      have hns60 : ns ≤ 60 := by rw [← hns]; exact HS60.out _ (List.getElem_mem hkl)
      obtain ⟨r3, hr3'⟩ : ∃ r, k % 3 = r := ⟨_, rfl⟩
      obtain ⟨bv, hbv⟩ : ∃ e, bf r3 = e := ⟨_, rfl⟩
      have hbv8 : bv < 256 := by rw [← hbv]; exact HBS.out r3 (by omega)
      have hz := Hit.u64_and bv (Hit.bit ns - 1) (by omega) (by have := Hit.bit_lt (k := 64) (n := ns) (by omega); omega)
      obtain ⟨z, hzz⟩ : ∃ c, bv &&& (Hit.bit ns - 1) = c := ⟨_, rfl⟩
      rw [hzz] at hz
      have HYR : Hid ((o.divs.take (k + 1)).mapIdx (fun i d => bf (i % 3) &&& (Hit.bit d.stops.length - 1)) = (o.divs.take k).mapIdx (fun i d => bf (i % 3) &&& (Hit.bit d.stops.length - 1)) ++ [z]) := Lib.hid (by rw [mapIdx_take _ _ _ hkl, hr3', hbv, hns, hzz])
      have two := Hit.two_u64w ns (by omega)
      have pb := bit_pos ns
      have lb : Hit.bit ns < 2 ^ 64 := Hit.bit_lt (k := 64) (by omega)
      clear hzz
      generalize Hit.bit ns = bt at *
      have hsub : IntKind.u64.wrap ((bt : Int) - 1) = ((bt - 1 : Nat) : Int) := by rw [IntKind.wrap_u64]; omega
      have hbw : IntKind.u64.wrap (bv : Int) = (bv : Int) := by rw [IntKind.wrap_u64]; omega
      have hn64 : IntKind.u64.wrap (ns : Int) = (ns : Int) := by rw [IntKind.wrap_u64]; omega
      have hmin : min ns 64 = ns := by omega
      have hr3 : (k : Int).tmod 3 = (r3 : Int) := by rw [Int.tmod_eq_emod_of_nonneg (by omega)]; omega
      have hr5 : (r3 : Int) < 5 := by omega
      have hand : bits .and .u64 (bv : Int) ((bt - 1 : Nat) : Int) = (z : Int) := hz
      obtain ⟨p, hpA⟩ : ∃ p, ad.add (k * 5) = p := ⟨_, rfl⟩
      rw [hpA, hns] at hel
      rw [hpA] at hpb
      have hpb : p.block < wr.heap.size := Nat.lt_of_lt_of_le hpb (Nat.le_trans HB1.out.size hBr.size)
      have lob : rb < wr.heap.size := hI.blk.lt
      have lbb : b < wr.heap.size := by have := hBr.size; omega
      have lb1 : b1 < wr.heap.size := by have := hBr.size; omega
      have o1 : wr.cell? ⟨rb, 0, none⟩ = some v := hI.blk.cell 0
      have gv : wr.cell? ⟨b1, r3, none⟩ = some (.int .u8 (bv : Int)) := by
        have h3 : r3 = 0 ∨ r3 = 1 ∨ r3 = 2 := by omega
        rcases h3 with rfl | rfl | rfl
        · rw [g0, ← hbv, HE.out.1]
        · rw [g1, ← hbv, HE.out.2.1]
        · rw [g2, ← hbv, HE.out.2.2]
      have HS := Lib.hid (fun W (hb : Below wr.heap.size wr W) => (show (W.cell? ⟨b, 2, none⟩ = some (.slice (some ad) n2 cd) ∧ W.cell? ⟨rb, 0, none⟩ = some v) ∧ W.cell? ⟨b1, r3, none⟩ = some (.int .u8 (bv : Int)) ∧ W.cell? ⟨p.block, p.off + 4, none⟩ = some (.slice As ns cs7) from
        ⟨⟨(Bc hb lbb).trans z2, (Bc hb lob).trans o1⟩, (Bc hb lb1).trans gv, (Bc hb hpb).trans hel⟩))
      have hBBr : ∀ (L : Nat → Bool) (i : Nat) (w w' : World), Below w.heap.size w w' → Below wr.heap.size wr w → Below wr.heap.size wr w' := fun _ _ _ _ h1 h2 => Bt h2 h1
      clear hel hpb hI hBr hz hbv hns pb lb g0 g1 g2 gv hr3'
      go_upto_region 5 with fail
      refine region_blocks (by kernel_rfl) ?_
      refine from_lawW 19 ED5 (fun _ W => Below wr.heap.size wr W) (FD5 rb b b1 n2 k r3 bv ns z bt ad p cd cs7 v As wr.heap.size) VD5 (by kernel_rfl) rfl (FD5_V _ _ _ _ _ _ _ _ _ _ _ _ _ _ _ _ _) (by kernel_rfl) (by kernel_rfl) ((B0 wr).drew) ⟨?_, ?_, ?_, ?_, ?_, ?_, ?_, ?_, ?_, ?_, ?_, ?_, ?_, ?_, ?_, ?_, ?_, ?_, ?_, trivial⟩ ?_
      · refine OpFactW.value rfl (FD5_below _ _ _ _ _ _ _ _ _ _ _ _ _ _ _ _ _) hBBr fun L a w2 hl hf D hb => ?_
        have h0 : sl a 5 = .pointer (some ⟨rb, 0, none⟩) := hf 5 (by kernel_rfl)
        refine ⟨.pointer (some ⟨rb, 0, none⟩), w2, ?_, B0 _, fun s _ h => h 35 rfl⟩
        unfold sl at h0
        simp at h0
        simp [go_sem, h0]
      · refine OpFactW.value rfl (FD5_below _ _ _ _ _ _ _ _ _ _ _ _ _ _ _ _ _) hBBr fun L a w2 hl hf D hb => ?_
        have h0 : sl a 35 = .pointer (some ⟨rb, 0, none⟩) := D 0 (by kernel_rfl)
        have es := HS.out w2 hb
        refine ⟨v, w2, ?_, B0 _, fun s _ h => h 36 rfl⟩
        unfold sl at h0
        simp at h0
        simp [go_sem, h0, es]
      · refine OpFactW.value rfl (FD5_below _ _ _ _ _ _ _ _ _ _ _ _ _ _ _ _ _) hBBr fun L a w2 hl hf D hb => ?_
        have h0 : sl a 6 = .int .i64 (k : Int) := hf 6 (by kernel_rfl)
        refine ⟨.int .i64 (k : Int), w2, ?_, B0 _, fun s _ h => h 37 rfl⟩
        unfold sl at h0
        simp [go_sem, h0]
      · refine OpFactW.value rfl (FD5_below _ _ _ _ _ _ _ _ _ _ _ _ _ _ _ _ _) hBBr fun L a w2 hl hf D hb => ?_
        have h11 : sl a 37 = .int .i64 (k : Int) := D 2 (by kernel_rfl)
        refine ⟨.int .i64 (r3 : Int), w2, ?_, B0 _, fun s _ h => h 38 rfl⟩
        unfold sl at h11
        simp at h11
        simp [go_sem, h11, hr3]
      · refine OpFactW.value rfl (FD5_below _ _ _ _ _ _ _ _ _ _ _ _ _ _ _ _ _) hBBr fun L a w2 hl hf D hb => ?_
        have h11 : sl a 38 = .int .i64 (r3 : Int) := D 3 (by kernel_rfl)
        have g11 : sl a 3 = .pointer (some ⟨b1, 0, none⟩) := hf 3 (by kernel_rfl)
        refine ⟨.pointer (some ⟨b1, r3, none⟩), w2, ?_, B0 _, fun s _ h => h 39 rfl⟩
        unfold sl at h11 g11
        simp at h11 g11
        simp [go_sem, h11, g11, hr5]
      · refine OpFactW.value rfl (FD5_below _ _ _ _ _ _ _ _ _ _ _ _ _ _ _ _ _) hBBr fun L a w2 hl hf D hb => ?_
        have h0 : sl a 39 = .pointer (some ⟨b1, r3, none⟩) := D 4 (by kernel_rfl)
        have es := HS.out w2 hb
        refine ⟨.int .u8 (bv : Int), w2, ?_, B0 _, fun s _ h => h 40 rfl⟩
        unfold sl at h0
        simp at h0
        simp [go_sem, h0, es]
      · refine OpFactW.value rfl (FD5_below _ _ _ _ _ _ _ _ _ _ _ _ _ _ _ _ _) hBBr fun L a w2 hl hf D hb => ?_
        have h11 : sl a 40 = .int .u8 (bv : Int) := D 5 (by kernel_rfl)
        refine ⟨.int .u64 ((bv : Nat) : Int), w2, ?_, B0 _, fun s _ h => h 41 rfl⟩
        unfold sl at h11
        simp at h11
        simp [go_sem, h11, hbw]
      · refine OpFactW.value rfl (FD5_below _ _ _ _ _ _ _ _ _ _ _ _ _ _ _ _ _) hBBr fun L a w2 hl hf D hb => ?_
        have h0 : sl a 2 = .pointer (some ⟨b, 0, none⟩) := hf 2 (by kernel_rfl)
        refine ⟨.pointer (some ⟨b, 2, none⟩), w2, ?_, B0 _, fun s _ h => h 42 rfl⟩
        unfold sl at h0
        simp at h0
        simp [go_sem, h0]
      · refine OpFactW.value rfl (FD5_below _ _ _ _ _ _ _ _ _ _ _ _ _ _ _ _ _) hBBr fun L a w2 hl hf D hb => ?_
        have h0 : sl a 42 = .pointer (some ⟨b, 2, none⟩) := D 7 (by kernel_rfl)
        have es := HS.out w2 hb
        refine ⟨.slice (some ad) n2 cd, w2, ?_, B0 _, fun s _ h => h 43 rfl⟩
        unfold sl at h0
        simp at h0
        simp [go_sem, h0, es]
      · refine OpFactW.value rfl (FD5_below _ _ _ _ _ _ _ _ _ _ _ _ _ _ _ _ _) hBBr fun L a w2 hl hf D hb => ?_
        have h0 : sl a 6 = .int .i64 (k : Int) := hf 6 (by kernel_rfl)
        refine ⟨.int .i64 (k : Int), w2, ?_, B0 _, fun s _ h => h 44 rfl⟩
        unfold sl at h0
        simp [go_sem, h0]
      · refine OpFactW.value rfl (FD5_below _ _ _ _ _ _ _ _ _ _ _ _ _ _ _ _ _) hBBr fun L a w2 hl hf D hb => ?_
        have h11 : sl a 43 = .slice (some ad) n2 cd := D 8 (by kernel_rfl)
        have h12 : sl a 44 = .int .i64 (k : Int) := D 9 (by kernel_rfl)
        refine ⟨.pointer (some p), w2, ?_, B0 _, fun s _ h => h 45 rfl⟩
        unfold sl at h11 h12
        simp at h11 h12
        simp [go_sem, h11, h12, hkI, hpA]
      · refine OpFactW.value rfl (FD5_below _ _ _ _ _ _ _ _ _ _ _ _ _ _ _ _ _) hBBr fun L a w2 hl hf D hb => ?_
        have h11 : sl a 45 = .pointer (some p) := D 10 (by kernel_rfl)
        refine ⟨.pointer (some ⟨p.block, p.off + 4, none⟩), w2, ?_, B0 _, fun s _ h => h 46 rfl⟩
        unfold sl at h11
        simp at h11
        simp [go_sem, h11]
      · refine OpFactW.value rfl (FD5_below _ _ _ _ _ _ _ _ _ _ _ _ _ _ _ _ _) hBBr fun L a w2 hl hf D hb => ?_
        have h0 : sl a 46 = .pointer (some ⟨p.block, p.off + 4, none⟩) := D 11 (by kernel_rfl)
        have es := HS.out w2 hb
        refine ⟨.slice As ns cs7, w2, ?_, B0 _, fun s _ h => h 47 rfl⟩
        unfold sl at h0
        simp at h0
        simp [go_sem, h0, es]
      · refine OpFactW.value rfl (FD5_below _ _ _ _ _ _ _ _ _ _ _ _ _ _ _ _ _) hBBr fun L a w2 hl hf D hb => ?_
        have h11 : sl a 47 = .slice As ns cs7 := D 12 (by kernel_rfl)
        refine ⟨.int .i64 (ns : Int), w2, ?_, B0 _, fun s _ h => h 48 rfl⟩
        unfold sl at h11
        simp at h11
        simp [go_sem, h11]
      · refine OpFactW.value rfl (FD5_below _ _ _ _ _ _ _ _ _ _ _ _ _ _ _ _ _) hBBr fun L a w2 hl hf D hb => ?_
        have h11 : sl a 48 = .int .i64 (ns : Int) := D 13 (by kernel_rfl)
        refine ⟨.int .u64 ((ns : Nat) : Int), w2, ?_, B0 _, fun s _ h => h 49 rfl⟩
        unfold sl at h11
        simp at h11
        simp [go_sem, h11, hn64]
      · refine OpFactW.value rfl (FD5_below _ _ _ _ _ _ _ _ _ _ _ _ _ _ _ _ _) hBBr fun L a w2 hl hf D hb => ?_
        have h11 : sl a 49 = .int .u64 ((ns : Nat) : Int) := D 14 (by kernel_rfl)
        refine ⟨.int .u64 ((bt : Nat) : Int), w2, ?_, B0 _, fun s _ h => h 50 rfl⟩
        unfold sl at h11
        simp at h11
        simp [go_sem, h11, two, hmin]
      · refine OpFactW.value rfl (FD5_below _ _ _ _ _ _ _ _ _ _ _ _ _ _ _ _ _) hBBr fun L a w2 hl hf D hb => ?_
        have h11 : sl a 50 = .int .u64 ((bt : Nat) : Int) := D 15 (by kernel_rfl)
        refine ⟨.int .u64 ((bt - 1 : Nat) : Int), w2, ?_, B0 _, fun s _ h => h 51 rfl⟩
        unfold sl at h11
        simp at h11
        simp [go_sem, h11, hsub]
      · refine OpFactW.value rfl (FD5_below _ _ _ _ _ _ _ _ _ _ _ _ _ _ _ _ _) hBBr fun L a w2 hl hf D hb => ?_
        have h11 : sl a 41 = .int .u64 ((bv : Nat) : Int) := D 6 (by kernel_rfl)
        have h12 : sl a 51 = .int .u64 ((bt - 1 : Nat) : Int) := D 16 (by kernel_rfl)
        refine ⟨.int .u64 ((z : Nat) : Int), w2, ?_, B0 _, fun s _ h => h 52 rfl⟩
        unfold sl at h11 h12
        simp at h11 h12
        simp [go_sem, h11, h12, hand]
      · refine OpFactW.value rfl (FD5_below _ _ _ _ _ _ _ _ _ _ _ _ _ _ _ _ _) hBBr fun L a w2 hl hf D hb => ?_
        have h11 : sl a 52 = .int .u64 ((z : Nat) : Int) := D 17 (by kernel_rfl)
        refine ⟨.slice (some ⟨w2.heap.size, 0, none⟩) 1 1, w2.alloc (.cells #[.int .u64 ((z : Nat) : Int)] 42), ?_, Ba (B0 w2) _, fun s _ h => (show RowA U64R 42 1 _ _ (s 53) z from by rw [h 53 rfl]; exact RowA.new relU64 rfl rfl)⟩
        unfold sl at h11
        simp at h11
        simp [go_sem, h11]
      intro L9 y9 w9 hb9 hF9
      have e36 := hF9 1 (by decide) rfl
      obtain ⟨g9, cs9, e53, hk9, hl9, hr9⟩ : RowA U64R 42 1 wr.heap.size w9 (y9 53) z := hF9 18 (by decide) rfl
      simp only [FD5] at e36
      have HB9 := Lib.hid (show Below wr.heap.size wr w9 from hb9)
      have HI9 := Lib.hid (InF.below relU64 HI.out HB9.out)
      have H19 : Hid (∀ u ∈ cs9, u.oneCell' = true) := Lib.hid (by rw [show cs9 = _ from hr9]; simp [Value.oneCell'])
      have HK9 := Lib.hid hk9
      have HR9 : Hid (U64R (fun _ => False) w9 cs9 z) := Lib.hid hr9
      have HLN : Hid (((o.divs.take k).mapIdx fun i d => bf (i % 3) &&& (Hit.bit d.stops.length - 1)).length = k) := Lib.hid (by rw [List.length_mapIdx, List.length_take, HN2.out]; omega)
      have HBS9 : Hid (wO.heap.size ≤ w9.heap.size) := Lib.hid HI9.out.grown.size
      clear hF9 hb9 hk9 hr9 hand two hsub hbw hn64 hmin hr3 hr5
      rw [aft19 (d0 := 35) (d1 := 36) (d2 := 37) (d3 := 38) (d4 := 39) (d5 := 40) (d6 := 41) (d7 := 42) (d8 := 43) (d9 := 44) (d10 := 45) (d11 := 46) (d12 := 47) (d13 := 48) (d14 := 49) (d15 := 50) (d16 := 51) (d17 := 52) (d18 := 53) (by kernel_rfl) rfl]
      rw [e36, e53]
      simp only [List.set_cons_succ, List.set_cons_zero]
      refine from_list 22 (by kernel_rfl) (by simp only [List.take_succ_cons, List.take_zero, List.drop_succ_cons, List.drop_zero]; exact rfl) ?_
      (intro Q' hQ' hX; clear hX)
      go_wp2_with (at_builtin; refine wpList_appF elemU64 (by omega) rfl _ _ rfl relU64 rfl HI9.out.own k HLN.out ⟨g9, 0, none⟩ 1 cs9 rfl hl9 (flds_blk HK9.out) H19.out (by omega) (by omega) HBS9.out z _ HR9.out (fun _ q => absurd q id) ?_; intro g cap w8 ho8 hg8 hbel; have HO8 := Lib.hid ho8; have HG8 : Hid (w9.grownBy w8 v.ownBlock) := Lib.hid hg8; have A8 := HI9.out.blk.grown hg8 (HI9.out.ne HOW.out); have a8 := A8.cell 0; have f8 := A8.frozen 0; simp only [List.getElem?_toArray, List.getElem?_cons_zero, List.getElem?_cons_succ] at a8; clear ho8 hg8 hbel A8)
      refine from_end rfl ?_
      go_wp2_with fail
      go_roundg (n2 - (k + 1))
      case measure => omega
      case rel =>
        refine ⟨k + 1, .slice (some ⟨g, 0, none⟩) (k + 1) cap, by omega, by omega, by go_num, (show InF _ _ _ _ _ _ _ _ _ _ from ?_)⟩
        rw [HYR.out]
        exact InF.app relU64 HI9.out HO8.out HG8.out HOW.out 0 rfl
    · obtain rfl : n2 = k := by omega
      have hkd : decide ((n2 : Int) < (n2 : Int)) = false := decide_eq_false (by omega)
      rw [List.take_of_length_le (by rw [HN2.out]; omega)] at hI
      obtain ⟨ls, hls⟩ : ∃ ls, (o.divs.mapIdx fun i d => bf (i % 3) &&& (Hit.bit d.stops.length - 1)) = ls := ⟨_, rfl⟩
      rw [hls] at hI
      have hl2 : ls.length = n2 := by rw [← hls, List.length_mapIdx, HN2.out]
      have hsS := hI.own.slT (by rw [hl2]; omega) fun h => h
      obtain ⟨AS, cS, eS, -⟩ := Sl.openF hsS
      rw [hl2] at eS
      subst eS
      have o0 : wr.cell? ⟨rb, 0, none⟩ = some (.slice AS n2 cS) := hI.blk.cell 0
      have o1 : wr.cell? ⟨rb, 1, none⟩ = some (.int .u64 (c3 : Int)) := hI.blk.cell 1
      have o2 : wr.cell? ⟨rb, 2, none⟩ = some (.int .u64 (c4 : Int)) := hI.blk.cell 2
      have KRes := HC3.out.below HBR.out HC3.out.lt
      have y0 := KRes.cell 0
      have y1 := KRes.cell 1
      have y2 := KRes.cell 2
      simp only [List.getElem?_toArray, List.getElem?_cons_zero, List.getElem?_cons_succ] at y0 y1 y2
      have f0 := KRes.frozen 0
      have f1 := KRes.frozen 1
      have f2 := KRes.frozen 2
      have HKR := Lib.hid KRes
      have HSS := Lib.hid hsS
      have HLS := Lib.hid hls
      have HWA : Hid (w.heap.size ≤ q2 ∧ q2 < wO.heap.size ∧ w.heap.size ≤ wO.heap.size) := Lib.hid (by
        have h1 := HB1.out.size
        have h2 := HBO.out.size
        have h3 := HBB.out
        omega)
      clear HI hI hsS KRes hls g0 g1 g2 hBr
      go_wp2_with fail
      obtain ⟨W8, hW8⟩ : ∃ W8 : World, (((wr.setCell ⟨q2, 0, none⟩ (.slice AS n2 cS)).setCell ⟨q2, 1, none⟩ (.int .u64 (c3 : Int))).setCell ⟨q2, 2, none⟩ (.int .u64 (c4 : Int))) = W8 := ⟨_, rfl⟩
      rw [hW8]
      have KZ : Blk W8 q2 44 #[.slice AS n2 cS, .int .u64 (c3 : Int), .int .u64 (c4 : Int)] := by
        rw [← hW8]
        have h := ((HKR.out.set_ 0 (.slice AS n2 cS)).set_ 1 (.int .u64 (c3 : Int))).set_ 2 (.int .u64 (c4 : Int))
        simpa using h
      have HBZ : Below w.heap.size wr W8 := by
        have h1 := HWA.out.1
        have h0 : Below w.heap.size wr wr := Below.refl _ wr
        rw [← hW8]
        exact ((h0.setCell h1 _).setCell h1 _).setCell h1 _
      have HSW : W8.heap.size = wr.heap.size := by rw [← hW8]; simp [World.setCell]
      have HAG : ∀ F : Nat → Prop, (∀ c, F c → q2 < c) → Agree F wr W8 := fun F hF => by
        have h1 : ∀ c, F c → c ≠ q2 := fun c hc e => by have := hF c hc; omega
        rw [← hW8]
        exact ((Agree.setCell _ h1).trans (Agree.setCell _ h1)).trans (Agree.setCell _ h1)
      have x0 := KZ.cell 0
      have x1 := KZ.cell 1
      have x2 := KZ.cell 2
      simp only [List.getElem?_toArray, List.getElem?_cons_zero, List.getElem?_cons_succ] at x0 x1 x2
      obtain ⟨g1, g2, g3⟩ := HWA.out
      refine bodyPost_ret (v := .agg #[.slice AS n2 cS, .int .u64 (c3 : Int), .int .u64 (c4 : Int)]) (by simp [results, Tryz.f17, go_sem, x0, x1, x2]) rfl ?_
      refine ⟨_, rfl, rfl, ?_, (HB1.out.trans (Below.mono HBR.out HB1.out.size)).trans HBZ⟩
      rw [HFIN.out, HLS.out]
      refine ⟨_, rfl, Sl.monoF relU64 (Sl.keepF relU64 HSS.out (HAG _ fun c hc => by have := hc.1.1; omega)) fun c hc => ⟨⟨Nat.le_trans g3 hc.1.1, by rw [HSW]; exact hc.1.2⟩, hc.2.choose, ((HAG (fun c => q2 < c) (fun _ h => h)) c (by have := hc.1.1; omega)).trans hc.2.choose_spec⟩⟩
end Go.Proofs.YtnfpjcjlapljjaaGreatDoor
