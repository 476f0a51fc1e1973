/- Walk over law 18: Pressed. -/
import Derived.Test.YtnfpjcjlapljjaaGreatDoorDh
namespace Go.Proofs.YtnfpjcjlapljjaaGreatDoor
open Go Go.RowKit Go.Shelf
open Org
namespace Org
def keyJ (lo : Int) (b n : Nat) : List Int := ((List.range n).filter b.testBit).map fun j : Nat => lo + (j : Int)
theorem keyJ_snoc (lo : Int) (b n : Nat) : keyJ lo b (n + 1) = keyJ lo b n ++ (if b.testBit n = true then [lo + (n : Int)] else []) := by
  unfold keyJ
  rw [List.range_succ, List.filter_append, List.map_append]
  congr 1
  by_cases h : b.testBit n = true
  · rw [if_pos h]; simp [h]
  · rw [if_neg h]; simp [h]
theorem keyJ_len (lo : Int) (b n : Nat) : (keyJ lo b n).length ≤ n := by
  unfold keyJ
  rw [List.length_map]
  exact Nat.le_trans (List.length_filter_le _ _) (by rw [List.length_range]; exact Nat.le_refl _)
def keyN (lo hi : Int) : Nat := min 16 (hi + 1 - lo).toNat
/-- The keys with some bits, from the least key of each division on. -/
def pressF (o : Og) (bf : Nat → Nat) : List Nat := o.divs.mapIdx fun i d => (ofR (keyJ d.lo (bf (i % 3)) (keyN d.lo d.hi))).1
structure Og.Keyed (o : Og) : Prop where
  d1 : 1 ≤ o.divs.length
  d8 : o.divs.length ≤ 8
  keys : ∀ d ∈ o.divs, 0 ≤ d.lo ∧ d.lo ≤ 127 ∧ -1 ≤ d.hi ∧ d.hi ≤ 127
end Org
def NtR (_ : Nat → Prop) (_ : World) (cs : List Value) (x : Nat) : Prop := cs = [.int .u64 ((Nt.lo x : Nat) : Int), .int .u64 ((Nt.hi x : Nat) : Int)]
theorem relNt : RelF NtR := ⟨fun q _ => q, fun q _ => q⟩
theorem elemKy : ElemN Tryz.prog 46 97 2 16 := ⟨Tryz.underlying46, by
  obtain ⟨i, hi, hz, hs, hb⟩ := info_parts infoNts
  exact ⟨i, _, hi, hz, hs, hb, rfl⟩⟩
theorem bit_ofO (v p : Nat) : ((((v >>> p) &&& 1 : Nat) : Int) == 1) = v.testBit p := by
  rw [Nat.testBit_eq_decide_div_mod_eq, Nat.and_one_is_mod, Nat.shiftRight_eq_div_pow]
  by_cases h : v / 2 ^ p % 2 = 1
  · rw [h]; rfl
  · have : v / 2 ^ p % 2 = 0 := by omega
    rw [this]; rfl
theorem shr_ofO (v p : Nat) (h : p ≤ 64) : ((v : Nat) : Int) / 2 ^ p = ((v >>> p : Nat) : Int) := by
  have := Hit.shr_nat v p 64 h
  rw [Nat.min_eq_left h, Int.fdiv_eq_ediv_of_nonneg _ (Int.pow_nonneg (by decide))] at this
  exact this
theorem and_bitO (b j : Nat) (hb : b < 65536) : bits .and .u16 ((b >>> j : Nat) : Int) 1 = ((b >>> j &&& 1 : Nat) : Int) := by
  have hle : b >>> j ≤ b := by rw [Nat.shiftRight_eq_div_pow]; exact Nat.div_le_self _ _
  exact u16_and_nat (b >>> j) 1 (by omega) (by omega)
set_option maxRecDepth 100000 in
set_option maxHeartbeats 4000000 in
theorem pressed18_any (o : Og) (bf : Nat → Nat) (hs : o.Keyed) (hb : ∀ i, i < 3 → bf i < 65536) (vr vd vc : Value) (w : World) (F : Nat → Prop) (hF : ∀ c, F c → c < w.heap.size) (hD : Sl F 5 (DvsC F) w vd o.divs) :
    Calls Tryz.prog 18 #[.agg #[.string o.name, vr, vd, vc], .agg #[.int .u16 (bf 0 : Int), .int .u16 (bf 1 : Int), .int .u16 (bf 2 : Int)]] w fun e w' => ∃ v, e = .returned v ∧ Sl (NewT w.heap.size 97 w') 2 (NtR (NewT w.heap.size 97 w')) w' v (pressF o bf) ∧ Below w.heap.size w w' := by
  obtain ⟨hd1, hd8, hk7⟩ := hs
  obtain ⟨Ad, cd, rfl, hcd, -, hatd⟩ := id hD
  obtain ⟨ad, -, hAd, -⟩ := hatd 0 (by omega)
  subst hAd
  have HD := Lib.hid (fun k (hk : k < o.divs.length) W (hb : Below w.heap.size w W) => show (ad.add (k * 5)).block < w.heap.size ∧ W.cell? ⟨(ad.add (k * 5)).block, (ad.add (k * 5)).off + 2, none⟩ = some (.int .i64 o.divs[k].lo) ∧ W.cell? ⟨(ad.add (k * 5)).block, (ad.add (k * 5)).off + 3, none⟩ = some (.int .i64 o.divs[k].hi) from by
    obtain ⟨ad', cs, e, hFa, -, ⟨vs, rfl, hst⟩, hfl⟩ := hatd k hk
    injection e with e
    subst e
    have h := hfl.below hb (by rw [block_of_add]; exact hF _ hFa)
    exact ⟨(by rw [block_of_add]; exact hF _ hFa), h.fs 1 rfl, h.fs 2 rfl⟩)
  clear hatd hD
  obtain ⟨n2, hn2⟩ : ∃ n, o.divs.length = n := ⟨_, rfl⟩
  have HN2 := Lib.hid hn2
  have HK7 := Lib.hid hk7
  have HBS := Lib.hid hb
  rw [hn2] at hd1 hd8 hcd ⊢
  obtain ⟨e0, he0⟩ : ∃ e, bf 0 = e := ⟨_, rfl⟩
  obtain ⟨e1, he1⟩ : ∃ e, bf 1 = e := ⟨_, rfl⟩
  obtain ⟨e2, he2⟩ : ∃ e, bf 2 = e := ⟨_, rfl⟩
  rw [he0, he1, he2]
  have HE : Hid (bf 0 = e0 ∧ bf 1 = e1 ∧ bf 2 = e2) := Lib.hid ⟨he0, he1, he2⟩
  clear hn2 hk7 hb he0 he1 he2
  obtain ⟨w1, hw1⟩ : ∃ w1 : World, (w.alloc (.cells #[.string o.name, vr, .slice (some ad) n2 cd, vc] 40)).alloc (.cells #[.int .u16 (e0 : Int), .int .u16 (e1 : Int), .int .u16 (e2 : Int)] 29) = w1 := ⟨_, rfl⟩
  obtain ⟨b, hb⟩ : ∃ b, w.heap.size = b := ⟨_, rfl⟩
  obtain ⟨b1, hb1⟩ : ∃ b1, b + 1 = b1 := ⟨_, rfl⟩
  have C1 : Blk w1 b 40 #[.string o.name, vr, .slice (some ad) n2 cd, vc] := by rw [← hw1, ← hb]; exact (Blk.new _ _ _).alloc _
  have C2 : Blk w1 b1 29 #[.int .u16 (e0 : Int), .int .u16 (e1 : Int), .int .u16 (e2 : Int)] := by
    rw [← hw1, ← hb1, ← hb]
    have h := Blk.new (w.alloc (.cells #[.string o.name, vr, .slice (some ad) n2 cd, vc] 40)) 29 #[.int .u16 (e0 : Int), .int .u16 (e1 : Int), .int .u16 (e2 : Int)]
    simpa using h
  have HB1 : Hid (Below w.heap.size w w1) := Lib.hid (by rw [← hw1]; exact Ba (Ba (B0 w) _) _)
  have HSC := Lib.hid (fun W (hb : Below w1.heap.size w1 W) => (show W.cell? ⟨b, 2, none⟩ = some (.slice (some ad) n2 cd) ∧ W.cell? ⟨b1, 0, none⟩ = some (.int .u16 (e0 : Int)) ∧ W.cell? ⟨b1, 1, none⟩ = some (.int .u16 (e1 : Int)) ∧ W.cell? ⟨b1, 2, none⟩ = some (.int .u16 (e2 : Int)) from
    ⟨(Bc hb C1.lt).trans (C1.cell 2), (Bc hb C2.lt).trans (C2.cell 0), (Bc hb C2.lt).trans (C2.cell 1), (Bc hb C2.lt).trans (C2.cell 2)⟩))
  have HL1 : Hid (b < w1.heap.size ∧ b1 < w1.heap.size) := Lib.hid ⟨C1.lt, C2.lt⟩
  have HW1 := Lib.hid hw1
  have HBB := Lib.hid hb
  have HQ1 := Lib.hid hb1
  clear hw1 hb hb1 C1 C2
  go_enter Tryz.func18, Tryz.ntmps18
  go_upto_region 1 with fail
  rw [HW1.out, HBB.out, HQ1.out]
  go_upto_region 3 with fail
  go_loopg [5, 6] n2 (fun gg s5 s6 wr => ∃ (k : Nat), k ≤ n2 ∧ n2 - k ≤ gg ∧ s6 = .int .i64 (k : Int) ∧ Aside (OwnF w1.heap.size 97 2 NtR wr s5 ((o.divs.take k).mapIdx fun i d => (ofR (keyJ d.lo (bf (i % 3)) (keyN d.lo d.hi))).1)) ∧ Aside (Below w1.heap.size w1 wr))
  case atStart => exact ⟨0, by omega, by omega, rfl, OwnF.nil, B0 w1⟩
  case round =>
    obtain ⟨k, hk, hg, rfl, hO, hBr⟩ := hrel
    replace hBr : Below w1.heap.size w1 wr := hBr
    replace hO : OwnF w1.heap.size 97 2 NtR wr u5 ((o.divs.take k).mapIdx fun i d => (ofR (keyJ d.lo (bf (i % 3)) (keyN d.lo d.hi))).1) := hO
    obtain ⟨z2, g0, g1, g2⟩ := HSC.out wr hBr
    have HO := Lib.hid hO
    have HBR := Lib.hid hBr
    by_cases hlt : k < n2
    · have hkI : (k : Int) < (n2 : Int) := by omega
      have hkd : decide ((k : Int) < (n2 : Int)) = true := decide_eq_true hkI
      have hkl : k < o.divs.length := by rw [HN2.out]; exact hlt
      obtain ⟨hpb, hc2, hc3⟩ := HD.out k hkl wr (Bt HB1.out hBr)
      obtain ⟨hk0, hk1, hk2, hk3⟩ := HK7.out _ (List.getElem_mem hkl)
      obtain ⟨lo, hlo⟩ : ∃ n, o.divs[k].lo = n := ⟨_, rfl⟩
      obtain ⟨hi, hhi⟩ : ∃ n, o.divs[k].hi = n := ⟨_, rfl⟩
      obtain ⟨r3, hr3'⟩ : ∃ r, k % 3 = r := ⟨_, rfl⟩
      obtain ⟨bv, hbv⟩ : ∃ e, bf r3 = e := ⟨_, rfl⟩
      have hbv8 : bv < 65536 := by rw [← hbv]; exact HBS.out r3 (by omega)
      obtain ⟨m, hm⟩ : ∃ m, keyN lo hi = m := ⟨_, rfl⟩
      have HYR : Hid ((o.divs.take (k + 1)).mapIdx (fun i d => (ofR (keyJ d.lo (bf (i % 3)) (keyN d.lo d.hi))).1) = (o.divs.take k).mapIdx (fun i d => (ofR (keyJ d.lo (bf (i % 3)) (keyN d.lo d.hi))).1) ++ [(ofR (keyJ lo bv m)).1]) := Lib.hid (by rw [mapIdx_take _ _ _ hkl, hr3', hbv, hlo, hhi, hm])
      have hr3 : (k : Int).tmod 3 = (r3 : Int) := by rw [Int.tmod_eq_emod_of_nonneg (by omega)]; omega
      have hr4 : (k : Int) % 3 = (r3 : Int) := by omega
      have hr5 : (r3 : Int) < 3 := by omega
      obtain ⟨p, hpA⟩ : ∃ p, ad.add (k * 5) = p := ⟨_, rfl⟩
      rw [hpA] at hpb hc2 hc3
      rw [hlo] at hc2 hk0 hk1
      rw [hhi] at hc3 hk2 hk3
      have gv : ∀ W, Below wr.heap.size wr W → W.cell? ⟨b1, r3, none⟩ = some (.int .u16 (bv : Int)) := fun W hb => by
        have h3 : r3 = 0 ∨ r3 = 1 ∨ r3 = 2 := by omega
        obtain ⟨-, q0, q1, q2⟩ := HSC.out W (Bt HBR.out hb)
        rcases h3 with rfl | rfl | rfl
        · rw [q0, ← hbv, HE.out.1]
        · rw [q1, ← hbv, HE.out.2.1]
        · rw [q2, ← hbv, HE.out.2.2]
      have HGV := Lib.hid gv
      have hm16 : m ≤ 16 := by rw [← hm]; exact Nat.min_le_left _ _
      have HM : Hid (∀ j : Nat, j < m ↔ (lo + (j : Int) ≤ hi ∧ j < 16)) := Lib.hid fun j => by rw [← hm]; unfold keyN; omega
      obtain ⟨cb, hcb⟩ : ∃ cb, wr.heap.size = cb := ⟨_, rfl⟩
      obtain ⟨wc, hwc⟩ : ∃ wc : World, wr.alloc (.cells #[.int .i64 lo, .int .i64 hi] 77) = wc := ⟨_, rfl⟩
      have KC : Blk wc cb 77 #[.int .i64 lo, .int .i64 hi] := by rw [← hwc, ← hcb]; exact Blk.new _ _ _
      have HBC : Hid (Below wr.heap.size wr wc) := Lib.hid (by rw [← hwc]; exact Ba (B0 wr) _)
      have HKC := Lib.hid KC
      have hwl : IntKind.i64.wrap (lo + 16) = lo + 16 := by rw [IntKind.wrap_i64]; omega
      have kc0 : wc.cell? ⟨cb, 0, none⟩ = some (.int .i64 lo) := KC.cell 0
      clear KC hO hBr hm hlo hhi hbv hr3' gv g0 g1 g2
      go_upto_region 8 with fail
      obtain ⟨ga, rfl⟩ : ∃ ga : Nat, ga = gk := ⟨gk, rfl⟩
      go_loopg [7, 9] m (fun gg s7 s9 w3 => ∃ (j : Nat), j ≤ m ∧ m - j ≤ gg ∧ s9 = .int .i64 (lo + (j : Int)) ∧ Aside (OwnL wc.heap.size 3 1 IntC w3 s7 (keyJ lo bv j)) ∧ Aside (Below wc.heap.size wc w3))
      case atStart => exact ⟨0, by omega, by omega, by simp, OwnL.nil, B0 wc⟩
      case round =>
        obtain ⟨wq, rfl⟩ : ∃ W : World, W = wr := ⟨wr, rfl⟩
        obtain ⟨j, hj, hg3, rfl, hU, hB3⟩ := hrel
        replace hU : OwnL wc.heap.size 3 1 IntC wq u7 (keyJ lo bv j) := hU
        replace hB3 : Below wc.heap.size wc wq := hB3
        have c0 : wq.cell? ⟨cb, 0, none⟩ = some (.int .i64 lo) := (Bc hB3 HKC.out.lt).trans (HKC.out.cell 0)
        have c1 : wq.cell? ⟨cb, 1, none⟩ = some (.int .i64 hi) := (Bc hB3 HKC.out.lt).trans (HKC.out.cell 1)
        have hbw := HGV.out wq (Bt HBC.out hB3)
        have HB3 := Lib.hid hB3
        have HU := Lib.hid hU
        have hjm := HM.out j
        have hlen := keyJ_len lo bv j
        by_cases hjt : j < m
        · obtain ⟨hj1, hj2⟩ := hjm.1 hjt
          have d1 : decide (lo + (j : Int) ≤ hi) = true := decide_eq_true hj1
          have d2 : decide (lo + (j : Int) < lo + 16) = true := decide_eq_true (by omega)
          have d3 : decide ((j : Int) < 16) = true := decide_eq_true (by omega)
          have hj16 : (j : Int) < 16 := by omega
          have hsub : IntKind.i64.wrap (lo + (j : Int) - lo) = (j : Int) := by rw [IntKind.wrap_i64]; omega
          have hsub2 : lo + (j : Int) - lo = (j : Int) := by omega
          have hwj : IntKind.u64.wrap (j : Int) = (j : Int) := by rw [IntKind.wrap_u64]; omega
          have h3 : ((j : Nat) : Int) % 18446744073709551616 = j := by omega
          have h4 : min j 16 = j := by omega
          have h5 : min j 64 = j := by omega
          have hsh := shr_ofO bv j (by omega)
          have hand := and_bitO bv j hbv8
          have hbit := bit_ofO bv j
          have hsnj := keyJ_snoc lo bv j
          obtain ⟨cs, q1, q2, q3⟩ := id hU
          obtain ⟨ml, hml⟩ : ∃ ml, (keyJ lo bv j).length = ml := ⟨_, rfl⟩
          rw [hml] at hlen q3
          have HQA := Lib.hid q1
          have HQB := Lib.hid q2
          have HQC := Lib.hid q3
          have HML := Lib.hid hml
          have HSJ := Lib.hid hsnj
          generalize bv >>> j &&& 1 = vb at *
          generalize bv >>> j = vs at *
          clear hU hB3 q1 q2 q3 hml hsnj hjm
          cases hbt : bv.testBit j with
          | true =>
            rw [hbt] at hbit
            have HSJ2 : Hid (keyJ lo bv (j + 1) = keyJ lo bv j ++ [lo + (j : Int)]) := Lib.hid (by rw [HSJ.out, if_pos hbt])
            clear hbt
            go_upto_region 10 with fail
            go_quiet (fail)
            obtain ⟨w5, hw5⟩ : ∃ w5 : World, wq.drewN nq = w5 := ⟨_, rfl⟩
            rw [hw5]
            have HQ5 : Hid (w5.ownsRow wc.heap.size 3 1 u7 ml cs.flatten) := Lib.hid (by rw [← hw5]; exact HQC.out)
            have HB5 : Hid (Below wc.heap.size wc w5) := Lib.hid (by rw [← hw5]; exact below_drewN HB3.out _)
            have hS5 : wc.heap.size ≤ w5.heap.size := HB5.out.size
            clear hw5 HQC hsh hand hbit hsub hsub2 c0 c1 hbw HB3
            go_wp2_with (at_builtin; refine wpList_appS elemIn (by omega) rfl _ _ rfl wc.heap.size u7 ml cs.flatten rfl (HQ5.out.alloc _) ⟨w5.heap.size, 0, none⟩ 1 [.int .i64 (lo + (j : Int))] rfl rfl (Flds.new w5 _ _) (by simp [Value.oneCell']) (by omega) (by omega) (by simp; omega) ?_; intro g cap w8 hown8 hg8 hgg; have HO8 := Lib.hid hown8; have HG8 := Lib.hid hg8; clear hown8 hg8 hgg)
            go_roundg (m - (j + 1))
            case measure => omega
            case rel =>
              refine ⟨j + 1, by omega, by omega, by go_num, ?_, ?_⟩
              · show OwnL _ _ _ _ _ _ _
                rw [HSJ2.out]
                exact OwnL.snoc (c := [.int .i64 (lo + (j : Int))]) HQA.out HQB.out rfl rfl (fun _ _ h => h) (by rw [HML.out]; exact HO8.out)
              · show Below _ _ _
                exact (Ba HB5.out _).grown HG8.out (by have := HB5.out.size; simp; omega) fun k e => (HU.out.lt k e).1
          | false =>
            rw [hbt] at hbit
            have HSJ2 : Hid (keyJ lo bv (j + 1) = keyJ lo bv j) := Lib.hid (by rw [HSJ.out, if_neg (by rw [hbt]; decide), List.append_nil])
            clear hbt
            go_upto_region 10 with fail
            go_quiet (fail)
            go_wp2_with fail
            go_roundg (m - (j + 1))
            case measure => omega
            case rel => exact ⟨j + 1, by omega, by omega, by go_num, (show OwnL _ _ _ _ _ _ _ from by rw [HSJ2.out]; exact HU.out), below_drewN HB3.out _⟩
        · obtain rfl : m = j := by omega
          have hne : ¬ (lo + (m : Int) ≤ hi ∧ m < 16) := fun q => absurd (hjm.2 q) (by omega)
          have hof := of_any u7 _ wq (fun b => b < wq.heap.size) (fun _ h => h) (hU.sl (by omega) (fun b _ h _ => h)) (by omega)
          have hlt128 : (ofR (keyJ lo bv m)).1 < 2 ^ 128 := by
            unfold ofR
            split
            · exact Nt.setF_lt (fun n hn => List.all_eq_true.1 (by assumption) n hn) (by decide)
            · exact (by decide : 0 < 2 ^ 128)
          obtain ⟨⟨nx, ne⟩, hnx⟩ : ∃ r, ofR (keyJ lo bv m) = r := ⟨_, rfl⟩
          rw [hnx] at hof
          unfold ofV ntV at hof
          dsimp only at hof
          have HOF := Lib.hid hof
          have HNX : Hid ((ofR (keyJ lo bv m)).1 = nx) := Lib.hid (by rw [hnx])
          have HOB := Lib.hid (OwnF.below relNt HO.out (Bt HBC.out hB3))
          clear hof hnx hjm hlt128 HU hU
          by_cases hle : lo + (m : Int) ≤ hi
          · have d1 : decide (lo + (m : Int) ≤ hi) = true := decide_eq_true hle
            have d2 : decide (lo + (m : Int) < lo + 16) = false := decide_eq_false (by omega)
            have d3 : ¬ (m : Int) < 16 := by omega
            have d4 : ¬ m < 16 := by omega
            go_upto_region 13 with (go_at_call 43; (with_reducible refine (HOF.out.mono ?_)); rintro e w4 ⟨rfl, hb4⟩; have HB4 := Lib.hid hb4; clear hb4)
            have HL4 : Hid (Below wr.heap.size wr w4) := Lib.hid (Bt HBC.out (Bt HB3.out HB4.out))
            have HOE : Hid (OwnF w1.heap.size 97 2 NtR ((w4.alloc (.cells #[.int .u64 ((Nt.lo nx : Nat) : Int), .int .u64 ((Nt.hi nx : Nat) : Int)] 97)).alloc (.cells #[.int .u64 ((Nt.lo nx : Nat) : Int), .int .u64 ((Nt.hi nx : Nat) : Int)] 97)) u5 ((o.divs.take k).mapIdx fun i d => (ofR (keyJ d.lo (bf (i % 3)) (keyN d.lo d.hi))).1)) := Lib.hid (OwnF.below relNt HOB.out (Bt HB4.out (Ba (Ba (B0 w4) _) _)))
            have HFE : Hid (Flds ((w4.alloc (.cells #[.int .u64 ((Nt.lo nx : Nat) : Int), .int .u64 ((Nt.hi nx : Nat) : Int)] 97)).alloc (.cells #[.int .u64 ((Nt.lo nx : Nat) : Int), .int .u64 ((Nt.hi nx : Nat) : Int)] 97)) ⟨w4.heap.size + 1, 0, none⟩ [.int .u64 ((Nt.lo nx : Nat) : Int), .int .u64 ((Nt.hi nx : Nat) : Int)]) := Lib.hid (by
              have h := Flds.new (w4.alloc (.cells #[.int .u64 ((Nt.lo nx : Nat) : Int), .int .u64 ((Nt.hi nx : Nat) : Int)] 97)) [.int .u64 ((Nt.lo nx : Nat) : Int), .int .u64 ((Nt.hi nx : Nat) : Int)] 97
              rw [World.size_alloc] at h
              exact h)
            have HLN : Hid (((o.divs.take k).mapIdx fun i d => (ofR (keyJ d.lo (bf (i % 3)) (keyN d.lo d.hi))).1).length = k) := Lib.hid (by rw [List.length_mapIdx, List.length_take, HN2.out]; omega)
            have HSZ : Hid (w1.heap.size ≤ ((w4.alloc (.cells #[.int .u64 ((Nt.lo nx : Nat) : Int), .int .u64 ((Nt.hi nx : Nat) : Int)] 97)).alloc (.cells #[.int .u64 ((Nt.lo nx : Nat) : Int), .int .u64 ((Nt.hi nx : Nat) : Int)] 97)).heap.size) := Lib.hid (by have := HBR.out.size; have := HL4.out.size; simp; omega)
            go_upto_region 4 with (at_builtin; refine wpList_appF elemKy (by omega) rfl _ _ rfl relNt rfl HOE.out k HLN.out ⟨w4.heap.size + 1, 0, none⟩ 1 [.int .u64 ((Nt.lo nx : Nat) : Int), .int .u64 ((Nt.hi nx : Nat) : Int)] rfl rfl HFE.out (by simp [Value.oneCell']) (by omega) (by omega) HSZ.out nx (fun _ => False) rfl (fun _ q => absurd q id) ?_; intro g cap w8 ho8 hg8 hbel; have HO8 := Lib.hid ho8; have HG8 := Lib.hid (hbel w1 (Nat.le_refl _) (Ba (Ba (Bt HBR.out HL4.out) _) _)); clear ho8 hg8 hbel)
            go_wp2_with fail
            go_roundg (n2 - (k + 1))
            case measure => omega
            case rel =>
              refine ⟨k + 1, by omega, by omega, by go_num, (show OwnF _ _ _ _ _ _ _ from ?_), HG8.out⟩
              rw [HYR.out, HNX.out]
              exact HO8.out
          · have d1 : decide (lo + (m : Int) ≤ hi) = false := decide_eq_false hle
            go_upto_region 13 with (go_at_call 43; (with_reducible refine (HOF.out.mono ?_)); rintro e w4 ⟨rfl, hb4⟩; have HB4 := Lib.hid hb4; clear hb4)
            have HL4 : Hid (Below wr.heap.size wr w4) := Lib.hid (Bt HBC.out (Bt HB3.out HB4.out))
            have HOE : Hid (OwnF w1.heap.size 97 2 NtR ((w4.alloc (.cells #[.int .u64 ((Nt.lo nx : Nat) : Int), .int .u64 ((Nt.hi nx : Nat) : Int)] 97)).alloc (.cells #[.int .u64 ((Nt.lo nx : Nat) : Int), .int .u64 ((Nt.hi nx : Nat) : Int)] 97)) u5 ((o.divs.take k).mapIdx fun i d => (ofR (keyJ d.lo (bf (i % 3)) (keyN d.lo d.hi))).1)) := Lib.hid (OwnF.below relNt HOB.out (Bt HB4.out (Ba (Ba (B0 w4) _) _)))
            have HFE : Hid (Flds ((w4.alloc (.cells #[.int .u64 ((Nt.lo nx : Nat) : Int), .int .u64 ((Nt.hi nx : Nat) : Int)] 97)).alloc (.cells #[.int .u64 ((Nt.lo nx : Nat) : Int), .int .u64 ((Nt.hi nx : Nat) : Int)] 97)) ⟨w4.heap.size + 1, 0, none⟩ [.int .u64 ((Nt.lo nx : Nat) : Int), .int .u64 ((Nt.hi nx : Nat) : Int)]) := Lib.hid (by
              have h := Flds.new (w4.alloc (.cells #[.int .u64 ((Nt.lo nx : Nat) : Int), .int .u64 ((Nt.hi nx : Nat) : Int)] 97)) [.int .u64 ((Nt.lo nx : Nat) : Int), .int .u64 ((Nt.hi nx : Nat) : Int)] 97
              rw [World.size_alloc] at h
              exact h)
            have HLN : Hid (((o.divs.take k).mapIdx fun i d => (ofR (keyJ d.lo (bf (i % 3)) (keyN d.lo d.hi))).1).length = k) := Lib.hid (by rw [List.length_mapIdx, List.length_take, HN2.out]; omega)
            have HSZ : Hid (w1.heap.size ≤ ((w4.alloc (.cells #[.int .u64 ((Nt.lo nx : Nat) : Int), .int .u64 ((Nt.hi nx : Nat) : Int)] 97)).alloc (.cells #[.int .u64 ((Nt.lo nx : Nat) : Int), .int .u64 ((Nt.hi nx : Nat) : Int)] 97)).heap.size) := Lib.hid (by have := HBR.out.size; have := HL4.out.size; simp; omega)
            go_upto_region 4 with (at_builtin; refine wpList_appF elemKy (by omega) rfl _ _ rfl relNt rfl HOE.out k HLN.out ⟨w4.heap.size + 1, 0, none⟩ 1 [.int .u64 ((Nt.lo nx : Nat) : Int), .int .u64 ((Nt.hi nx : Nat) : Int)] rfl rfl HFE.out (by simp [Value.oneCell']) (by omega) (by omega) HSZ.out nx (fun _ => False) rfl (fun _ q => absurd q id) ?_; intro g cap w8 ho8 hg8 hbel; have HO8 := Lib.hid ho8; have HG8 := Lib.hid (hbel w1 (Nat.le_refl _) (Ba (Ba (Bt HBR.out HL4.out) _) _)); clear ho8 hg8 hbel)
            go_wp2_with fail
            go_roundg (n2 - (k + 1))
            case measure => omega
            case rel =>
              refine ⟨k + 1, by omega, by omega, by go_num, (show OwnF _ _ _ _ _ _ _ from ?_), HG8.out⟩
              rw [HYR.out, HNX.out]
              exact HO8.out
    · obtain rfl : n2 = k := by omega
      have hkd : decide ((n2 : Int) < (n2 : Int)) = false := decide_eq_false (by omega)
      rw [List.take_of_length_le (by rw [HN2.out]; omega)] at hO
      have hsO := hO.slT (by rw [List.length_mapIdx, HN2.out]; omega) fun h => h
      have HSO := Lib.hid hsO
      obtain ⟨A5, c5, e5, -⟩ := Sl.openF hsO
      clear hO HO hsO
      subst e5
      go_wp2_with fail
      go_ret
      exact ⟨_, rfl, Sl.monoF relNt HSO.out fun c hc => hc.more HB1.out.size, Bt HB1.out HBR.out⟩
end Go.Proofs.YtnfpjcjlapljjaaGreatDoor
