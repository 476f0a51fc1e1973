/- Walks: the checker's Same. -/
import Derived.Test.YtnfpjcjlapljjaaGreatDoorW3
namespace Go.Proofs.YtnfpjcjlapljjaaGreatDoor
open Go Go.RowKit

def masks6 : List Nat := [0xaaaaaaaaaaaaaaaa, 0xcccccccccccccccc, 0xf0f0f0f0f0f0f0f0, 0xff00ff00ff00ff00, 0xffff0000ffff0000, 0xffffffff00000000]
def sameF (v : Int) (a b : Net) : Bool :=
  withinB 0 12 [v] && netOk v a && netOk v b && decide (a.outs.length = b.outs.length) && decide (outsW (masks6.take v.toNat) a = outsW (masks6.take v.toNat) b)

/-- A network by value. -/
structure NetAt (F : Nat → Prop) (w : World) (vg vo : Value) (n : Net) : Prop where
  g : SlG F w vg n.gates
  o : SlI F w vo n.outs
theorem NetAt.keep {F : Nat → Prop} {w w' : World} {vg vo : Value} {n : Net} (h : NetAt F w vg vo n) (ha : Agree F w w') : NetAt F w' vg vo n := ⟨h.g.keep ha, h.o.keep ha⟩

theorem NetAt.mono {F G : Nat → Prop} {w : World} {vg vo : Value} {n : Net} (h : NetAt F w vg vo n) (hF : ∀ b, F b → G b) : NetAt G w vg vo n :=
  ⟨(Sl.mono h.g hF).monoR fun _ _ ⟨u, e, hr⟩ => ⟨u, e, hr.mono hF⟩, h.o.mono hF⟩
theorem SlW.of_blk {F : Nat → Prop} {w : World} {b : Nat} {t : TypeId} {l : List Nat} (h : Blk w b t (words l).toArray) (hF : F b) (hl : l.length ≤ 140737488355328) : SlW F w (.slice (some ⟨b, 0, none⟩) l.length l.length) l := by
  refine ⟨_, l.length, rfl, Nat.le_refl _, hl, fun i hi => ⟨_, [wordV l[i]], rfl, hF, rfl, rfl, fun j u hu => ?_⟩⟩
  cases j with
  | zero =>
    simp at hu
    subst hu
    have : (⟨b, 0, none⟩ : Addr).add (i * 1) = ⟨b, i, none⟩ := by unfold Addr.add; split <;> simp_all
    rw [this]
    show World.cell? w ((⟨b, i, none⟩ : Addr).add 0) = _
    simp only [Addr.add, if_true]
    rw [h.cell]
    simp [words, hi]
  | succ j => simp at hu

theorem masks6_le (m : Nat) : ∀ x ∈ masks6.take m, x ≤ ones := fun x hx => by
  have : ∀ x ∈ masks6, x ≤ ones := by decide
  exact this x (List.mem_of_mem_take hx)

set_option maxHeartbeats 4000000 in
set_option maxRecDepth 100000 in
theorem same_main (m : Nat) (hm : m ≤ 6) (ga oa gb ob : Value) (a b : Net) (w : World) (F : Nat → Prop) (hF : ∀ x, F x → x < w.heap.size) (ha : NetAt F w ga oa a) (hb : NetAt F w gb ob b)
    (hna : netOk m a = true) (hnb : netOk m b = true) (hl : a.outs.length = b.outs.length) (hob : a.outs.length ≤ 1000000) :
    Calls Tryz.prog 14 #[.int .i64 m, .agg #[ga, oa], .agg #[gb, ob]] w fun e w' => e = .returned (.bool (decide (outsW (masks6.take m) a = outsW (masks6.take m) b))) ∧ Below w.heap.size w w' := by
  have hka : ∀ W, Below w.heap.size w W → NetAt F W ga oa a := fun W h => ha.keep (Agree.below h hF)
  have hkb : ∀ W, Below w.heap.size w W → NetAt F W gb ob b := fun W h => hb.keep (Agree.below h hF)
  have hFW : ∀ W, Below w.heap.size w W → ∀ x, F x → x < W.heap.size := fun W h x hx => Nat.lt_of_lt_of_le (hF x hx) h.size
  have h12a := fun W (h : Below w.heap.size w W) => network_any m (by omega) (by omega) ga oa a W F (hFW W h) (hka W h).g (hka W h).o
  have h12b := fun W (h : Below w.heap.size w W) => network_any m (by omega) (by omega) gb ob b W F (hFW W h) (hkb W h).g (hkb W h).o
  rw [hna] at h12a
  rw [hnb] at h12b
  have hw0 : withinB 0 12 [(m : Int)] = true := by simp [withinB]; omega
  have H12a := Lib.hid h12a
  have H12b := Lib.hid h12b
  have HKA := Lib.hid hka
  have HKB := Lib.hid hkb
  have HFW := Lib.hid hFW
  have HL := Lib.hid hl
  have HW0 := Lib.hid hw0
  have HNA := Lib.hid hna
  have HNB := Lib.hid hnb
  obtain ⟨Aoa, coa, rfl, _, _, _⟩ := ha.o.open
  obtain ⟨Aob, cob, rfl, _, _, _⟩ := hb.o.open
  have hlne : ((a.outs.length : Int) != b.outs.length) = false := by rw [hl]; simp
  clear ha hb hka hkb hFW h12a h12b hl hw0 hna hnb
  have hB2 : ∀ o1 o2 o3, Below w.heap.size w (((w.alloc o1).alloc o2).alloc o3) := fun o1 o2 o3 => Ba (Ba (Ba (B0 w) _) _) _
  go_enter Tryz.func14, Tryz.ntmps14
  go_wp2_with fail
  refine (within_any 0 12 _ [(m : Int)] _ (fun b => b = w.heap.size + 1 + 1) (by rintro b rfl; simp) (SlI.one (by simp [go_sem]) rfl)).mono ?_
  rw [HW0.out]
  rintro e w1 ⟨rfl, hb1⟩
  have a0 : w1.cell? ⟨w.heap.size, 0, none⟩ = some ga := (Bc hb1 (by simp; try omega)).trans (by simp [go_sem])
  have a1 : w1.cell? ⟨w.heap.size, 1, none⟩ = some (.slice Aoa a.outs.length coa) := (Bc hb1 (by simp; try omega)).trans (by simp [go_sem])
  have b0 : w1.cell? ⟨w.heap.size + 1, 0, none⟩ = some gb := (Bc hb1 (by simp; try omega)).trans (by simp [go_sem])
  have b1 : w1.cell? ⟨w.heap.size + 1, 1, none⟩ = some (.slice Aob b.outs.length cob) := (Bc hb1 (by simp; try omega)).trans (by simp [go_sem])
  have s1 : w.heap.size + 2 < w1.heap.size := by have := hb1.size; simp at this; omega
  have B1 : Below w.heap.size w w1 := Bt (hB2 _ _ _) hb1
  clear hb1
  go_wp2_with fail
  refine (H12a.out _ B1).mono ?_
  rintro e w2 ⟨rfl, hb2⟩
  have a0 := (Bc hb2 (k := w.heap.size) (o := 0) (by omega)).trans a0
  have a1 := (Bc hb2 (k := w.heap.size) (o := 1) (by omega)).trans a1
  have b0 := (Bc hb2 (k := w.heap.size + 1) (o := 0) (by omega)).trans b0
  have b1 := (Bc hb2 (k := w.heap.size + 1) (o := 1) (by omega)).trans b1
  have s2 : w.heap.size + 2 < w2.heap.size := by have := hb2.size; omega
  have B2 : Below w.heap.size w w2 := Bt B1 hb2
  clear hb2 B1 s1
  go_wp2_with fail
  refine (H12b.out _ B2).mono ?_
  rintro e w3 ⟨rfl, hb3⟩
  have a0 := (Bc hb3 (k := w.heap.size) (o := 0) (by omega)).trans a0
  have a1 := (Bc hb3 (k := w.heap.size) (o := 1) (by omega)).trans a1
  have b0 := (Bc hb3 (k := w.heap.size + 1) (o := 0) (by omega)).trans b0
  have b1 := (Bc hb3 (k := w.heap.size + 1) (o := 1) (by omega)).trans b1
  have s3 : w.heap.size + 2 < w3.heap.size := by have := hb3.size; omega
  have B3 : Below w.heap.size w w3 := Bt B2 hb3
  clear hb3 B2 s2
  go_wp2_with fail
  have hmk := run_make1 elem54.ht info53 rfl (arr [] m) m (by simp [arr, words, wordV]) (by omega) (by omega)
  refine wp_loop_rounds 2 ?_
  rw [rounds_succ]
  go_wp2_with fail
  obtain ⟨wx, hwx⟩ : ∃ wx : World, w3.alloc (.cells #[.int .u64 12297829382473034410, .int .u64 14757395258967641292, .int .u64 17361641481138401520, .int .u64 18374966859414961920, .int .u64 18446462603027742720, .int .u64 18446744069414584320] 42) = wx := ⟨_, rfl⟩
  have BX : Below w.heap.size w wx := by rw [← hwx]; exact Ba B3 _
  have KX : Blk wx w3.heap.size 42 (words masks6).toArray := by rw [← hwx]; exact Blk.new _ _ _
  have xx : wx.heap.size = w3.heap.size + 1 := by rw [← hwx]; simp
  have hbx : Below w3.heap.size w3 wx := by rw [← hwx]; exact Ba (B0 _) _
  have a0 := (Bc hbx (k := w.heap.size) (o := 0) (by omega)).trans a0
  have a1 := (Bc hbx (k := w.heap.size) (o := 1) (by omega)).trans a1
  have b0 := (Bc hbx (k := w.heap.size + 1) (o := 0) (by omega)).trans b0
  have b1 := (Bc hbx (k := w.heap.size + 1) (o := 1) (by omega)).trans b1
  rw [hwx, ← xx]
  have XX := Lib.hid xx
  clear hbx hwx xx
  go_loopg [48] m (fun gg s wr => ∃ kk : Nat, kk ≤ m ∧ m - kk ≤ gg ∧ s = .int .i64 kk ∧ Aside (Below wx.heap.size wx wr) ∧ Aside (Blk wr wx.heap.size 42 (arr (masks6.take kk) m)))
  case atStart => exact ⟨0, Nat.zero_le _, by omega, rfl, Ba (B0 _) _, by simpa [Aside] using Blk.new wx 42 (arr [] m)⟩
  case round =>
    obtain ⟨kk, hkk, hg, rfl, BW, BK⟩ := hrel
    by_cases hlt : kk < m
    · have hl6 : kk < masks6.length := Nat.lt_of_lt_of_le hlt hm
      have hc1 : wr.cell? ⟨w3.heap.size, kk, none⟩ = some (.int .u64 ((masks6[kk] : Nat) : Int)) := by
        rw [(KX.below BW.out (by have := XX.out; omega)).cell]
        simp [words, wordV, hl6]
      have hlen : (masks6.take kk).length = kk := by rw [List.length_take]; omega
      have hc2 : wr.cell? ⟨wx.heap.size, kk, none⟩ = some (.int .u64 0) := by
        rw [BK.out.cell, arr_zero _ _ (by omega), arr_get _ _ _ (by simp; omega)]
        rw [List.getD_eq_getElem?_getD]
        have := List.getElem?_concat_length (l := masks6.take kk) (a := 0)
        rw [hlen] at this
        rw [this]; rfl
      have hf2 : wr.frozen? ⟨wx.heap.size, kk, none⟩ = false := BK.out.frozen kk
      have hk6 : (kk : Int) < 6 := by omega
      have hset : Blk (wr.setCell ⟨wx.heap.size, kk, none⟩ (.int .u64 ((masks6[kk] : Nat) : Int))) wx.heap.size 42 (arr (masks6.take (kk + 1)) m) := by
        have h1 := BK.out.set_ kk (.int .u64 ((masks6[kk] : Nat) : Int))
        have h := arr_set (masks6.take kk) m masks6[kk] (by omega)
        rw [hlen] at h
        rw [h] at h1
        rw [List.take_succ_eq_append_getElem hl6]; exact h1
      have HS := Lib.hid hset
      generalize masks6[kk] = x at *
      clear hset hl6 hlen
      go_wp2
      go_roundg (m - (kk + 1))
      case measure => omega
      case rel => exact ⟨kk + 1, by omega, by omega, by go_num, Bs BW.out _ (by simp), HS.out⟩
    · have : kk = m := by omega
      subst this
      have BW1 := Bt BX BW.out
      have sx : w.heap.size + 2 < wx.heap.size := by have := XX.out; omega
      have a0 := (Bc BW.out (k := w.heap.size) (o := 0) (by omega)).trans a0
      have a1 := (Bc BW.out (k := w.heap.size) (o := 1) (by omega)).trans a1
      have b0 := (Bc BW.out (k := w.heap.size + 1) (o := 0) (by omega)).trans b0
      have b1 := (Bc BW.out (k := w.heap.size + 1) (o := 1) (by omega)).trans b1
      have hlen : (masks6.take kk).length = kk := by rw [List.length_take]; have : masks6.length = 6 := rfl
                                                     omega
      have hvals : SlW (fun x => x < wr.heap.size) wr (.slice (some ⟨wx.heap.size, 0, none⟩) kk kk) (masks6.take kk) := by
        have h := BK.out
        have h2 : arr (masks6.take kk) kk = (words (masks6.take kk)).toArray := by unfold arr; rw [hlen]; simp
        rw [h2] at h
        have := SlW.of_blk (F := fun x => x < wr.heap.size) h h.lt (by omega)
        rwa [hlen] at this
      have hGA : NetAt (fun x => x < wr.heap.size) wr ga (.slice Aoa a.outs.length coa) a := (HKA.out _ BW1).mono fun x hx => HFW.out _ BW1 x hx
      have hGB : NetAt (fun x => x < wr.heap.size) wr gb (.slice Aob b.outs.length cob) b := (HKB.out _ BW1).mono fun x hx => HFW.out _ BW1 x hx
      have hea : ∀ W, Below wr.heap.size wr W → Calls Tryz.prog 40 #[.agg #[ga, .slice Aoa a.outs.length coa], .slice (some ⟨wx.heap.size, 0, none⟩) kk kk] W fun e w' => ∃ v, e = .returned v ∧ SlW (New W.heap.size w'.heap.size) w' v (outsW (masks6.take kk) a) ∧ Below W.heap.size W w' := fun W h =>
        evaluate_any kk _ _ _ a (masks6.take kk) (masks6_le kk) W (fun x => x < wr.heap.size) (fun x hx => Nat.lt_of_lt_of_le hx h.size) (hGA.keep (Agree.below h fun _ hx => hx)).g (hGA.keep (Agree.below h fun _ hx => hx)).o (hvals.keep (Agree.below h fun _ hx => hx)) HNA.out (by omega) hob
      have heb : ∀ W, Below wr.heap.size wr W → Calls Tryz.prog 40 #[.agg #[gb, .slice Aob b.outs.length cob], .slice (some ⟨wx.heap.size, 0, none⟩) kk kk] W fun e w' => ∃ v, e = .returned v ∧ SlW (New W.heap.size w'.heap.size) w' v (outsW (masks6.take kk) b) ∧ Below W.heap.size W w' := fun W h =>
        evaluate_any kk _ _ _ b (masks6.take kk) (masks6_le kk) W (fun x => x < wr.heap.size) (fun x hx => Nat.lt_of_lt_of_le hx h.size) (hGB.keep (Agree.below h fun _ hx => hx)).g (hGB.keep (Agree.below h fun _ hx => hx)).o (hvals.keep (Agree.below h fun _ hx => hx)) HNB.out (by omega) (by rw [← HL.out]; exact hob)
      have HEA := Lib.hid hea
      have HEB := Lib.hid heb
      have sw : w.heap.size + 2 < wr.heap.size := by have := BW.out.size; omega
      have HB1 := Lib.hid BW1
      clear BW hvals hGA hGB hea heb BW1 BK hlen KX BX
      cases hd : decide (outsW (masks6.take kk) a = outsW (masks6.take kk) b) with
      | true =>
        have HD := Lib.hid hd
        clear hd
        go_wp2_with fail
        go_region_held3 (fun w' => Below wr.heap.size wr w' ∧ w'.cell? ⟨w.heap.size, 0, none⟩ = some ga ∧ w'.cell? ⟨w.heap.size, 1, none⟩ = some (.slice Aoa a.outs.length coa) ∧ w'.cell? ⟨w.heap.size + 1, 0, none⟩ = some gb ∧ w'.cell? ⟨w.heap.size + 1, 1, none⟩ = some (.slice Aob b.outs.length cob))
          (first
            | exact ⟨(B0 _).drew, a0, a1, b0, b1⟩
            | (refine ⟨hbn, ?_, ?_, ?_, ?_⟩
               · exact (Bc hbn (by omega)).trans a0
               · exact (Bc hbn (by omega)).trans a1
               · exact (Bc hbn (by omega)).trans b0
               · exact (Bc hbn (by omega)).trans b1))
          (first
            | (go_at_call_of 40 ga; refine (HEA.out _ ?_).mono ?_; (first | exact (B0 _).drew | exact hbn); rintro e w4 ⟨v1, rfl, hs1, hb1⟩; have hbn := Bt (B0 wr).drew hb1)
            | (go_at_call_of 40 gb; refine (HEB.out _ ?_).mono ?_; (first | exact (B0 _).drew | exact hbn); rintro e w5 ⟨v2, rfl, hs2, hb2⟩; have hbn := Bt hbn hb2)
            | (go_at_call 39; refine (equal_any _ _ _ _ _ (New wr.drew.heap.size w4.heap.size) (New w4.heap.size w5.heap.size) ?_ ?_ (hs1.keep (Agree.below hb2 fun x hx => hx.2)) hs2).mono ?_; (intro x hx; exact Nat.lt_of_lt_of_le hx.2 hb2.size); (intro x hx; exact hx.2); rw [HD.out]; rintro e w6 ⟨rfl, hb3⟩; have hbn := Bt hbn hb3))

        go_wp2_with fail
        rw [rounds_succ]
        go_wp2_with fail
        go_ret
        exact ⟨by rw [HD.out]; rfl, Bt HB1.out hbn⟩
      | false =>
        have HD := Lib.hid hd
        clear hd
        go_wp2_with fail
        go_region_held3 (fun w' => Below wr.heap.size wr w' ∧ w'.cell? ⟨w.heap.size, 0, none⟩ = some ga ∧ w'.cell? ⟨w.heap.size, 1, none⟩ = some (.slice Aoa a.outs.length coa) ∧ w'.cell? ⟨w.heap.size + 1, 0, none⟩ = some gb ∧ w'.cell? ⟨w.heap.size + 1, 1, none⟩ = some (.slice Aob b.outs.length cob))
          (first
            | exact ⟨(B0 _).drew, a0, a1, b0, b1⟩
            | (refine ⟨hbn, ?_, ?_, ?_, ?_⟩
               · exact (Bc hbn (by omega)).trans a0
               · exact (Bc hbn (by omega)).trans a1
               · exact (Bc hbn (by omega)).trans b0
               · exact (Bc hbn (by omega)).trans b1))
          (first
            | (go_at_call_of 40 ga; refine (HEA.out _ ?_).mono ?_; (first | exact (B0 _).drew | exact hbn); rintro e w4 ⟨v1, rfl, hs1, hb1⟩; have hbn := Bt (B0 wr).drew hb1)
            | (go_at_call_of 40 gb; refine (HEB.out _ ?_).mono ?_; (first | exact (B0 _).drew | exact hbn); rintro e w5 ⟨v2, rfl, hs2, hb2⟩; have hbn := Bt hbn hb2)
            | (go_at_call 39; refine (equal_any _ _ _ _ _ (New wr.drew.heap.size w4.heap.size) (New w4.heap.size w5.heap.size) ?_ ?_ (hs1.keep (Agree.below hb2 fun x hx => hx.2)) hs2).mono ?_; (intro x hx; exact Nat.lt_of_lt_of_le hx.2 hb2.size); (intro x hx; exact hx.2); rw [HD.out]; rintro e w6 ⟨rfl, hb3⟩; have hbn := Bt hbn hb3))

        go_wp2_with fail
        go_ret
        exact ⟨by rw [HD.out]; rfl, Bt HB1.out hbn⟩

set_option maxHeartbeats 4000000 in
set_option maxRecDepth 100000 in
/-- What fails early. -/
theorem same_early (v : Int) (ga oa gb ob : Value) (a b : Net) (w : World) (F : Nat → Prop) (hF : ∀ x, F x → x < w.heap.size) (ha : NetAt F w ga oa a) (hb : NetAt F w gb ob b)
    (hno : (withinB 0 12 [v] && netOk v a && netOk v b && decide (a.outs.length = b.outs.length)) = false) :
    Calls Tryz.prog 14 #[.int .i64 v, .agg #[ga, oa], .agg #[gb, ob]] w fun e w' => e = .returned (.bool false) ∧ Below w.heap.size w w' := by
  have hka : ∀ W, Below w.heap.size w W → NetAt F W ga oa a := fun W h => ha.keep (Agree.below h hF)
  have hkb : ∀ W, Below w.heap.size w W → NetAt F W gb ob b := fun W h => hb.keep (Agree.below h hF)
  have hFW : ∀ W, Below w.heap.size w W → ∀ x, F x → x < W.heap.size := fun W h x hx => Nat.lt_of_lt_of_le (hF x hx) h.size
  obtain ⟨Aoa, coa, rfl, _, _, _⟩ := ha.o.open
  obtain ⟨Aob, cob, rfl, _, _, _⟩ := hb.o.open
  have hB2 : ∀ o1 o2 o3, Below w.heap.size w (((w.alloc o1).alloc o2).alloc o3) := fun o1 o2 o3 => Ba (Ba (Ba (B0 w) _) _) _
  have HKA := Lib.hid hka
  have HKB := Lib.hid hkb
  have HFW := Lib.hid hFW
  clear ha hb hka hkb hFW
  cases hw0 : withinB 0 12 [v] with
  | false =>
    have HW0 := Lib.hid hw0
    clear hw0 hno
    go_enter Tryz.func14, Tryz.ntmps14
    go_wp2_with fail
    refine (within_any 0 12 _ [v] _ (fun b => b = w.heap.size + 1 + 1) (by rintro b rfl; simp) (SlI.one (by simp [go_sem]) rfl)).mono ?_
    rw [HW0.out]
    rintro e w1 ⟨rfl, hb1⟩
    have B1 : Below w.heap.size w w1 := Bt (hB2 _ _ _) hb1
    clear hb1
    go_wp2_with fail
    go_ret
    exact ⟨rfl, B1⟩
  | true =>
    have hv : 0 ≤ v ∧ v ≤ 12 := by simpa [withinB] using hw0
    rw [hw0, Bool.true_and] at hno
    have HW0 := Lib.hid hw0
    have h12a := fun W (h : Below w.heap.size w W) => network_any v (by omega) (by omega) ga _ a W F (HFW.out W h) (HKA.out W h).g (HKA.out W h).o
    have h12b := fun W (h : Below w.heap.size w W) => network_any v (by omega) (by omega) gb _ b W F (HFW.out W h) (HKB.out W h).g (HKB.out W h).o
    clear hw0
    cases hna : netOk v a with
    | false =>
      rw [hna] at h12a
      have H12a := Lib.hid h12a
      clear h12a h12b hna hno
      go_enter Tryz.func14, Tryz.ntmps14
      go_wp2_with fail
      refine (within_any 0 12 _ [v] _ (fun b => b = w.heap.size + 1 + 1) (by rintro b rfl; simp) (SlI.one (by simp [go_sem]) rfl)).mono ?_
      rw [HW0.out]
      rintro e w1 ⟨rfl, hb1⟩
      have a0 : w1.cell? ⟨w.heap.size, 0, none⟩ = some ga := (Bc hb1 (by simp; try omega)).trans (by simp [go_sem])
      have a1 : w1.cell? ⟨w.heap.size, 1, none⟩ = some (.slice Aoa a.outs.length coa) := (Bc hb1 (by simp; try omega)).trans (by simp [go_sem])
      have B1 : Below w.heap.size w w1 := Bt (hB2 _ _ _) hb1
      clear hb1
      go_wp2_with fail
      refine (H12a.out _ B1).mono ?_
      rintro e w2 ⟨rfl, hb2⟩
      have B2 : Below w.heap.size w w2 := Bt B1 hb2
      clear hb2 B1
      go_wp2_with fail
      go_ret
      exact ⟨rfl, B2⟩
    | true =>
      rw [hna] at h12a
      rw [hna, Bool.true_and] at hno
      have H12a := Lib.hid h12a
      clear h12a hna
      cases hnb : netOk v b with
      | false =>
        rw [hnb] at h12b
        have H12b := Lib.hid h12b
        clear h12b hnb hno
        go_enter Tryz.func14, Tryz.ntmps14
        go_wp2_with fail
        refine (within_any 0 12 _ [v] _ (fun b => b = w.heap.size + 1 + 1) (by rintro b rfl; simp) (SlI.one (by simp [go_sem]) rfl)).mono ?_
        rw [HW0.out]
        rintro e w1 ⟨rfl, hb1⟩
        have a0 : w1.cell? ⟨w.heap.size, 0, none⟩ = some ga := (Bc hb1 (by simp; try omega)).trans (by simp [go_sem])
        have a1 : w1.cell? ⟨w.heap.size, 1, none⟩ = some (.slice Aoa a.outs.length coa) := (Bc hb1 (by simp; try omega)).trans (by simp [go_sem])
        have b0 : w1.cell? ⟨w.heap.size + 1, 0, none⟩ = some gb := (Bc hb1 (by simp; try omega)).trans (by simp [go_sem])
        have b1 : w1.cell? ⟨w.heap.size + 1, 1, none⟩ = some (.slice Aob b.outs.length cob) := (Bc hb1 (by simp; try omega)).trans (by simp [go_sem])
        have s1 : w.heap.size + 2 < w1.heap.size := by have := hb1.size; simp at this; omega
        have B1 : Below w.heap.size w w1 := Bt (hB2 _ _ _) hb1
        clear hb1
        go_wp2_with fail
        refine (H12a.out _ B1).mono ?_
        rintro e w2 ⟨rfl, hb2⟩
        have b0 := (Bc hb2 (k := w.heap.size + 1) (o := 0) (by omega)).trans b0
        have b1 := (Bc hb2 (k := w.heap.size + 1) (o := 1) (by omega)).trans b1
        have B2 : Below w.heap.size w w2 := Bt B1 hb2
        clear hb2 B1 s1
        go_wp2_with fail
        refine (H12b.out _ B2).mono ?_
        rintro e w3 ⟨rfl, hb3⟩
        have B3 : Below w.heap.size w w3 := Bt B2 hb3
        clear hb3 B2
        go_wp2_with fail
        go_ret
        exact ⟨rfl, B3⟩
      | true =>
        rw [hnb] at h12b
        rw [hnb, Bool.true_and] at hno
        have H12b := Lib.hid h12b
        have hlne : ((a.outs.length : Int) != b.outs.length) = true := by
          have := of_decide_eq_false hno
          simp; omega
        clear h12b hnb hno
        go_enter Tryz.func14, Tryz.ntmps14
        go_wp2_with fail
        refine (within_any 0 12 _ [v] _ (fun b => b = w.heap.size + 1 + 1) (by rintro b rfl; simp) (SlI.one (by simp [go_sem]) rfl)).mono ?_
        rw [HW0.out]
        rintro e w1 ⟨rfl, hb1⟩
        have a0 : w1.cell? ⟨w.heap.size, 0, none⟩ = some ga := (Bc hb1 (by simp; try omega)).trans (by simp [go_sem])
        have a1 : w1.cell? ⟨w.heap.size, 1, none⟩ = some (.slice Aoa a.outs.length coa) := (Bc hb1 (by simp; try omega)).trans (by simp [go_sem])
        have b0 : w1.cell? ⟨w.heap.size + 1, 0, none⟩ = some gb := (Bc hb1 (by simp; try omega)).trans (by simp [go_sem])
        have b1 : w1.cell? ⟨w.heap.size + 1, 1, none⟩ = some (.slice Aob b.outs.length cob) := (Bc hb1 (by simp; try omega)).trans (by simp [go_sem])
        have s1 : w.heap.size + 2 < w1.heap.size := by have := hb1.size; simp at this; omega
        have B1 : Below w.heap.size w w1 := Bt (hB2 _ _ _) hb1
        clear hb1
        go_wp2_with fail
        refine (H12a.out _ B1).mono ?_
        rintro e w2 ⟨rfl, hb2⟩
        have a1 := (Bc hb2 (k := w.heap.size) (o := 1) (by omega)).trans a1
        have b0 := (Bc hb2 (k := w.heap.size + 1) (o := 0) (by omega)).trans b0
        have b1 := (Bc hb2 (k := w.heap.size + 1) (o := 1) (by omega)).trans b1
        have s2 : w.heap.size + 2 < w2.heap.size := by have := hb2.size; omega
        have B2 : Below w.heap.size w w2 := Bt B1 hb2
        clear hb2 B1 s1
        go_wp2_with fail
        refine (H12b.out _ B2).mono ?_
        rintro e w3 ⟨rfl, hb3⟩
        have a1 := (Bc hb3 (k := w.heap.size) (o := 1) (by omega)).trans a1
        have b1 := (Bc hb3 (k := w.heap.size + 1) (o := 1) (by omega)).trans b1
        have B3 : Below w.heap.size w w3 := Bt B2 hb3
        clear hb3 B2
        go_wp2_with fail
        go_ret
        exact ⟨rfl, B3⟩

theorem same54_any (v : Int) (hv : v ≤ 6 ∨ 12 < v) (ga oa gb ob : Value) (a b : Net) (w : World) (F : Nat → Prop) (hF : ∀ x, F x → x < w.heap.size) (ha : NetAt F w ga oa a) (hb : NetAt F w gb ob b) (hob : a.outs.length ≤ 1000000) :
    Calls Tryz.prog 14 #[.int .i64 v, .agg #[ga, oa], .agg #[gb, ob]] w fun e w' => e = .returned (.bool (sameF v a b)) ∧ Below w.heap.size w w' := by
  cases hno : (withinB 0 12 [v] && netOk v a && netOk v b && decide (a.outs.length = b.outs.length)) with
  | false =>
    have : sameF v a b = false := by unfold sameF; rw [hno]; rfl
    rw [this]
    exact same_early v ga oa gb ob a b w F hF ha hb hno
  | true =>
    have : sameF v a b = decide (outsW (masks6.take v.toNat) a = outsW (masks6.take v.toNat) b) := by unfold sameF; rw [hno]; simp
    rw [this]
    simp only [Bool.and_eq_true, decide_eq_true_eq] at hno
    obtain ⟨⟨⟨h0, h1⟩, h2⟩, h3⟩ := hno
    have h0' : 0 ≤ v ∧ v ≤ 12 := by simpa [withinB] using h0
    obtain ⟨m, rfl⟩ := Int.eq_ofNat_of_zero_le h0'.1
    exact same_main m (by omega) ga oa gb ob a b w F hF ha hb h1 h2 h3 hob
end Go.Proofs.YtnfpjcjlapljjaaGreatDoor
