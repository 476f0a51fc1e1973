/- Walks over hitting: Verify. -/
import Derived.Test.YtnpdoejjebgcpaaVb
import Derived.Deep.RegionHeld3
namespace Go.Proofs.Ytnpdoejjebgcpaa
open Go Go.RowKit
/-- Words of the call's own, not in block sb. -/
theorem Own0.wordsNot {k : IntKind} {w : World} {base sb : Nat} {e : TypeId} {A : Option Addr} {n c : Nat} {l : List Nat} (h : Own0 w base e 1 A n c (cellsV (vU k) l)) (hn : n = l.length) (hl : l.length ≤ 1000000000) (hs : 0 < n → (Value.slice A n c).ownBlock ≠ some sb) : SlU k (fun b => b < w.heap.size ∧ b ≠ sb) w (.slice A n c) l := by
  subst hn
  rcases h with ⟨h0, hc, _⟩ | ⟨h0, h⟩
  · subst hc
    have hl0 : l = [] := List.eq_nil_of_length_eq_zero h0
    subst hl0
    exact ⟨A, 0, rfl, by simp, by simp, fun i hi => absurd hi (by simp)⟩
  · rw [cellsV_flat] at h
    exact Sl.of_own (cs := l.map fun x => [vU k x]) h rfl (by omega) rfl (by simp) (fun i hi => ⟨[vU k l[i]], by simp [hi], rfl, rfl⟩) fun b _ q2 q3 => ⟨q2, fun e => hs h0 (by rw [q3, e])⟩
theorem own0_not_row {w : World} {base : Nat} {e t : TypeId} {A : Option Addr} {n c len : Nat} {xs : List Value} {sb : Nat} {f : Nat → Value} (h : Own0 w base e 1 A n c xs) (hr : w.rowIs sb t len f) (hne : e ≠ t) (h0 : 0 < n) : (Value.slice A n c).ownBlock ≠ some sb := by
  rcases h with ⟨h1, _, _⟩ | ⟨_, h⟩
  · omega
  · obtain ⟨cc, hb, _⟩ := hr
    exact own_blk_ne h (show Blk w sb t cc from hb) hne
/-- What the making of the verifier leaves. -/
def VMade (w1 : World) (size : Int) (vt : Value) (n : Nat) (ws : List Nat) (len : Nat) (s8 : Value) (wx : World) : Prop :=
  ∃ (vb sb : Nat) (A : Option Addr) (c : Nat), s8 = .pointer (some ⟨vb, 0, none⟩) ∧ Blk wx vb 111 #[.slice A ws.length c, .int .i64 size, vt, .int .i64 n, .slice (some ⟨sb, 0, none⟩) len len] ∧ wx.rowIs sb 4 len (fun _ => .bool false) ∧
    SlU .u32 (fun b => b < wx.heap.size ∧ b ≠ sb) wx (.slice A ws.length c) ws ∧ vb ≠ sb ∧ w1.heap.size ≤ vb ∧ w1.heap.size ≤ sb ∧ Below w1.heap.size w1 wx
/-- What the operations of the making have left. -/
def FV (pb base : Nat) (pv vt : Value) (size : Int) (n len : Nat) (ws : List Nat) (j : Nat) (s : Nat → Value) (w : World) : Prop :=
  match j with
  | 0 => s 31 = pv
  | 1 => ∃ A c, s 32 = .slice A ws.length c ∧ Own0 w base 113 1 A ws.length c (cellsV (vU .u32) ws)
  | 2 => s 33 = .int .i64 size
  | 3 => s 34 = vt
  | 4 => ∃ A c, s 35 = .agg #[.slice A ws.length c, .int .i64 size, vt] ∧ Own0 w base 113 1 A ws.length c (cellsV (vU .u32) ws)
  | 5 => s 36 = .pointer (some ⟨pb, 0, none⟩)
  | 6 => s 37 = .int .i64 n
  | 7 => s 38 = vt
  | 8 => s 39 = .int .i64 len
  | 9 => ∃ sb, s 40 = .slice (some ⟨sb, 0, none⟩) len len ∧ base ≤ sb ∧ w.rowIs sb 4 len (fun _ => .bool false)
  | 10 => ∃ A c sb, s 41 = .agg #[.slice A ws.length c, .int .i64 size, vt, .int .i64 n, .slice (some ⟨sb, 0, none⟩) len len] ∧ Own0 w base 113 1 A ws.length c (cellsV (vU .u32) ws) ∧ base ≤ sb ∧ w.rowIs sb 4 len (fun _ => .bool false)
  | 11 => ∃ vb u0 u1 u2 u3 u4, s 8 = .pointer (some ⟨vb, 0, none⟩) ∧ base ≤ vb ∧ Blk w vb 111 #[u0, u1, u2, u3, u4]
  | 12 => ∃ vb A c sb, s 8 = .pointer (some ⟨vb, 0, none⟩) ∧ base ≤ vb ∧ Blk w vb 111 #[.slice A ws.length c, .int .i64 size, vt, .int .i64 n, .slice (some ⟨sb, 0, none⟩) len len] ∧
      Own0 w base 113 1 A ws.length c (cellsV (vU .u32) ws) ∧ base ≤ sb ∧ w.rowIs sb 4 len (fun _ => .bool false)
  | _ => True
def VV (j : Nat) : List Nat := match j with
  | 0 => [31] | 1 => [32] | 2 => [33] | 3 => [34] | 4 => [35] | 5 => [36] | 6 => [37] | 7 => [38] | 8 => [39] | 9 => [40] | 10 => [41] | 11 => [8] | 12 => [8] | _ => []
section
variable {pb base : Nat} {pv vt : Value} {size : Int} {n len : Nat} {ws : List Nat}
theorem FV_V (j : Nat) (s s' : Nat → Value) (w : World) (h : ∀ t, t ∈ VV j → s' t = s t) (hF : FV pb base pv vt size n len ws j s w) : FV pb base pv vt size n len ws j s' w := by
  match j with
  | 0 => simpa [FV, h 31 (by simp [VV])] using hF
  | 1 => simpa [FV, h 32 (by simp [VV])] using hF
  | 2 => simpa [FV, h 33 (by simp [VV])] using hF
  | 3 => simpa [FV, h 34 (by simp [VV])] using hF
  | 4 => simpa [FV, h 35 (by simp [VV])] using hF
  | 5 => simpa [FV, h 36 (by simp [VV])] using hF
  | 6 => simpa [FV, h 37 (by simp [VV])] using hF
  | 7 => simpa [FV, h 38 (by simp [VV])] using hF
  | 8 => simpa [FV, h 39 (by simp [VV])] using hF
  | 9 => simpa [FV, h 40 (by simp [VV])] using hF
  | 10 => simpa [FV, h 41 (by simp [VV])] using hF
  | 11 => simpa [FV, h 8 (by simp [VV])] using hF
  | 12 => simpa [FV, h 8 (by simp [VV])] using hF
  | j + 13 => trivial
theorem FV_below (j : Nat) (s : Nat → Value) (w w' : World) (hb : Below w.heap.size w w') (hF : FV pb base pv vt size n len ws j s w) : FV pb base pv vt size n len ws j s w' := by
  match j with
  | 0 => exact hF
  | 1 => obtain ⟨A, c, h1, h2⟩ := hF; exact ⟨A, c, h1, h2.below hb⟩
  | 2 => exact hF
  | 3 => exact hF
  | 4 => obtain ⟨A, c, h1, h2⟩ := hF; exact ⟨A, c, h1, h2.below hb⟩
  | 5 => exact hF
  | 6 => exact hF
  | 7 => exact hF
  | 8 => exact hF
  | 9 => obtain ⟨sb, h1, h2, h3⟩ := hF; exact ⟨sb, h1, h2, h3.of_block (hb.block _ h3.lt)⟩
  | 10 => obtain ⟨A, c, sb, h1, h2, h3, h4⟩ := hF; exact ⟨A, c, sb, h1, h2.below hb, h3, h4.of_block (hb.block _ h4.lt)⟩
  | 11 => obtain ⟨vb, u0, u1, u2, u3, u4, h1, h2, h3⟩ := hF; exact ⟨vb, u0, u1, u2, u3, u4, h1, h2, h3.below hb h3.lt⟩
  | 12 => obtain ⟨vb, A, c, sb, h1, h2, h3, h4, h5, h6⟩ := hF; exact ⟨vb, A, c, sb, h1, h2, h3.below hb h3.lt, h4.below hb, h5, h6.of_block (hb.block _ h6.lt)⟩
  | j + 13 => trivial
theorem FV_made {w1 wx : World} {x : Nat → Value} (hws : ws.length ≤ 1000) (hb : Below w1.heap.size w1 wx) (h : FV pb w1.heap.size pv vt size n len ws 12 x wx) : VMade w1 size vt n ws len (x 8) wx := by
  obtain ⟨vb, A, c, sb, h1, h2, h3, h4, h5, h6⟩ := h
  have hne : vb ≠ sb := by
    rintro rfl
    obtain ⟨cc, hc, _⟩ := h6
    exact (Blk.ne_ (t := 111) h3 (show Blk wx vb 4 cc from hc) (by decide)) rfl
  exact ⟨vb, sb, A, c, h1, h3, h6, (h4.wordsNot rfl (by omega) (own0_not_row h4 h6 (by decide))), hne, h2, h5, hb⟩
end
theorem set5 {w : World} {vb : Nat} {t : TypeId} {u0 u1 u2 u3 u4 : Value} (h : Blk w vb t #[u0, u1, u2, u3, u4]) (v0 v1 v2 v3 v4 : Value) :
    Blk (((((w.setCell ⟨vb, 0, none⟩ v0).setCell ⟨vb, 1, none⟩ v1).setCell ⟨vb, 2, none⟩ v2).setCell ⟨vb, 3, none⟩ v3).setCell ⟨vb, 4, none⟩ v4) vb t #[v0, v1, v2, v3, v4] := by
  have := ((((h.set_ 0 v0).set_ 1 v1).set_ 2 v2).set_ 3 v3).set_ 4 v4
  simpa using this
theorem Own0.far5 {w : World} {base : Nat} {e t : TypeId} {vb n c : Nat} {A : Option Addr} {xs : List Value} {u0 u1 u2 u3 u4 v0 v1 v2 v3 v4 : Value} (h : Own0 w base e 1 A n c xs) (hB : Blk w vb t #[u0, u1, u2, u3, u4]) (ht : e ≠ t) :
    Own0 (((((w.setCell ⟨vb, 0, none⟩ v0).setCell ⟨vb, 1, none⟩ v1).setCell ⟨vb, 2, none⟩ v2).setCell ⟨vb, 3, none⟩ v3).setCell ⟨vb, 4, none⟩ v4) base e 1 A n c xs := by
  have b1 := hB.set_ 0 v0
  have b2 := b1.set_ 1 v1
  have b3 := b2.set_ 2 v2
  have b4 := b3.set_ 3 v3
  exact ((((h.far hB ht 0 v0).far b1 ht 1 v1).far b2 ht 2 v2).far b3 ht 3 v3).far b4 ht 4 v4
theorem row_far5 {w : World} {t t' : TypeId} {vb sb len : Nat} {f : Nat → Value} {u0 u1 u2 u3 u4 v0 v1 v2 v3 v4 : Value} (hB : Blk w vb t #[u0, u1, u2, u3, u4]) (h : w.rowIs sb t' len f) (ht : t ≠ t') :
    (((((w.setCell ⟨vb, 0, none⟩ v0).setCell ⟨vb, 1, none⟩ v1).setCell ⟨vb, 2, none⟩ v2).setCell ⟨vb, 3, none⟩ v3).setCell ⟨vb, 4, none⟩ v4).rowIs sb t' len f := by
  have hne : sb ≠ vb := by
    rintro rfl
    obtain ⟨cc, hcc, _⟩ := h
    exact (Blk.ne_ hB (show Blk w sb t' cc from hcc) ht) rfl
  exact ((((h.setOther (a := ⟨vb, 0, none⟩) hne v0).setOther (a := ⟨vb, 1, none⟩) hne v1).setOther (a := ⟨vb, 2, none⟩) hne v2).setOther (a := ⟨vb, 3, none⟩) hne v3).setOther (a := ⟨vb, 4, none⟩) hne v4
theorem VMade.undrew {w1 wx : World} {size : Int} {vt : Value} {n : Nat} {ws : List Nat} {len : Nat} {s8 : Value} (h : VMade w1.drew size vt n ws len s8 wx) : VMade w1 size vt n ws len s8 wx := by
  obtain ⟨vb, sb, A, c, e, hbk, hr, hs, hne, h1, h2, hb⟩ := h
  exact ⟨vb, sb, A, c, e, hbk, hr, hs, hne, h1, h2, Bt (B0 w1).drew hb⟩
theorem vstate {w1 wx : World} {size : Int} {vt : Value} {n : Nat} {ws : List Nat} {t : List Hit.TNode} {s8 : Value} {G : Nat → Prop} (h : VMade w1 size vt n ws t.length s8 wx) (hG : ∀ b, G b → b < w1.heap.size) (ht : SlT G w1 vt t) :
    ∃ (vb sb : Nat) (v : Value), s8 = .pointer (some ⟨vb, 0, none⟩) ∧ VSt vb sb wx.heap.size v size vt n ws t (fun b => b < wx.heap.size ∧ b ≠ sb) G wx (List.replicate t.length false) ∧ w1.heap.size ≤ vb ∧ w1.heap.size ≤ sb ∧ Below w1.heap.size w1 wx := by
  obtain ⟨vb, sb, A, c, rfl, hbk, hr, hs, hne, h1, h2, hb⟩ := h
  refine ⟨vb, sb, _, rfl, ⟨hbk, hr.congr fun j hj => ?_, hs, ht.keep (Agree.below hb hG), by simp, Nat.le_refl _, fun b h => h, fun b h => ?_, hne⟩, h1, h2, hb⟩
  · simp [List.getD_eq_getElem?_getD, hj]
  · have := hG b h
    have := hb.size
    omega
theorem infoB : (Try.prog.info? 4).map (fun i => (i.zero, i.size, i.bytes)) = some (some (.bool false), 1, 1) := by kernel_rfl
set_option maxRecDepth 100000 in
set_option maxHeartbeats 4000000 in
theorem verify_any (n : Nat) (hn : n ≤ 20) (vs vt : Value) (ws : List Nat) (hg : Hit.Good ws n) (hwl : ws.length ≤ 100) (size : Int) (t : List Hit.TNode) (htl : t.length ≤ 1000000) (hll : ∀ x ∈ t, x.weights.length ≤ 1000000) (w : World) (F G : Nat → Prop) (hF : ∀ b, F b → b < w.heap.size) (hG : ∀ b, G b → b < w.heap.size) (hr : SlII F w vs (setsOf ws)) (ht : SlT G w vt t) :
    Calls Try.prog 20 #[.agg #[.int .i64 n, vs], .int .i64 size, vt] w fun e w' => e = .returned (.int .i64 (Hit.verifyF ws n size t)) ∧ Below w.heap.size w w' := by
  have hw := good_lt hg (by omega)
  have hC : ∀ W, Below w.heap.size w W → Calls Try.prog 44 #[.agg #[.int .i64 n, vs]] W fun e w' => e = .returned (.int .i64 0) ∧ Below W.heap.size W w' :=
    fun W hW => by
      have := check_any n vs (setsOf ws) W F (fun b hb => Nat.lt_of_lt_of_le (hF b hb) hW.size) (hr.keep (Agree.below hW hF))
      rw [show Hit.checkF n (setsOf ws) = 0 from Hit.checkF_of hn hwl hg] at this
      exact this
  have hW : ∀ W, Below w.heap.size w W → Calls Try.prog 45 #[.agg #[.int .i64 n, vs]] W fun e w' => ∃ A m c, e = .returned (.slice A m c) ∧ m = ws.length ∧ Own0 w' W.heap.size 113 1 A m c (cellsV (vU .u32) ws) ∧ Below W.heap.size W w' :=
    fun W hW => words_any n vs ws hw (by omega) W F (fun b hb => Nat.lt_of_lt_of_le (hF b hb) hW.size) (hr.keep (Agree.below hW hF))
  have hT : ∀ W, Below w.heap.size w W → SlT G W vt t := fun W hW => ht.keep (Agree.below hW hG)
  obtain ⟨As, cs, rfl, _⟩ := hr.open
  obtain ⟨At, ct, rfl, _⟩ := ht.open
  have HC := Lib.hid hC
  have HW := Lib.hid hW
  have HT := Lib.hid hT
  have HG := Lib.hid hG
  have HLL := Lib.hid hll
  have HW0 := Lib.hid hw
  have hmb := run_make_row' (P := Try.prog) 89 4 (.bool false) 1 Try.underlying89 (by kernel_rfl) rfl .i64 .i64 t.length (by omega) (by omega)
  clear hC hW hr ht hT hg hF hG hll hw
  go_enter Try.func20, Try.ntmps20
  go_wp2_with fail
  refine (HC.out _ (Ba (B0 w) _)).mono ?_
  rintro e w1 ⟨rfl, hb1⟩
  have c0 : w1.cell? ⟨w.heap.size, 0, none⟩ = some (.int .i64 n) := (Bc hb1 (by simp)).trans (by simp [go_sem])
  have c1 : w1.cell? ⟨w.heap.size, 1, none⟩ = some (.slice As (setsOf ws).length cs) := (Bc hb1 (by simp)).trans (by simp [go_sem])
  have s1 : w.heap.size < w1.heap.size := by have := hb1.size; simp at this; omega
  have HB := Lib.hid (Bt (Ba (B0 w) _) hb1)
  clear hb1
  by_cases hrg : size < 0 ∨ (n : Int) < size
  · have hq : decide (size < 0) = true ∨ (decide (size < 0) = false ∧ decide ((n : Int) < size) = true) := by
      simp only [decide_eq_true_eq, decide_eq_false_iff_not]; omega
    have hv : Hit.verifyF ws n size t = 3 := by unfold Hit.verifyF; rw [if_pos (by omega)]
    have HV := Lib.hid hv
    clear hrg hv hmb
    rcases hq with hq | ⟨hq1, hq2⟩
    all_goals
      go_wp2_with fail
      go_ret
      rw [HV.out]
      exact ⟨rfl, HB.out⟩
  · have hq1 : decide (size < 0) = false := decide_eq_false (by omega)
    have hq2 : decide ((n : Int) < size) = false := decide_eq_false (by omega)
    by_cases hbig : 100000 < t.length
    · have hv : Hit.verifyF ws n size t = 4 := by unfold Hit.verifyF; rw [if_neg (by omega), if_pos (by omega)]
      have d1 : decide ((100000 : Int) < (t.length : Int)) = true := decide_eq_true (by omega)
      have d1n : decide (100000 < t.length) = true := decide_eq_true (by omega)
      have HV := Lib.hid hv
      clear hrg hv hmb hbig
      go_wp2_with fail
      go_ret
      rw [HV.out]
      exact ⟨rfl, HB.out⟩
    · have d1 : decide ((100000 : Int) < (t.length : Int)) = false := decide_eq_false (by omega)
      have d1n : decide (100000 < t.length) = false := decide_eq_false (by omega)
      by_cases h0 : t.length = 0
      · have hv : Hit.verifyF ws n size t = 13 := by unfold Hit.verifyF; rw [if_neg (by omega), if_neg (by omega), if_pos h0]
        have d2 : ((t.length : Int) == 0) = true := by simp [h0]
        have HV := Lib.hid hv
        clear hrg hv hmb hbig h0
        go_wp2_with fail
        go_ret
        rw [HV.out]
        exact ⟨rfl, HB.out⟩
      · have hv : Hit.verifyF ws n size t = if Hit.treeF ws n size t then 0 else 20 := by unfold Hit.verifyF; rw [if_neg (by omega), if_neg (by omega), if_neg h0]
        have d2 : ((t.length : Int) == 0) = false := by simp; intro h; exact h0 (by rw [h]; rfl)
        have h0t : 0 < t.length := by omega
        rw [← Hit.verify_same ws n size t h0t] at hv
        have HV := Lib.hid hv
        have H0 := Lib.hid h0t
        clear hrg hv hbig h0 h0t
        go_upto_region 10 with fail
        go_cut [8] from 31 to 41 (fun s8 wx => VMade w1 size (.slice At t.length ct) n ws t.length s8 wx)
        case first =>
          refine wp_region_law (fun w' => Below w1.heap.size w1 w') (FV w.heap.size w1.heap.size (.agg #[.int .i64 n, .slice As (setsOf ws).length cs]) (.slice At t.length ct) size n t.length ws) VV (by kernel_rfl) FV_V (by kernel_rfl) (by kernel_rfl) (B0 w1).drew ⟨?_, ?_, ?_, ?_, ?_, ?_, ?_, ?_, ?_, ?_, ?_, ?_, ?_, trivial⟩ ?_
          · refine OpFact.value FV_below fun a w2 hf D hb => ?_
            have h3 : sl a 3 = .pointer (some ⟨w.heap.size, 0, none⟩) := hf 3 (by kernel_rfl)
            refine ⟨.agg #[.int .i64 n, .slice As (setsOf ws).length cs], w2, ?_, B0 _, hb, fun s _ h => h 31 rfl⟩
            have kc0 := (Bc hb s1).trans c0
            have kc1 := (Bc hb s1).trans c1
            unfold sl at h3
            simp [go_sem, h3, kc0, kc1]
          · refine OpFact.call FV_below fun a w2 hf D hb => ?_
            have h31 : sl a 31 = .agg #[.int .i64 n, .slice As (setsOf ws).length cs] := D 0 (by kernel_rfl)
            refine ⟨45, #[.agg #[.int .i64 n, .slice As (setsOf ws).length cs]], ?_, (HW.out w2 (Bt HB.out hb)).mono ?_⟩
            · unfold sl at h31
              simp [Act.eval, h31, go_sem]
            · rintro e w3 ⟨A3, m3, c3, rfl, rfl, hO3, hb3⟩
              exact ⟨_, rfl, hb3, Bt hb hb3, fun s _ h => ⟨A3, c3, h 32 rfl, hO3.more hb.size⟩⟩
          · refine OpFact.value FV_below fun a w2 hf D hb => ?_
            have h1 : sl a 1 = .int .i64 size := hf 1 (by kernel_rfl)
            refine ⟨.int .i64 size, w2, ?_, B0 _, hb, fun s _ h => h 33 rfl⟩
            unfold sl at h1
            simp [go_sem, h1]
          · refine OpFact.value FV_below fun a w2 hf D hb => ?_
            have h2 : sl a 2 = .slice At t.length ct := hf 2 (by kernel_rfl)
            refine ⟨.slice At t.length ct, w2, ?_, B0 _, hb, fun s _ h => h 34 rfl⟩
            unfold sl at h2
            simp [go_sem, h2]
          · refine OpFact.value FV_below fun a w2 hf D hb => ?_
            obtain ⟨A3, c3, h32, hO3⟩ : ∃ A c, sl a 32 = .slice A ws.length c ∧ Own0 w2 w1.heap.size 113 1 A ws.length c (cellsV (vU .u32) ws) := D 1 (by kernel_rfl)
            have h33 : sl a 33 = .int .i64 size := D 2 (by kernel_rfl)
            have h34 : sl a 34 = .slice At t.length ct := D 3 (by kernel_rfl)
            refine ⟨.agg #[.slice A3 ws.length c3, .int .i64 size, .slice At t.length ct], w2, ?_, B0 _, hb, fun s _ h => ⟨A3, c3, h 35 rfl, hO3⟩⟩
            unfold sl at h32 h33 h34
            have g32 := h32
            have g33 := h33
            have g34 := h34
            simp at g32 g33 g34
            simp [go_sem, g32, g33, g34]
          · refine OpFact.value FV_below fun a w2 hf D hb => ?_
            have h3 : sl a 3 = .pointer (some ⟨w.heap.size, 0, none⟩) := hf 3 (by kernel_rfl)
            refine ⟨.pointer (some ⟨w.heap.size, 0, none⟩), w2, ?_, B0 _, hb, fun s _ h => h 36 rfl⟩
            unfold sl at h3
            simp [go_sem, h3]
          · refine OpFact.value FV_below fun a w2 hf D hb => ?_
            have h36 : sl a 36 = .pointer (some ⟨w.heap.size, 0, none⟩) := D 5 (by kernel_rfl)
            refine ⟨.int .i64 n, w2, ?_, B0 _, hb, fun s _ h => h 37 rfl⟩
            have kc0 := (Bc hb s1).trans c0
            unfold sl at h36
            simp [go_sem, h36, kc0]
          · refine OpFact.value FV_below fun a w2 hf D hb => ?_
            have h2 : sl a 2 = .slice At t.length ct := hf 2 (by kernel_rfl)
            refine ⟨.slice At t.length ct, w2, ?_, B0 _, hb, fun s _ h => h 38 rfl⟩
            unfold sl at h2
            simp [go_sem, h2]
          · refine OpFact.value FV_below fun a w2 hf D hb => ?_
            have h38 : sl a 38 = .slice At t.length ct := D 7 (by kernel_rfl)
            refine ⟨.int .i64 t.length, w2, ?_, B0 _, hb, fun s _ h => h 39 rfl⟩
            unfold sl at h38
            simp [go_sem, h38]
          · refine OpFact.value FV_below fun a w2 hf D hb => ?_
            have h39 : sl a 39 = .int .i64 t.length := D 8 (by kernel_rfl)
            have hrun := hmb w2
            refine ⟨.slice (some ⟨w2.heap.size, 0, none⟩) t.length t.length, w2.alloc (.cells (madeCells #[.bool false] t.length) 4), ?_, Ba (B0 _) _, Ba hb _, fun s _ h => ⟨_, h 40 rfl, hb.size, World.rowIs_made w2 (.bool false) t.length 4⟩⟩
            unfold sl at h39
            simp [go_sem, h39, hrun]
          · refine OpFact.value FV_below fun a w2 hf D hb => ?_
            obtain ⟨A3, c3, h35, hO3⟩ : ∃ A c, sl a 35 = .agg #[.slice A ws.length c, .int .i64 size, .slice At t.length ct] ∧ Own0 w2 w1.heap.size 113 1 A ws.length c (cellsV (vU .u32) ws) := D 4 (by kernel_rfl)
            have h37 : sl a 37 = .int .i64 n := D 6 (by kernel_rfl)
            obtain ⟨sb, h40, hsb, hrow⟩ : ∃ sb, sl a 40 = .slice (some ⟨sb, 0, none⟩) t.length t.length ∧ w1.heap.size ≤ sb ∧ w2.rowIs sb 4 t.length (fun _ => .bool false) := D 9 (by kernel_rfl)
            refine ⟨.agg #[.slice A3 ws.length c3, .int .i64 size, .slice At t.length ct, .int .i64 n, .slice (some ⟨sb, 0, none⟩) t.length t.length], w2, ?_, B0 _, hb, fun s _ h => ⟨A3, c3, sb, h 41 rfl, hO3, hsb, hrow⟩⟩
            unfold sl at h35 h37 h40
            have g35 := h35
            have g37 := h37
            have g40 := h40
            simp at g35 g37 g40
            simp [go_sem, g35, g37, g40]
          · refine OpFact.value FV_below fun a w2 hf D hb => ?_
            refine ⟨.pointer (some ⟨w2.heap.size, 0, none⟩), w2.alloc (.cells #[.slice none 0 0, .int .i64 0, .slice none 0 0, .int .i64 0, .slice none 0 0] 111), ?_, Ba (B0 _) _, Ba hb _, fun s _ h => ⟨_, _, _, _, _, _, h 8 rfl, hb.size, Blk.new _ _ _⟩⟩
            simp [go_sem]
          · refine OpFact.skip fun a w2 hf D hb => ?_
            obtain ⟨A3, c3, sb, h41, hO3, hsb, hrow⟩ : ∃ A c sb, sl a 41 = .agg #[.slice A ws.length c, .int .i64 size, .slice At t.length ct, .int .i64 n, .slice (some ⟨sb, 0, none⟩) t.length t.length] ∧ Own0 w2 w1.heap.size 113 1 A ws.length c (cellsV (vU .u32) ws) ∧ w1.heap.size ≤ sb ∧ w2.rowIs sb 4 t.length (fun _ => .bool false) := D 10 (by kernel_rfl)
            obtain ⟨vb, u0, u1, u2, u3, u4, h8, hvb, hbk⟩ : ∃ vb u0 u1 u2 u3 u4, sl a 8 = .pointer (some ⟨vb, 0, none⟩) ∧ w1.heap.size ≤ vb ∧ Blk w2 vb 111 #[u0, u1, u2, u3, u4] := D 11 (by kernel_rfl)
            have e0 := hbk.cell 0
            have e1 := hbk.cell 1
            have e2 := hbk.cell 2
            have e3 := hbk.cell 3
            have e4 := hbk.cell 4
            have f0 := hbk.frozen
            have hvs : sb ≠ vb := by
              rintro rfl
              obtain ⟨cc, hcc, _⟩ := hrow
              exact (Blk.ne_ (t := 111) hbk (show Blk w2 sb 4 cc from hcc) (by decide)) rfl
            have hfin := set5 hbk (.slice A3 ws.length c3) (.int .i64 size) (.slice At t.length ct) (.int .i64 n) (.slice (some ⟨sb, 0, none⟩) t.length t.length)
            simp at e0 e1 e2 e3 e4
            refine ⟨((((w2.setCell ⟨vb, 0, none⟩ (.slice A3 ws.length c3)).setCell ⟨vb, 1, none⟩ (.int .i64 size)).setCell ⟨vb, 2, none⟩ (.slice At t.length ct)).setCell ⟨vb, 3, none⟩ (.int .i64 n)).setCell ⟨vb, 4, none⟩ (.slice (some ⟨sb, 0, none⟩) t.length t.length), ?_, Bs (Bs (Bs (Bs (Bs hb _ hvb) _ hvb) _ hvb) _ hvb) _ hvb, fun j hj hF => ?_, fun s h => ?_⟩
            · have h8' := h8
              have h41' := h41
              unfold sl at h8' h41'
              simp [go_sem, h8', h41', e0, e1, e2, e3, e4, f0]
            · match j with
              | 0 => exact hF
              | 1 => obtain ⟨A, c, q1, q2⟩ := hF; exact ⟨A, c, q1, q2.far5 hbk (by decide)⟩
              | 2 => exact hF
              | 3 => exact hF
              | 4 => obtain ⟨A, c, q1, q2⟩ := hF; exact ⟨A, c, q1, q2.far5 hbk (by decide)⟩
              | 5 => exact hF
              | 6 => exact hF
              | 7 => exact hF
              | 8 => exact hF
              | 9 => obtain ⟨b, q1, q2, q3⟩ := hF; exact ⟨b, q1, q2, row_far5 hbk q3 (by decide)⟩
              | 10 => obtain ⟨A, c, b, q1, q2, q3, q4⟩ := hF; exact ⟨A, c, b, q1, q2.far5 hbk (by decide), q3, row_far5 hbk q4 (by decide)⟩
              | 11 => exact ⟨vb, _, _, _, _, _, h8, hvb, hfin⟩
              | 12 => exact absurd rfl hj
              | _ + 13 => trivial
            · exact ⟨vb, A3, c3, sb, (h 8 (by decide)).trans h8, hvb, hfin, hO3.far5 hbk (by decide), hsb, row_far5 hbk hrow (by decide)⟩
          · intro x wx hb hF
            have hm := FV_made (by omega) hb (hF 12 (by decide))
            obtain ⟨vb, _, _, _, hx8, _⟩ := hF 12 (by decide)
            rw [hx8] at hm
            have HM := Lib.hid hm
            clear hm hF hmb
            simp only [after, List.filterMap_cons, List.filterMap_nil, List.foldl_cons, List.foldl_nil]
            go_wp2_with fail
            simp only [List.setIfInBounds_toArray, List.set_cons_succ, List.set_cons_zero]
            go_meet
            rw [hx8]
            exact HM.out
        case rest =>
          obtain ⟨vb, sb, v, rfl, hV, h1, h2, hb⟩ := vstate hcut (fun b h => Nat.lt_of_lt_of_le (HG.out b h) HB.out.size) (HT.out w1 HB.out)
          have hR : Calls Try.prog 46 #[.pointer (some ⟨vb, 0, none⟩), .int .i64 0, .int .u32 0, .int .u32 0] wc (RightP sb t.length wc (Hit.rightF ws n size t t.length 0 0 0 (List.replicate t.length false))) := right_any vb sb wc.heap.size v size (.slice At t.length ct) n hn ws HW0.out t htl HLL.out (fun b => b < wc.heap.size ∧ b ≠ sb) G t.length 0 0 0 (List.replicate t.length false) wc (by omega) H0.out (Nat.two_pow_pos n) (Nat.two_pow_pos n) hV
          have HR := Lib.hid hR
          have HB2 := Lib.hid (Bt HB.out hb)
          have hsb : w.heap.size ≤ sb := Nat.le_trans HB.out.size h2
          clear hR hb hV hmb
          cases hrf : Hit.rightF ws n size t t.length 0 0 0 (List.replicate t.length false) with
          | none =>
            rw [hrf] at HR HV
            clear hrf
            go_wp2_with (go_at_call 46; (with_reducible refine (HR.out.mono ?_)); rintro e w5 ⟨hg5, hn5, _⟩; obtain rfl := hn5 rfl; have HB5 := Lib.hid (HB2.out.grown hg5 HB2.out.size (fun k hk => by injection hk with hk; omega)); clear hg5 hn5)
            go_ret
            exact ⟨by rw [HV.out]; rfl, HB5.out⟩
          | some s =>
            rw [hrf] at HR HV
            clear hrf
            go_wp2_with (go_at_call 46; (with_reducible refine (HR.out.mono ?_)); rintro e w5 ⟨hg5, _, hs5⟩; obtain ⟨rfl, _⟩ := hs5 s rfl; have HB5 := Lib.hid (HB2.out.grown hg5 HB2.out.size (fun k hk => by injection hk with hk; omega)); clear hg5 hs5)
            go_ret
            exact ⟨by rw [HV.out]; rfl, HB5.out⟩
end Go.Proofs.Ytnpdoejjebgcpaa
