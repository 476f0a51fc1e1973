/- Walks over the reference of hitting: sets that are apart. Walks over the reference of hitting: a leaf of a proof tree. Walks over hitting: lists of nodes, and the reference's test of a tree by its steps. -/
import Derived.Test.YthgjhfapnilfhaaDoorHS
namespace Go.Proofs.YthgjhfapnilfhaaDoor
open Go Go.RowKit
/-- Two indices of a list are of different sets that are apart. -/
def prR (ws : List Nat) (l : List Int) (out a b : Nat) : Bool := l.getD a 0 != l.getD b 0 && Hit.andn (ws.getD (l.getD a 0).toNat 0 &&& ws.getD (l.getD b 0).toNat 0) out == 0
theorem apartR_true {ws : List Nat} {l : List Int} {out : Nat} (h : ∀ a b, b < a → a < l.length → prR ws l out a b = true) : Hit.apartR ws l out = true := by
  unfold Hit.apartR
  simp only [List.all_eq_true, List.mem_range]
  intro a ha b hb
  exact h a b hb ha
theorem apartR_false {ws : List Nat} {l : List Int} {out a b : Nat} (hba : b < a) (ha : a < l.length) (h : prR ws l out a b = false) : Hit.apartR ws l out = false := by
  cases hh : Hit.apartR ws l out with
  | false => rfl
  | true =>
    unfold Hit.apartR at hh
    simp only [List.all_eq_true, List.mem_range] at hh
    have := hh a ha b hba
    rw [show prR ws l out a b = _ from rfl] at h
    unfold prR at h
    rw [h] at this
    cases this
theorem getD_int (l : List Int) (i : Nat) (h : i < l.length) : l.getD i 0 = l[i] := by rw [List.getD_eq_getElem?_getD, List.getElem?_eq_getElem h]; rfl
theorem getD_nat (l : List Nat) (i : Nat) (h : i < l.length) : l.getD i 0 = l[i] := by rw [List.getD_eq_getElem?_getD, List.getElem?_eq_getElem h]; rfl
set_option maxRecDepth 200000 in
set_option maxHeartbeats 8000000 in
theorem apartR_any (n : Int) (vs vl : Value) (ws : List Nat) (hw : ∀ s ∈ ws, s < 4294967296) (l : List Int) (hv : ∀ x ∈ l, 0 ≤ x ∧ x < ws.length) (out : Nat) (ho : out < 4294967296) (w : World) (F G : Nat → Prop) (hF : ∀ b, F b → b < w.heap.size) (hG : ∀ b, G b → b < w.heap.size) (hr : SlII F w vs (setsOf ws)) (hl : SlI G w vl l) :
    Calls Tryd.prog 122 #[.agg #[.int .i64 n, vs], vl, .int .u64 out] w fun e w' => e = .returned (.bool (Hit.apartR ws l out)) ∧ Below w.heap.size w w' := by
  obtain ⟨As, cs, rfl, _, hsl, hsat⟩ := hr.open
  obtain ⟨Al, cl, rfl, _, hll, hlat⟩ := hl.open
  -- one element: its index, its set's word, the set's slice
  have one : ∀ i (hi : i < l.length), ∃ (ia : Nat) (adl adS : Addr) (u : Value) (wd : Nat), l.getD i 0 = ia ∧ ia < ws.length ∧ ws.getD ia 0 = wd ∧ wd < 4294967296 ∧ Al = some adl ∧ As = some adS ∧ (∀ W, Below w.heap.size w W → W.cell? (adl.add i) = some (.int .i64 ia)) ∧ (∀ W, Below w.heap.size w W → W.cell? (adS.add ia) = some u) ∧
      ∀ W, Below w.heap.size w W → Calls Tryd.prog 101 #[u] W fun e w' => e = .returned (.int .u64 (wd : Nat)) ∧ W = w' := by
    intro i hi
    obtain ⟨h0, h1⟩ := hv _ (List.getElem_mem hi)
    obtain ⟨adl, eA, hf, hc⟩ := hlat i hi
    obtain ⟨ia, hia⟩ := Int.eq_ofNat_of_zero_le h0
    have hlt : ia < ws.length := by omega
    obtain ⟨adS, u, eS, hfS, hcS, hu⟩ := hsat ia (by rw [setsOf_length]; exact hlt)
    rw [setsOf_get] at hu
    have hws := hw _ (List.getElem_mem hlt)
    refine ⟨ia, adl, adS, u, ws[ia], by rw [getD_int l i hi]; exact hia, hlt, getD_nat ws ia hlt, hws, eA, eS, fun W hW => ?_, fun W hW => (hW.cell (p := adS.add ia) (by rw [block_of_add]; exact hF _ hfS)).trans hcS, fun W hW => ?_⟩
    · rw [hia] at hc
      exact (hW.cell (p := adl.add i) (by rw [block_of_add]; exact hG _ hf)).trans hc
    · have := bits_any u (Hit.members ws[ia]) (fun y hy => (Hit.mem_members.1 hy).1) W F (hu.keep (Agree.below hW hF))
      rw [Hit.word_members (Nat.lt_of_lt_of_le hws (by decide))] at this
      exact this
  rw [setsOf_length] at *
  have ONE := Lib.hid one
  clear one hr hl hsat hlat hv hw
  go_enter Tryd.func122, Tryd.ntmps122
  go_wp2_with fail
  obtain ⟨w1, hw1⟩ : ∃ w1 : World, w.alloc (.cells #[.int .i64 n, .slice As ws.length cs] 69) = w1 := ⟨_, rfl⟩
  have c1 : w1.cell? ⟨w.heap.size, 1, none⟩ = some (.slice As ws.length cs) := by rw [← hw1]; simp [go_sem]
  have s1 : w.heap.size < w1.heap.size := by rw [← hw1]; simp
  have B1 : Below w.heap.size w w1 := by rw [← hw1]; exact Ba (B0 w) _
  rw [hw1]
  clear hw1
  have HB1 := Lib.hid B1
  have C1 := Lib.hid c1
  clear B1 c1
  go_loopg [7] l.length (fun gg s7 wr => ∃ i : Nat, i ≤ l.length ∧ l.length - i ≤ gg ∧ s7 = .int .i64 i ∧ Aside (∀ a b, b < a → a < i → prR ws l out a b = true) ∧ Aside (Below w1.heap.size w1 wr))
  case atStart => exact ⟨0, by omega, by omega, rfl, fun a b _ h => absurd h (by omega), B0 w1⟩
  case round =>
    obtain ⟨i, hi, hg, rfl, HA, HB⟩ := hrel
    obtain ⟨wo, rfl⟩ : ∃ wo : World, wo = wr := ⟨_, rfl⟩
    by_cases hlt : i < l.length
    · have hki : decide ((i : Int) < l.length) = true := decide_eq_true (by omega)
      have hi2 : (i : Int) < l.length := by omega
      go_wp2_with fail
      go_loopg [8] i (fun gg s8 wr => ∃ k : Nat, k ≤ i ∧ i - k ≤ gg ∧ s8 = .int .i64 k ∧ Aside (∀ b, b < k → prR ws l out i b = true) ∧ Aside (Below w1.heap.size w1 wr))
      case atStart => exact ⟨0, by omega, by omega, rfl, fun b h => absurd h (by omega), HB.out⟩
      case round =>
        obtain ⟨k, hk, hgk, rfl, HK, HBk⟩ := hrel
        by_cases hlk : k < i
        · have hkk : decide ((k : Int) < i) = true := decide_eq_true (by omega)
          have hk2 : (k : Int) < l.length := by omega
          obtain ⟨ia, adl, adS, ua, wa, ea, la, ewa, lwa, eAl, eAs, cla, csa, hCa⟩ := ONE.out i hlt
          obtain ⟨ib, adl2, adS2, ub, wb, eb, lb, ewb, lwb, eAl2, eAs2, clb, csb, hCb⟩ := ONE.out k (by omega)
          rw [eAl] at eAl2
          injection eAl2 with eAl2
          subst eAl2
          rw [eAs] at eAs2
          injection eAs2 with eAs2
          subst eAs2
          subst eAl
          subst eAs
          have hBw := Bt HB1.out HBk.out
          have kl1 : ∀ q : Cls wr, q.w.cell? (adl.add i) = some (.int .i64 ia) := fun q => cla q.w (Bt hBw q.b)
          have kl2 : ∀ q : Cls wr, q.w.cell? (adl.add k) = some (.int .i64 ib) := fun q => clb q.w (Bt hBw q.b)
          have ks1 : ∀ q : Cls wr, q.w.cell? (adS.add ia) = some ua := fun q => csa q.w (Bt hBw q.b)
          have ks2 : ∀ q : Cls wr, q.w.cell? (adS.add ib) = some ub := fun q => csb q.w (Bt hBw q.b)
          have kbx : ∀ q : Cls wr, q.w.cell? ⟨w.heap.size, 1, none⟩ = some (.slice (some adS) ws.length cs) := fun q => (Bc (Bt HBk.out q.b) s1).trans C1.out
          have HCa : Hid (∀ q : Cls wr, Calls Tryd.prog 101 #[ua] q.w fun e w' => e = .returned (.int .u64 (wa : Nat)) ∧ ∃ r : Cls wr, w' = r.w) := fun q => (hCa q.w (Bt hBw q.b)).mono fun e w' ⟨q1, q2⟩ => ⟨q1, q, q2.symm⟩
          have HCb : Hid (∀ q : Cls wr, Calls Tryd.prog 101 #[ub] q.w fun e w' => e = .returned (.int .u64 (wb : Nat)) ∧ ∃ r : Cls wr, w' = r.w) := fun q => (hCb q.w (Bt hBw q.b)).mono fun e w' ⟨q1, q2⟩ => ⟨q1, q, q2.symm⟩
          have li1 : (ia : Int) < ws.length := by omega
          have li2 : (ib : Int) < ws.length := by omega
          have hp : prR ws l out i k = (((ia : Int) != ib) && Hit.andn (wa &&& wb) out == 0) := by unfold prR; rw [ea, eb, Int.toNat_natCast, Int.toNat_natCast, ewa, ewb]
          have hand := Hit.u64_and wa wb (by omega) (by omega)
          have hz64 : wa &&& wb < 2 ^ 64 := Hit.and_lt (k := 64) (by omega)
          have han := Hit.u64_andn (wa &&& wb) out hz64 (by omega)
          obtain ⟨z, hz⟩ : ∃ z, Hit.andn (wa &&& wb) out = z := ⟨_, rfl⟩
          rw [hz] at hp han
          have HP := Lib.hid hp
          generalize wa &&& wb = z1 at *
          have AF := Lib.hid (@apartR_false ws l out i k hlk hlt)
          clear hCa hCb cla clb csa csb ea eb ewa ewb hBw hp hz hz64
          by_cases hab : ia = ib
          · have hq : ((ia : Int) == (ib : Int)) = true := by simp [hab]
            have hfin : Hit.apartR ws l out = false := AF.out (by rw [HP.out]; simp [hab])
            have HFIN := Lib.hid hfin
            clear hfin hab
            go_wp2_with fail
            refine wp_region_class_lit (C := fun w' => ∃ q : Cls wr, w' = q.w) (by kernel_rfl) (by kernel_rfl) ⟨Cls.mk' (B0 wr).drew, rfl⟩ ?_
            repeat (any_goals (first | go_big_quiet_step ((go_at_call 101; first | with_reducible exact HCa.out _ | with_reducible exact HCb.out _)) | quiet_step ((go_at_call 101; first | with_reducible exact HCa.out _ | with_reducible exact HCb.out _))))
            refine wpQuiet_nil ?_
            rintro _ ⟨q, rfl⟩
            have B5 := Lib.hid (Bt HB1.out (Bt HBk.out q.b))
            clear kl1 kl2 ks1 ks2 kbx
            generalize q.w = w5 at *
            go_wp2
            go_ret
            exact ⟨by rw [HFIN.out]; rfl, B5.out⟩
          · have hq : ((ia : Int) == (ib : Int)) = false := by simp; omega
            by_cases hz0 : z = 0
            · have hz1 : ((z : Int) != 0) = false := by simp [hz0]
              have hgood : prR ws l out i k = true := by rw [HP.out, hz0]; simp; omega
              have HGD := Lib.hid hgood
              clear hgood hab hz0
              go_wp2_with fail
              refine wp_region_class_lit (C := fun w' => ∃ q : Cls wr, w' = q.w) (by kernel_rfl) (by kernel_rfl) ⟨Cls.mk' (B0 wr).drew, rfl⟩ ?_
              repeat (any_goals (first | go_big_quiet_step ((go_at_call 101; first | with_reducible exact HCa.out _ | with_reducible exact HCb.out _)) | quiet_step ((go_at_call 101; first | with_reducible exact HCa.out _ | with_reducible exact HCb.out _))))
              refine wpQuiet_nil ?_
              rintro _ ⟨q, rfl⟩
              have B5 := Lib.hid (Bt HBk.out q.b)
              clear kl1 kl2 ks1 ks2 kbx
              generalize q.w = w5 at *
              go_wp2
              go_roundg (i - (k + 1))
              case measure => omega
              case rel =>
                refine ⟨k + 1, by omega, by omega, by go_num, (show Aside _ from fun b hb => ?_), B5.out⟩
                by_cases e : b = k
                · subst e; exact HGD.out
                · exact HK.out b (by omega)
            · have hz1 : ((z : Int) != 0) = true := by simp; exact hz0
              have hfin : Hit.apartR ws l out = false := AF.out (by rw [HP.out]; simp; exact fun _ => hz0)
              have HFIN := Lib.hid hfin
              clear hfin hab hz0
              go_wp2_with fail
              refine wp_region_class_lit (C := fun w' => ∃ q : Cls wr, w' = q.w) (by kernel_rfl) (by kernel_rfl) ⟨Cls.mk' (B0 wr).drew, rfl⟩ ?_
              repeat (any_goals (first | go_big_quiet_step ((go_at_call 101; first | with_reducible exact HCa.out _ | with_reducible exact HCb.out _)) | quiet_step ((go_at_call 101; first | with_reducible exact HCa.out _ | with_reducible exact HCb.out _))))
              refine wpQuiet_nil ?_
              rintro _ ⟨q, rfl⟩
              have B5 := Lib.hid (Bt HB1.out (Bt HBk.out q.b))
              clear kl1 kl2 ks1 ks2 kbx
              generalize q.w = w5 at *
              go_wp2
              go_ret
              exact ⟨by rw [HFIN.out]; rfl, B5.out⟩
        · have hkk : decide ((k : Int) < i) = false := decide_eq_false (by omega)
          have : k = i := by omega
          subst this
          go_wp2
          go_roundg (l.length - (k + 1))
          case measure => omega
          case rel =>
            refine ⟨k + 1, by omega, by omega, by go_num, (show Aside _ from fun a b hb ha => ?_), HBk.out⟩
            by_cases e : a = k
            · subst e; exact HK.out b hb
            · exact HA.out a b hb (by omega)
    · have hki : decide ((i : Int) < l.length) = false := decide_eq_false (by omega)
      have : i = l.length := by omega
      subst this
      have hfin : Hit.apartR ws l out = true := apartR_true HA.out
      have HFIN := Lib.hid hfin
      clear hfin
      go_wp2
      go_ret
      exact ⟨by rw [HFIN.out]; rfl, Bt HB1.out HB.out⟩
end Go.Proofs.YthgjhfapnilfhaaDoor
namespace Go.Proofs.YthgjhfapnilfhaaDoor
open Go Go.RowKit
theorem leafR_bad {ws : List Nat} {size : Int} {l : List Int} {taken out i : Nat} (hi : i < l.length) (h : ¬ Hit.ValidI ws taken l[i]) : Hit.leafR ws size l taken out = false := by
  cases hh : Hit.leafR ws size l taken out with
  | false => rfl
  | true =>
    unfold Hit.leafR at hh
    rw [Bool.and_eq_true, Hit.leafR_all] at hh
    exact absurd (hh.1 _ (List.getElem_mem hi)) h
theorem leafR_good {ws : List Nat} {size : Int} {l : List Int} {taken out : Nat} (h : ∀ x ∈ l, Hit.ValidI ws taken x) : Hit.leafR ws size l taken out = ((l.length == 1 && Hit.andn (ws.getD (l.headD 0).toNat 0) out == 0) || (Hit.apartR ws l out && decide ((Hit.pop taken : Int) + l.length ≥ size))) := by
  unfold Hit.leafR
  rw [(Hit.leafR_all ws taken l).2 h, Bool.true_and]
/-- An element that is an index of a set: its cell, the set's slice and word. -/
theorem elem_at {vs : Value} {ws : List Nat} {w : World} {F : Nat → Prop} (hw : ∀ s ∈ ws, s < 4294967296) (hF : ∀ b, F b → b < w.heap.size) (hr : SlII F w vs (setsOf ws)) (x : Int) (h0 : 0 ≤ x) (h1 : x < ws.length) :
    ∃ (ia : Nat) (adS : Addr) (u : Value) (wd cs : Nat), x = ia ∧ ia < ws.length ∧ ws.getD ia 0 = wd ∧ wd < 4294967296 ∧ vs = .slice (some adS) ws.length cs ∧ (∀ W, Below w.heap.size w W → W.cell? (adS.add ia) = some u) ∧
      ∀ W, Below w.heap.size w W → Calls Tryd.prog 101 #[u] W fun e w' => e = .returned (.int .u64 (wd : Nat)) ∧ W = w' := by
  obtain ⟨As, cs, rfl, _, hsl, hsat⟩ := hr.open
  obtain ⟨ia, hia⟩ := Int.eq_ofNat_of_zero_le h0
  have hlt : ia < ws.length := by omega
  obtain ⟨adS, u, eS, hfS, hcS, hu⟩ := hsat ia (by rw [setsOf_length]; exact hlt)
  rw [setsOf_get] at hu
  have hws := hw _ (List.getElem_mem hlt)
  refine ⟨ia, adS, u, ws[ia], cs, hia, hlt, getD_nat ws ia hlt, hws, by rw [eS, setsOf_length], fun W hW => (hW.cell (p := adS.add ia) (by rw [block_of_add]; exact hF _ hfS)).trans hcS, fun W hW => ?_⟩
  have := bits_any u (Hit.members ws[ia]) (fun y hy => (Hit.mem_members.1 hy).1) W F (hu.keep (Agree.below hW hF))
  rw [Hit.word_members (Nat.lt_of_lt_of_le hws (by decide))] at this
  exact this
set_option maxRecDepth 200000 in
set_option maxHeartbeats 8000000 in
theorem leafR_any (n size : Int) (vs vl : Value) (ws : List Nat) (hw : ∀ s ∈ ws, s < 4294967296) (l : List Int) (taken out : Nat) (ht : taken < 4294967296) (ho : out < 4294967296) (hll : l.length ≤ 1000000) (w : World) (F G : Nat → Prop) (hF : ∀ b, F b → b < w.heap.size) (hG : ∀ b, G b → b < w.heap.size) (hr : SlII F w vs (setsOf ws)) (hl : SlI G w vl l) :
    Calls Tryd.prog 95 #[.agg #[.int .i64 n, vs], .int .i64 size, vl, .int .u64 taken, .int .u64 out] w fun e w' => e = .returned (.bool (Hit.leafR ws size l taken out)) ∧ Below w.heap.size w w' := by
  have hEl := fun x h0 h1 => elem_at hw hF hr x h0 h1
  have hAp : (∀ x ∈ l, 0 ≤ x ∧ x < ws.length) → ∀ W, Below w.heap.size w W → Calls Tryd.prog 122 #[.agg #[.int .i64 n, vs], vl, .int .u64 out] W fun e w' => e = .returned (.bool (Hit.apartR ws l out)) ∧ Below W.heap.size W w' :=
    fun hv W hW => apartR_any n vs vl ws hw l hv out ho W F G (fun b hb => Nat.lt_of_lt_of_le (hF b hb) hW.size) (fun b hb => Nat.lt_of_lt_of_le (hG b hb) hW.size) (hr.keep (Agree.below hW hF)) (hl.keep (Agree.below hW hG))
  have hMe : ∀ W, Calls Tryd.prog 24 #[.int .u64 taken] W fun e w' => ∃ A m c, e = .returned (.slice A m c) ∧ m = Hit.pop taken ∧ Own0 w' W.heap.size 3 1 A m c (cellsV vN (Hit.members taken)) ∧ Below W.heap.size W w' := fun W => members_any taken ht W
  have hpl : Hit.pop taken ≤ 64 := Nat.le_trans (List.length_filter_le _ _) (by simp)
  obtain ⟨As, cs, rfl, _, hsl, _⟩ := hr.open
  obtain ⟨Al, cl, rfl, _, _, hlat⟩ := hl.open
  rw [setsOf_length] at *
  have HE := Lib.hid hEl
  have HAP := Lib.hid hAp
  have HME := Lib.hid hMe
  clear hEl hAp hMe hr hl hw
  go_enter Tryd.func95, Tryd.ntmps95
  go_wp2_with fail
  obtain ⟨w1, hw1⟩ : ∃ w1 : World, w.alloc (.cells #[.int .i64 n, .slice As ws.length cs] 69) = w1 := ⟨_, rfl⟩
  have c0 : w1.cell? ⟨w.heap.size, 0, none⟩ = some (.int .i64 n) := by rw [← hw1]; simp [go_sem]
  have c1 : w1.cell? ⟨w.heap.size, 1, none⟩ = some (.slice As ws.length cs) := by rw [← hw1]; simp [go_sem]
  have s1 : w.heap.size < w1.heap.size := by rw [← hw1]; simp
  have B1 : Below w.heap.size w w1 := by rw [← hw1]; exact Ba (B0 w) _
  rw [hw1]
  clear hw1
  have HB1 := Lib.hid B1
  have C0 := Lib.hid c0
  have C1 := Lib.hid c1
  clear B1 c0 c1
  go_loopg [11] l.length (fun gg s11 wr => ∃ i : Nat, i ≤ l.length ∧ l.length - i ≤ gg ∧ s11 = .int .i64 i ∧ Aside (∀ j (hj : j < l.length), j < i → Hit.ValidI ws taken l[j]) ∧ Aside (Below w1.heap.size w1 wr))
  case atStart => exact ⟨0, by omega, by omega, rfl, fun j _ h => absurd h (by omega), B0 w1⟩
  case round =>
    obtain ⟨i, hi, hg, rfl, HA, HB⟩ := hrel
    by_cases hlt : i < l.length
    · have hki : decide ((i : Int) < l.length) = true := decide_eq_true (by omega)
      have hi2 : (i : Int) < l.length := by omega
      obtain ⟨adl, rfl, hf, hc⟩ := hlat i hlt
      have hBw := Bt HB1.out HB.out
      have kl : ∀ q : Cls wr, q.w.cell? (adl.add i) = some (.int .i64 l[i]) := fun q => ((Bt hBw q.b).cell (p := adl.add i) (by rw [block_of_add]; exact hG _ hf)).trans hc
      have kbx : ∀ q : Cls wr, q.w.cell? ⟨w.heap.size, 1, none⟩ = some (.slice As ws.length cs) := fun q => (Bc (Bt HB.out q.b) s1).trans C1.out
      have BAD := Lib.hid (@leafR_bad ws size l taken out i hlt)
      by_cases hin : 0 ≤ l[i] ∧ l[i] < ws.length
      · obtain ⟨ia, adS, u, wd, cs', ex, hia, ewd, hwd, eS, hcS, hCu⟩ := HE.out l[i] hin.1 hin.2
        injection eS with eA _ eC
        subst eA
        subst eC
        have hv : Hit.ValidI ws taken l[i] ↔ wd &&& taken = 0 := by
          unfold Hit.ValidI Hit.wsI
          rw [ex, Int.toNat_natCast, ewd]
          exact ⟨fun h => h.2.2, fun h => ⟨by omega, by omega, h⟩⟩
        have HV := Lib.hid hv
        have ks : ∀ q : Cls wr, q.w.cell? (adS.add ia) = some u := fun q => hcS q.w (Bt hBw q.b)
        have HC : Hid (∀ q : Cls wr, Calls Tryd.prog 101 #[u] q.w fun e w' => e = .returned (.int .u64 (wd : Nat)) ∧ ∃ r : Cls wr, w' = r.w) := fun q => (hCu q.w (Bt hBw q.b)).mono fun e w' ⟨q1, q2⟩ => ⟨q1, q, q2.symm⟩
        have hand := Hit.u64_and wd taken (by omega) (by omega)
        rw [ex] at kl
        have d1 : decide ((ia : Int) < 0) = false := decide_eq_false (by omega)
        have d2 : decide ((ws.length : Int) ≤ (ia : Int)) = false := decide_eq_false (by omega)
        have d2n : decide (ws.length ≤ ia) = false := decide_eq_false (by omega)
        have li : (ia : Int) < ws.length := by omega
        by_cases hz : wd &&& taken = 0
        · rw [hz] at hand
          have hval : ∀ j (hj : j < l.length), j < i + 1 → Hit.ValidI ws taken l[j] := fun j hj hji => by
            by_cases e : j = i
            · subst e; exact HV.out.2 hz
            · exact HA.out j hj (by omega)
          have HVAL := Lib.hid hval
          clear hval hlat hc hin hv hcS hCu hBw ex ewd hz HV BAD
          go_wp2_with fail
          refine wp_region_class_lit (C := fun w' => ∃ q : Cls wr, w' = q.w) (by kernel_rfl) (by kernel_rfl) ⟨Cls.mk' (B0 wr).drew, rfl⟩ ?_
          repeat (any_goals (first | go_big_quiet_step ((go_at_call 101; with_reducible exact HC.out _)) | quiet_step ((go_at_call 101; with_reducible exact HC.out _))))
          refine wpQuiet_nil ?_
          rintro _ ⟨q, rfl⟩
          have B5 := Lib.hid (Bt HB.out q.b)
          clear kl kbx ks
          generalize q.w = w5 at *
          go_wp2
          go_roundg (l.length - (i + 1))
          case measure => omega
          case rel => exact ⟨i + 1, by omega, by omega, by go_num, HVAL.out, B5.out⟩
        · have hz1 : (((wd &&& taken : Nat) : Int) != 0) = true := by simp; exact hz
          have hfin := BAD.out fun h => hz (HV.out.1 h)
          have HFIN := Lib.hid hfin
          generalize wd &&& taken = zz at *
          clear hfin hlat hc hin hv hcS hCu hBw ex ewd hz HV BAD
          go_wp2_with fail
          refine wp_region_class_lit (C := fun w' => ∃ q : Cls wr, w' = q.w) (by kernel_rfl) (by kernel_rfl) ⟨Cls.mk' (B0 wr).drew, rfl⟩ ?_
          repeat (any_goals (first | go_big_quiet_step ((go_at_call 101; with_reducible exact HC.out _)) | quiet_step ((go_at_call 101; with_reducible exact HC.out _))))
          refine wpQuiet_nil ?_
          rintro _ ⟨q, rfl⟩
          have B5 := Lib.hid (Bt HB1.out (Bt HB.out q.b))
          clear kl kbx ks
          generalize q.w = w5 at *
          go_wp2
          go_ret
          exact ⟨by rw [HFIN.out]; rfl, B5.out⟩
      · have hfin := BAD.out fun h => hin ⟨h.1, h.2.1⟩
        have HFIN := Lib.hid hfin
        generalize l[i] = v at *
        clear hfin hlat hc hBw BAD
        by_cases h0 : v < 0
        · have d1 : decide (v < 0) = true := decide_eq_true h0
          clear hin
          go_wp2_with fail
          refine wp_region_class_lit (C := fun w' => ∃ q : Cls wr, w' = q.w) (by kernel_rfl) (by kernel_rfl) ⟨Cls.mk' (B0 wr).drew, rfl⟩ ?_
          repeat (any_goals (first | go_big_quiet_step (fail) | quiet_step (fail)))
          refine wpQuiet_nil ?_
          rintro _ ⟨q, rfl⟩
          have B5 := Lib.hid (Bt HB1.out (Bt HB.out q.b))
          clear kl kbx
          generalize q.w = w5 at *
          go_wp2
          go_ret
          exact ⟨by rw [HFIN.out]; rfl, B5.out⟩
        · have d1 : decide (v < 0) = false := decide_eq_false h0
          have d2 : decide ((ws.length : Int) ≤ v) = true := decide_eq_true (by omega)
          clear hin
          go_wp2_with fail
          refine wp_region_class_lit (C := fun w' => ∃ q : Cls wr, w' = q.w) (by kernel_rfl) (by kernel_rfl) ⟨Cls.mk' (B0 wr).drew, rfl⟩ ?_
          repeat (any_goals (first | go_big_quiet_step (fail) | quiet_step (fail)))
          refine wpQuiet_nil ?_
          rintro _ ⟨q, rfl⟩
          have B5 := Lib.hid (Bt HB1.out (Bt HB.out q.b))
          clear kl kbx
          generalize q.w = w5 at *
          go_wp2
          go_ret
          exact ⟨by rw [HFIN.out]; rfl, B5.out⟩
    · have hki : decide ((i : Int) < l.length) = false := decide_eq_false (by omega)
      have : i = l.length := by omega
      subst this
      have hall : ∀ x ∈ l, Hit.ValidI ws taken x := fun x hx => by
        obtain ⟨j, hj, rfl⟩ := List.getElem_of_mem hx
        exact HA.out j hj hj
      have hgood := leafR_good (size := size) (out := out) hall
      have hBw := Bt HB1.out HB.out
      have hap := HAP.out (fun x hx => ⟨(hall x hx).1, (hall x hx).2.1⟩)
      have HAP2 := Lib.hid hap
      have HGOOD := Lib.hid hgood
      clear hgood hap HA
      by_cases h1 : l.length = 1
      · have h1' : ((l.length : Int) == 1) = true := by simp [h1]
        obtain ⟨adl, rfl, hf, hc⟩ := hlat 0 (by omega)
        have hv0 := hall l[0] (List.getElem_mem (by omega))
        obtain ⟨ia, adS, u, wd, cs', ex, hia, ewd, hwd, eS, hcS, hCu⟩ := HE.out l[0] hv0.1 hv0.2.1
        injection eS with eA _ eC
        subst eA
        subst eC
        have kl : ∀ q : Cls wr, q.w.cell? adl = some (.int .i64 ia) := fun q => by
          have := ((Bt hBw q.b).cell (p := adl.add 0) (by rw [block_of_add]; exact hG _ hf)).trans hc
          rw [ex] at this
          simpa [Addr.add] using this
        have kbx : ∀ q : Cls wr, q.w.cell? ⟨w.heap.size, 1, none⟩ = some (.slice (some adS) ws.length cs) := fun q => (Bc (Bt HB.out q.b) s1).trans C1.out
        have ks : ∀ q : Cls wr, q.w.cell? (adS.add ia) = some u := fun q => hcS q.w (Bt hBw q.b)
        have HC : Hid (∀ q : Cls wr, Calls Tryd.prog 101 #[u] q.w fun e w' => e = .returned (.int .u64 (wd : Nat)) ∧ ∃ r : Cls wr, w' = r.w) := fun q => (hCu q.w (Bt hBw q.b)).mono fun e w' ⟨q1, q2⟩ => ⟨q1, q, q2.symm⟩
        have han := Hit.u64_andn wd out (by omega) (by omega)
        have hh : l.headD 0 = ia := by
          cases l with
          | nil => simp at h1
          | cons y r => exact ex
        have li : (ia : Int) < ws.length := by omega
        have l0 : (0 : Int) < l.length := by omega
        have l0n : 0 < l.length := by omega
        obtain ⟨z, hz⟩ : ∃ z, Hit.andn wd out = z := ⟨_, rfl⟩
        rw [hz] at han
        have hF1 : (l.length == 1 && Hit.andn (ws.getD (l.headD 0).toNat 0) out == 0) = (z == 0) := by rw [hh, Int.toNat_natCast, ewd, hz, h1]; rfl
        have HF1' := Lib.hid hF1
        have H1 := Lib.hid h1
        clear hF1 hcS hCu hBw ex ewd hz hv0 hall hlat hc hh h1
        by_cases hz0 : z = 0
        · have hz1 : ((z : Int) == 0) = true := by simp [hz0]
          have hres : Hit.leafR ws size l taken out = true := by rw [HGOOD.out, HF1'.out, hz0]; rfl
          have HRES := Lib.hid hres
          clear hres hz0
          go_wp2_with fail
          refine wp_region_class_lit (C := fun w' => ∃ q : Cls wr, w' = q.w) (by kernel_rfl) (by kernel_rfl) ⟨Cls.mk' (B0 wr).drew, rfl⟩ ?_
          repeat (any_goals (first | go_big_quiet_step ((go_at_call 101; with_reducible exact HC.out _)) | quiet_step ((go_at_call 101; with_reducible exact HC.out _))))
          refine wpQuiet_nil ?_
          rintro _ ⟨q, rfl⟩
          have B5 := Lib.hid (Bt HB1.out (Bt HB.out q.b))
          clear kl kbx ks
          generalize q.w = w5 at *
          go_wp2
          go_ret
          exact ⟨by rw [HRES.out]; rfl, B5.out⟩
        · have hz1 : ((z : Int) == 0) = false := by simp; exact hz0
          have HF1 : Hid ((l.length == 1 && Hit.andn (ws.getD (l.headD 0).toNat 0) out == 0) = false) := by rw [Hid, HF1'.out]; simpa using hz0
          clear hz0 HF1'
          go_wp2_with fail
          refine wp_region_class_lit (C := fun w' => ∃ q : Cls wr, w' = q.w) (by kernel_rfl) (by kernel_rfl) ⟨Cls.mk' (B0 wr).drew, rfl⟩ ?_
          repeat (any_goals (first | go_big_quiet_step ((go_at_call 101; with_reducible exact HC.out _)) | quiet_step ((go_at_call 101; with_reducible exact HC.out _))))
          refine wpQuiet_nil ?_
          rintro _ ⟨q, rfl⟩
          have B5 := Lib.hid (Bt HB.out q.b)
          have c0 := (Bc B5.out s1).trans C0.out
          have c1 := (Bc B5.out s1).trans C1.out
          clear kl kbx ks
          generalize q.w = w5 at *
          cases hA : Hit.apartR ws l out with
          | false =>
            rw [hA] at HAP2
            have hres : Hit.leafR ws size l taken out = false := by rw [HGOOD.out, HF1.out, hA]; rfl
            have HRES := Lib.hid hres
            clear hres hA
            go_wp2_with (first | (go_at_call 122; refine (HAP2.out _ (Bt HB1.out B5.out)).mono ?_; rintro e w6 ⟨rfl, hb6⟩; have B6 := Lib.hid (Bt B5.out hb6); clear hb6) | fail)
            go_ret
            exact ⟨by rw [HRES.out]; rfl, Bt HB1.out B6.out⟩
          | true =>
            rw [hA] at HAP2
            have hres : Hit.leafR ws size l taken out = decide (size ≤ (Hit.pop taken : Int) + l.length) := by rw [HGOOD.out, HF1.out, hA]; rfl
            have HRES := Lib.hid hres
            clear hres hA
            generalize Hit.pop taken = pp at *
            go_wp2_with (first
              | (go_at_call 122; refine (HAP2.out _ (Bt HB1.out B5.out)).mono ?_; rintro e w6 ⟨rfl, hb6⟩; have B6 := Lib.hid (Bt B5.out hb6); clear hb6)
              | (go_at_call 24; refine (HME.out _).mono ?_; rintro e w7 ⟨A7, m7, c7, rfl, rfl, _, hb7⟩; have B7 := Lib.hid (Bt B6.out hb7); clear hb7))
            go_ret
            exact ⟨by rw [HRES.out]; rfl, Bt HB1.out B7.out⟩
      · have h1' : ((l.length : Int) == 1) = false := by simp; omega
        have HF1 : Hid ((l.length == 1 && Hit.andn (ws.getD (l.headD 0).toNat 0) out == 0) = false) := by rw [Hid, beq_eq_false_iff_ne.2 h1]; rfl
        clear hall hlat hBw h1
        go_wp2_with fail
        refine wp_region_class_lit (C := fun w' => ∃ q : Cls wr, w' = q.w) (by kernel_rfl) (by kernel_rfl) ⟨Cls.mk' (B0 wr).drew, rfl⟩ ?_
        repeat (any_goals (first | go_big_quiet_step (fail) | quiet_step (fail)))
        refine wpQuiet_nil ?_
        rintro _ ⟨q, rfl⟩
        have B5 := Lib.hid (Bt HB.out q.b)
        have c0 := (Bc B5.out s1).trans C0.out
        have c1 := (Bc B5.out s1).trans C1.out
        generalize q.w = w5 at *
        cases hA : Hit.apartR ws l out with
        | false =>
          rw [hA] at HAP2
          have hres : Hit.leafR ws size l taken out = false := by rw [HGOOD.out, HF1.out, hA]; rfl
          have HRES := Lib.hid hres
          clear hres hA
          go_wp2_with (first | (go_at_call 122; refine (HAP2.out _ (Bt HB1.out B5.out)).mono ?_; rintro e w6 ⟨rfl, hb6⟩; have B6 := Lib.hid (Bt B5.out hb6); clear hb6) | fail)
          go_ret
          exact ⟨by rw [HRES.out]; rfl, Bt HB1.out B6.out⟩
        | true =>
          rw [hA] at HAP2
          have hres : Hit.leafR ws size l taken out = decide (size ≤ (Hit.pop taken : Int) + l.length) := by rw [HGOOD.out, HF1.out, hA]; rfl
          have HRES := Lib.hid hres
          clear hres hA
          generalize Hit.pop taken = pp at *
          go_wp2_with (first
            | (go_at_call 122; refine (HAP2.out _ (Bt HB1.out B5.out)).mono ?_; rintro e w6 ⟨rfl, hb6⟩; have B6 := Lib.hid (Bt B5.out hb6); clear hb6)
            | (go_at_call 24; refine (HME.out _).mono ?_; rintro e w7 ⟨A7, m7, c7, rfl, rfl, _, hb7⟩; have B7 := Lib.hid (Bt B6.out hb7); clear hb7))
          go_ret
          exact ⟨by rw [HRES.out]; rfl, Bt HB1.out B7.out⟩
end Go.Proofs.YthgjhfapnilfhaaDoor
namespace Go.Proofs.YthgjhfapnilfhaaDoor
open Go Go.RowKit
/-- The five cells of a node. -/
def NodeC (F : Nat → Prop) (w : World) (cs : List Value) (x : Hit.TNode) : Prop := ∃ vw, cs = [.int .i64 x.pick, .int .i64 x.yes, .int .i64 x.no, .int .i64 x.bound, vw] ∧ SlI F w vw x.weights
abbrev SlT (F : Nat → Prop) (w : World) (v : Value) (l : List Hit.TNode) : Prop := Sl F 5 (NodeC F) w v l
theorem SlT.keep {F : Nat → Prop} {w w' : World} {v : Value} {l : List Hit.TNode} (h : SlT F w v l) (ha : Agree F w w') : SlT F w' v l :=
  Sl.keep h ha fun _ _ ⟨vw, hc, hr⟩ => ⟨vw, hc, hr.keep ha⟩
theorem SlT.open {F : Nat → Prop} {w : World} {v : Value} {l : List Hit.TNode} (h : SlT F w v l) : ∃ A c, v = .slice A l.length c ∧ l.length ≤ c ∧ l.length ≤ 140737488355328 ∧
    ∀ i (hi : i < l.length), ∃ ad vw, A = some ad ∧ F ad.block ∧ SlI F w vw l[i].weights ∧ Flds w (ad.add (i * 5)) [.int .i64 l[i].pick, .int .i64 l[i].yes, .int .i64 l[i].no, .int .i64 l[i].bound, vw] := by
  obtain ⟨A, c, hv, hc, hl, hi⟩ := h
  refine ⟨A, c, hv, hc, hl, fun i hil => ?_⟩
  obtain ⟨ad, cs, hA, hF, hk, ⟨vw, rfl, hr⟩, hcell⟩ := hi i hil
  exact ⟨ad, vw, hA, hF, hr, hcell⟩
namespace Hit
section
variable {ws : List Nat} {n : Nat} {size : Int} {t : List TNode} {i : Nat} {tk ot : List Nat} {re : List Bool}
/-- A step into no child: the children's indices or the pick do not fit. -/
def BadKids (len i : Nat) (x : TNode) (re : List Bool) : Prop := x.yes ≤ i ∨ x.no ≤ i ∨ x.yes ≥ len ∨ x.no ≥ len ∨ x.yes = x.no ∨ re.getD x.yes.toNat false = true ∨ re.getD x.no.toNat false = true
theorem treeGo_end (len : Nat) : treeGo ws n size len (t.drop t.length) i tk ot re = true := by simp [treeGo]
theorem treeGo_skip (len : Nat) (hi : i < t.length) (h : re.getD i false = false) : treeGo ws n size len (t.drop i) i tk ot re = treeGo ws n size len (t.drop (i + 1)) (i + 1) tk ot re := by
  rw [List.drop_eq_getElem_cons hi]
  conv => lhs; unfold treeGo
  rw [if_pos h]
theorem treeGo_leaf (len : Nat) (hi : i < t.length) (h : re.getD i false = true) (h0 : t[i].yes = 0 ∧ t[i].no = 0) : treeGo ws n size len (t.drop i) i tk ot re = (leafR ws size t[i].weights (tk.getD i 0) (ot.getD i 0) && treeGo ws n size len (t.drop (i + 1)) (i + 1) tk ot re) := by
  rw [List.drop_eq_getElem_cons hi]
  conv => lhs; unfold treeGo
  rw [if_neg (by rw [h]; decide), if_pos h0]
theorem treeGo_kids (len : Nat) (hi : i < t.length) (h : re.getD i false = true) (h0 : ¬ (t[i].yes = 0 ∧ t[i].no = 0)) (hb : BadKids len i t[i] re) : treeGo ws n size len (t.drop i) i tk ot re = false := by
  unfold BadKids at hb
  rw [List.drop_eq_getElem_cons hi]
  conv => lhs; unfold treeGo
  rw [if_neg (by rw [h]; decide), if_neg h0, if_pos hb]
theorem treeGo_pick (len : Nat) (hi : i < t.length) (h : re.getD i false = true) (h0 : ¬ (t[i].yes = 0 ∧ t[i].no = 0)) (hb : ¬ BadKids len i t[i] re) (hp : t[i].pick < 0 ∨ t[i].pick ≥ n ∨ (tk.getD i 0 ||| ot.getD i 0).testBit t[i].pick.toNat = true) : treeGo ws n size len (t.drop i) i tk ot re = false := by
  unfold BadKids at hb
  rw [List.drop_eq_getElem_cons hi]
  conv => lhs; unfold treeGo
  rw [if_neg (by rw [h]; decide), if_neg h0, if_neg hb, if_pos hp]
theorem treeGo_on (len : Nat) (hi : i < t.length) (h : re.getD i false = true) (h0 : ¬ (t[i].yes = 0 ∧ t[i].no = 0)) (hb : ¬ BadKids len i t[i] re) (hp : ¬ (t[i].pick < 0 ∨ t[i].pick ≥ n ∨ (tk.getD i 0 ||| ot.getD i 0).testBit t[i].pick.toNat = true)) : treeGo ws n size len (t.drop i) i tk ot re =
    treeGo ws n size len (t.drop (i + 1)) (i + 1) ((tk.set t[i].yes.toNat (tk.getD i 0 ||| bit t[i].pick.toNat)).set t[i].no.toNat (tk.getD i 0)) ((ot.set t[i].yes.toNat (ot.getD i 0)).set t[i].no.toNat (ot.getD i 0 ||| bit t[i].pick.toNat)) ((re.set t[i].yes.toNat true).set t[i].no.toNat true) := by
  unfold BadKids at hb
  rw [List.drop_eq_getElem_cons hi]
  conv => lhs; unfold treeGo
  rw [if_neg (by rw [h]; decide), if_neg h0, if_neg hb, if_neg hp]
end
end Hit
end Go.Proofs.YthgjhfapnilfhaaDoor
