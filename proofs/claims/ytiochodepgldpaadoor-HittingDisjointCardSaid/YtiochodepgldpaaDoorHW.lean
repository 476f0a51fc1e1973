/- Walks over the reference of hitting: sets that are apart. -/
import Derived.Test.YtiochodepgldpaaDoorHV
namespace Go.Proofs.YtiochodepgldpaaDoor
open Go Go.RowKit
/-- Two indices of a list are of different sets that are apart. -/
def prR (ws : List Nat) (l : List Int) (out a b : Nat) : Bool := l.getD a 0 != l.getD b 0 && Hit.andn (ws.getD (l.getD a 0).toNat 0 &&& ws.getD (l.getD b 0).toNat 0) out == 0
theorem apartR_true {ws : List Nat} {l : List Int} {out : Nat} (h : ∀ a b, b < a → a < l.length → prR ws l out a b = true) : Hit.apartR ws l out = true := by
  unfold Hit.apartR
  simp only [List.all_eq_true, List.mem_range]
  intro a ha b hb
  exact h a b hb ha
theorem apartR_false {ws : List Nat} {l : List Int} {out a b : Nat} (hba : b < a) (ha : a < l.length) (h : prR ws l out a b = false) : Hit.apartR ws l out = false := by
  cases hh : Hit.apartR ws l out with
  | false => rfl
  | true =>
    unfold Hit.apartR at hh
    simp only [List.all_eq_true, List.mem_range] at hh
    have := hh a ha b hba
    rw [show prR ws l out a b = _ from rfl] at h
    unfold prR at h
    rw [h] at this
    cases this
theorem getD_int (l : List Int) (i : Nat) (h : i < l.length) : l.getD i 0 = l[i] := by rw [List.getD_eq_getElem?_getD, List.getElem?_eq_getElem h]; rfl
theorem getD_nat (l : List Nat) (i : Nat) (h : i < l.length) : l.getD i 0 = l[i] := by rw [List.getD_eq_getElem?_getD, List.getElem?_eq_getElem h]; rfl
set_option maxRecDepth 200000 in
set_option maxHeartbeats 8000000 in
theorem apartR_any (n : Int) (vs vl : Value) (ws : List Nat) (hw : ∀ s ∈ ws, s < 4294967296) (l : List Int) (hv : ∀ x ∈ l, 0 ≤ x ∧ x < ws.length) (out : Nat) (ho : out < 4294967296) (w : World) (F G : Nat → Prop) (hF : ∀ b, F b → b < w.heap.size) (hG : ∀ b, G b → b < w.heap.size) (hr : SlII F w vs (setsOf ws)) (hl : SlI G w vl l) :
    Calls Tryd.prog 39 #[.agg #[.int .i64 n, vs], vl, .int .u64 out] w fun e w' => e = .returned (.bool (Hit.apartR ws l out)) ∧ Below w.heap.size w w' := by
  obtain ⟨As, cs, rfl, _, hsl, hsat⟩ := hr.open
  obtain ⟨Al, cl, rfl, _, hll, hlat⟩ := hl.open
  -- one element: its index, its set's word, the set's slice
  have one : ∀ i (hi : i < l.length), ∃ (ia : Nat) (adl adS : Addr) (u : Value) (wd : Nat), l.getD i 0 = ia ∧ ia < ws.length ∧ ws.getD ia 0 = wd ∧ wd < 4294967296 ∧ Al = some adl ∧ As = some adS ∧ (∀ W, Below w.heap.size w W → W.cell? (adl.add i) = some (.int .i64 ia)) ∧ (∀ W, Below w.heap.size w W → W.cell? (adS.add ia) = some u) ∧
      ∀ W, Below w.heap.size w W → Calls Tryd.prog 70 #[u] W fun e w' => e = .returned (.int .u64 (wd : Nat)) ∧ W = w' := by
    intro i hi
    obtain ⟨h0, h1⟩ := hv _ (List.getElem_mem hi)
    obtain ⟨adl, eA, hf, hc⟩ := hlat i hi
    obtain ⟨ia, hia⟩ := Int.eq_ofNat_of_zero_le h0
    have hlt : ia < ws.length := by omega
    obtain ⟨adS, u, eS, hfS, hcS, hu⟩ := hsat ia (by rw [setsOf_length]; exact hlt)
    rw [setsOf_get] at hu
    have hws := hw _ (List.getElem_mem hlt)
    refine ⟨ia, adl, adS, u, ws[ia], by rw [getD_int l i hi]; exact hia, hlt, getD_nat ws ia hlt, hws, eA, eS, fun W hW => ?_, fun W hW => (hW.cell (p := adS.add ia) (by rw [block_of_add]; exact hF _ hfS)).trans hcS, fun W hW => ?_⟩
    · rw [hia] at hc
      exact (hW.cell (p := adl.add i) (by rw [block_of_add]; exact hG _ hf)).trans hc
    · have := bits_any u (Hit.members ws[ia]) (fun y hy => (Hit.mem_members.1 hy).1) W F (hu.keep (Agree.below hW hF))
      rw [Hit.word_members (Nat.lt_of_lt_of_le hws (by decide))] at this
      exact this
  rw [setsOf_length] at *
  have ONE := Lib.hid one
  clear one hr hl hsat hlat hv hw
  go_enter Tryd.func39, Tryd.ntmps39
  go_wp2_with fail
  obtain ⟨w1, hw1⟩ : ∃ w1 : World, w.alloc (.cells #[.int .i64 n, .slice As ws.length cs] 36) = w1 := ⟨_, rfl⟩
  have c1 : w1.cell? ⟨w.heap.size, 1, none⟩ = some (.slice As ws.length cs) := by rw [← hw1]; simp [go_sem]
  have s1 : w.heap.size < w1.heap.size := by rw [← hw1]; simp
  have B1 : Below w.heap.size w w1 := by rw [← hw1]; exact Ba (B0 w) _
  rw [hw1]
  clear hw1
  have HB1 := Lib.hid B1
  have C1 := Lib.hid c1
  clear B1 c1
  go_loopg [7] l.length (fun gg s7 wr => ∃ i : Nat, i ≤ l.length ∧ l.length - i ≤ gg ∧ s7 = .int .i64 i ∧ Aside (∀ a b, b < a → a < i → prR ws l out a b = true) ∧ Aside (Below w1.heap.size w1 wr))
  case atStart => exact ⟨0, by omega, by omega, rfl, fun a b _ h => absurd h (by omega), B0 w1⟩
  case round =>
    obtain ⟨i, hi, hg, rfl, HA, HB⟩ := hrel
    obtain ⟨wo, rfl⟩ : ∃ wo : World, wo = wr := ⟨_, rfl⟩
    by_cases hlt : i < l.length
    · have hki : decide ((i : Int) < l.length) = true := decide_eq_true (by omega)
      have hi2 : (i : Int) < l.length := by omega
      go_wp2_with fail
      go_loopg [8] i (fun gg s8 wr => ∃ k : Nat, k ≤ i ∧ i - k ≤ gg ∧ s8 = .int .i64 k ∧ Aside (∀ b, b < k → prR ws l out i b = true) ∧ Aside (Below w1.heap.size w1 wr))
      case atStart => exact ⟨0, by omega, by omega, rfl, fun b h => absurd h (by omega), HB.out⟩
      case round =>
        obtain ⟨k, hk, hgk, rfl, HK, HBk⟩ := hrel
        by_cases hlk : k < i
        · have hkk : decide ((k : Int) < i) = true := decide_eq_true (by omega)
          have hk2 : (k : Int) < l.length := by omega
          obtain ⟨ia, adl, adS, ua, wa, ea, la, ewa, lwa, eAl, eAs, cla, csa, hCa⟩ := ONE.out i hlt
          obtain ⟨ib, adl2, adS2, ub, wb, eb, lb, ewb, lwb, eAl2, eAs2, clb, csb, hCb⟩ := ONE.out k (by omega)
          rw [eAl] at eAl2
          injection eAl2 with eAl2
          subst eAl2
          rw [eAs] at eAs2
          injection eAs2 with eAs2
          subst eAs2
          subst eAl
          subst eAs
          have hBw := Bt HB1.out HBk.out
          have kl1 : ∀ q : Cls wr, q.w.cell? (adl.add i) = some (.int .i64 ia) := fun q => cla q.w (Bt hBw q.b)
          have kl2 : ∀ q : Cls wr, q.w.cell? (adl.add k) = some (.int .i64 ib) := fun q => clb q.w (Bt hBw q.b)
          have ks1 : ∀ q : Cls wr, q.w.cell? (adS.add ia) = some ua := fun q => csa q.w (Bt hBw q.b)
          have ks2 : ∀ q : Cls wr, q.w.cell? (adS.add ib) = some ub := fun q => csb q.w (Bt hBw q.b)
          have kbx : ∀ q : Cls wr, q.w.cell? ⟨w.heap.size, 1, none⟩ = some (.slice (some adS) ws.length cs) := fun q => (Bc (Bt HBk.out q.b) s1).trans C1.out
          have HCa : Hid (∀ q : Cls wr, Calls Tryd.prog 70 #[ua] q.w fun e w' => e = .returned (.int .u64 (wa : Nat)) ∧ ∃ r : Cls wr, w' = r.w) := fun q => (hCa q.w (Bt hBw q.b)).mono fun e w' ⟨q1, q2⟩ => ⟨q1, q, q2.symm⟩
          have HCb : Hid (∀ q : Cls wr, Calls Tryd.prog 70 #[ub] q.w fun e w' => e = .returned (.int .u64 (wb : Nat)) ∧ ∃ r : Cls wr, w' = r.w) := fun q => (hCb q.w (Bt hBw q.b)).mono fun e w' ⟨q1, q2⟩ => ⟨q1, q, q2.symm⟩
          have li1 : (ia : Int) < ws.length := by omega
          have li2 : (ib : Int) < ws.length := by omega
          have hp : prR ws l out i k = (((ia : Int) != ib) && Hit.andn (wa &&& wb) out == 0) := by unfold prR; rw [ea, eb, Int.toNat_natCast, Int.toNat_natCast, ewa, ewb]
          have hand := Hit.u64_and wa wb (by omega) (by omega)
          have hz64 : wa &&& wb < 2 ^ 64 := Hit.and_lt (k := 64) (by omega)
          have han := Hit.u64_andn (wa &&& wb) out hz64 (by omega)
          obtain ⟨z, hz⟩ : ∃ z, Hit.andn (wa &&& wb) out = z := ⟨_, rfl⟩
          rw [hz] at hp han
          have HP := Lib.hid hp
          generalize wa &&& wb = z1 at *
          have AF := Lib.hid (@apartR_false ws l out i k hlk hlt)
          clear hCa hCb cla clb csa csb ea eb ewa ewb hBw hp hz hz64
          by_cases hab : ia = ib
          · have hq : ((ia : Int) == (ib : Int)) = true := by simp [hab]
            have hfin : Hit.apartR ws l out = false := AF.out (by rw [HP.out]; simp [hab])
            have HFIN := Lib.hid hfin
            clear hfin hab
            go_wp2_with fail
            refine wp_region_class_lit (C := fun w' => ∃ q : Cls wr, w' = q.w) (by kernel_rfl) (by kernel_rfl) ⟨Cls.mk' (B0 wr).drew, rfl⟩ ?_
            repeat (any_goals (first | go_big_quiet_step ((go_at_call 70; first | with_reducible exact HCa.out _ | with_reducible exact HCb.out _)) | quiet_step ((go_at_call 70; first | with_reducible exact HCa.out _ | with_reducible exact HCb.out _))))
            refine wpQuiet_nil ?_
            rintro _ ⟨q, rfl⟩
            have B5 := Lib.hid (Bt HB1.out (Bt HBk.out q.b))
            clear kl1 kl2 ks1 ks2 kbx
            generalize q.w = w5 at *
            go_wp2
            go_ret
            exact ⟨by rw [HFIN.out]; rfl, B5.out⟩
          · have hq : ((ia : Int) == (ib : Int)) = false := by simp; omega
            by_cases hz0 : z = 0
            · have hz1 : ((z : Int) != 0) = false := by simp [hz0]
              have hgood : prR ws l out i k = true := by rw [HP.out, hz0]; simp; omega
              have HGD := Lib.hid hgood
              clear hgood hab hz0
              go_wp2_with fail
              refine wp_region_class_lit (C := fun w' => ∃ q : Cls wr, w' = q.w) (by kernel_rfl) (by kernel_rfl) ⟨Cls.mk' (B0 wr).drew, rfl⟩ ?_
              repeat (any_goals (first | go_big_quiet_step ((go_at_call 70; first | with_reducible exact HCa.out _ | with_reducible exact HCb.out _)) | quiet_step ((go_at_call 70; first | with_reducible exact HCa.out _ | with_reducible exact HCb.out _))))
              refine wpQuiet_nil ?_
              rintro _ ⟨q, rfl⟩
              have B5 := Lib.hid (Bt HBk.out q.b)
              clear kl1 kl2 ks1 ks2 kbx
              generalize q.w = w5 at *
              go_wp2
              go_roundg (i - (k + 1))
              case measure => omega
              case rel =>
                refine ⟨k + 1, by omega, by omega, by go_num, (show Aside _ from fun b hb => ?_), B5.out⟩
                by_cases e : b = k
                · subst e; exact HGD.out
                · exact HK.out b (by omega)
            · have hz1 : ((z : Int) != 0) = true := by simp; exact hz0
              have hfin : Hit.apartR ws l out = false := AF.out (by rw [HP.out]; simp; exact fun _ => hz0)
              have HFIN := Lib.hid hfin
              clear hfin hab hz0
              go_wp2_with fail
              refine wp_region_class_lit (C := fun w' => ∃ q : Cls wr, w' = q.w) (by kernel_rfl) (by kernel_rfl) ⟨Cls.mk' (B0 wr).drew, rfl⟩ ?_
              repeat (any_goals (first | go_big_quiet_step ((go_at_call 70; first | with_reducible exact HCa.out _ | with_reducible exact HCb.out _)) | quiet_step ((go_at_call 70; first | with_reducible exact HCa.out _ | with_reducible exact HCb.out _))))
              refine wpQuiet_nil ?_
              rintro _ ⟨q, rfl⟩
              have B5 := Lib.hid (Bt HB1.out (Bt HBk.out q.b))
              clear kl1 kl2 ks1 ks2 kbx
              generalize q.w = w5 at *
              go_wp2
              go_ret
              exact ⟨by rw [HFIN.out]; rfl, B5.out⟩
        · have hkk : decide ((k : Int) < i) = false := decide_eq_false (by omega)
          have : k = i := by omega
          subst this
          go_wp2
          go_roundg (l.length - (k + 1))
          case measure => omega
          case rel =>
            refine ⟨k + 1, by omega, by omega, by go_num, (show Aside _ from fun a b hb ha => ?_), HBk.out⟩
            by_cases e : a = k
            · subst e; exact HK.out b hb
            · exact HA.out a b hb (by omega)
    · have hki : decide ((i : Int) < l.length) = false := decide_eq_false (by omega)
      have : i = l.length := by omega
      subst this
      have hfin : Hit.apartR ws l out = true := apartR_true HA.out
      have HFIN := Lib.hid hfin
      clear hfin
      go_wp2
      go_ret
      exact ⟨by rw [HFIN.out]; rfl, Bt HB1.out HB.out⟩
end Go.Proofs.YtiochodepgldpaaDoor
