/- Walks: the checker's network. -/
import Derived.Test.YtnfpjcjlapljjaaGreatDoorW1
namespace Go.Proofs.YtnfpjcjlapljjaaGreatDoor
open Go Go.RowKit

/-- Cells that are a gate; a slice of gates. -/
def GateC (F : Nat → Prop) (w : World) (cs : List Value) (g : Gate) : Prop := ∃ u, cs = [.int .i64 g.kind, .int .i64 g.arg, u] ∧ SlI F w u g.ins
abbrev SlG (F : Nat → Prop) (w : World) (v : Value) (l : List Gate) : Prop := Sl F 3 (GateC F) w v l
theorem SlG.keep {F : Nat → Prop} {w w' : World} {v : Value} {l : List Gate} (h : SlG F w v l) (ha : Agree F w w') : SlG F w' v l :=
  Sl.keep h ha fun _ _ ⟨u, e, hr⟩ => ⟨u, e, hr.keep ha⟩
theorem SlG.open {F : Nat → Prop} {w : World} {v : Value} {l : List Gate} (h : SlG F w v l) : ∃ A c, v = .slice A l.length c ∧ l.length ≤ c ∧ l.length ≤ 140737488355328 ∧
    ∀ i (hi : i < l.length), ∃ ad u, A = some ad ∧ F ad.block ∧ SlI F w u l[i].ins ∧ Flds w (ad.add (i * 3)) [.int .i64 l[i].kind, .int .i64 l[i].arg, u] := by
  obtain ⟨A, c, hv, hc, hl, hi⟩ := h
  refine ⟨A, c, hv, hc, hl, fun i hil => ?_⟩
  obtain ⟨ad, cs, hA, hF, hk, ⟨u, rfl, hr⟩, hcell⟩ := hi i hil
  exact ⟨ad, u, hA, hF, hr, hcell⟩
theorem gatesOk_drop (vars : Int) (l : List Gate) (kk : Nat) (h : kk < l.length) : gatesOk vars kk (l.drop kk) = (gateOk vars kk l[kk] && gatesOk vars (kk + 1) (l.drop (kk + 1))) := by
  rw [List.drop_eq_getElem_cons h]; rfl

set_option maxHeartbeats 4000000 in
set_option maxRecDepth 100000 in
theorem network_any (vars : Int) (hv0 : -1000 ≤ vars) (hv1 : vars ≤ 1000) (vg vo : Value) (n : Net) (w : World) (F : Nat → Prop) (hF : ∀ b, F b → b < w.heap.size) (hg : SlG F w vg n.gates) (ho : SlI F w vo n.outs) :
    Calls Tryz.prog 38 #[.int .i64 vars, .agg #[vg, vo]] w fun e w' => e = .returned (.bool (netOk vars n)) ∧ Below w.heap.size w w' := by
  obtain ⟨A, c, rfl, hlc, hl, hat⟩ := hg.open
  have hb0 : ∀ o, Below w.heap.size w (w.alloc o) := fun o => (Below.refl _ _).alloc (Nat.le_refl _) _
  have H := Lib.hid hat
  clear hat hg
  have how : ∀ (W : World), Below w.heap.size w W → SlI F W vo n.outs := fun W hb => ho.keep (Agree.below hb hF)
  have HO := Lib.hid how
  clear how ho
  by_cases hbig : 20000 < n.gates.length
  · go_enter Tryz.func38, Tryz.ntmps38
    go_wp2
    go_ret
    refine ⟨?_, hb0 _⟩
    have : netOk vars n = false := by
      unfold netOk
      rw [show decide (n.gates.length ≤ 20000) = false from decide_eq_false (by omega)]
      simp
    rw [this]; rfl
  · have hwi := within_any 0 ((n.gates.length : Int) - 1) vo n.outs
    have HW := Lib.hid hwi
    clear hwi
    cases hw1 : withinB 0 ((n.gates.length : Int) - 1) n.outs with
    | false =>
      have HW1 := Lib.hid hw1
      clear hw1
      go_enter Tryz.func38, Tryz.ntmps38
      go_wp2_with (go_at_call 21; refine (HW.out _ F (fun b hb => by have := hF b hb; simp; omega) (HO.out _ (hb0 _))).mono ?_; rw [HW1.out]; rintro e w1 ⟨rfl, hb1⟩)
      go_ret
      refine ⟨?_, (hb0 _).trans (hb1.mono (by simp))⟩
      have : netOk vars n = false := by
        unfold netOk
        rw [HW1.out]
        simp
      rw [this]; rfl
    | true =>
      have hN : netOk vars n = gatesOk vars 0 n.gates := by
        unfold netOk
        rw [hw1, show decide (n.gates.length ≤ 20000) = true from decide_eq_true (by omega)]
        simp
      have HN := Lib.hid hN
      clear hN
      have HW1 := Lib.hid hw1
      clear hw1
      go_enter Tryz.func38, Tryz.ntmps38
      go_wp2_with (go_at_call 21; refine (HW.out _ F (fun b hb => by have := hF b hb; simp; omega) (HO.out _ (hb0 _))).mono ?_; rw [HW1.out]; rintro e w1 ⟨rfl, hb1⟩; have hx0 : w1.cell? ⟨w.heap.size, 0, none⟩ = some (.slice A n.gates.length c) := (hb1.cell (p := ⟨w.heap.size, 0, none⟩) (by simp)).trans (by simp))
      have hbw : Below w.heap.size w w1 := (hb0 _).trans (hb1.mono (by simp))
      clear hb1 hx0 HW HW1
      go_loopg [25] n.gates.length (fun gg s25 wr => ∃ kk : Nat, kk ≤ n.gates.length ∧ n.gates.length - kk ≤ gg ∧ s25 = .int .i64 kk ∧ Aside (Below w.heap.size w wr) ∧ Aside (gatesOk vars 0 n.gates = gatesOk vars kk (n.gates.drop kk)))
      case atStart => exact ⟨0, Nat.zero_le _, by omega, rfl, hbw, rfl⟩
      case round =>
        obtain ⟨kk, hkk, hg, rfl, BW, A1⟩ := hrel
        clear hbw
        by_cases hlt : kk < n.gates.length
        · obtain ⟨ad, u, rfl, hb, hu, hc⟩ := H.out kk hlt
          have hc' := hc.below BW.out (by rw [block_of_add]; exact hF _ hb)
          have h0 := hc'.f0 rfl
          have h1 := hc'.f1 rfl
          have h2 := hc'.f2 rfl
          have hu' := hu.keep (Agree.below BW.out hF)
          have hgo := A1.out.trans (gatesOk_drop vars n.gates kk hlt)
          clear hc hc' hu A1 H HO
          generalize n.gates[kk] = g at *
          obtain ⟨kd, ar, ins⟩ := g
          have hs := BW.out.size
          have hF' : ∀ b, F b → b < wr.heap.size := fun b hb => by have := hF b hb; omega
          have hbw : ∀ W, Below wr.heap.size wr W → Below w.heap.size w W := fun W h => Bt BW.out h
          have hbad : gateOk vars kk ⟨kd, ar, ins⟩ = false → netOk vars n = false := fun h => by rw [HN.out, hgo, h]; rfl
          have hgood : gateOk vars kk ⟨kd, ar, ins⟩ = true → gatesOk vars 0 n.gates = gatesOk vars (kk + 1) (n.gates.drop (kk + 1)) := fun h => by rw [hgo, h]; rfl
          have hwi : ∀ W, Below wr.heap.size wr W → ∀ hi : Int, Calls Tryz.prog 21 #[.int .i64 0, .int .i64 hi, u] W fun e w' => e = .returned (.bool (withinB 0 hi ins)) ∧ Below W.heap.size W w' :=
            fun W hb hi => within_any 0 hi u ins W F (fun b hb' => by have := hF' b hb'; have := hb.size; omega) (hu'.keep (Agree.below hb hF'))
          have HB := Lib.hid hbad
          have HG := Lib.hid hgood
          have HWI := Lib.hid hwi
          have HBW := Lib.hid hbw
          dsimp only at h0 h1 h2 hu'
          obtain ⟨A', c', rfl, hlc', hl', _⟩ := hu'.open
          clear hu' hgo hb hbad hgood hwi hbw HN hF' hF hlc hl hb0
          by_cases k1 : kd = 1
          · subst k1
            cases hw0 : withinB 0 (vars - 1) [ar] with
            | true =>
              by_cases l1 : ins.length = 0
              · have L1 : ((ins.length : Int) != 0) = false := by simp [l1]
                have hwb : withinB 0 ((kk : Int) - 1) ins = true := by rw [List.eq_nil_of_length_eq_zero l1]; rfl
                have hok : gateOk vars kk ⟨1, ar, ins⟩ = true := by
                  rw [List.eq_nil_of_length_eq_zero l1]
                  simp [withinB] at hw0
                  simp [gateOk, withinB, hw0]
                have HWB := Lib.hid hwb
                have HW0 := Lib.hid hw0
                clear hwb hw0 l1
                go_wp2_with fail
                refine (within_any 0 (vars - 1) _ [ar] _ (fun b => b = wr.heap.size + 1) (by rintro b rfl; simp) (SlI.one (by simp) (by simp))).mono ?_
                rw [HW0.out]
                rintro e w2 ⟨rfl, hb2⟩
                have hx2 : w2.cell? ⟨wr.heap.size, 2, none⟩ = some (.slice A' ins.length c') := (Bc hb2 (by simp; omega)).trans (by simp)
                have hbb := Bt (Ba (Ba (B0 wr) _) _) hb2
                clear hb2
                go_wp2_with (go_at_call 21; refine (HWI.out _ hbb _).mono ?_; rw [HWB.out]; rintro e w3 ⟨rfl, hb3⟩)
                go_roundg (n.gates.length - (kk + 1))
                case measure => omega
                case rel => exact ⟨kk + 1, by omega, by omega, by go_num, HBW.out _ (Bt hbb hb3), HG.out hok⟩
              · have L1 : ((ins.length : Int) != 0) = true := by simpa using l1
                have hne : ins ≠ [] := fun h => l1 (by rw [h]; rfl)
                have hok : gateOk vars kk ⟨1, ar, ins⟩ = false := by simp [gateOk, hne]
                have HW0 := Lib.hid hw0
                clear hw0 hne
                go_wp2_with fail
                refine (within_any 0 (vars - 1) _ [ar] _ (fun b => b = wr.heap.size + 1) (by rintro b rfl; simp) (SlI.one (by simp) (by simp))).mono ?_
                rw [HW0.out]
                rintro e w2 ⟨rfl, hb2⟩
                have hbb := Bt (Ba (Ba (B0 wr) _) _) hb2
                clear hb2
                go_wp2
                go_ret
                exact ⟨by rw [HB.out hok]; rfl, HBW.out _ hbb⟩
            | false =>
              have hok : gateOk vars kk ⟨1, ar, ins⟩ = false := by
                have : ¬ (0 ≤ ar ∧ ar ≤ vars - 1) := by simpa [withinB] using hw0
                unfold gateOk
                rw [if_pos rfl, ← Bool.decide_and, decide_eq_false this]
                rfl
              have HW0 := Lib.hid hw0
              clear hw0
              go_wp2_with fail
              refine (within_any 0 (vars - 1) _ [ar] _ (fun b => b = wr.heap.size + 1) (by rintro b rfl; simp) (SlI.one (by simp) (by simp))).mono ?_
              rw [HW0.out]
              rintro e w2 ⟨rfl, hb2⟩
              have hbb := Bt (Ba (Ba (B0 wr) _) _) hb2
              clear hb2
              go_wp2
              go_ret
              exact ⟨by rw [HB.out hok]; rfl, HBW.out _ hbb⟩
          · have k1' : (kd == 1) = false := by simpa using k1
            by_cases k2 : kd = 2
            · subst k2
              clear k1 k1'
              by_cases z : ar = 0
              · subst z
                by_cases l1 : ins.length = 1
                · have L1 : ((ins.length : Int) != 1) = false := by simp [l1]
                  cases hwb : withinB 0 ((kk : Int) - 1) ins with
                  | true =>
                    have hok : gateOk vars kk ⟨2, 0, ins⟩ = true := by simp [gateOk, l1, hwb]
                    have HWB := Lib.hid hwb
                    clear hwb; try clear l1
                    go_wp2_with (go_at_call 21; refine (HWI.out _ (Ba (B0 _) _) _).mono ?_; rw [HWB.out]; rintro e w2 ⟨rfl, hb2⟩)
                    go_roundg (n.gates.length - (kk + 1))
                    case measure => omega
                    case rel => exact ⟨kk + 1, by omega, by omega, by go_num, HBW.out _ (Bt (Ba (B0 _) _) hb2), HG.out hok⟩
                  | false =>
                    have hok : gateOk vars kk ⟨2, 0, ins⟩ = false := by simp [gateOk, hwb]
                    have HWB := Lib.hid hwb
                    clear hwb; try clear l1
                    go_wp2_with (go_at_call 21; refine (HWI.out _ (Ba (B0 _) _) _).mono ?_; rw [HWB.out]; rintro e w2 ⟨rfl, hb2⟩)
                    go_ret
                    exact ⟨by rw [HB.out hok]; rfl, HBW.out _ (Bt (Ba (B0 _) _) hb2)⟩
                · have L1 : ((ins.length : Int) != 1) = true := by simp; omega
                  have hok : gateOk vars kk ⟨2, 0, ins⟩ = false := by simp [gateOk, l1]
                  go_wp2
                  go_ret
                  exact ⟨by rw [HB.out hok]; rfl, HBW.out _ (Ba (B0 _) _)⟩
              · have Z : (ar != 0) = true := by simpa using z
                have hok : gateOk vars kk ⟨2, ar, ins⟩ = false := by simp [gateOk, z]
                go_wp2
                go_ret
                exact ⟨by rw [HB.out hok]; rfl, HBW.out _ (Ba (B0 _) _)⟩
            · have k2' : (kd == 2) = false := by simpa using k2
              by_cases k3 : kd = 3
              · subst k3
                clear k1 k1' k2 k2'
                by_cases z : ar = 0
                · subst z
                  cases hwb : withinB 0 ((kk : Int) - 1) ins with
                  | true =>
                    have hok : gateOk vars kk ⟨3, 0, ins⟩ = true := by simp [gateOk, hwb]
                    have HWB := Lib.hid hwb
                    clear hwb
                    go_wp2_with (go_at_call 21; refine (HWI.out _ (Ba (B0 _) _) _).mono ?_; rw [HWB.out]; rintro e w2 ⟨rfl, hb2⟩)
                    go_roundg (n.gates.length - (kk + 1))
                    case measure => omega
                    case rel => exact ⟨kk + 1, by omega, by omega, by go_num, HBW.out _ (Bt (Ba (B0 _) _) hb2), HG.out hok⟩
                  | false =>
                    have hok : gateOk vars kk ⟨3, 0, ins⟩ = false := by simp [gateOk, hwb]
                    have HWB := Lib.hid hwb
                    clear hwb
                    go_wp2_with (go_at_call 21; refine (HWI.out _ (Ba (B0 _) _) _).mono ?_; rw [HWB.out]; rintro e w2 ⟨rfl, hb2⟩)
                    go_ret
                    exact ⟨by rw [HB.out hok]; rfl, HBW.out _ (Bt (Ba (B0 _) _) hb2)⟩
                · have Z : (ar != 0) = true := by simpa using z
                  have hok : gateOk vars kk ⟨3, ar, ins⟩ = false := by simp [gateOk, z]
                  go_wp2
                  go_ret
                  exact ⟨by rw [HB.out hok]; rfl, HBW.out _ (Ba (B0 _) _)⟩
              · by_cases k4 : kd = 4
                · clear k3
                  subst k4
                  clear k1 k1' k2 k2'
                  by_cases z : ar = 0
                  · subst z
                    cases hwb : withinB 0 ((kk : Int) - 1) ins with
                    | true =>
                      have hok : gateOk vars kk ⟨4, 0, ins⟩ = true := by simp [gateOk, hwb]
                      have HWB := Lib.hid hwb
                      clear hwb
                      go_wp2_with (go_at_call 21; refine (HWI.out _ (Ba (B0 _) _) _).mono ?_; rw [HWB.out]; rintro e w2 ⟨rfl, hb2⟩)
                      go_roundg (n.gates.length - (kk + 1))
                      case measure => omega
                      case rel => exact ⟨kk + 1, by omega, by omega, by go_num, HBW.out _ (Bt (Ba (B0 _) _) hb2), HG.out hok⟩
                    | false =>
                      have hok : gateOk vars kk ⟨4, 0, ins⟩ = false := by simp [gateOk, hwb]
                      have HWB := Lib.hid hwb
                      clear hwb
                      go_wp2_with (go_at_call 21; refine (HWI.out _ (Ba (B0 _) _) _).mono ?_; rw [HWB.out]; rintro e w2 ⟨rfl, hb2⟩)
                      go_ret
                      exact ⟨by rw [HB.out hok]; rfl, HBW.out _ (Bt (Ba (B0 _) _) hb2)⟩
                  · have Z : (ar != 0) = true := by simpa using z
                    have hok : gateOk vars kk ⟨4, ar, ins⟩ = false := by simp [gateOk, z]
                    go_wp2
                    go_ret
                    exact ⟨by rw [HB.out hok]; rfl, HBW.out _ (Ba (B0 _) _)⟩
                · by_cases k5 : kd = 5
                  · clear k3 k4
                    subst k5
                    clear k1 k1' k2 k2'
                    by_cases z : ar = 0
                    · subst z
                      by_cases l1 : ins.length = 0
                      · have L1 : ((ins.length : Int) != 0) = false := by simp [l1]
                        have hwb : withinB 0 ((kk : Int) - 1) ins = true := by rw [List.eq_nil_of_length_eq_zero l1]; rfl
                        have hok : gateOk vars kk ⟨5, 0, ins⟩ = true := by rw [List.eq_nil_of_length_eq_zero l1]; simp [gateOk, withinB]
                        have HWB := Lib.hid hwb
                        clear hwb l1
                        go_wp2_with (go_at_call 21; refine (HWI.out _ (Ba (B0 _) _) _).mono ?_; rw [HWB.out]; rintro e w2 ⟨rfl, hb2⟩)
                        go_roundg (n.gates.length - (kk + 1))
                        case measure => omega
                        case rel => exact ⟨kk + 1, by omega, by omega, by go_num, HBW.out _ (Bt (Ba (B0 _) _) hb2), HG.out hok⟩
                      · have L1 : ((ins.length : Int) != 0) = true := by simpa using l1
                        have hne : ins ≠ [] := fun h => l1 (by rw [h]; rfl)
                        have HNE := Lib.hid hne
                        clear hne
                        have hok : gateOk vars kk ⟨5, 0, ins⟩ = false := by have := HNE.out; simp [gateOk, this]
                        go_wp2
                        go_ret
                        exact ⟨by rw [HB.out hok]; rfl, HBW.out _ (Ba (B0 _) _)⟩
                    · have Z : (ar != 0) = true := by simpa using z
                      have hok : gateOk vars kk ⟨5, ar, ins⟩ = false := by simp [gateOk, z]
                      go_wp2
                      go_ret
                      exact ⟨by rw [HB.out hok]; rfl, HBW.out _ (Ba (B0 _) _)⟩
                  · by_cases k6 : kd = 6
                    · clear k3 k4 k5
                      subst k6
                      clear k1 k1' k2 k2'
                      by_cases z : ar = 0
                      · subst z
                        by_cases l1 : ins.length = 0
                        · have L1 : ((ins.length : Int) != 0) = false := by simp [l1]
                          have hwb : withinB 0 ((kk : Int) - 1) ins = true := by rw [List.eq_nil_of_length_eq_zero l1]; rfl
                          have hok : gateOk vars kk ⟨6, 0, ins⟩ = true := by rw [List.eq_nil_of_length_eq_zero l1]; simp [gateOk, withinB]
                          have HWB := Lib.hid hwb
                          clear hwb l1
                          go_wp2_with (go_at_call 21; refine (HWI.out _ (Ba (B0 _) _) _).mono ?_; rw [HWB.out]; rintro e w2 ⟨rfl, hb2⟩)
                          go_roundg (n.gates.length - (kk + 1))
                          case measure => omega
                          case rel => exact ⟨kk + 1, by omega, by omega, by go_num, HBW.out _ (Bt (Ba (B0 _) _) hb2), HG.out hok⟩
                        · have L1 : ((ins.length : Int) != 0) = true := by simpa using l1
                          have hne : ins ≠ [] := fun h => l1 (by rw [h]; rfl)
                          have HNE := Lib.hid hne
                          clear hne
                          have hok : gateOk vars kk ⟨6, 0, ins⟩ = false := by have := HNE.out; simp [gateOk, this]
                          go_wp2
                          go_ret
                          exact ⟨by rw [HB.out hok]; rfl, HBW.out _ (Ba (B0 _) _)⟩
                      · have Z : (ar != 0) = true := by simpa using z
                        have hok : gateOk vars kk ⟨6, ar, ins⟩ = false := by simp [gateOk, z]
                        go_wp2
                        go_ret
                        exact ⟨by rw [HB.out hok]; rfl, HBW.out _ (Ba (B0 _) _)⟩
                    · have k3' : (kd == 3) = false := by simpa using k3
                      have k4' : (kd == 4) = false := by simpa using k4
                      have k5' : (kd == 5) = false := by simpa using k5
                      have k6' : (kd == 6) = false := by simpa using k6
                      have hok : gateOk vars kk ⟨kd, ar, ins⟩ = false := by simp [gateOk, k1, k2, k3, k4, k5, k6]
                      go_wp2
                      go_ret
                      exact ⟨by rw [HB.out hok]; rfl, HBW.out _ (Ba (B0 _) _)⟩
        · have : kk = n.gates.length := by omega
          subst this
          clear H HO
          go_wp2
          go_ret
          refine ⟨?_, BW.out⟩
          rw [HN.out, A1.out, List.drop_length]; rfl
end Go.Proofs.YtnfpjcjlapljjaaGreatDoor
