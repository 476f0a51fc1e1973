/- Walks: the statement's fine. -/
import Derived.Test.YtbcbkllahnahnaaW5
import Derived.Test.YtbcbkllahnahnaaW6a
namespace Go.Proofs.Ytbcbkllahnahnaa
open Go Go.RowKit

def kindOk (kd ar : Int) (len : Nat) : Bool :=
  if kd = 1 then decide (0 ≤ ar) && decide (ar ≤ 3) && decide (len = 0) else if kd = 2 then decide (ar = 0) && decide (len = 1) else if kd = 3 ∨ kd = 4 then decide (ar = 0)
  else if kd = 5 ∨ kd = 6 then decide (ar = 0) && decide (len = 0) else false
theorem isEmpty_len (l : List Int) : l.isEmpty = decide (l.length = 0) := by cases l <;> simp
theorem gateOk_kind (i : Nat) (kd ar : Int) (ins : List Int) : gateOk 4 i ⟨kd, ar, ins⟩ = (kindOk kd ar ins.length && withinB 0 ((i : Int) - 1) ins) := by
  unfold gateOk kindOk
  dsimp only
  by_cases h1 : kd = 1
  · have : (ar ≤ 4 - 1) = (ar ≤ 3) := by simp
    rw [if_pos h1, if_pos h1, isEmpty_len]
    simp only [this]
  rw [if_neg h1, if_neg h1]
  by_cases h2 : kd = 2
  · rw [if_pos h2, if_pos h2]
  rw [if_neg h2, if_neg h2]
  by_cases h3 : kd = 3 ∨ kd = 4
  · rw [if_pos h3, if_pos h3]
  rw [if_neg h3, if_neg h3]
  by_cases h5 : kd = 5 ∨ kd = 6
  · rw [if_pos h5, if_pos h5, isEmpty_len]
  rw [if_neg h5, if_neg h5]
theorem gatesOk_all (vars : Int) (l : List Gate) : ∀ i, (∀ k (hk : k < l.length), gateOk vars (i + k) l[k] = true) → gatesOk vars i l = true := by
  induction l with
  | nil => intro _ _; rfl
  | cons g r ih =>
    intro i h
    simp only [gatesOk, Bool.and_eq_true]
    refine ⟨h 0 (by simp), ih (i + 1) fun k hk => ?_⟩
    have := h (k + 1) (by simp; omega)
    rw [show i + (k + 1) = i + 1 + k from by omega] at this
    exact this
theorem fine_bad {n : Net} {kk : Nat} (h : kk < n.gates.length) {g : Gate} (hg : n.gates[kk] = g) (hb : gateOk 4 kk g = false) : netOk 4 n = false := by
  rcases hh : gatesOk 4 0 n.gates with _ | _
  · simp [netOk, hh]
  · have := gatesOk_at 4 n.gates 0 hh kk h
    rw [Nat.zero_add, hg, hb] at this
    cases this
theorem within_bad {lo hi : Int} {l : List Int} {j : Nat} (h : j < l.length) (hb : l[j] < lo ∨ hi < l[j]) : withinB lo hi l = false := by
  unfold withinB
  rw [List.all_eq_false]
  exact ⟨l[j], List.getElem_mem h, by simp; omega⟩
theorem within_good {lo hi : Int} {l : List Int} (h : ∀ j (hj : j < l.length), lo ≤ l[j] ∧ l[j] ≤ hi) : withinB lo hi l = true := by
  unfold withinB
  rw [List.all_eq_true]
  intro x hx
  obtain ⟨j, hj, rfl⟩ := List.getElem_of_mem hx
  have := h j hj
  simp [this]

set_option maxHeartbeats 8000000 in
set_option maxRecDepth 100000 in
theorem fine_any (vg vo : Value) (n : Net) (w : World) (F : Nat → Prop) (hF : ∀ b, F b → b < w.heap.size) (hg : SlG F w vg n.gates) (ho : SlI F w vo n.outs) (hl : n.gates.length ≤ 20000) :
    Calls Try.prog 8 #[.agg #[vg, vo]] w fun e w' => e = .returned (.bool (netOk 4 n)) ∧ Below w.heap.size w w' := by
  obtain ⟨A, c, rfl, hlc, hll, hat⟩ := hg.open
  have H := Lib.hid hat
  have how : ∀ (W : World), Below w.heap.size w W → SlI F W vo n.outs := fun W hb => ho.keep (Agree.below hb hF)
  have HO := Lib.hid how
  clear hat hg how hlc hll ho
  go_enter Try.func8, Try.ntmps8
  go_wp2_with fail
  go_loopg [14] n.gates.length (fun gg s wr => ∃ kk : Nat, kk ≤ n.gates.length ∧ n.gates.length - kk ≤ gg ∧ s = .int .i64 kk ∧ Aside (Below w.heap.size w wr) ∧ Aside (wr.cell? ⟨w.heap.size, 1, none⟩ = some vo) ∧ Aside (wr.cell? ⟨w.heap.size, 0, none⟩ = some (.slice A n.gates.length c)) ∧ Aside (w.heap.size + 1 ≤ wr.heap.size) ∧
      Aside (∀ k (hk : k < n.gates.length), k < kk → gateOk 4 k n.gates[k] = true))
  case atStart => exact ⟨0, Nat.zero_le _, by omega, rfl, Ba (B0 w) _, by simp [Aside], by simp [Aside], by simp [Aside], fun k _ hk => absurd hk (Nat.not_lt_zero _)⟩
  case round =>
    obtain ⟨kk, hkk, hgk, rfl, BW, CO, CG, SZ, OKS⟩ := hrel
    by_cases hlt : kk < n.gates.length
    · obtain ⟨ad, u, rfl, hb, hu, hc⟩ := H.out kk hlt
      have hc' := hc.below BW.out (by rw [block_of_add]; exact hF _ hb)
      have h0 := hc'.f0 rfl
      have h1 := hc'.f1 rfl
      have h2 := hc'.f2 rfl
      have hu' := hu.keep (Agree.below BW.out hF)
      have hbad := fun g (hg : n.gates[kk] = g) (hb : gateOk 4 kk g = false) => fine_bad hlt hg hb
      have hFr : ∀ x, F x → x < wr.heap.size := fun x hx => by have := hF x hx; have := SZ.out; omega
      have HFr := Lib.hid hFr
      have hgood := fun (hok : gateOk 4 kk n.gates[kk] = true) => (fun k hk hkk' => by
        rcases Nat.lt_succ_iff_lt_or_eq.1 hkk' with h | h
        · exact OKS.out k hk h
        · subst h; exact hok : ∀ k (hk : k < n.gates.length), k < kk + 1 → gateOk 4 k n.gates[k] = true)
      clear hc hc' hu hFr
      generalize hgx : n.gates[kk] = g at *
      have hbad' := hbad g rfl
      have HB := Lib.hid hbad'
      have HG := Lib.hid hgood
      clear hbad hbad' hgood hgx
      obtain ⟨kd, ar, ins⟩ := g
      dsimp only at h0 h1 h2 hu'
      rw [gateOk_kind] at HB HG
      obtain ⟨A', c', rfl, hlc', hll', hati⟩ := hu'.open
      have HI := Lib.hid hati
      clear hati hu'
      by_cases k1 : kd = 1
      · subst k1
        by_cases a0 : 0 ≤ ar
        · by_cases a4 : ar ≤ 3
          · have a4' : ar < 4 := by omega
            by_cases l0 : ins.length = 0
            · have L0 : ((ins.length : Int) == 0) = true := by simp [l0]
              have hkb : kindOk 1 ar ins.length = true := by simp [kindOk, l0, a0, a4]
              have HKB := Lib.hid hkb
              clear hkb l0 a4
              obtain ⟨wo, rfl⟩ : ∃ wo : World, wo = wr := ⟨_, rfl⟩
              go_wp2_with fail
              go_loop [101] (fun s => ∃ jj : Nat, jj ≤ ins.length ∧ s = .int .i64 jj ∧ Aside (∀ j (hj : j < ins.length), j < jj → 0 ≤ ins[j] ∧ ins[j] ≤ (kk : Int) - 1)) (fun s => ins.length - (intOf s).toNat)
              case atStart => exact ⟨0, Nat.zero_le _, rfl, fun j _ hj => absurd hj (Nat.not_lt_zero _)⟩
              case round =>
                obtain ⟨jj, hjj, rfl, INS⟩ := hrel
                by_cases hlj : jj < ins.length
                · obtain ⟨adi, rfl, hbi, hci⟩ := HI.out jj hlj
                  have hba : (adi.add jj).block < wo.heap.size := by rw [block_of_add]; exact HFr.out _ hbi
                  have hwb := fun h => within_bad (lo := 0) (hi := (kk : Int) - 1) hlj h
                  have hwg : (0 ≤ ins[jj] ∧ ins[jj] ≤ (kk : Int) - 1) → (∀ j (hj : j < ins.length), j < jj + 1 → 0 ≤ ins[j] ∧ ins[j] ≤ (kk : Int) - 1) := fun h j hj hjj => by
                    rcases Nat.lt_succ_iff_lt_or_eq.1 hjj with h' | h'
                    · exact INS.out j hj h'
                    · subst h'; exact h
                  generalize ins[jj] = iv at *
                  by_cases hneg : iv < 0
                  · have HWB := Lib.hid (hwb (.inl hneg))
                    clear hwb hwg
                    go_wp2
                    go_ret
                    exact ⟨by rw [HB.out (by rw [HWB.out, Bool.and_false])]; rfl, Ba BW.out _⟩
                  · by_cases hbig : (kk : Int) ≤ iv
                    · have HWB := Lib.hid (hwb (.inr (by omega)))
                      clear hwb hwg
                      go_wp2
                      go_ret
                      exact ⟨by rw [HB.out (by rw [HWB.out, Bool.and_false])]; rfl, Ba BW.out _⟩
                    · have HWG := Lib.hid (hwg ⟨by omega, by omega⟩)
                      clear hwb hwg
                      go_wp2
                      go_round
                      case rel => exact ⟨jj + 1, by omega, by go_num, HWG.out⟩
                      case measure => simp [intOf]; omega
                · have : jj = ins.length := by omega
                  subst this
                  have hok := HG.out (by rw [HKB.out, within_good fun j hj => INS.out j hj hj]; rfl)
                  have HOK := Lib.hid hok
                  have d0 : (wo.alloc (.cells #[.int .i64 1, .int .i64 ar, .slice A' ins.length c'] 38)).cell? ⟨w.heap.size, 1, none⟩ = some vo := by rw [World.cell?_alloc_past _ _ _ (show w.heap.size < wo.heap.size by have := SZ.out; omega)]; exact CO.out
                  have d1 : (wo.alloc (.cells #[.int .i64 1, .int .i64 ar, .slice A' ins.length c'] 38)).cell? ⟨w.heap.size, 0, none⟩ = some (.slice (some ad) n.gates.length c) := by rw [World.cell?_alloc_past _ _ _ (show w.heap.size < wo.heap.size by have := SZ.out; omega)]; exact CG.out
                  have D0 := Lib.hid d0
                  have D1 := Lib.hid d1
                  clear hok INS HI d0 d1
                  go_wp2
                  go_roundg (n.gates.length - (kk + 1))
                  case measure => omega
                  case rel => exact ⟨kk + 1, by omega, by omega, by go_num, Ba BW.out _, D0.out, D1.out, by have := SZ.out; show _ ≤ (wo.alloc _).heap.size; simp; omega, HOK.out⟩
            · have L0 : ((ins.length : Int) == 0) = false := beq_eq_false_iff_ne.2 (by omega)
              have hkb : kindOk 1 ar ins.length = false := by simp [kindOk, l0]
              have HKB := Lib.hid hkb
              clear hkb l0 a4
              go_wp2
              go_ret
              exact ⟨by rw [HB.out (by rw [HKB.out]; rfl)]; rfl, Ba BW.out _⟩
          · have a4' : 4 ≤ ar := by omega
            have a4b : decide (ar < 4) = false := decide_eq_false (by omega)
            by_cases l0 : ins.length = 0
            · have L0 : ((ins.length : Int) == 0) = true := by simp [l0]
              have hkb : kindOk 1 ar ins.length = false := by simp [kindOk, a4]
              have HKB := Lib.hid hkb
              clear hkb l0 a4
              go_wp2
              go_ret
              exact ⟨by rw [HB.out (by rw [HKB.out]; rfl)]; rfl, Ba BW.out _⟩
            · have L0 : ((ins.length : Int) == 0) = false := beq_eq_false_iff_ne.2 (by omega)
              have hkb : kindOk 1 ar ins.length = false := by simp [kindOk, a4]
              have HKB := Lib.hid hkb
              clear hkb l0 a4
              go_wp2
              go_ret
              exact ⟨by rw [HB.out (by rw [HKB.out]; rfl)]; rfl, Ba BW.out _⟩
        · have a0' : ar < 0 := by omega
          by_cases l0 : ins.length = 0
          · have L0 : ((ins.length : Int) == 0) = true := by simp [l0]
            have hkb : kindOk 1 ar ins.length = false := by simp [kindOk, a0]
            have HKB := Lib.hid hkb
            clear hkb l0 a0
            go_wp2
            go_ret
            exact ⟨by rw [HB.out (by rw [HKB.out]; rfl)]; rfl, Ba BW.out _⟩
          · have L0 : ((ins.length : Int) == 0) = false := beq_eq_false_iff_ne.2 (by omega)
            have hkb : kindOk 1 ar ins.length = false := by simp [kindOk, a0]
            have HKB := Lib.hid hkb
            clear hkb l0 a0
            go_wp2
            go_ret
            exact ⟨by rw [HB.out (by rw [HKB.out]; rfl)]; rfl, Ba BW.out _⟩
      by_cases k2 : kd = 2
      · subst k2
        by_cases l1 : ins.length = 1
        · have L1 : ((ins.length : Int) == 1) = true := beq_iff_eq.2 (by omega)
          by_cases r0 : ar = 0
          · have R0 : (ar == 0) = true := by simp [r0]
            have hkb : kindOk 2 ar ins.length = true := by simp [kindOk, r0, l1]
            have HKB := Lib.hid hkb
            clear hkb r0 l1
            obtain ⟨wo, rfl⟩ : ∃ wo : World, wo = wr := ⟨_, rfl⟩
            go_wp2_with fail
            go_loop [101] (fun s => ∃ jj : Nat, jj ≤ ins.length ∧ s = .int .i64 jj ∧ Aside (∀ j (hj : j < ins.length), j < jj → 0 ≤ ins[j] ∧ ins[j] ≤ (kk : Int) - 1)) (fun s => ins.length - (intOf s).toNat)
            case atStart => exact ⟨0, Nat.zero_le _, rfl, fun j _ hj => absurd hj (Nat.not_lt_zero _)⟩
            case round =>
              obtain ⟨jj, hjj, rfl, INS⟩ := hrel
              by_cases hlj : jj < ins.length
              · obtain ⟨adi, rfl, hbi, hci⟩ := HI.out jj hlj
                have hba : (adi.add jj).block < wo.heap.size := by rw [block_of_add]; exact HFr.out _ hbi
                have hwb := fun h => within_bad (lo := 0) (hi := (kk : Int) - 1) hlj h
                have hwg : (0 ≤ ins[jj] ∧ ins[jj] ≤ (kk : Int) - 1) → (∀ j (hj : j < ins.length), j < jj + 1 → 0 ≤ ins[j] ∧ ins[j] ≤ (kk : Int) - 1) := fun h j hj hjj => by
                  rcases Nat.lt_succ_iff_lt_or_eq.1 hjj with h' | h'
                  · exact INS.out j hj h'
                  · subst h'; exact h
                generalize ins[jj] = iv at *
                by_cases hneg : iv < 0
                · have HWB := Lib.hid (hwb (.inl hneg))
                  clear hwb hwg
                  go_wp2
                  go_ret
                  exact ⟨by rw [HB.out (by rw [HWB.out, Bool.and_false])]; rfl, Ba BW.out _⟩
                · by_cases hbig : (kk : Int) ≤ iv
                  · have HWB := Lib.hid (hwb (.inr (by omega)))
                    clear hwb hwg
                    go_wp2
                    go_ret
                    exact ⟨by rw [HB.out (by rw [HWB.out, Bool.and_false])]; rfl, Ba BW.out _⟩
                  · have HWG := Lib.hid (hwg ⟨by omega, by omega⟩)
                    clear hwb hwg
                    go_wp2
                    go_round
                    case rel => exact ⟨jj + 1, by omega, by go_num, HWG.out⟩
                    case measure => simp [intOf]; omega
              · have : jj = ins.length := by omega
                subst this
                have hok := HG.out (by rw [HKB.out, within_good fun j hj => INS.out j hj hj]; rfl)
                have HOK := Lib.hid hok
                have d0 : (wo.alloc (.cells #[.int .i64 2, .int .i64 ar, .slice A' ins.length c'] 38)).cell? ⟨w.heap.size, 1, none⟩ = some vo := by rw [World.cell?_alloc_past _ _ _ (show w.heap.size < wo.heap.size by have := SZ.out; omega)]; exact CO.out
                have d1 : (wo.alloc (.cells #[.int .i64 2, .int .i64 ar, .slice A' ins.length c'] 38)).cell? ⟨w.heap.size, 0, none⟩ = some (.slice (some ad) n.gates.length c) := by rw [World.cell?_alloc_past _ _ _ (show w.heap.size < wo.heap.size by have := SZ.out; omega)]; exact CG.out
                have D0 := Lib.hid d0
                have D1 := Lib.hid d1
                clear hok INS HI d0 d1
                go_wp2
                go_roundg (n.gates.length - (kk + 1))
                case measure => omega
                case rel => exact ⟨kk + 1, by omega, by omega, by go_num, Ba BW.out _, D0.out, D1.out, by have := SZ.out; show _ ≤ (wo.alloc _).heap.size; simp; omega, HOK.out⟩
          · have R0 : (ar == 0) = false := by simpa using r0
            have hkb : kindOk 2 ar ins.length = false := by simp [kindOk, r0]
            have HKB := Lib.hid hkb
            clear hkb r0 l1
            go_wp2
            go_ret
            exact ⟨by rw [HB.out (by rw [HKB.out]; rfl)]; rfl, Ba BW.out _⟩
        · have L1 : ((ins.length : Int) == 1) = false := beq_eq_false_iff_ne.2 (by omega)
          by_cases r0 : ar = 0
          · have R0 : (ar == 0) = true := by simp [r0]
            have hkb : kindOk 2 ar ins.length = false := by simp [kindOk, r0, l1]
            have HKB := Lib.hid hkb
            clear hkb r0 l1
            go_wp2
            go_ret
            exact ⟨by rw [HB.out (by rw [HKB.out]; rfl)]; rfl, Ba BW.out _⟩
          · have R0 : (ar == 0) = false := by simpa using r0
            have hkb : kindOk 2 ar ins.length = false := by simp [kindOk, r0]
            have HKB := Lib.hid hkb
            clear hkb r0 l1
            go_wp2
            go_ret
            exact ⟨by rw [HB.out (by rw [HKB.out]; rfl)]; rfl, Ba BW.out _⟩
      by_cases k3 : kd = 3
      · subst k3
        by_cases r0 : ar = 0
        · have R0 : (ar == 0) = true := by simp [r0]
          have hkb : kindOk 3 ar ins.length = true := by simp [kindOk, r0]
          have HKB := Lib.hid hkb
          clear hkb r0
          obtain ⟨wo, rfl⟩ : ∃ wo : World, wo = wr := ⟨_, rfl⟩
          go_wp2_with fail
          go_loop [101] (fun s => ∃ jj : Nat, jj ≤ ins.length ∧ s = .int .i64 jj ∧ Aside (∀ j (hj : j < ins.length), j < jj → 0 ≤ ins[j] ∧ ins[j] ≤ (kk : Int) - 1)) (fun s => ins.length - (intOf s).toNat)
          case atStart => exact ⟨0, Nat.zero_le _, rfl, fun j _ hj => absurd hj (Nat.not_lt_zero _)⟩
          case round =>
            obtain ⟨jj, hjj, rfl, INS⟩ := hrel
            by_cases hlj : jj < ins.length
            · obtain ⟨adi, rfl, hbi, hci⟩ := HI.out jj hlj
              have hba : (adi.add jj).block < wo.heap.size := by rw [block_of_add]; exact HFr.out _ hbi
              have hwb := fun h => within_bad (lo := 0) (hi := (kk : Int) - 1) hlj h
              have hwg : (0 ≤ ins[jj] ∧ ins[jj] ≤ (kk : Int) - 1) → (∀ j (hj : j < ins.length), j < jj + 1 → 0 ≤ ins[j] ∧ ins[j] ≤ (kk : Int) - 1) := fun h j hj hjj => by
                rcases Nat.lt_succ_iff_lt_or_eq.1 hjj with h' | h'
                · exact INS.out j hj h'
                · subst h'; exact h
              generalize ins[jj] = iv at *
              by_cases hneg : iv < 0
              · have HWB := Lib.hid (hwb (.inl hneg))
                clear hwb hwg
                go_wp2
                go_ret
                exact ⟨by rw [HB.out (by rw [HWB.out, Bool.and_false])]; rfl, Ba BW.out _⟩
              · by_cases hbig : (kk : Int) ≤ iv
                · have HWB := Lib.hid (hwb (.inr (by omega)))
                  clear hwb hwg
                  go_wp2
                  go_ret
                  exact ⟨by rw [HB.out (by rw [HWB.out, Bool.and_false])]; rfl, Ba BW.out _⟩
                · have HWG := Lib.hid (hwg ⟨by omega, by omega⟩)
                  clear hwb hwg
                  go_wp2
                  go_round
                  case rel => exact ⟨jj + 1, by omega, by go_num, HWG.out⟩
                  case measure => simp [intOf]; omega
            · have : jj = ins.length := by omega
              subst this
              have hok := HG.out (by rw [HKB.out, within_good fun j hj => INS.out j hj hj]; rfl)
              have HOK := Lib.hid hok
              have d0 : (wo.alloc (.cells #[.int .i64 3, .int .i64 ar, .slice A' ins.length c'] 38)).cell? ⟨w.heap.size, 1, none⟩ = some vo := by rw [World.cell?_alloc_past _ _ _ (show w.heap.size < wo.heap.size by have := SZ.out; omega)]; exact CO.out
              have d1 : (wo.alloc (.cells #[.int .i64 3, .int .i64 ar, .slice A' ins.length c'] 38)).cell? ⟨w.heap.size, 0, none⟩ = some (.slice (some ad) n.gates.length c) := by rw [World.cell?_alloc_past _ _ _ (show w.heap.size < wo.heap.size by have := SZ.out; omega)]; exact CG.out
              have D0 := Lib.hid d0
              have D1 := Lib.hid d1
              clear hok INS HI d0 d1
              go_wp2
              go_roundg (n.gates.length - (kk + 1))
              case measure => omega
              case rel => exact ⟨kk + 1, by omega, by omega, by go_num, Ba BW.out _, D0.out, D1.out, by have := SZ.out; show _ ≤ (wo.alloc _).heap.size; simp; omega, HOK.out⟩
        · have R0 : (ar == 0) = false := by simpa using r0
          have hkb : kindOk 3 ar ins.length = false := by simp [kindOk, r0]
          have HKB := Lib.hid hkb
          clear hkb r0
          go_wp2
          go_ret
          exact ⟨by rw [HB.out (by rw [HKB.out]; rfl)]; rfl, Ba BW.out _⟩
      by_cases k4 : kd = 4
      · subst k4
        by_cases r0 : ar = 0
        · have R0 : (ar == 0) = true := by simp [r0]
          have hkb : kindOk 4 ar ins.length = true := by simp [kindOk, r0]
          have HKB := Lib.hid hkb
          clear hkb r0
          obtain ⟨wo, rfl⟩ : ∃ wo : World, wo = wr := ⟨_, rfl⟩
          go_wp2_with fail
          go_loop [101] (fun s => ∃ jj : Nat, jj ≤ ins.length ∧ s = .int .i64 jj ∧ Aside (∀ j (hj : j < ins.length), j < jj → 0 ≤ ins[j] ∧ ins[j] ≤ (kk : Int) - 1)) (fun s => ins.length - (intOf s).toNat)
          case atStart => exact ⟨0, Nat.zero_le _, rfl, fun j _ hj => absurd hj (Nat.not_lt_zero _)⟩
          case round =>
            obtain ⟨jj, hjj, rfl, INS⟩ := hrel
            by_cases hlj : jj < ins.length
            · obtain ⟨adi, rfl, hbi, hci⟩ := HI.out jj hlj
              have hba : (adi.add jj).block < wo.heap.size := by rw [block_of_add]; exact HFr.out _ hbi
              have hwb := fun h => within_bad (lo := 0) (hi := (kk : Int) - 1) hlj h
              have hwg : (0 ≤ ins[jj] ∧ ins[jj] ≤ (kk : Int) - 1) → (∀ j (hj : j < ins.length), j < jj + 1 → 0 ≤ ins[j] ∧ ins[j] ≤ (kk : Int) - 1) := fun h j hj hjj => by
                rcases Nat.lt_succ_iff_lt_or_eq.1 hjj with h' | h'
                · exact INS.out j hj h'
                · subst h'; exact h
              generalize ins[jj] = iv at *
              by_cases hneg : iv < 0
              · have HWB := Lib.hid (hwb (.inl hneg))
                clear hwb hwg
                go_wp2
                go_ret
                exact ⟨by rw [HB.out (by rw [HWB.out, Bool.and_false])]; rfl, Ba BW.out _⟩
              · by_cases hbig : (kk : Int) ≤ iv
                · have HWB := Lib.hid (hwb (.inr (by omega)))
                  clear hwb hwg
                  go_wp2
                  go_ret
                  exact ⟨by rw [HB.out (by rw [HWB.out, Bool.and_false])]; rfl, Ba BW.out _⟩
                · have HWG := Lib.hid (hwg ⟨by omega, by omega⟩)
                  clear hwb hwg
                  go_wp2
                  go_round
                  case rel => exact ⟨jj + 1, by omega, by go_num, HWG.out⟩
                  case measure => simp [intOf]; omega
            · have : jj = ins.length := by omega
              subst this
              have hok := HG.out (by rw [HKB.out, within_good fun j hj => INS.out j hj hj]; rfl)
              have HOK := Lib.hid hok
              have d0 : (wo.alloc (.cells #[.int .i64 4, .int .i64 ar, .slice A' ins.length c'] 38)).cell? ⟨w.heap.size, 1, none⟩ = some vo := by rw [World.cell?_alloc_past _ _ _ (show w.heap.size < wo.heap.size by have := SZ.out; omega)]; exact CO.out
              have d1 : (wo.alloc (.cells #[.int .i64 4, .int .i64 ar, .slice A' ins.length c'] 38)).cell? ⟨w.heap.size, 0, none⟩ = some (.slice (some ad) n.gates.length c) := by rw [World.cell?_alloc_past _ _ _ (show w.heap.size < wo.heap.size by have := SZ.out; omega)]; exact CG.out
              have D0 := Lib.hid d0
              have D1 := Lib.hid d1
              clear hok INS HI d0 d1
              go_wp2
              go_roundg (n.gates.length - (kk + 1))
              case measure => omega
              case rel => exact ⟨kk + 1, by omega, by omega, by go_num, Ba BW.out _, D0.out, D1.out, by have := SZ.out; show _ ≤ (wo.alloc _).heap.size; simp; omega, HOK.out⟩
        · have R0 : (ar == 0) = false := by simpa using r0
          have hkb : kindOk 4 ar ins.length = false := by simp [kindOk, r0]
          have HKB := Lib.hid hkb
          clear hkb r0
          go_wp2
          go_ret
          exact ⟨by rw [HB.out (by rw [HKB.out]; rfl)]; rfl, Ba BW.out _⟩
      by_cases k5 : kd = 5
      · subst k5
        by_cases l0 : ins.length = 0
        · have L0 : ((ins.length : Int) == 0) = true := by simp [l0]
          by_cases r0 : ar = 0
          · have R0 : (ar == 0) = true := by simp [r0]
            have hkb : kindOk 5 ar ins.length = true := by simp [kindOk, r0, l0]
            have HKB := Lib.hid hkb
            clear hkb r0 l0
            obtain ⟨wo, rfl⟩ : ∃ wo : World, wo = wr := ⟨_, rfl⟩
            go_wp2_with fail
            go_loop [101] (fun s => ∃ jj : Nat, jj ≤ ins.length ∧ s = .int .i64 jj ∧ Aside (∀ j (hj : j < ins.length), j < jj → 0 ≤ ins[j] ∧ ins[j] ≤ (kk : Int) - 1)) (fun s => ins.length - (intOf s).toNat)
            case atStart => exact ⟨0, Nat.zero_le _, rfl, fun j _ hj => absurd hj (Nat.not_lt_zero _)⟩
            case round =>
              obtain ⟨jj, hjj, rfl, INS⟩ := hrel
              by_cases hlj : jj < ins.length
              · obtain ⟨adi, rfl, hbi, hci⟩ := HI.out jj hlj
                have hba : (adi.add jj).block < wo.heap.size := by rw [block_of_add]; exact HFr.out _ hbi
                have hwb := fun h => within_bad (lo := 0) (hi := (kk : Int) - 1) hlj h
                have hwg : (0 ≤ ins[jj] ∧ ins[jj] ≤ (kk : Int) - 1) → (∀ j (hj : j < ins.length), j < jj + 1 → 0 ≤ ins[j] ∧ ins[j] ≤ (kk : Int) - 1) := fun h j hj hjj => by
                  rcases Nat.lt_succ_iff_lt_or_eq.1 hjj with h' | h'
                  · exact INS.out j hj h'
                  · subst h'; exact h
                generalize ins[jj] = iv at *
                by_cases hneg : iv < 0
                · have HWB := Lib.hid (hwb (.inl hneg))
                  clear hwb hwg
                  go_wp2
                  go_ret
                  exact ⟨by rw [HB.out (by rw [HWB.out, Bool.and_false])]; rfl, Ba BW.out _⟩
                · by_cases hbig : (kk : Int) ≤ iv
                  · have HWB := Lib.hid (hwb (.inr (by omega)))
                    clear hwb hwg
                    go_wp2
                    go_ret
                    exact ⟨by rw [HB.out (by rw [HWB.out, Bool.and_false])]; rfl, Ba BW.out _⟩
                  · have HWG := Lib.hid (hwg ⟨by omega, by omega⟩)
                    clear hwb hwg
                    go_wp2
                    go_round
                    case rel => exact ⟨jj + 1, by omega, by go_num, HWG.out⟩
                    case measure => simp [intOf]; omega
              · have : jj = ins.length := by omega
                subst this
                have hok := HG.out (by rw [HKB.out, within_good fun j hj => INS.out j hj hj]; rfl)
                have HOK := Lib.hid hok
                have d0 : (wo.alloc (.cells #[.int .i64 5, .int .i64 ar, .slice A' ins.length c'] 38)).cell? ⟨w.heap.size, 1, none⟩ = some vo := by rw [World.cell?_alloc_past _ _ _ (show w.heap.size < wo.heap.size by have := SZ.out; omega)]; exact CO.out
                have d1 : (wo.alloc (.cells #[.int .i64 5, .int .i64 ar, .slice A' ins.length c'] 38)).cell? ⟨w.heap.size, 0, none⟩ = some (.slice (some ad) n.gates.length c) := by rw [World.cell?_alloc_past _ _ _ (show w.heap.size < wo.heap.size by have := SZ.out; omega)]; exact CG.out
                have D0 := Lib.hid d0
                have D1 := Lib.hid d1
                clear hok INS HI d0 d1
                go_wp2
                go_roundg (n.gates.length - (kk + 1))
                case measure => omega
                case rel => exact ⟨kk + 1, by omega, by omega, by go_num, Ba BW.out _, D0.out, D1.out, by have := SZ.out; show _ ≤ (wo.alloc _).heap.size; simp; omega, HOK.out⟩
          · have R0 : (ar == 0) = false := by simpa using r0
            have hkb : kindOk 5 ar ins.length = false := by simp [kindOk, r0]
            have HKB := Lib.hid hkb
            clear hkb r0 l0
            go_wp2
            go_ret
            exact ⟨by rw [HB.out (by rw [HKB.out]; rfl)]; rfl, Ba BW.out _⟩
        · have L0 : ((ins.length : Int) == 0) = false := beq_eq_false_iff_ne.2 (by omega)
          by_cases r0 : ar = 0
          · have R0 : (ar == 0) = true := by simp [r0]
            have hkb : kindOk 5 ar ins.length = false := by simp [kindOk, r0, l0]
            have HKB := Lib.hid hkb
            clear hkb r0 l0
            go_wp2
            go_ret
            exact ⟨by rw [HB.out (by rw [HKB.out]; rfl)]; rfl, Ba BW.out _⟩
          · have R0 : (ar == 0) = false := by simpa using r0
            have hkb : kindOk 5 ar ins.length = false := by simp [kindOk, r0]
            have HKB := Lib.hid hkb
            clear hkb r0 l0
            go_wp2
            go_ret
            exact ⟨by rw [HB.out (by rw [HKB.out]; rfl)]; rfl, Ba BW.out _⟩
      by_cases k6 : kd = 6
      · subst k6
        by_cases l0 : ins.length = 0
        · have L0 : ((ins.length : Int) == 0) = true := by simp [l0]
          by_cases r0 : ar = 0
          · have R0 : (ar == 0) = true := by simp [r0]
            have hkb : kindOk 6 ar ins.length = true := by simp [kindOk, r0, l0]
            have HKB := Lib.hid hkb
            clear hkb r0 l0
            obtain ⟨wo, rfl⟩ : ∃ wo : World, wo = wr := ⟨_, rfl⟩
            go_wp2_with fail
            go_loop [101] (fun s => ∃ jj : Nat, jj ≤ ins.length ∧ s = .int .i64 jj ∧ Aside (∀ j (hj : j < ins.length), j < jj → 0 ≤ ins[j] ∧ ins[j] ≤ (kk : Int) - 1)) (fun s => ins.length - (intOf s).toNat)
            case atStart => exact ⟨0, Nat.zero_le _, rfl, fun j _ hj => absurd hj (Nat.not_lt_zero _)⟩
            case round =>
              obtain ⟨jj, hjj, rfl, INS⟩ := hrel
              by_cases hlj : jj < ins.length
              · obtain ⟨adi, rfl, hbi, hci⟩ := HI.out jj hlj
                have hba : (adi.add jj).block < wo.heap.size := by rw [block_of_add]; exact HFr.out _ hbi
                have hwb := fun h => within_bad (lo := 0) (hi := (kk : Int) - 1) hlj h
                have hwg : (0 ≤ ins[jj] ∧ ins[jj] ≤ (kk : Int) - 1) → (∀ j (hj : j < ins.length), j < jj + 1 → 0 ≤ ins[j] ∧ ins[j] ≤ (kk : Int) - 1) := fun h j hj hjj => by
                  rcases Nat.lt_succ_iff_lt_or_eq.1 hjj with h' | h'
                  · exact INS.out j hj h'
                  · subst h'; exact h
                generalize ins[jj] = iv at *
                by_cases hneg : iv < 0
                · have HWB := Lib.hid (hwb (.inl hneg))
                  clear hwb hwg
                  go_wp2
                  go_ret
                  exact ⟨by rw [HB.out (by rw [HWB.out, Bool.and_false])]; rfl, Ba BW.out _⟩
                · by_cases hbig : (kk : Int) ≤ iv
                  · have HWB := Lib.hid (hwb (.inr (by omega)))
                    clear hwb hwg
                    go_wp2
                    go_ret
                    exact ⟨by rw [HB.out (by rw [HWB.out, Bool.and_false])]; rfl, Ba BW.out _⟩
                  · have HWG := Lib.hid (hwg ⟨by omega, by omega⟩)
                    clear hwb hwg
                    go_wp2
                    go_round
                    case rel => exact ⟨jj + 1, by omega, by go_num, HWG.out⟩
                    case measure => simp [intOf]; omega
              · have : jj = ins.length := by omega
                subst this
                have hok := HG.out (by rw [HKB.out, within_good fun j hj => INS.out j hj hj]; rfl)
                have HOK := Lib.hid hok
                have d0 : (wo.alloc (.cells #[.int .i64 6, .int .i64 ar, .slice A' ins.length c'] 38)).cell? ⟨w.heap.size, 1, none⟩ = some vo := by rw [World.cell?_alloc_past _ _ _ (show w.heap.size < wo.heap.size by have := SZ.out; omega)]; exact CO.out
                have d1 : (wo.alloc (.cells #[.int .i64 6, .int .i64 ar, .slice A' ins.length c'] 38)).cell? ⟨w.heap.size, 0, none⟩ = some (.slice (some ad) n.gates.length c) := by rw [World.cell?_alloc_past _ _ _ (show w.heap.size < wo.heap.size by have := SZ.out; omega)]; exact CG.out
                have D0 := Lib.hid d0
                have D1 := Lib.hid d1
                clear hok INS HI d0 d1
                go_wp2
                go_roundg (n.gates.length - (kk + 1))
                case measure => omega
                case rel => exact ⟨kk + 1, by omega, by omega, by go_num, Ba BW.out _, D0.out, D1.out, by have := SZ.out; show _ ≤ (wo.alloc _).heap.size; simp; omega, HOK.out⟩
          · have R0 : (ar == 0) = false := by simpa using r0
            have hkb : kindOk 6 ar ins.length = false := by simp [kindOk, r0]
            have HKB := Lib.hid hkb
            clear hkb r0 l0
            go_wp2
            go_ret
            exact ⟨by rw [HB.out (by rw [HKB.out]; rfl)]; rfl, Ba BW.out _⟩
        · have L0 : ((ins.length : Int) == 0) = false := beq_eq_false_iff_ne.2 (by omega)
          by_cases r0 : ar = 0
          · have R0 : (ar == 0) = true := by simp [r0]
            have hkb : kindOk 6 ar ins.length = false := by simp [kindOk, r0, l0]
            have HKB := Lib.hid hkb
            clear hkb r0 l0
            go_wp2
            go_ret
            exact ⟨by rw [HB.out (by rw [HKB.out]; rfl)]; rfl, Ba BW.out _⟩
          · have R0 : (ar == 0) = false := by simpa using r0
            have hkb : kindOk 6 ar ins.length = false := by simp [kindOk, r0]
            have HKB := Lib.hid hkb
            clear hkb r0 l0
            go_wp2
            go_ret
            exact ⟨by rw [HB.out (by rw [HKB.out]; rfl)]; rfl, Ba BW.out _⟩
      have K1 : (kd == 1) = false := by simpa using k1
      have K2 : (kd == 2) = false := by simpa using k2
      have K3 : (kd == 3) = false := by simpa using k3
      have K4 : (kd == 4) = false := by simpa using k4
      have K5 : (kd == 5) = false := by simpa using k5
      have K6 : (kd == 6) = false := by simpa using k6
      have K0 : (kd != 1) = true := by simpa using k1
      by_cases lo : kd < 1
      · by_cases r0 : ar = 0
        · have R0 : (ar == 0) = true := by simp [r0]
          have hkb : kindOk kd ar ins.length = false := by simp [kindOk, k1, k2, k3, k4, k5, k6]
          have HKB := Lib.hid hkb
          clear hkb r0 k1 k2 k3 k4 k5 k6
          go_wp2
          go_ret
          exact ⟨by rw [HB.out (by rw [HKB.out]; rfl)]; rfl, Ba BW.out _⟩
        · have R0 : (ar == 0) = false := by simpa using r0
          have hkb : kindOk kd ar ins.length = false := by simp [kindOk, k1, k2, k3, k4, k5, k6]
          have HKB := Lib.hid hkb
          clear hkb r0 k1 k2 k3 k4 k5 k6
          go_wp2
          go_ret
          exact ⟨by rw [HB.out (by rw [HKB.out]; rfl)]; rfl, Ba BW.out _⟩
      · have hi : 6 < kd := by omega
        have lo' : 1 ≤ kd := by omega
        by_cases r0 : ar = 0
        · have R0 : (ar == 0) = true := by simp [r0]
          have hkb : kindOk kd ar ins.length = false := by simp [kindOk, k1, k2, k3, k4, k5, k6]
          have HKB := Lib.hid hkb
          clear hkb r0 k1 k2 k3 k4 k5 k6
          go_wp2
          go_ret
          exact ⟨by rw [HB.out (by rw [HKB.out]; rfl)]; rfl, Ba BW.out _⟩
        · have R0 : (ar == 0) = false := by simpa using r0
          have hkb : kindOk kd ar ins.length = false := by simp [kindOk, k1, k2, k3, k4, k5, k6]
          have HKB := Lib.hid hkb
          clear hkb r0 k1 k2 k3 k4 k5 k6
          go_wp2
          go_ret
          exact ⟨by rw [HB.out (by rw [HKB.out]; rfl)]; rfl, Ba BW.out _⟩
    · have : kk = n.gates.length := by omega
      subst this
      have hgo : gatesOk 4 0 n.gates = true := gatesOk_all 4 _ 0 fun k hk => by rw [Nat.zero_add]; exact OKS.out k hk hk
      have hno : netOk 4 n = withinB 0 ((n.gates.length : Int) - 1) n.outs := by unfold netOk; rw [hgo, decide_eq_true hl]; simp
      have HNO := Lib.hid hno
      have hvo := HO.out _ BW.out
      obtain ⟨Ao, co, rfl, hlo1, hlo2, hao⟩ := hvo.open
      have HA := Lib.hid hao
      have c0 := CO.out
      have c1 := CG.out
      clear hgo hno hvo hao H OKS
      go_wp2_with fail
      go_loop [117] (fun s => ∃ jj : Nat, jj ≤ n.outs.length ∧ s = .int .i64 jj ∧ Aside (∀ j (hj : j < n.outs.length), j < jj → 0 ≤ n.outs[j] ∧ n.outs[j] ≤ (n.gates.length : Int) - 1)) (fun s => n.outs.length - (intOf s).toNat)
      case atStart => exact ⟨0, Nat.zero_le _, rfl, fun j _ hj => absurd hj (Nat.not_lt_zero _)⟩
      case round =>
        obtain ⟨jj, hjj, rfl, INS⟩ := hrel
        by_cases hlj : jj < n.outs.length
        · obtain ⟨adi, rfl, hbi, hci⟩ := HA.out jj hlj
          have hwb := fun h => within_bad (lo := 0) (hi := (n.gates.length : Int) - 1) hlj h
          have hwg : (0 ≤ n.outs[jj] ∧ n.outs[jj] ≤ (n.gates.length : Int) - 1) → (∀ j (hj : j < n.outs.length), j < jj + 1 → 0 ≤ n.outs[j] ∧ n.outs[j] ≤ (n.gates.length : Int) - 1) := fun h j hj hjj => by
            rcases Nat.lt_succ_iff_lt_or_eq.1 hjj with h' | h'
            · exact INS.out j hj h'
            · subst h'; exact h
          generalize n.outs[jj] = iv at *
          by_cases hneg : iv < 0
          · have HWB := Lib.hid (hwb (.inl hneg))
            clear hwb hwg
            go_wp2
            go_ret
            exact ⟨by rw [HNO.out, HWB.out]; rfl, BW.out⟩
          · by_cases hbig : (n.gates.length : Int) ≤ iv
            · have HWB := Lib.hid (hwb (.inr (by omega)))
              clear hwb hwg
              go_wp2
              go_ret
              exact ⟨by rw [HNO.out, HWB.out]; rfl, BW.out⟩
            · have HWG := Lib.hid (hwg ⟨by omega, by omega⟩)
              clear hwb hwg
              go_wp2
              go_round
              case rel => exact ⟨jj + 1, by omega, by go_num, HWG.out⟩
              case measure => simp [intOf]; omega
        · have : jj = n.outs.length := by omega
          subst this
          have hfin := within_good fun j hj => INS.out j hj hj
          have HFIN := Lib.hid hfin
          clear hfin INS HA
          go_wp2
          go_ret
          exact ⟨by rw [HNO.out, HFIN.out]; rfl, BW.out⟩
end Go.Proofs.Ytbcbkllahnahnaa
