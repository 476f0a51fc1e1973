/- Walks over coupler's statements: drawn, same. -/
import Derived.Test.YtnkjhppjjklgfaaDoorKa
import Derived.Test.YtnkjhppjjklgfaaDoorKp
import Derived.Laws.StructEq
namespace Go.Proofs.YtnkjhppjjklgfaaDoor
open Go Go.RowKit Go.Shelf
theorem bit_of (v p : Nat) : ((((v >>> p) &&& 1 : Nat) : Int) == 1) = v.testBit p := by
  rw [Nat.testBit_eq_decide_div_mod_eq, Nat.and_one_is_mod, Nat.shiftRight_eq_div_pow]
  by_cases h : v / 2 ^ p % 2 = 1
  · rw [h]; rfl
  · have : v / 2 ^ p % 2 = 0 := by omega
    rw [this]; rfl
theorem shr_of (v p : Nat) (h : p ≤ 64) : ((v : Nat) : Int) / 2 ^ p = ((v >>> p : Nat) : Int) := by
  have := Hit.shr_nat v p 64 h
  rw [Nat.min_eq_left h, Int.fdiv_eq_ediv_of_nonneg _ (Int.pow_nonneg (by decide))] at this
  exact this
theorem ldrawn_any (vd vc : Value) (d : Nat) (hd : d < 2 ^ 64) (i : Nat) (hi : i < 64) (w : World) :
    Calls Tryd.prog 26 #[.agg #[vd, vc, .int .u64 d], .int .i64 i] w fun e w' => e = .returned (.bool (d.testBit i)) ∧ Below w.heap.size w w' := by
  have h3 : ((i : Nat) : Int) % 18446744073709551616 = i := by omega
  have h4 : min i 64 = i := by omega
  have hsh := shr_of d i (by omega)
  have hle : d >>> i ≤ d := by rw [Nat.shiftRight_eq_div_pow]; exact Nat.div_le_self _ _
  have hand : bits .and .u64 ((d >>> i : Nat) : Int) 1 = ((d >>> i &&& 1 : Nat) : Int) := Hit.u64_and (d >>> i) 1 (by omega) (by omega)
  have hbit := bit_of d i
  generalize d >>> i &&& 1 = vb at *
  generalize d >>> i = vs at *
  have HB : Hid (((vb : Int) == 1) = d.testBit i) := Lib.hid hbit
  clear hle hbit
  go_enter Tryd.func26, Tryd.ntmps26
  go_wp2
  go_ret
  exact ⟨by first | rfl | (rw [HB.out]; rfl), Ba (B0 w) _⟩
theorem SlCt.open {F : Nat → Prop} {w : World} {v : Value} {l : List Cou.Ct} (h : SlCt F w v l) : ∃ A c, v = .slice A l.length c ∧ l.length ≤ c ∧ l.length ≤ 140737488355328 ∧
    ∀ i (hi : i < l.length), ∃ ad, A = some ad ∧ F ad.block ∧ Flds w (ad.add (i * 2)) [.int .i64 l[i].1, .int .i64 l[i].2] := by
  obtain ⟨A, c, hv, hc, hl, hi⟩ := h
  refine ⟨A, c, hv, hc, hl, fun i hil => ?_⟩
  obtain ⟨ad, cs, hA, hF, hk, hr, hcell⟩ := hi i hil
  unfold CtC at hr
  subst hr
  exact ⟨ad, hA, hF, hcell⟩
theorem SlCt.keep {F : Nat → Prop} {w w' : World} {v : Value} {l : List Cou.Ct} (h : SlCt F w v l) (ha : Agree F w w') : SlCt F w' v l := Sl.keep h ha fun _ _ hr => hr
/-- Lists that agree up to k. -/
def Upto (l m : List Cou.Ct) (k : Nat) : Prop := ∀ i, i < k → l[i]? = m[i]?
theorem Upto.all {l m : List Cou.Ct} (h : Upto l m l.length) (hl : l.length = m.length) : l = m := by
  refine List.ext_getElem? fun i => ?_
  by_cases hi : i < l.length
  · exact h i hi
  · rw [List.getElem?_eq_none (by omega), List.getElem?_eq_none (by omega)]
set_option maxRecDepth 100000 in
set_option maxHeartbeats 2000000 in
theorem same_ct (v v' : Value) (l m : List Cou.Ct) (w : World) (F : Nat → Prop) (hF : ∀ b, F b → b < w.heap.size) (h : SlCt F w v l) (h' : SlCt F w v' m) :
    Calls Tryd.prog 15 #[v, v'] w fun e w' => e = .returned (.bool (decide (l = m))) ∧ Below w.heap.size w w' := by
  obtain ⟨A, c, rfl, _, hlm, hat⟩ := h.open
  obtain ⟨A', c', rfl, _, hlm', hat'⟩ := h'.open
  by_cases hlen : l.length = m.length
  · obtain ⟨n, hn⟩ : ∃ n, l.length = n := ⟨_, rfl⟩
    have hn' : m.length = n := by omega
    rw [hn] at hlm ⊢
    rw [hn']
    have HN := Lib.hid hn
    have HN' := Lib.hid hn'
    have hnn : (n : Int) ≤ 9223372036854775807 := by omega
    have HAT := Lib.hid hat
    have HAT' := Lib.hid hat'
    clear hlen hn hn' h h' hat hat'
    go_enter Tryd.func15, Tryd.ntmps15
    go_wp2
    go_loopw [5] (fun p wr => ∃ k : Nat, k ≤ n ∧ p = .int .i64 k ∧ Aside (Upto l m k) ∧ Aside (Below w.heap.size w wr)) (fun p _ => n - (intOf p).toNat)
    case atStart => exact ⟨0, Nat.zero_le _, rfl, fun i hi => absurd hi (by omega), B0 w⟩
    case round =>
      obtain ⟨k, hk, rfl, hU, hB⟩ := hrel
      replace hU : Upto l m k := hU
      replace hB : Below w.heap.size w wr := hB
      by_cases hlt : k < n
      · have hltI : (k : Int) < n := by omega
        have hk1 : k < l.length := by rw [HN.out]; exact hlt
        have hk2 : k < m.length := by rw [HN'.out]; exact hlt
        obtain ⟨ad, rfl, hf, hfl⟩ := HAT.out k hk1
        obtain ⟨ad', rfl, hf', hfl'⟩ := HAT'.out k hk2
        have q := hfl.below hB (by rw [block_of_add]; exact hF _ hf)
        have q' := hfl'.below hB (by rw [block_of_add]; exact hF _ hf')
        have q0 := q.f0 rfl
        have q1 := q.f1 rfl
        have q0' := q'.f0 rfl
        have q1' := q'.f1 rfl
        have g1 : l[k]? = some l[k] := List.getElem?_eq_getElem hk1
        have g2 : m[k]? = some m[k] := List.getElem?_eq_getElem hk2
        have HG1 := Lib.hid g1
        have HG2 := Lib.hid g2
        clear g1 g2 hfl hfl' q q' hf hf'
        generalize l[k] = x at *
        generalize m[k] = y at *
        obtain ⟨x1, x2⟩ := x
        obtain ⟨y1, y2⟩ := y
        dsimp only at q0 q1 q0' q1'
        have HU := Lib.hid hU
        have HB := Lib.hid hB
        clear hU hB hk1 hk2
        by_cases hxy : x1 = y1 ∧ x2 = y2
        · obtain ⟨rfl, rfl⟩ := hxy
          go_upto_region 6 with fail
          go_quiet (fail)
          go_wp2
          go_roundw
          case rel => exact ⟨k + 1, by omega, by go_num, (fun i hi => by
            by_cases e : i = k
            · subst e; rw [HG1.out, HG2.out]
            · exact HU.out i (by omega)), below_drewN HB.out _⟩
          case measure => simp [intOf]; omega
        · have HQ : Hid (decide (l = m) = false) := Lib.hid (decide_eq_false (fun e => hxy (by
            subst e
            have := HG1.out.symm.trans HG2.out
            simpa using this)))
          by_cases h1 : x1 = y1
          · subst h1
            have h2 : (x2 == y2) = false := by simpa using hxy
            clear hxy
            go_upto_region 6 with fail
            go_quiet (fail)
            go_wp2
            go_ret
            exact ⟨by rw [HQ.out]; rfl, below_drewN HB.out _⟩
          · have h2 : (x1 == y1) = false := by simpa using h1
            clear hxy h1
            go_upto_region 6 with fail
            go_quiet (fail)
            go_wp2
            go_ret
            exact ⟨by rw [HQ.out]; rfl, below_drewN HB.out _⟩
      · obtain rfl : k = n := by omega
        have HU := Lib.hid hU
        have HB := Lib.hid hB
        clear hU hB
        go_wp2
        go_ret
        have : l = m := Upto.all (by rw [HN.out]; exact HU.out) (by rw [HN.out, HN'.out])
        exact ⟨by rw [decide_eq_true this]; rfl, HB.out⟩
  · have hq : ((l.length : Int) != m.length) = true := by simp; omega
    have HQ : Hid (decide (l = m) = false) := Lib.hid (decide_eq_false (fun e => hlen (by rw [e])))
    clear h h' hat hat' hlen
    generalize l.length = a at *
    generalize m.length = b at *
    go_enter Tryd.func15, Tryd.ntmps15
    go_wp2
    go_ret
    exact ⟨by rw [HQ.out]; rfl, B0 w⟩
end Go.Proofs.YtnkjhppjjklgfaaDoor
