/- Walks over matching: the total of an assignment. -/
import Derived.Test.YtnphdmiondccgaaYf
namespace Go.Proofs.Ytnphdmiondccgaa
open Go Go.RowKit Go.Shelf
namespace Asg
theorem costs_cell {F : Nat → Prop} {w : World} {A : Option Addr} {c n m : Nat} {costs : List (List Int)} (h : SlII F w (.slice A n c) costs) (hn : costs.length = n) (hF : ∀ b, F b → b < w.heap.size) (hrow : ∀ i, i < n → (costs.getD i []).length = m) :
    ∀ i k, i < n → k < m → ∃ ad ai ci, A = some ad ∧ w.cell? (ad.add i) = some (.slice (some ai) m ci) ∧ (ad.add i).block < w.heap.size ∧ w.cell? (ai.add k) = some (.int .i64 (g0 (costs.getD i []) k)) ∧ (ai.add k).block < w.heap.size := by
  obtain ⟨A', c', e, -, -, hat⟩ := SlII.open h
  injection e with e1 e2 e3
  subst e1
  intro i k hi hk
  obtain ⟨ad, u, rfl, hf, hci, hui⟩ := hat i (by omega)
  obtain ⟨A1, c1, rfl, -, -, hat1⟩ := SlI.open hui
  have hl := hrow i hi
  rw [getD_in (by omega)] at hl ⊢
  obtain ⟨ai, rfl, hf1, hc1⟩ := hat1 k (by omega)
  have hg : g0 costs[i] k = costs[i][k] := by
    unfold g0; rw [List.getD_eq_getElem?_getD, List.getElem?_eq_getElem (by omega)]; rfl
  refine ⟨ad, ai, c1, rfl, ?_, by rw [block_of_add]; exact hF _ hf, by rw [hg]; exact hc1, by rw [block_of_add]; exact hF _ hf1⟩
  rw [hl] at hci; exact hci
theorem ints_cell {F : Nat → Prop} {w : World} {A : Option Addr} {c n : Nat} {l : List Int} (h : SlI F w (.slice A n c) l) (hn : l.length = n) (hF : ∀ b, F b → b < w.heap.size) :
    ∀ i, i < n → ∃ ad, A = some ad ∧ w.cell? (ad.add i) = some (.int .i64 (g0 l i)) ∧ (ad.add i).block < w.heap.size := by
  obtain ⟨A', c', e, -, -, hat⟩ := SlI.open h
  injection e with e1 e2 e3
  subst e1
  intro i hi
  obtain ⟨ad, rfl, hf, hc⟩ := hat i (by omega)
  refine ⟨ad, rfl, ?_, by rw [block_of_add]; exact hF _ hf⟩
  unfold g0
  rw [List.getD_eq_getElem?_getD, List.getElem?_eq_getElem (by omega)]
  exact hc
/-- Right columns of an assignment. -/
def TotP (n m : Nat) (cols : List Int) : Prop := cols.length = n ∧ ∀ i, i < n → (0 ≤ g0 cols i ∧ g0 cols i < m) ∧ g0 cols i ∉ cols.take i
theorem take_mem_succ {l : List Int} {i : Nat} {x : Int} (hi : i < l.length) : x ∈ l.take (i + 1) ↔ x ∈ l.take i ∨ x = g0 l i := by
  rw [List.take_add_one, List.getElem?_eq_getElem hi, List.mem_append]
  unfold g0
  rw [List.getD_eq_getElem?_getD, List.getElem?_eq_getElem hi]
  simp
theorem ctot_le {costs : List (List Int)} {cols : List Int} {n m : Nat} (hrow : ∀ i, i < n → ∀ c ∈ costs.getD i [], -Mc ≤ c ∧ c ≤ Mc) : ∀ i, i ≤ n → -(1000000000 * (i : Int)) ≤ ctot costs cols i ∧ ctot costs cols i ≤ 1000000000 * (i : Int)
  | 0, _ => by simp [ctot, sumTo]
  | i + 1, h => by
    have ih := ctot_le (cols := cols) (m := m) hrow i (by omega)
    have hc : -Mc ≤ gi (costs.getD i []) (cols.getD i 0) ∧ gi (costs.getD i []) (cols.getD i 0) ≤ Mc := by
      unfold gi
      rw [List.getD_eq_getElem?_getD]
      cases hx : (costs.getD i [])[(cols.getD i 0).toNat]? with
      | none => simp [Mc]
      | some x => exact hrow i (by omega) x (List.mem_of_getElem? hx)
    unfold ctot at *
    rw [sumTo]
    unfold Mc at hc
    omega
end Asg
theorem SlI.bel {w W : World} {v : Value} {l : List Int} (h : SlI (fun b => b < w.heap.size) w v l) (hb : Below w.heap.size w W) : SlI (fun b => b < W.heap.size) W v l :=
  (SlI.keep h (Agree.below hb fun _ h => h)).mono fun _ h => Nat.lt_of_lt_of_le h hb.size
theorem SlII.bel {w W : World} {v : Value} {l : List (List Int)} (h : SlII (fun b => b < w.heap.size) w v l) (hb : Below w.heap.size w W) : SlII (fun b => b < W.heap.size) W v l :=
  Sl.mono (Sl.monoR (R' := SlC fun b => b < W.heap.size) (Sl.keep h (Agree.below hb fun _ h => h) fun _ _ ⟨u, e, hu⟩ => ⟨u, e, SlI.keep hu (Agree.below hb fun _ h => h)⟩) fun _ _ ⟨u, e, hu⟩ => ⟨u, e, hu.mono fun _ h => Nat.lt_of_lt_of_le h hb.size⟩) fun _ h => Nat.lt_of_lt_of_le h hb.size
open Asg
set_option maxRecDepth 100000 in
set_option maxHeartbeats 2000000 in
theorem total_any (A : Option Addr) (c n m : Nat) (costs : List (List Int)) (hn : costs.length = n) (hn5 : n ≤ 5) (hm8 : m ≤ 8) (hwd : wd costs = m) (hC : ChkP costs) (Al : Option Addr) (q cl : Nat) (cols : List Int) (hq : cols.length = q) (w : World)
    (h : SlII (fun b => b < w.heap.size) w (.slice A n c) costs) (hl : SlI (fun b => b < w.heap.size) w (.slice Al q cl) cols) :
    Calls Try.prog 25 #[.slice A n c, .slice Al q cl, .int .i64 0, .int .i64 0] w fun e w' => (∃ s e0, e = .returned (.tuple #[.int .i64 s, .int .i64 e0]) ∧ (e0 = 0 ↔ TotP n m cols) ∧ (e0 = 0 → s = ctot costs cols n)) ∧ Below w.heap.size w w' := by
  have hco := columns_any A c n costs hn w _ h
  rw [hwd] at hco
  have HCO := Lib.hid hco
  have hrow : ∀ i, i < n → (costs.getD i []).length = m := fun i hi => by rw [← hwd]; exact (hC.2.2 i (by omega)).1
  have hcc := costs_cell h hn (fun _ h => h) hrow
  have hic := ints_cell hl hq (fun _ h => h)
  have hle := ctot_le (cols := cols) (m := m) (n := n) (costs := costs) fun i hi => (hC.2.2 i (by omega)).2
  have HCC := Lib.hid hcc
  have HIC := Lib.hid hic
  have HLE := Lib.hid hle
  have HQ := Lib.hid hq
  clear hco h hl hcc hic hrow hle hq hwd hC hn
  by_cases hqn : q = n
  · subst hqn
    have hmb := hmkBo m (by omega)
    go_enter Try.func25, Try.ntmps25
    go_upto_region 5 with (go_at_call 23; (with_reducible refine (HCO.out.mono ?_)); rintro e w' ⟨rfl, hw'⟩; rw [hw']; clear hw')
    obtain ⟨w1, hw1⟩ : ∃ w1 : World, w.alloc (.cells (List.replicate m (Value.bool false)).toArray 4) = w1 := ⟨_, rfl⟩
    obtain ⟨g, hg⟩ : ∃ g, w.heap.size = g := ⟨_, rfl⟩
    have hB1 : Below w.heap.size w w1 := by rw [← hw1]; exact Ba (B0 w) _
    have hR1 : RB w1 g (List.replicate m false) := by rw [← hw1, ← hg]; exact RB.made w m
    have hg0 : w.heap.size ≤ g := by omega
    try rw [List.toArray_replicate] at hw1
    try rw [hw1]
    rw [hg]
    have HB1 := Lib.hid hB1
    have HR1 := Lib.hid hR1
    have HG0 := Lib.hid hg0
    clear hB1 hR1 hw1 hg hmb hg0
    go_wp2_with fail
    go_loopg [10, 24] q (fun gg s10 s24 wr => ∃ (i : Nat) (d : List Bool), i ≤ q ∧ q - i ≤ gg ∧ s24 = .int .i64 i ∧ s10 = .int .i64 (ctot costs cols i) ∧ d.length = m ∧ Aside (∀ k, k < m → (d.getD k false = true ↔ (k : Int) ∈ cols.take i)) ∧ Aside (∀ j, j < i → (0 ≤ g0 cols j ∧ g0 cols j < m) ∧ g0 cols j ∉ cols.take j) ∧ Aside (RB wr g d) ∧ Aside (Below w.heap.size w wr))
    case atStart => exact ⟨0, List.replicate m false, by omega, by omega, rfl, rfl, by simp, fun k _ => by rw [getD_false]; simp, fun j hj => absurd hj (by omega), HR1.out, HB1.out⟩
    case round =>
      clear HR1 HB1
      obtain ⟨i, d, hi, hgg, rfl, rfl, hdl, HD, HJ, HR, HB⟩ := hrel
      replace HD : Hid (∀ k, k < m → (d.getD k false = true ↔ (k : Int) ∈ cols.take i)) := Lib.hid HD
      replace HJ : Hid (∀ j, j < i → (0 ≤ g0 cols j ∧ g0 cols j < m) ∧ g0 cols j ∉ cols.take j) := Lib.hid HJ
      replace HR : Hid (RB wr g d) := Lib.hid HR
      replace HB : Hid (Below w.heap.size w wr) := Lib.hid HB
      have HDL := Lib.hid hdl
      clear hdl
      obtain ⟨wo, rfl⟩ : ∃ wo : World, wo = wr := ⟨_, rfl⟩
      have hle := HLE.out i hi
      obtain ⟨s, hs⟩ : ∃ s, ctot costs cols i = s := ⟨_, rfl⟩
      rw [hs] at hle ⊢
      have HS := Lib.hid hs
      clear hs
      by_cases hlt : i < q
      · have hiI : (i : Int) < q := by omega
        obtain ⟨al, hal, a1, a2⟩ := HIC.out i hlt
        subst hal
        replace a1 := (HB.out.cell (p := al.add i) a2).trans a1
        obtain ⟨x, hx⟩ : ∃ x, g0 cols i = x := ⟨_, rfl⟩
        rw [hx] at a1
        have HX := Lib.hid hx
        clear hx a2
        by_cases hx0 : x < 0
        · go_wp2_with fail
          go_ret2
          refine ⟨⟨0, 3, rfl, ⟨fun h => absurd h (by decide), fun hP => ?_⟩, fun h => absurd h (by decide)⟩, HB.out⟩
          have := (hP.2 i hlt).1.1
          rw [HX.out] at this
          omega
        · by_cases hxm : x < m
          · obtain ⟨p, rfl⟩ : ∃ p : Nat, x = p := ⟨x.toNat, by omega⟩
            have hpm : p < m := by omega
            have cd := HR.out.cell (k := p) (by rw [HDL.out]; exact hpm)
            have hd := HD.out p hpm
            cases hdp : d.getD p false with
            | true =>
              rw [hdp] at cd
              have hin := hd.1 hdp
              have HIN := Lib.hid hin
              clear hin hd hdp
              go_wp2_with fail
              go_ret2
              refine ⟨⟨0, 9, rfl, ⟨fun h => absurd h (by decide), fun hP => ?_⟩, fun h => absurd h (by decide)⟩, HB.out⟩
              have := (hP.2 i hlt).2
              rw [HX.out] at this
              exact absurd HIN.out this
            | false =>
              rw [hdp] at cd
              have hin : (p : Int) ∉ cols.take i := fun h => by have := hd.2 h; rw [hdp] at this; cases this
              have HIN := Lib.hid hin
              have fd := HR.out.fro p
              have hr2 := HR.out.set p true
              have hB2 := Bs HB.out (.bool true) (p := ⟨g, p, none⟩) HG0.out
              obtain ⟨w3, hw3⟩ : ∃ w3 : World, wo.setCell ⟨g, p, none⟩ (.bool true) = w3 := ⟨_, rfl⟩
              rw [hw3] at hr2 hB2
              have HR2 := Lib.hid hr2
              have HB2 := Lib.hid hB2
              clear hin hd hdp hr2 hB2
              go_upto_region 15 with fail
              try rw [hw3]
              clear hw3 cd fd a1
              obtain ⟨ad, ai, ci, hA, b1, b2, b3, b4⟩ := HCC.out i p hlt hpm
              subst hA
              replace b1 := (HB2.out.cell (p := ad.add i) b2).trans b1
              replace b3 := (HB2.out.cell (p := ai.add p) b4).trans b3
              have hle2 := HLE.out (i + 1) (by omega)
              have hst : ctot costs cols (i + 1) = s + g0 (costs.getD i []) p := by
                have : ctot costs cols (i + 1) = ctot costs cols i + gi (costs.getD i []) (cols.getD i 0) := rfl
                rw [this, HS.out]
                have hx := HX.out
                unfold g0 at hx
                rw [hx]
                rfl
              obtain ⟨cst, hcst⟩ : ∃ z, g0 (costs.getD i []) p = z := ⟨_, rfl⟩
              rw [hcst] at b3 hst
              rw [hst] at hle2
              have HST := Lib.hid hst
              have HL2 := Lib.hid hle2
              have g1 : IntKind.i64.wrap (s + cst) = s + cst := IntWalk.i64_in _ (by omega)
              clear b2 b4 hcst hst
              go_wp2_with fail
              go_roundg (q - (i + 1))
              case measure => omega
              case rel =>
                refine ⟨i + 1, d.set p true, by omega, by omega, by go_num, by rw [HST.out], by rw [List.length_set]; exact HDL.out, (show Aside _ from fun k hk => ?_), (show Aside _ from fun j hj => ?_), HR2.out, HB2.out⟩
                · rw [take_mem_succ (by rw [HQ.out]; exact hlt), HX.out, ← HD.out k hk]
                  rw [List.getD_eq_getElem?_getD, List.getD_eq_getElem?_getD]
                  by_cases e : k = p
                  · subst e; rw [List.getElem?_set_self (by rw [HDL.out]; exact hk)]; simp
                  · rw [List.getElem?_set_ne (fun h => e h.symm)]
                    constructor
                    · exact fun h => .inl h
                    · rintro (h | h)
                      · exact h
                      · omega
                · by_cases e : j = i
                  · subst e; rw [HX.out]; exact ⟨⟨by omega, by omega⟩, HIN.out⟩
                  · exact HJ.out j (by omega)
          · have hxI : ¬ (x < (m : Int)) := hxm
            go_wp2_with fail
            go_ret2
            refine ⟨⟨0, 3, rfl, ⟨fun h => absurd h (by decide), fun hP => ?_⟩, fun h => absurd h (by decide)⟩, HB.out⟩
            have := (hP.2 i hlt).1.2
            rw [HX.out] at this
            omega
      · obtain rfl : i = q := by omega
        go_wp2_with fail
        go_ret2
        exact ⟨⟨s, 0, rfl, ⟨fun _ => ⟨HQ.out, HJ.out⟩, fun _ => rfl⟩, fun _ => HS.out.symm⟩, HB.out⟩
  · have hI : ((q : Int) != n) = true := by simp; omega
    go_enter Try.func25, Try.ntmps25
    go_wp2_with fail
    go_ret2
    exact ⟨⟨0, 5, rfl, ⟨fun h => absurd h (by decide), fun hP => absurd (HQ.out.symm.trans hP.1) hqn⟩, fun h => absurd h (by decide)⟩, B0 w⟩
end Go.Proofs.Ytnphdmiondccgaa
