/- Walks over chain's statements: has. -/
import Derived.Test.YtahlfndlkfoikaaDoorGb
import Derived.Test.YtahlfndlkfoikaaDoorVa
namespace Go.Proofs.YtahlfndlkfoikaaDoor
open Go Go.RowKit Go.Shelf
set_option maxRecDepth 100000 in
set_option maxHeartbeats 2000000 in
theorem has_any (v : Value) (l : List Cou.Ct) (c : Cou.Ct) (w : World) (F : Nat → Prop) (hF : ∀ b, F b → b < w.heap.size) (hr : SlCt F w v l) :
    Calls Tryd.prog 26 #[v, .agg #[.int .i64 c.1, .int .i64 c.2]] w fun e w' => e = .returned (.bool (decide (c ∈ l))) ∧ Below w.heap.size w w' := by
  obtain ⟨A, cp, rfl, hlc, hlen, hat⟩ := hr.open
  obtain ⟨c1, c2⟩ := c
  obtain ⟨n, hn⟩ : ∃ n, l.length = n := ⟨_, rfl⟩
  have HN := Lib.hid hn
  have HAT := Lib.hid hat
  obtain ⟨w1, hw1⟩ : ∃ w1 : World, w.alloc (.cells #[.int .i64 c1, .int .i64 c2] 36) = w1 := ⟨_, rfl⟩
  obtain ⟨bx, hbx⟩ : ∃ bx, w.heap.size = bx := ⟨_, rfl⟩
  have C1 : Blk w1 bx 36 #[.int .i64 c1, .int .i64 c2] := by rw [← hw1, ← hbx]; exact Blk.new _ _ _
  have B1 : Below w.heap.size w w1 := by rw [← hw1]; exact Ba (B0 w) _
  have HW1 := Lib.hid hw1
  have HBX := Lib.hid hbx
  have HC1 := Lib.hid C1
  have HB1 := Lib.hid B1
  rw [hn] at hlen hlc ⊢
  dsimp only
  clear hr hat hn C1 B1 hw1 hbx
  go_enter Tryd.func26, Tryd.ntmps26
  go_upto_region 1 with fail
  rw [HW1.out, HBX.out]
  go_wp2_with fail
  go_loopw [5] (fun s wr => ∃ k : Nat, k ≤ n ∧ s = .int .i64 k ∧ Aside (∀ j, j < k → ∃ y, l[j]? = some y ∧ y ≠ (c1, c2)) ∧ Aside (Below w1.heap.size w1 wr)) (fun s _ => n - (intOf s).toNat)
  case atStart => exact ⟨0, by omega, rfl, (fun j h => absurd h (by omega)), B0 w1⟩
  case round =>
    obtain ⟨k, hk, rfl, hA, hB⟩ := hrel
    replace hA : ∀ j, j < k → ∃ y, l[j]? = some y ∧ y ≠ (c1, c2) := hA
    replace hB : Below w1.heap.size w1 wr := hB
    have hC := HC1.out.below hB HC1.out.lt
    have c0 := hC.cell 0
    have c1' := hC.cell 1
    simp only [List.getElem?_toArray, List.getElem?_cons_zero, List.getElem?_cons_succ] at c0 c1'
    by_cases hlt : k < n
    · have hkl : (k : Int) < n := by omega
      have hkl1 : k < l.length := by rw [HN.out]; exact hlt
      obtain ⟨ad, rfl, hfb, hfl⟩ := HAT.out k hkl1
      have hfb2 : (ad.add (k * 2)).block < w.heap.size := by rw [block_of_add]; exact hF _ hfb
      have hfl2 := (hfl.below HB1.out hfb2).below hB (Nat.lt_of_lt_of_le hfb2 HB1.out.size)
      have f0 := hfl2.f0 rfl
      have f1 := hfl2.f1 rfl
      have hg : l[k]? = some l[k] := List.getElem?_eq_getElem hkl1
      have HG := Lib.hid hg
      have hme := List.getElem_mem hkl1
      have HME := Lib.hid hme
      have HA := Lib.hid hA
      have HB := Lib.hid hB
      clear hfl hfl2 hA hB hC hg hme
      generalize l[k] = x at *
      obtain ⟨x1, x2⟩ := x
      dsimp only at f0 f1
      by_cases hxy : x1 = c1 ∧ x2 = c2
      · obtain ⟨rfl, rfl⟩ := hxy
        go_upto_region 4 with fail
        go_quiet (fail)
        go_wp2
        go_ret
        exact ⟨by rw [decide_eq_true HME.out]; rfl, Bt HB1.out (below_drewN HB.out _)⟩
      · have HNE : Hid (((x1, x2) : Cou.Ct) ≠ (c1, c2)) := Lib.hid fun e => hxy ⟨congrArg Prod.fst e, congrArg Prod.snd e⟩
        by_cases h1 : x1 = c1
        · subst h1
          have h2 : (x2 == c2) = false := by simpa using hxy
          clear hxy
          go_upto_region 4 with fail
          go_quiet (fail)
          go_wp2
          go_roundw
          case rel => exact ⟨k + 1, by omega, by go_num, (fun j hj => by
            by_cases e : j = k
            · subst e; exact ⟨_, HG.out, HNE.out⟩
            · exact HA.out j (by omega)), below_drewN HB.out _⟩
          case measure => simp [intOf]; omega
        · have h2 : (x1 == c1) = false := by simpa using h1
          clear hxy h1
          go_upto_region 4 with fail
          go_quiet (fail)
          go_wp2
          go_roundw
          case rel => exact ⟨k + 1, by omega, by go_num, (fun j hj => by
            by_cases e : j = k
            · subst e; exact ⟨_, HG.out, HNE.out⟩
            · exact HA.out j (by omega)), below_drewN HB.out _⟩
          case measure => simp [intOf]; omega
    · obtain rfl : k = n := by omega
      have HA := Lib.hid hA
      have HB := Lib.hid hB
      clear hA hB hC
      go_wp2
      go_ret
      have hd : decide ((c1, c2) ∈ l) = false := decide_eq_false fun hm => by
        obtain ⟨j, hj, e⟩ := List.getElem_of_mem hm
        obtain ⟨y, hy, hne⟩ := HA.out j (by rw [← HN.out]; exact hj)
        rw [List.getElem?_eq_getElem hj] at hy
        injection hy with hy
        exact hne (hy.symm.trans e)
      exact ⟨by rw [hd]; rfl, Bt HB1.out HB.out⟩
end Go.Proofs.YtahlfndlkfoikaaDoor
