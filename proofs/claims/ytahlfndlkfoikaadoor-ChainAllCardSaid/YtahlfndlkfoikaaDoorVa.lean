/- Walks over slices at contacts: IndexFunc, ContainsFunc, Index, Contains, clear, DeleteFunc. -/
import Derived.Test.YtahlfndlkfoikaaDoorQ1
import Derived.Test.YtahlfndlkfoikaaDoorKd
import Derived.Laws.IdiomCopy
namespace Go.Proofs.YtahlfndlkfoikaaDoor
open Go Go.RowKit Go.Shelf
/-- What a predicate handed to the library says, in whatever world X allows. -/
def PredX (p : Cou.Ct → Bool) (g : Nat) (lb : Array Value) (l : List Cou.Ct) (X : World → Prop) : Prop :=
  ∀ (W : World) (x : Cou.Ct), x ∈ l → X W → Calls Tryd.prog g (#[ctV x] ++ lb) W fun e w' => e = .returned (.bool (p x)) ∧ Below W.heap.size W w'
/-- The first one that a predicate takes. -/
def Fst (p : Cou.Ct → Bool) (l : List Cou.Ct) (r : Int) : Prop := (r = -1 ∧ ∀ x ∈ l, p x = false) ∨ ∃ k : Nat, ∃ h : k < l.length, r = k ∧ p l[k] = true ∧ ∀ j (_ : j < k), p (l[j]'(by omega)) = false
theorem Fst.any {p : Cou.Ct → Bool} {l : List Cou.Ct} {r : Int} (h : Fst p l r) : decide (0 ≤ r) = l.any p := by
  rcases h with ⟨rfl, h⟩ | ⟨k, hk, rfl, h1, _⟩
  · rw [List.any_eq_false.2 fun x hx => by rw [h x hx]; decide]
    rfl
  · rw [List.any_eq_true.2 ⟨_, List.getElem_mem hk, h1⟩]
    exact decide_eq_true (by omega)
set_option maxRecDepth 100000 in
set_option maxHeartbeats 1000000 in
theorem index_ct (v : Value) (l : List Cou.Ct) (c : Cou.Ct) (w : World) (F : Nat → Prop) (hF : ∀ b, F b → b < w.heap.size) (hr : SlCt F w v l) :
    Calls Tryd.prog 61 #[v, .agg #[.int .i64 c.1, .int .i64 c.2]] w fun e w' => ∃ r, e = .returned (.int .i64 r) ∧ decide (0 ≤ r) = decide (c ∈ l) ∧ Below w.heap.size w w' := by
  obtain ⟨A, cc, rfl, hlc, hlen, hat⟩ := hr.open
  obtain ⟨c1, c2⟩ := c
  obtain ⟨n, hn⟩ : ∃ n, l.length = n := ⟨_, rfl⟩
  have HN := Lib.hid hn
  have HAT := Lib.hid hat
  obtain ⟨w1, hw1⟩ : ∃ w1 : World, w.alloc (.cells #[.int .i64 c1, .int .i64 c2] 36) = w1 := ⟨_, rfl⟩
  obtain ⟨bx, hbx⟩ : ∃ bx, w.heap.size = bx := ⟨_, rfl⟩
  have C1 : Blk w1 bx 36 #[.int .i64 c1, .int .i64 c2] := by rw [← hw1, ← hbx]; exact Blk.new _ _ _
  have B1 : Below w.heap.size w w1 := by rw [← hw1]; exact Ba (B0 w) _
  have HW1 := Lib.hid hw1
  have HBX := Lib.hid hbx
  have HC1 := Lib.hid C1
  have HB1 := Lib.hid B1
  rw [hn] at hlen hlc ⊢
  dsimp only
  clear hr hat hn C1 B1 hw1 hbx
  go_enter Tryd.func61, Tryd.ntmps61
  go_upto_region 1 with fail
  rw [HW1.out, HBX.out]
  go_wp2_with fail
  go_loopw [8] (fun s wr => ∃ k : Nat, k ≤ n ∧ s = .int .i64 k ∧ Aside (∀ j, j < k → ∃ y, l[j]? = some y ∧ y ≠ (c1, c2)) ∧ Aside (Below w1.heap.size w1 wr)) (fun s _ => n - (intOf s).toNat)
  case atStart => exact ⟨0, by omega, rfl, (fun j h => absurd h (by omega)), B0 w1⟩
  case round =>
    obtain ⟨k, hk, rfl, hA, hB⟩ := hrel
    replace hA : ∀ j, j < k → ∃ y, l[j]? = some y ∧ y ≠ (c1, c2) := hA
    replace hB : Below w1.heap.size w1 wr := hB
    have hC := HC1.out.below hB HC1.out.lt
    have c0 := hC.cell 0
    have c1' := hC.cell 1
    simp only [List.getElem?_toArray, List.getElem?_cons_zero, List.getElem?_cons_succ] at c0 c1'
    by_cases hlt : k < n
    · have hkl : (k : Int) < n := by omega
      have hkl1 : k < l.length := by rw [HN.out]; exact hlt
      obtain ⟨ad, rfl, hfb, hfl⟩ := HAT.out k hkl1
      have hfb2 : (ad.add (k * 2)).block < w.heap.size := by rw [block_of_add]; exact hF _ hfb
      have hfl2 := (hfl.below HB1.out hfb2).below hB (Nat.lt_of_lt_of_le hfb2 HB1.out.size)
      have f0 := hfl2.f0 rfl
      have f1 := hfl2.f1 rfl
      have hg : l[k]? = some l[k] := List.getElem?_eq_getElem hkl1
      have HG := Lib.hid hg
      have hme := List.getElem_mem hkl1
      have HME := Lib.hid hme
      have HA := Lib.hid hA
      have HB := Lib.hid hB
      clear hfl hfl2 hA hB hC hg hme
      generalize l[k] = x at *
      obtain ⟨x1, x2⟩ := x
      dsimp only at f0 f1
      by_cases hxy : c1 = x1 ∧ c2 = x2
      · obtain ⟨rfl, rfl⟩ := hxy
        go_upto_region 4 with fail
        go_quiet (fail)
        go_wp2
        go_ret
        exact ⟨k, rfl, by rw [decide_eq_true HME.out]; exact decide_eq_true (by omega), Bt HB1.out (below_drewN HB.out _)⟩
      · have HNE : Hid (((x1, x2) : Cou.Ct) ≠ (c1, c2)) := Lib.hid fun e => hxy ⟨(congrArg Prod.fst e).symm, (congrArg Prod.snd e).symm⟩
        by_cases h1 : c1 = x1
        · subst h1
          have h2 : (c2 == x2) = false := by simpa using hxy
          clear hxy
          go_upto_region 4 with fail
          go_quiet (fail)
          go_wp2
          go_roundw
          case rel => exact ⟨k + 1, by omega, by go_num, (fun j hj => by
            by_cases e : j = k
            · subst e; exact ⟨_, HG.out, HNE.out⟩
            · exact HA.out j (by omega)), below_drewN HB.out _⟩
          case measure => simp [intOf]; omega
        · have h2 : (c1 == x1) = false := by simpa using h1
          clear hxy h1
          go_upto_region 4 with fail
          go_quiet (fail)
          go_wp2
          go_roundw
          case rel => exact ⟨k + 1, by omega, by go_num, (fun j hj => by
            by_cases e : j = k
            · subst e; exact ⟨_, HG.out, HNE.out⟩
            · exact HA.out j (by omega)), below_drewN HB.out _⟩
          case measure => simp [intOf]; omega
    · obtain rfl : k = n := by omega
      have HA := Lib.hid hA
      have HB := Lib.hid hB
      clear hA hB hC
      go_wp2
      go_ret
      refine ⟨-1, rfl, ?_, Bt HB1.out HB.out⟩
      rw [decide_eq_false (p := (c1, c2) ∈ l) fun hm => ?_]
      · rfl
      · obtain ⟨j, hj, e⟩ := List.getElem_of_mem hm
        obtain ⟨y, hy, hne⟩ := HA.out j (by rw [← HN.out]; exact hj)
        rw [List.getElem?_eq_getElem hj] at hy
        injection hy with hy
        exact hne (hy.symm.trans e)
theorem contains_ct (v : Value) (l : List Cou.Ct) (c : Cou.Ct) (w : World) (F : Nat → Prop) (hF : ∀ b, F b → b < w.heap.size) (hr : SlCt F w v l) :
    Calls Tryd.prog 41 #[v, .agg #[.int .i64 c.1, .int .i64 c.2]] w fun e w' => e = .returned (.bool (decide (c ∈ l))) ∧ Below w.heap.size w w' := by
  have HI := Lib.hid (fun W (hb : Below w.heap.size w W) => index_ct v l c W (fun b => b < W.heap.size) (fun _ h => h) (Sl.mono (SlCt.keep hr (Agree.below hb hF)) fun b h => Nat.lt_of_lt_of_le (hF b h) hb.size))
  obtain ⟨w1, hw1⟩ : ∃ w1 : World, w.alloc (.cells #[.int .i64 c.1, .int .i64 c.2] 36) = w1 := ⟨_, rfl⟩
  obtain ⟨bx, hbx⟩ : ∃ bx, w.heap.size = bx := ⟨_, rfl⟩
  have C1 : Blk w1 bx 36 #[.int .i64 c.1, .int .i64 c.2] := by rw [← hw1, ← hbx]; exact Blk.new _ _ _
  have B1 : Below w.heap.size w w1 := by rw [← hw1]; exact Ba (B0 w) _
  have c0 := C1.cell 0
  have c1 := C1.cell 1
  simp only [List.getElem?_toArray, List.getElem?_cons_zero, List.getElem?_cons_succ] at c0 c1
  have HB1 := Lib.hid B1
  have HW1 := Lib.hid hw1
  have HBX := Lib.hid hbx
  clear hr C1 B1 hw1 hbx
  go_enter Tryd.func41, Tryd.ntmps41
  go_upto_region 1 with fail
  rw [HW1.out, HBX.out]
  go_wp2_with (go_at_call 61; (with_reducible refine ((HI.out _ HB1.out).mono ?_)); rintro e w' ⟨r, rfl, hr, hb⟩; have HR := Lib.hid hr; clear hr)
  go_ret
  exact ⟨by rw [← HR.out]; rfl, Bt HB1.out hb⟩
end Go.Proofs.YtahlfndlkfoikaaDoor
