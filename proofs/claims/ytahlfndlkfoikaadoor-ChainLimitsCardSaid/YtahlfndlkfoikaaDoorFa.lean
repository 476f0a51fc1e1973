/- Walks over chain's statements: less, and the order of chains: slices.Compare, Compare. -/
import Derived.Test.YtahlfndlkfoikaaDoorKi
import Derived.Test.YtahlfndlkfoikaaDoorEd
import Derived.Test.YtahlfndlkfoikaaDoorEq
import Derived.Test.YtahlfndlkfoikaaDoorRegW
namespace Go.Proofs.YtahlfndlkfoikaaDoor
open Go Go.RowKit Go.Shelf
namespace Cha
/-- slices.Compare at ints. -/
def slC : List Int → List Int → Int
  | x :: l, y :: m => if Cou.cmpI x y = 0 then slC l m else Cou.cmpI x y
  | [], [] => 0
  | [], _ :: _ => -1
  | _ :: _, [] => 1
/-- Compare. -/
def cmpF (l m : List Int) : Int := Cou.orI (Cou.cmpI l.length m.length) (slC l m)
theorem slC_lex : ∀ (l m : List Int), l.length = m.length → slC l m = if lexF m l = true then 1 else if lexF l m = true then -1 else 0
  | [], [], _ => rfl
  | [], _ :: _, h => by cases h
  | _ :: _, [], h => by cases h
  | x :: l, y :: m, h => by
    have ih := slC_lex l m (by simpa using h)
    rw [slC, lexF, lexF]
    by_cases e : x = y
    · subst e
      have hc : Cou.cmpI x x = 0 := by unfold Cou.cmpI; rw [if_neg (by omega), if_neg (by omega)]
      rw [hc, if_pos rfl, if_pos rfl, if_pos rfl, ih]
    · rw [if_neg (fun q : y = x => e q.symm), if_neg e]
      by_cases l1 : x < y
      · have hc : Cou.cmpI x y = -1 := by unfold Cou.cmpI; rw [if_pos l1]
        rw [hc, if_neg (by decide), decide_eq_false (show ¬ y < x by omega), decide_eq_true l1]; rfl
      · have hc : Cou.cmpI x y = 1 := by unfold Cou.cmpI; rw [if_neg l1, if_pos (by omega)]
        rw [hc, if_neg (by decide), decide_eq_true (show y < x by omega)]; rfl
theorem cmpF_less (l m : List Int) : cmpF l m = if lessF m l = true then 1 else if lessF l m = true then -1 else 0 := by
  unfold cmpF lessF
  by_cases e : l.length = m.length
  · have hc : Cou.cmpI l.length m.length = 0 := by unfold Cou.cmpI; rw [if_neg (by omega), if_neg (by omega)]
    rw [if_pos e, if_pos e.symm, hc, ← slC_lex l m e]
    rfl
  · rw [if_neg e, if_neg (fun q : m.length = l.length => e q.symm)]
    by_cases l1 : l.length < m.length
    · have hc : Cou.cmpI l.length m.length = -1 := by unfold Cou.cmpI; rw [if_pos (by omega)]
      rw [hc, decide_eq_false (show ¬ m.length < l.length by omega), decide_eq_true l1]; rfl
    · have hc : Cou.cmpI l.length m.length = 1 := by unfold Cou.cmpI; rw [if_neg (by omega), if_pos (by omega)]
      rw [hc, decide_eq_true (show m.length < l.length by omega)]; rfl
end Cha
set_option maxRecDepth 100000 in
set_option maxHeartbeats 2000000 in
theorem slcmp_any (v v' : Value) (l m : List Int) (w : World) (F : Nat → Prop) (h : SlI F w v l) (h' : SlI F w v' m) :
    Calls Tryd.prog 50 #[v, v'] w fun e w' => e = .returned (.int .i64 (Cha.slC l m)) ∧ w' = w := by
  obtain ⟨A, c, rfl, -, hlm, hat⟩ := h.open
  obtain ⟨A', c', rfl, -, hlm', hat'⟩ := h'.open
  obtain ⟨n, hn⟩ : ∃ n, l.length = n := ⟨_, rfl⟩
  obtain ⟨n', hn'⟩ : ∃ n, m.length = n := ⟨_, rfl⟩
  rw [hn] at hlm ⊢
  rw [hn'] at hlm' ⊢
  have HN := Lib.hid hn
  have HN' := Lib.hid hn'
  have HAT := Lib.hid hat
  have HAT' := Lib.hid hat'
  clear hn hn' h h' hat hat'
  go_enter Tryd.func50, Tryd.ntmps50
  go_wp2_with fail
  go_loopg [11] n (fun gg s wr => ∃ k : Nat, k ≤ n ∧ k ≤ n' ∧ n - k ≤ gg ∧ s = .int .i64 k ∧ Aside (Cha.slC l m = Cha.slC (l.drop k) (m.drop k)) ∧ wr = w)
  case atStart => exact ⟨0, by omega, by omega, by omega, rfl, (show Aside _ from by show _ = _; rw [List.drop_zero, List.drop_zero]), rfl⟩
  case round =>
    obtain ⟨k, hk, hk', hg, rfl, HE, rfl⟩ := hrel
    replace HE := Lib.hid HE
    by_cases hlt : k < n
    · have hltI : (k : Int) < n := by omega
      have hk1 : k < l.length := by rw [HN.out]; exact hlt
      obtain ⟨ad, rfl, -, q0⟩ := HAT.out k hk1
      by_cases hlt' : k < n'
      · have hltI' : decide ((n' : Int) ≤ k) = false := decide_eq_false (by omega)
        have hltJ : (k : Int) < n' := by omega
        have hk2 : k < m.length := by rw [HN'.out]; exact hlt'
        obtain ⟨ad', rfl, -, q0'⟩ := HAT'.out k hk2
        have he := HE.out
        rw [List.drop_eq_getElem_cons hk1, List.drop_eq_getElem_cons hk2, Cha.slC] at he
        have hc := fun W => compare_any l[k] m[k] W
        have HE2 := Lib.hid he
        clear he
        generalize l[k] = x at *
        generalize m[k] = y at *
        clear hk1 hk2
        obtain ⟨r, hr⟩ : ∃ r, Cou.cmpI x y = r := ⟨_, rfl⟩
        rw [hr] at hc HE2
        have HC := Lib.hid hc
        clear hr hc
        by_cases h0 : r = 0
        · subst h0
          have HE3 : Hid (Cha.slC l m = Cha.slC (l.drop (k + 1)) (m.drop (k + 1))) := Lib.hid (by rw [HE2.out, if_pos rfl])
          clear HE2 HE
          go_wp2_with (go_at_call 49; (with_reducible refine ((HC.out _).mono ?_)); rintro e w5 ⟨rfl, rfl⟩)
          go_roundg (n - (k + 1))
          case measure => omega
          case rel => exact ⟨k + 1, by omega, by omega, by omega, by go_num, HE3.out, rfl⟩
        · have d1 : (r != 0) = true := by simpa using h0
          have HE3 : Hid (Cha.slC l m = r) := Lib.hid (by rw [HE2.out, if_neg h0])
          clear HE2 HE h0
          go_wp2_with (go_at_call 49; (with_reducible refine ((HC.out _).mono ?_)); rintro e w5 ⟨rfl, rfl⟩)
          go_ret
          exact ⟨by rw [HE3.out]; rfl, rfl⟩
      · have hltI' : decide ((n' : Int) ≤ k) = true := decide_eq_true (by omega)
        have hltN' : decide (n' ≤ k) = true := decide_eq_true (by omega)
        have HE3 : Hid (Cha.slC l m = 1) := Lib.hid (by
          rw [HE.out, List.drop_eq_getElem_cons hk1, show m.drop k = [] from List.drop_eq_nil_of_le (by rw [HN'.out]; omega)]; rfl)
        clear HE hlt'
        go_wp2_with fail
        go_ret
        exact ⟨by rw [HE3.out]; rfl, rfl⟩
    · obtain rfl : k = n := by omega
      by_cases hlt' : k < n'
      · have d1 : decide ((k : Int) < n') = true := decide_eq_true (by omega)
        have d2 : decide (k < n') = true := decide_eq_true hlt'
        have HE3 : Hid (Cha.slC l m = -1) := Lib.hid (by
          rw [HE.out, show l.drop k = [] from List.drop_eq_nil_of_le (by rw [HN.out]; exact Nat.le_refl _), List.drop_eq_getElem_cons (l := m) (by rw [HN'.out]; exact hlt')]; rfl)
        clear HE
        go_wp2_with fail
        go_ret
        exact ⟨by rw [HE3.out]; rfl, rfl⟩
      · have d1 : decide ((k : Int) < n') = false := decide_eq_false (by omega)
        have d2 : decide (k < n') = false := decide_eq_false hlt'
        have HE3 : Hid (Cha.slC l m = 0) := Lib.hid (by
          rw [HE.out, show l.drop k = [] from List.drop_eq_nil_of_le (by rw [HN.out]; exact Nat.le_refl _), show m.drop k = [] from List.drop_eq_nil_of_le (by rw [HN'.out]; omega)]; rfl)
        clear HE
        go_wp2_with fail
        go_ret
        exact ⟨by rw [HE3.out]; rfl, rfl⟩
set_option maxRecDepth 100000 in
set_option maxHeartbeats 2000000 in
theorem less_any (v v' : Value) (l m : List Int) (w : World) (F : Nat → Prop) (hF : ∀ b, F b → b < w.heap.size) (h : SlI F w v l) (h' : SlI F w v' m) :
    Calls Tryd.prog 22 #[v, v'] w fun e w' => e = .returned (.bool (Cha.lessF l m)) ∧ Below w.heap.size w w' := by
  obtain ⟨A, c, rfl, -, hlm, hat⟩ := h.open
  obtain ⟨A', c', rfl, -, hlm', hat'⟩ := h'.open
  obtain ⟨n, hn⟩ : ∃ n, l.length = n := ⟨_, rfl⟩
  obtain ⟨n', hn'⟩ : ∃ n, m.length = n := ⟨_, rfl⟩
  rw [hn] at hlm ⊢
  rw [hn'] at hlm' ⊢
  have HN := Lib.hid hn
  have HN' := Lib.hid hn'
  have HAT := Lib.hid hat
  have HAT' := Lib.hid hat'
  clear hn hn' h h' hat hat'
  by_cases hne : n = n'
  · subst hne
    have HZ : Hid (Cha.lessF l m = Cha.lexF l m) := Lib.hid (by unfold Cha.lessF; rw [if_pos (by rw [HN.out, HN'.out])])
    go_enter Tryd.func22, Tryd.ntmps22
    go_wp2_with fail
    go_loopg [5] n (fun gg s wr => ∃ k : Nat, k ≤ n ∧ n - k ≤ gg ∧ s = .int .i64 k ∧ Aside (Cha.lexF l m = Cha.lexF (l.drop k) (m.drop k)) ∧ Aside (Below w.heap.size w wr))
    case atStart => exact ⟨0, by omega, by omega, rfl, (show Aside _ from by show _ = _; rw [List.drop_zero, List.drop_zero]), B0 w⟩
    case round =>
      obtain ⟨k, hk, hg, rfl, HE, HB⟩ := hrel
      replace HE := Lib.hid HE
      replace HB := Lib.hid HB
      by_cases hlt : k < n
      · have hltI : (k : Int) < n := by omega
        have hk1 : k < l.length := by rw [HN.out]; exact hlt
        have hk2 : k < m.length := by rw [HN'.out]; exact hlt
        obtain ⟨ad, rfl, hf, q0⟩ := HAT.out k hk1
        obtain ⟨ad', rfl, hf', q0'⟩ := HAT'.out k hk2
        replace q0 := (HB.out.cell (p := ad.add k) (by rw [block_of_add]; exact hF _ hf)).trans q0
        replace q0' := (HB.out.cell (p := ad'.add k) (by rw [block_of_add]; exact hF _ hf')).trans q0'
        have he := HE.out
        rw [List.drop_eq_getElem_cons hk1, List.drop_eq_getElem_cons hk2, Cha.lexF] at he
        have HE2 := Lib.hid he
        clear he hf hf'
        generalize l[k] = x at *
        generalize m[k] = y at *
        clear hk1 hk2
        by_cases h0 : x = y
        · subst h0
          have HE3 : Hid (Cha.lexF l m = Cha.lexF (l.drop (k + 1)) (m.drop (k + 1))) := Lib.hid (by rw [HE2.out, if_pos rfl])
          clear HE2 HE
          go_upto_region 6 with fail
          go_quiet (fail)
          go_wp2_with fail
          go_roundg (n - (k + 1))
          case measure => omega
          case rel => exact ⟨k + 1, by omega, by omega, by go_num, HE3.out, below_drewN HB.out _⟩
        · have d1 : (x != y) = true := by simpa using h0
          have HE3 : Hid (Cha.lexF l m = decide (x < y)) := Lib.hid (by rw [HE2.out, if_neg h0])
          clear HE2 HE h0
          go_upto_region 6 with fail
          go_quiet (fail)
          go_upto_region 7 with fail
          go_quiet (fail)
          go_wp2_with fail
          go_ret
          exact ⟨by rw [HZ.out, HE3.out]; rfl, below_drewN (below_drewN HB.out _) _⟩
      · obtain rfl : k = n := by omega
        have HE3 : Hid (Cha.lexF l m = false) := Lib.hid (by
          rw [HE.out, show l.drop k = [] from List.drop_eq_nil_of_le (by rw [HN.out]; exact Nat.le_refl _)]; rfl)
        clear HE
        go_wp2_with fail
        go_ret
        exact ⟨by rw [HZ.out, HE3.out]; rfl, HB.out⟩
  · have d1 : ((n : Int) != n') = true := by simp; omega
    have HZ : Hid (Cha.lessF l m = decide (n < n')) := Lib.hid (by unfold Cha.lessF; rw [if_neg (by rw [HN.out, HN'.out]; exact hne), HN.out, HN'.out])
    have hd : decide ((n : Int) < n') = decide (n < n') := by simp
    have HD := Lib.hid hd
    clear hd hne
    go_enter Tryd.func22, Tryd.ntmps22
    go_wp2_with fail
    all_goals
      go_ret
      refine ⟨?_, B0 w⟩
      rw [HZ.out]
      first | rfl | (rw [← HD.out]; rfl) | (congr 2; simp; omega)
end Go.Proofs.YtahlfndlkfoikaaDoor
