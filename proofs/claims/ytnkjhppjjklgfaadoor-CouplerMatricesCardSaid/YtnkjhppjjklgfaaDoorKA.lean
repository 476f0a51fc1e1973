/- Walks over coupler's statements: add. -/
import Derived.Test.YtnkjhppjjklgfaaDoorKy
import Derived.Test.YtnkjhppjjklgfaaDoorGr
import Derived.Deep.RegionHeld3
namespace Go.Proofs.YtnkjhppjjklgfaaDoor
open Go Go.RowKit Go.Shelf
section
variable {P : Program} {w w' : World}
/-- 'xs = append(xs, ys...)', xs a slice of the call's own. -/
theorem run_appK {t e : TypeId} {k bytes : Nat} (E : ElemN P t e k bytes) (hk : 0 < k) (ty : TypeId) {base : Nat} {A : Option Addr} {n c : Nat} {xs : List Value} (hown : Own0 w base e k A n c xs)
    (B : Nat) (A2 : Option Addr) (m c2 : Nat) (news : List Value) (hr : Reads w B k A2 m news) (h1 : ∀ u ∈ news, u.oneCell' = true) (hn : n + m ≤ 1000000000) (hb : bytes ≤ 1000) (hbase : base ≤ w.heap.size) :
    ∃ A' c' w', (Builtin.append_ #[t, t] ty #[.slice A n c, .slice A2 m c2]).run P w = .ok (.slice A' (n + m) c') w' ∧ Own0 w' base e k A' (n + m) c' (xs ++ news) ∧
      ((n = 0 ∧ Below w.heap.size w w') ∨ (0 < n ∧ w.grownBy w' (Value.slice A n c).ownBlock)) := by
  rcases hown with ⟨rfl, rfl, rfl⟩ | ⟨h0, hown⟩
  · obtain ⟨A', c', w', hrun, h2, h3⟩ := run_copy (w := w) E hk ty A B A2 m c2 news hr h1 (by omega) hb
    refine ⟨A', c', w', ?_, ?_, .inl ⟨rfl, h2⟩⟩
    · rw [Nat.zero_add]; exact hrun
    · rw [Nat.zero_add, List.nil_append]
      rcases h3 with h3 | ⟨h4, h3⟩
      · exact .inl h3
      · refine .inr ⟨h4, ?_⟩
        have := h3
        rcases h3.2 with ⟨hh, q⟩ | ⟨g, cap, cur, q1, q2, q3⟩
        · exact ⟨h3.1, .inl ⟨hh, q⟩⟩
        · exact ⟨h3.1, .inr ⟨g, cap, cur, q1, Nat.le_trans hbase q2, q3⟩⟩
  · obtain ⟨ht, i, z, hi, hz, hsz, hby, hzs⟩ := E
    have hmb : (n + m) * bytes ≤ 1000000000 * 1000 := Nat.mul_le_mul hn hb
    obtain ⟨v', w', hrun, h2, h3, _⟩ := run_append_any (P := P) w base t ty e i z k bytes ht hi hz hsz hby hzs hk (.slice A n c) n xs hown B A2 m c2 news hr h1 (by unfold maxLen; omega) (by omega) hbase
    obtain ⟨j, hj⟩ : ∃ j, n + m = j + 1 := ⟨n + m - 1, by omega⟩
    rw [hj] at h2
    obtain ⟨g, cap, rfl⟩ := own_lit h2
    rw [← hj] at h2
    exact ⟨some ⟨g, 0, none⟩, cap, w', by rw [hj]; exact hrun, .inr ⟨by omega, h2⟩, .inr ⟨h0, h3⟩⟩
theorem Bg0 {a b c : World} {base : Nat} {e : TypeId} {k n cc : Nat} {A : Option Addr} {xs : List Value} (h : Below a.heap.size a b) (hown : Own0 b base e k A n cc xs) (hbase : a.heap.size ≤ base)
    (hg : (n = 0 ∧ Below b.heap.size b c) ∨ (0 < n ∧ b.grownBy c (Value.slice A n cc).ownBlock)) : Below a.heap.size a c := by
  rcases hg with ⟨_, hg⟩ | ⟨h0, hg⟩
  · exact Bt h hg
  · rcases hown with ⟨h1, _⟩ | ⟨_, hown⟩
    · omega
    · exact Bg h hown hbase hg
end
theorem after11 {l : List Oper} {a0 : Act} {y : Nat → Value} {d0 d1 d2 d3 d4 d5 d6 d7 d8 d9 d10 : Nat} {L : List Value} {df} (h : l.filterMap (·.dst) = [d0, d1, d2, d3, d4, d5, d6, d7, d8, d9, d10]) (e : a0 = ⟨L.toArray, df⟩) : after l a0 y = ⟨(((((((((((L.set d0 (y d0)).set d1 (y d1)).set d2 (y d2)).set d3 (y d3)).set d4 (y d4)).set d5 (y d5)).set d6 (y d6)).set d7 (y d7)).set d8 (y d8)).set d9 (y d9)).set d10 (y d10)).toArray, df⟩ := by
  subst e
  unfold after; rw [h]; simp only [List.foldl_cons, List.foldl_nil, List.setIfInBounds_toArray]
section
variable {P : Program} {w : World} {ops : Array Oper} {rest : List Oper} {o : Oper} {a : Act} {Q : Exit → Act → World → Prop}
theorem wpList_appK {t e : TypeId} {k bytes : Nat} (E : ElemN P t e k bytes) (hk : 0 < k) (hgd : o.guard = none) (s x : Operand) (ho : o.op = .call { callee := .builtin .append, args := #[s, x], argTypes := #[t, t] })
    {base : Nat} {A : Option Addr} {n c : Nat} {xs : List Value} (hown : Own0 w base e k A n c xs) (hs : a.eval s = .slice A n c) (B : Nat) (A2 : Option Addr) (m c2 : Nat) (news : List Value) (hx : a.eval x = .slice A2 m c2) (hr : Reads w B k A2 m news) (h1 : ∀ u ∈ news, u.oneCell' = true)
    (hn : n + m ≤ 1000000000) (hb : bytes ≤ 1000) (hbase : base ≤ w.heap.size)
    (h : ∀ A' c' w', Own0 w' base e k A' (n + m) c' (xs ++ news) → ((n = 0 ∧ Below w.heap.size w w') ∨ (0 < n ∧ w.grownBy w' (Value.slice A n c).ownBlock)) → wpList P ops Q rest (a.put o.dst (.slice A' (n + m) c')) w') : wpList P ops Q (o :: rest) a w :=
  wpList_plain hgd fun K hK => by
    obtain ⟨A', c', w', hrun, h2, h3⟩ := run_appK (w := w) E hk o.type hown B A2 m c2 news hr h1 hn hb hbase
    unfold Oper.wp execOp
    simp only [ho, resolve, invoke, builtin, Sem.run_bind, Sem.run_pure, Result.andThen_ok, List.map_toArray, List.map_cons, List.map_nil, hs, hx, hrun]
    exact hK _ _ (h A' c' w' h2 h3)
/-- The first k elements of what is read. -/
theorem Reads.head {w : World} {B size : Nat} {A : Option Addr} {n : Nat} {xs : List Value} (h : Reads w B size A n xs) {k : Nat} (hk : k ≤ n) : Reads w B size A k (xs.take (k * size)) := by
  refine ⟨by rw [List.length_take, h.1, Nat.min_eq_left (Nat.mul_le_mul_right _ hk)], fun h0 => ?_⟩
  obtain ⟨ad, e, hb, hc⟩ := h.2 (by omega)
  refine ⟨ad, e, hb, fun j u hu => hc j u ?_⟩
  rw [List.getElem?_take] at hu
  split at hu
  · exact hu
  · cases hu
end
/-- The cells of contacts. -/
def ctCs (l : List Cou.Ct) : List Value := (l.map fun c => [Value.int .i64 c.1, .int .i64 c.2]).flatten
theorem ctCs_app (l m : List Cou.Ct) : ctCs (l ++ m) = ctCs l ++ ctCs m := by simp [ctCs]
theorem ctCs_len (l : List Cou.Ct) : (ctCs l).length = l.length * 2 := by
  induction l with
  | nil => rfl
  | cons x l ih => rw [show ctCs (x :: l) = ctCs [x] ++ ctCs l from ctCs_app [x] l, List.length_append, ih, List.length_cons]; simp [ctCs]; omega
theorem ctCs_one (l : List Cou.Ct) : ∀ u ∈ ctCs l, u.oneCell' = true := by
  intro u hu
  simp only [ctCs, List.mem_flatten, List.mem_map] at hu
  obtain ⟨_, ⟨c, _, rfl⟩, hu⟩ := hu
  simp at hu
  rcases hu with rfl | rfl <;> rfl
theorem ctCs_take (l : List Cou.Ct) (k : Nat) : (ctCs l).take (k * 2) = ctCs (l.take k) := by
  induction l generalizing k with
  | nil => simp [ctCs]
  | cons x l ih =>
    cases k with
    | zero => simp [ctCs]
    | succ k =>
      rw [show ctCs (x :: l) = [Value.int .i64 x.1, .int .i64 x.2] ++ ctCs l from ctCs_app [x] l, show (k + 1) * 2 = k * 2 + 2 by omega, List.take_succ_cons]
      rw [show ctCs (x :: l.take k) = [Value.int .i64 x.1, .int .i64 x.2] ++ ctCs (l.take k) from ctCs_app [x] (l.take k), ← ih]
      simp
theorem ctCs_drop (l : List Cou.Ct) (k : Nat) : (ctCs l).drop (k * 2) = ctCs (l.drop k) := by
  induction l generalizing k with
  | nil => simp [ctCs]
  | cons x l ih =>
    cases k with
    | zero => simp [ctCs]
    | succ k =>
      rw [show ctCs (x :: l) = [Value.int .i64 x.1, .int .i64 x.2] ++ ctCs l from ctCs_app [x] l, show (k + 1) * 2 = k * 2 + 2 by omega, List.drop_succ_cons, ← ih]
      simp
theorem SlCt.reads {F : Nat → Prop} {w : World} {A : Option Addr} {n c B : Nat} {l : List Cou.Ct} (h : SlCt F w (.slice A n c) l) (hF : ∀ b, F b → b < B) : Reads w B 2 A n (ctCs l) := by
  obtain ⟨cs, h1, h2, h3⟩ := Sl.cells h hF
  have : cs = l.map fun c => [Value.int .i64 c.1, .int .i64 c.2] := by
    refine List.ext_getElem? fun i => ?_
    by_cases hi : i < l.length
    · obtain ⟨x, hx, _, hr⟩ := h2 i hi
      rw [hx, hr]
      simp [hi]
    · rw [List.getElem?_eq_none (by omega), List.getElem?_eq_none (by simp; omega)]
  rw [this] at h3
  exact h3
theorem Own0.cts {F : Nat → Prop} {w : World} {base : Nat} {e : TypeId} {A : Option Addr} {n c : Nat} {l : List Cou.Ct} (h : Own0 w base e 2 A n c (ctCs l)) (hn : n = l.length) (hl : l.length ≤ 1000000000) (hF : ∀ b, base ≤ b → b < w.heap.size → F b) : SlCt F w (.slice A n c) l := by
  subst hn
  rcases h with ⟨h0, hc, _⟩ | ⟨h0, h⟩
  · subst hc
    have hl0 : l = [] := List.eq_nil_of_length_eq_zero h0
    subst hl0
    exact ⟨A, 0, rfl, by simp, by simp, fun i hi => absurd hi (by simp)⟩
  · exact Sl.of_own (cs := l.map fun c => [Value.int .i64 c.1, .int .i64 c.2]) h rfl (by omega) rfl (by simp) (fun i hi => ⟨_, by simp [hi], rfl, rfl⟩) fun b q1 q2 _ => hF b q1 q2
/-- What holds behind each operation of the region that puts a contact in. -/
def FA (base : Nat) (A : Option Addr) (n c k : Nat) (l : List Cou.Ct) (x : Cou.Ct) (j : Nat) (s : Nat → Value) (w : World) : Prop :=
  match j with
  | 0 => ∃ A0, s 56 = .slice A0 0 0
  | 1 => s 57 = .slice A n c
  | 2 => s 58 = .int .i64 k
  | 3 => s 59 = .slice A k c
  | 4 => ∃ A' c', s 60 = .slice A' k c' ∧ Own0 w base 28 2 A' k c' (ctCs (l.take k))
  | 5 => s 61 = .agg #[.int .i64 x.1, .int .i64 x.2]
  | 6 => ∃ g, s 62 = .slice (some ⟨g, 0, none⟩) 1 1 ∧ Reads w w.heap.size 2 (some ⟨g, 0, none⟩) 1 (ctCs [x])
  | 7 => ∃ A' c', s 63 = .slice A' (k + 1) c' ∧ Own0 w base 28 2 A' (k + 1) c' (ctCs (l.take k ++ [x]))
  | 8 => s 64 = .slice A n c
  | 9 => s 65 = .int .i64 k
  | 10 => s 66 = .slice (if c = k then A else A.map (·.add (k * 2))) (n - k) (c - k)
  | _ => True
def VA (j : Nat) : List Nat := match j with
  | 0 => [56] | 1 => [57] | 2 => [58] | 3 => [59] | 4 => [60] | 5 => [61] | 6 => [62] | 7 => [63] | 8 => [64] | 9 => [65] | 10 => [66] | _ => []
def EA (j : Nat) : Bool := j == 7 || j == 10
section
variable {base n c k : Nat} {A : Option Addr} {l : List Cou.Ct} {x : Cou.Ct}
theorem FA_V (j : Nat) (s s' : Nat → Value) (w : World) (h : ∀ t, t ∈ VA j → s' t = s t) (hF : FA base A n c k l x j s w) : FA base A n c k l x j s' w := by
  match j with
  | 0 => simpa [FA, h 56 (by simp [VA])] using hF
  | 1 => simpa [FA, h 57 (by simp [VA])] using hF
  | 2 => simpa [FA, h 58 (by simp [VA])] using hF
  | 3 => simpa [FA, h 59 (by simp [VA])] using hF
  | 4 => simpa [FA, h 60 (by simp [VA])] using hF
  | 5 => simpa [FA, h 61 (by simp [VA])] using hF
  | 6 => simpa [FA, h 62 (by simp [VA])] using hF
  | 7 => simpa [FA, h 63 (by simp [VA])] using hF
  | 8 => simpa [FA, h 64 (by simp [VA])] using hF
  | 9 => simpa [FA, h 65 (by simp [VA])] using hF
  | 10 => simpa [FA, h 66 (by simp [VA])] using hF
  | _ + 11 => trivial
theorem FA_below (j : Nat) (s : Nat → Value) (w w' : World) (hb : Below w.heap.size w w') (hF : FA base A n c k l x j s w) : FA base A n c k l x j s w' := by
  match j with
  | 0 => exact hF
  | 1 => exact hF
  | 2 => exact hF
  | 3 => exact hF
  | 4 => obtain ⟨A', c', q1, q2⟩ := hF; exact ⟨A', c', q1, q2.below hb⟩
  | 5 => exact hF
  | 6 => obtain ⟨g, q1, q2⟩ := hF; exact ⟨g, q1, (q2.below hb).more hb.size⟩
  | 7 => obtain ⟨A', c', q1, q2⟩ := hF; exact ⟨A', c', q1, q2.below hb⟩
  | 8 => exact hF
  | 9 => exact hF
  | 10 => exact hF
  | _ + 11 => trivial
end
set_option maxRecDepth 100000 in
set_option maxHeartbeats 4000000 in
theorem add_any (v : Value) (l : List Cou.Ct) (x : Cou.Ct) (w : World) (F : Nat → Prop) (hF : ∀ b, F b → b < w.heap.size) (h : SlCt F w v l) (hl : l.length ≤ 100000) :
    Calls Tryd.prog 39 #[v, .agg #[.int .i64 x.1, .int .i64 x.2]] w fun e w' => ∃ v', e = .returned (.tuple #[v', .bool (Cou.newF l x)]) ∧ SlCt (fun b => F b ∨ (w.heap.size ≤ b ∧ b < w'.heap.size)) w' v' (Cou.addF l x) ∧ Below w.heap.size w w' := by
  obtain ⟨A, c, rfl, hnc, _, hat⟩ := h.open
  obtain ⟨n, hn⟩ : ∃ n, l.length = n := ⟨_, rfl⟩
  rw [hn] at hnc hl ⊢
  have hrd : Reads w w.heap.size 2 A n (ctCs l) := by
    have h2 := h
    rw [hn] at h2
    exact h2.reads hF
  obtain ⟨x1, x2⟩ := x
  have HN := Lib.hid hn
  have HAT := Lib.hid hat
  have HS := Lib.hid h
  have HRD := Lib.hid hrd
  have hpl : Cou.posF l (x1, x2) ≤ n := by rw [← hn]; exact Cou.posF_le l _
  obtain ⟨q, hq⟩ : ∃ q, Cou.posF l (x1, x2) = q := ⟨_, rfl⟩
  rw [hq] at hpl
  have HQ := Lib.hid hq
  obtain ⟨w1, hw1⟩ : ∃ w1 : World, w.alloc (.cells #[.int .i64 x1, .int .i64 x2] 28) = w1 := ⟨_, rfl⟩
  obtain ⟨xb, hxb⟩ : ∃ xb, w.heap.size = xb := ⟨_, rfl⟩
  have XB : Blk w1 xb 28 #[.int .i64 x1, .int .i64 x2] := by rw [← hw1, ← hxb]; exact Blk.new _ _ _
  have B1 : Below w.heap.size w w1 := by rw [← hw1]; exact Ba (B0 w) _
  have HXB := Lib.hid XB
  have HB1 := Lib.hid B1
  have HW1 := Lib.hid hw1
  have HXX := Lib.hid hxb
  have hnn : (n : Int) ≤ 9223372036854775807 := by omega
  clear hn h hat hrd hq XB B1 hw1 hxb
  dsimp only
  go_enter Tryd.func39, Tryd.ntmps39
  go_upto_region 1 with fail
  rw [HW1.out, HXX.out]
  go_wp2_with fail
  go_loopw [6] (fun p wr => ∃ k : Nat, k ≤ q ∧ p = .int .i64 k ∧ Aside (Below w1.heap.size w1 wr)) (fun p _ => q - (intOf p).toNat)
  case atStart => exact ⟨0, Nat.zero_le _, rfl, B0 w1⟩
  case round =>
    obtain ⟨k, hk, rfl, hB⟩ := hrel
    replace hB : Below w1.heap.size w1 wr := hB
    have kb := HXB.out.below hB HXB.out.lt
    have kx0 := kb.cell 0
    have kx1 := kb.cell 1
    simp only [List.getElem?_toArray, List.getElem?_cons_zero, List.getElem?_cons_succ] at kx0 kx1
    have HB := Lib.hid hB
    have HKB := Lib.hid kb
    clear hB kb
    by_cases hkn : k < n
    · have hkl : k < l.length := by rw [HN.out]; exact hkn
      obtain ⟨ad, rfl, hf, hfl⟩ := HAT.out k hkl
      have hfb : (ad.add (k * 2)).block < w.heap.size := by rw [block_of_add]; exact hF _ hf
      have q1 := (hfl.below HB1.out hfb).below HB.out (Nat.lt_of_lt_of_le hfb HB1.out.size)
      have f0 := q1.f0 rfl
      have f1 := q1.f1 rfl
      have hknI : (k : Int) < n := by omega
      have dk : decide ((k : Int) < n) = true := decide_eq_true hknI
      have dkn : decide (k < n) = true := decide_eq_true hkn
      have hstep : k < q → Cou.lt l[k] (x1, x2) := fun e => Cou.posF_step l (x1, x2) k hkl (by rw [HQ.out]; exact e)
      have hstop : k = q → ¬ Cou.lt l[k] (x1, x2) := fun e => by
        subst e
        have := Cou.posF_end l (x1, x2) (by rw [HQ.out]; exact hkl)
        simp only [HQ.out] at this
        exact this
      have hge : l[k]? = some l[k] := List.getElem?_eq_getElem hkl
      have HGE := Lib.hid hge
      clear hfl q1 hf hge
      generalize l[k] = y at *
      obtain ⟨y1, y2⟩ := y
      dsimp only at f0 f1
      unfold Cou.lt at hstep hstop
      dsimp only at hstep hstop
      by_cases hkq : k < q
      · have hs := hstep hkq
        have hcs : decide (y1 < x1) = true ∨ (decide (y1 < x1) = false ∧ (y1 == x1) = true ∧ decide (y2 < x2) = true) := by
          simp only [decide_eq_true_eq, decide_eq_false_iff_not, beq_iff_eq]; omega
        clear hs hstep hstop hkl hfb
        rcases hcs with d1 | ⟨d1, d2, d3⟩
        all_goals
          go_upto_region 2 with fail
          go_quiet (fail)
          go_wp2
          go_roundw
          case rel => exact ⟨k + 1, by omega, by go_num, below_drewN HB.out _⟩
          case measure => simp [intOf]; omega
      · have hkq2 : k = q := by omega
        have hs := hstop hkq2
        by_cases hxy : y1 = x1 ∧ y2 = x2
        · obtain ⟨rfl, rfl⟩ := hxy
          have HNF : Hid (Cou.newF l (y1, y2) = false ∧ Cou.addF l (y1, y2) = l) := Lib.hid (by
            have hp : l[Cou.posF l (y1, y2)]? = some (y1, y2) := by rw [HQ.out, ← hkq2]; exact HGE.out
            exact ⟨by unfold Cou.newF; exact decide_eq_false (fun h => h hp), by unfold Cou.addF; rw [if_pos hp]⟩)
          have d1 : decide (y1 < y1) = false := decide_eq_false (by omega)
          have d3 : decide (y2 < y2) = false := decide_eq_false (by omega)
          clear hs hstep hstop hkl hfb hkq hkq2
          go_upto_region 2 with fail
          go_quiet (fail)
          go_upto_region 4 with fail
          go_quiet (fail)
          go_wp2
          go_ret2
          refine ⟨_, by rw [HNF.out.1]; rfl, ?_, Bt HB1.out (below_drewN (below_drewN HB.out _) _)⟩
          rw [HNF.out.2]
          have h1 := (HS.out.keep (Agree.below HB1.out hF))
          rw [HN.out] at h1
          exact Sl.mono (SlCt.keep h1 (Agree.below (below_drewN (below_drewN HB.out _) _) fun b h => Nat.lt_of_lt_of_le (hF b h) HB1.out.size)) fun b h => .inl h
        · have HNF : Hid (Cou.newF l (x1, x2) = true ∧ Cou.addF l (x1, x2) = l.take k ++ [(x1, x2)] ++ l.drop k) := Lib.hid (by
            have hp : ¬ l[Cou.posF l (x1, x2)]? = some (x1, x2) := by
              rw [HQ.out, ← hkq2, HGE.out]
              intro e
              injection e with e
              injection e with e1 e2
              exact hxy ⟨e1, e2⟩
            exact ⟨by unfold Cou.newF; exact decide_eq_true hp, by unfold Cou.addF; rw [if_neg hp, HQ.out, hkq2]⟩)
          have hcs : (decide (y1 < x1) = false ∧ (y1 == x1) = false) ∨ (decide (y1 < x1) = false ∧ y1 = x1 ∧ (y1 == x1) = true ∧ decide (y2 < x2) = false ∧ (y2 == x2) = false) := by
            simp only [decide_eq_false_iff_not, beq_iff_eq, beq_eq_false_iff_ne]; omega
          have hkn1 : k ≤ n := by omega
          clear hs hstep hstop hkl hfb hkq hkq2 hxy
          rcases hcs with ⟨d1, d2⟩ | ⟨d1, _, d2, d3, d4⟩
          all_goals as_aux_lemma =>
            go_upto_region 2 with fail
            go_quiet (fail)
            go_upto_region 4 with fail
            go_quiet (fail)
            go_upto_region 6 with fail
            have hw1l := HXB.out.lt
            have kb1 := HXB.out
            refine region_blocks (by kernel_rfl) ?_
            refine from_lawM 11 EA (fun w' => Below w1.heap.size w1 w') (FA w1.heap.size (some ad) n c k l (x1, x2)) VA (by kernel_rfl) rfl FA_V (by kernel_rfl) (by kernel_rfl) ((below_drewN (below_drewN HB.out _) _).drew) ⟨?_, ?_, ?_, ?_, ?_, ?_, ?_, ?_, ?_, ?_, ?_, trivial⟩ ?_
            · refine OpFactM.value FA_below fun a w2 hf D hb => ?_
              refine ⟨.slice (some ⟨w2.heap.size, 0, none⟩) 0 0, w2.alloc (.cells #[] 28), ?_, Ba (B0 _) _, Ba hb _, fun s _ h => ⟨_, h 56 rfl⟩⟩
              simp [go_sem]
            · refine OpFactM.value FA_below fun a w2 hf D hb => ?_
              have h0 : sl a 0 = .slice (some ad) n c := hf 0 (by kernel_rfl)
              refine ⟨.slice (some ad) n c, w2, ?_, B0 _, hb, fun s _ h => h 57 rfl⟩
              unfold sl at h0
              simp [go_sem, h0]
            · refine OpFactM.value FA_below fun a w2 hf D hb => ?_
              have h0 : sl a 6 = .int .i64 k := hf 6 (by kernel_rfl)
              refine ⟨.int .i64 k, w2, ?_, B0 _, hb, fun s _ h => h 58 rfl⟩
              unfold sl at h0
              simp [go_sem, h0]
            · refine OpFactM.value FA_below fun a w2 hf D hb => ?_
              have h1 : sl a 57 = .slice (some ad) n c := D 1 (by kernel_rfl)
              have h2 : sl a 58 = .int .i64 k := D 2 (by kernel_rfl)
              refine ⟨.slice (some ad) k c, w2, ?_, B0 _, hb, fun s _ h => h 59 rfl⟩
              unfold sl at h1 h2
              simp at h1 h2
              unfold execOp
              simp [Act.eval, h1, h2, go_sem, Nat.not_lt.2 (show k ≤ c by omega)]
            · refine OpFactM.value FA_below fun a w2 hf D hb => ?_
              obtain ⟨A0, h1⟩ : ∃ A0, sl a 56 = .slice A0 0 0 := D 0 (by kernel_rfl)
              have h2 : sl a 59 = .slice (some ad) k c := D 3 (by kernel_rfl)
              have hr : Reads w2 w.heap.size 2 (some ad) k (ctCs (l.take k)) := by
                have := ((HRD.out.below HB1.out).below (hb.mono HB1.out.size)).head (k := k) hkn1
                rwa [ctCs_take] at this
              obtain ⟨A', c', w', hrun, h3, h4⟩ := run_copy (w := w2) elemCt (by omega) 36 A0 w.heap.size (some ad) k c _ hr (ctCs_one _) (by omega) (by omega)
              refine ⟨.slice A' k c', w', ?_, h3, Bt hb h3, fun s _ h => ⟨A', c', h 60 rfl, h4.more hb.size⟩⟩
              unfold sl at h1 h2
              simp at h1 h2
              unfold execOp
              simp [resolve, invoke, builtin, Act.eval, h1, h2, hrun]
            · refine OpFactM.value FA_below fun a w2 hf D hb => ?_
              have h0 : sl a 3 = .pointer (some ⟨xb, 0, none⟩) := hf 3 (by kernel_rfl)
              have kk := HXB.out.below hb HXB.out.lt
              have e0 := kk.cell 0
              have e1 := kk.cell 1
              simp only [List.getElem?_toArray, List.getElem?_cons_zero, List.getElem?_cons_succ] at e0 e1
              refine ⟨.agg #[.int .i64 x1, .int .i64 x2], w2, ?_, B0 _, hb, fun s _ h => h 61 rfl⟩
              unfold sl at h0
              simp at h0
              simp [go_sem, h0, e0, e1]
            · refine OpFactM.value FA_below fun a w2 hf D hb => ?_
              have h1 : sl a 61 = .agg #[.int .i64 x1, .int .i64 x2] := D 5 (by kernel_rfl)
              refine ⟨.slice (some ⟨w2.heap.size, 0, none⟩) 1 1, w2.alloc (.cells #[.int .i64 x1, .int .i64 x2] 28), ?_, Ba (B0 _) _, Ba hb _, fun s _ h => ⟨_, h 62 rfl, rfl, fun _ => ⟨_, rfl, by simp, Flds.new w2 _ _⟩⟩⟩
              unfold sl at h1
              simp at h1
              simp [go_sem, h1]
            · refine OpFactM.write fun a w2 hf D hb => ?_
              obtain ⟨A', c', h1, hO⟩ : ∃ A' c', sl a 60 = .slice A' k c' ∧ Own0 w2 w1.heap.size 28 2 A' k c' (ctCs (l.take k)) := D 4 (by kernel_rfl)
              obtain ⟨g, h2, hr⟩ : ∃ g, sl a 62 = .slice (some ⟨g, 0, none⟩) 1 1 ∧ Reads w2 w2.heap.size 2 (some ⟨g, 0, none⟩) 1 (ctCs [(x1, x2)]) := D 6 (by kernel_rfl)
              obtain ⟨A8, c8, w', hrun, h3, h4⟩ := run_appK (w := w2) elemCt (by omega) 36 hO w2.heap.size (some ⟨g, 0, none⟩) 1 1 _ hr (ctCs_one _) (by omega) (by omega) hb.size
              rw [← ctCs_app] at h3
              refine ⟨.slice A8 (k + 1) c8, w', ?_, Bg0 hb hO (Nat.le_refl _) h4, fun j hj hE hF => ?_, fun s _ h => ⟨A8, c8, h 63 rfl, h3⟩⟩
              · unfold sl at h1 h2
                simp at h1 h2
                unfold execOp
                simp [resolve, invoke, builtin, Act.eval, h1, h2, hrun]
              · match j with
                | 0 => exact hF
                | 1 => exact hF
                | 2 => exact hF
                | 3 => exact hF
                | 4 => exact hE.elim (fun h => absurd h (by decide)) fun h => absurd h (Bool.eq_false_iff.1 (by kernel_rfl))
                | 5 => exact hF
                | 6 => exact hE.elim (fun h => absurd h (by decide)) fun h => absurd h (Bool.eq_false_iff.1 (by kernel_rfl))
                | 7 => exact absurd rfl hj
                | 8 => exact hF
                | 9 => exact hF
                | 10 => exact hF
                | _ + 11 => trivial
            · refine OpFactM.value FA_below fun a w2 hf D hb => ?_
              have h0 : sl a 0 = .slice (some ad) n c := hf 0 (by kernel_rfl)
              refine ⟨.slice (some ad) n c, w2, ?_, B0 _, hb, fun s _ h => h 64 rfl⟩
              unfold sl at h0
              simp [go_sem, h0]
            · refine OpFactM.value FA_below fun a w2 hf D hb => ?_
              have h0 : sl a 6 = .int .i64 k := hf 6 (by kernel_rfl)
              refine ⟨.int .i64 k, w2, ?_, B0 _, hb, fun s _ h => h 65 rfl⟩
              unfold sl at h0
              simp [go_sem, h0]
            · refine OpFactM.value FA_below fun a w2 hf D hb => ?_
              have h1 : sl a 64 = .slice (some ad) n c := D 8 (by kernel_rfl)
              have h2 : sl a 65 = .int .i64 k := D 9 (by kernel_rfl)
              refine ⟨.slice (if c = k then (some ad) else (some ad : Option Addr).map (·.add (k * 2))) (n - k) (c - k), w2, ?_, B0 _, hb, fun s _ h => h 66 rfl⟩
              unfold sl at h1 h2
              simp at h1 h2
              unfold execOp
              simp [Act.eval, h1, h2, go_sem, Nat.not_lt.2 (show k ≤ n by omega)]
            · intro y w9 hb9 hF9
              obtain ⟨A8, c8, h63, hO8⟩ : ∃ A8 c8, y 63 = .slice A8 (k + 1) c8 ∧ Own0 w9 w1.heap.size 28 2 A8 (k + 1) c8 (ctCs (l.take k ++ [(x1, x2)])) := hF9 7 (by decide) rfl
              have h66 : y 66 = .slice (if c = k then (some ad) else (some ad : Option Addr).map (·.add (k * 2))) (n - k) (c - k) := hF9 10 (by decide) rfl
              have hr : Reads w9 w.heap.size 2 (if c = k then (some ad) else (some ad : Option Addr).map (·.add (k * 2))) (n - k) (ctCs (l.drop k)) := by
                have := ((HRD.out.below HB1.out).below (hb9.mono HB1.out.size)).cut hkn1 hnc
                rwa [ctCs_drop] at this
              obtain ⟨At, hAt⟩ : ∃ At, (if c = k then (some ad) else (some ad : Option Addr).map (·.add (k * 2))) = At := ⟨_, rfl⟩
              rw [hAt] at h66 hr
              clear hAt
              have HR9 := Lib.hid hr
              have HO9 := Lib.hid hO8
              have HB9 := Lib.hid hb9
              have hs9 := hb9.size
              clear hF9 hr hO8 hb9
              rw [after11 (d0 := 56) (d1 := 57) (d2 := 58) (d3 := 59) (d4 := 60) (d5 := 61) (d6 := 62) (d7 := 63) (d8 := 64) (d9 := 65) (d10 := 66) (by kernel_rfl) rfl]
              rw [h63, h66]
              simp only [List.set_cons_succ, List.set_cons_zero]
              refine from_list 14 (by kernel_rfl) (by simp only [List.take_succ_cons, List.take_zero, List.drop_succ_cons, List.drop_zero]; exact rfl) ?_
              (intro Q' hQ' hX; clear hX)
              go_wp2_with (at_builtin; refine wpList_appK elemCt (by omega) rfl _ _ rfl HO9.out rfl w.heap.size At (n - k) (c - k) _ rfl HR9.out (ctCs_one _) (by omega) (by omega) hs9 ?_; intro A7 c7 w7 hO7 hg7; have HB7 := Lib.hid (Bg0 HB9.out HO9.out (Nat.le_refl _) hg7); have HO7 := Lib.hid hO7; clear hO7 hg7)
              refine from_end rfl ?_
              go_wp2_with fail
              go_ret2
              refine ⟨_, by rw [HNF.out.1]; rfl, ?_, Bt HB1.out HB7.out⟩
              rw [HNF.out.2]
              have h8 := HO7.out
              rw [← ctCs_app, show k + 1 + (n - k) = n + 1 by omega] at h8
              have hl8 : (l.take k ++ [(x1, x2)] ++ l.drop k).length = n + 1 := by
                have := HN.out
                simp only [List.length_append, List.length_take, List.length_drop, List.length_cons, List.length_nil]; omega
              first
                | exact h8.cts hl8.symm (by omega) fun b q1 q2 => .inr ⟨Nat.le_trans HB1.out.size q1, q2⟩
                | (rw [show k + 1 + (n - k) = n + 1 by omega]; exact h8.cts hl8.symm (by omega) fun b q1 q2 => .inr ⟨Nat.le_trans HB1.out.size q1, q2⟩)
    · have hkn1 : k = n := by omega
      have dk : decide ((k : Int) < n) = false := decide_eq_false (by omega)
      have dkn : decide (k < n) = false := decide_eq_false (by omega)
      have HNF : Hid (Cou.newF l (x1, x2) = true ∧ Cou.addF l (x1, x2) = l.take k ++ [(x1, x2)] ++ l.drop k) := Lib.hid (by
        have hp : ¬ l[Cou.posF l (x1, x2)]? = some (x1, x2) := by
          rw [HQ.out, List.getElem?_eq_none (by rw [HN.out]; omega)]
          intro e
          cases e
        exact ⟨by unfold Cou.newF; exact decide_eq_true hp, by unfold Cou.addF; rw [if_neg hp, HQ.out, show k = q by omega]⟩)
      replace hkn1 : k ≤ n := by omega
      as_aux_lemma =>
        go_upto_region 2 with fail
        go_quiet (fail)
        go_upto_region 4 with fail
        go_quiet (fail)
        go_upto_region 6 with fail
        have hw1l := HXB.out.lt
        have kb1 := HXB.out
        refine region_blocks (by kernel_rfl) ?_
        refine from_lawM 11 EA (fun w' => Below w1.heap.size w1 w') (FA w1.heap.size A n c k l (x1, x2)) VA (by kernel_rfl) rfl FA_V (by kernel_rfl) (by kernel_rfl) ((below_drewN (below_drewN HB.out _) _).drew) ⟨?_, ?_, ?_, ?_, ?_, ?_, ?_, ?_, ?_, ?_, ?_, trivial⟩ ?_
        · refine OpFactM.value FA_below fun a w2 hf D hb => ?_
          refine ⟨.slice (some ⟨w2.heap.size, 0, none⟩) 0 0, w2.alloc (.cells #[] 28), ?_, Ba (B0 _) _, Ba hb _, fun s _ h => ⟨_, h 56 rfl⟩⟩
          simp [go_sem]
        · refine OpFactM.value FA_below fun a w2 hf D hb => ?_
          have h0 : sl a 0 = .slice A n c := hf 0 (by kernel_rfl)
          refine ⟨.slice A n c, w2, ?_, B0 _, hb, fun s _ h => h 57 rfl⟩
          unfold sl at h0
          simp [go_sem, h0]
        · refine OpFactM.value FA_below fun a w2 hf D hb => ?_
          have h0 : sl a 6 = .int .i64 k := hf 6 (by kernel_rfl)
          refine ⟨.int .i64 k, w2, ?_, B0 _, hb, fun s _ h => h 58 rfl⟩
          unfold sl at h0
          simp [go_sem, h0]
        · refine OpFactM.value FA_below fun a w2 hf D hb => ?_
          have h1 : sl a 57 = .slice A n c := D 1 (by kernel_rfl)
          have h2 : sl a 58 = .int .i64 k := D 2 (by kernel_rfl)
          refine ⟨.slice A k c, w2, ?_, B0 _, hb, fun s _ h => h 59 rfl⟩
          unfold sl at h1 h2
          simp at h1 h2
          unfold execOp
          simp [Act.eval, h1, h2, go_sem, Nat.not_lt.2 (show k ≤ c by omega)]
        · refine OpFactM.value FA_below fun a w2 hf D hb => ?_
          obtain ⟨A0, h1⟩ : ∃ A0, sl a 56 = .slice A0 0 0 := D 0 (by kernel_rfl)
          have h2 : sl a 59 = .slice A k c := D 3 (by kernel_rfl)
          have hr : Reads w2 w.heap.size 2 A k (ctCs (l.take k)) := by
            have := ((HRD.out.below HB1.out).below (hb.mono HB1.out.size)).head (k := k) hkn1
            rwa [ctCs_take] at this
          obtain ⟨A', c', w', hrun, h3, h4⟩ := run_copy (w := w2) elemCt (by omega) 36 A0 w.heap.size A k c _ hr (ctCs_one _) (by omega) (by omega)
          refine ⟨.slice A' k c', w', ?_, h3, Bt hb h3, fun s _ h => ⟨A', c', h 60 rfl, h4.more hb.size⟩⟩
          unfold sl at h1 h2
          simp at h1 h2
          unfold execOp
          simp [resolve, invoke, builtin, Act.eval, h1, h2, hrun]
        · refine OpFactM.value FA_below fun a w2 hf D hb => ?_
          have h0 : sl a 3 = .pointer (some ⟨xb, 0, none⟩) := hf 3 (by kernel_rfl)
          have kk := HXB.out.below hb HXB.out.lt
          have e0 := kk.cell 0
          have e1 := kk.cell 1
          simp only [List.getElem?_toArray, List.getElem?_cons_zero, List.getElem?_cons_succ] at e0 e1
          refine ⟨.agg #[.int .i64 x1, .int .i64 x2], w2, ?_, B0 _, hb, fun s _ h => h 61 rfl⟩
          unfold sl at h0
          simp at h0
          simp [go_sem, h0, e0, e1]
        · refine OpFactM.value FA_below fun a w2 hf D hb => ?_
          have h1 : sl a 61 = .agg #[.int .i64 x1, .int .i64 x2] := D 5 (by kernel_rfl)
          refine ⟨.slice (some ⟨w2.heap.size, 0, none⟩) 1 1, w2.alloc (.cells #[.int .i64 x1, .int .i64 x2] 28), ?_, Ba (B0 _) _, Ba hb _, fun s _ h => ⟨_, h 62 rfl, rfl, fun _ => ⟨_, rfl, by simp, Flds.new w2 _ _⟩⟩⟩
          unfold sl at h1
          simp at h1
          simp [go_sem, h1]
        · refine OpFactM.write fun a w2 hf D hb => ?_
          obtain ⟨A', c', h1, hO⟩ : ∃ A' c', sl a 60 = .slice A' k c' ∧ Own0 w2 w1.heap.size 28 2 A' k c' (ctCs (l.take k)) := D 4 (by kernel_rfl)
          obtain ⟨g, h2, hr⟩ : ∃ g, sl a 62 = .slice (some ⟨g, 0, none⟩) 1 1 ∧ Reads w2 w2.heap.size 2 (some ⟨g, 0, none⟩) 1 (ctCs [(x1, x2)]) := D 6 (by kernel_rfl)
          obtain ⟨A8, c8, w', hrun, h3, h4⟩ := run_appK (w := w2) elemCt (by omega) 36 hO w2.heap.size (some ⟨g, 0, none⟩) 1 1 _ hr (ctCs_one _) (by omega) (by omega) hb.size
          rw [← ctCs_app] at h3
          refine ⟨.slice A8 (k + 1) c8, w', ?_, Bg0 hb hO (Nat.le_refl _) h4, fun j hj hE hF => ?_, fun s _ h => ⟨A8, c8, h 63 rfl, h3⟩⟩
          · unfold sl at h1 h2
            simp at h1 h2
            unfold execOp
            simp [resolve, invoke, builtin, Act.eval, h1, h2, hrun]
          · match j with
            | 0 => exact hF
            | 1 => exact hF
            | 2 => exact hF
            | 3 => exact hF
            | 4 => exact hE.elim (fun h => absurd h (by decide)) fun h => absurd h (Bool.eq_false_iff.1 (by kernel_rfl))
            | 5 => exact hF
            | 6 => exact hE.elim (fun h => absurd h (by decide)) fun h => absurd h (Bool.eq_false_iff.1 (by kernel_rfl))
            | 7 => exact absurd rfl hj
            | 8 => exact hF
            | 9 => exact hF
            | 10 => exact hF
            | _ + 11 => trivial
        · refine OpFactM.value FA_below fun a w2 hf D hb => ?_
          have h0 : sl a 0 = .slice A n c := hf 0 (by kernel_rfl)
          refine ⟨.slice A n c, w2, ?_, B0 _, hb, fun s _ h => h 64 rfl⟩
          unfold sl at h0
          simp [go_sem, h0]
        · refine OpFactM.value FA_below fun a w2 hf D hb => ?_
          have h0 : sl a 6 = .int .i64 k := hf 6 (by kernel_rfl)
          refine ⟨.int .i64 k, w2, ?_, B0 _, hb, fun s _ h => h 65 rfl⟩
          unfold sl at h0
          simp [go_sem, h0]
        · refine OpFactM.value FA_below fun a w2 hf D hb => ?_
          have h1 : sl a 64 = .slice A n c := D 8 (by kernel_rfl)
          have h2 : sl a 65 = .int .i64 k := D 9 (by kernel_rfl)
          refine ⟨.slice (if c = k then A else (A : Option Addr).map (·.add (k * 2))) (n - k) (c - k), w2, ?_, B0 _, hb, fun s _ h => h 66 rfl⟩
          unfold sl at h1 h2
          simp at h1 h2
          unfold execOp
          simp [Act.eval, h1, h2, go_sem, Nat.not_lt.2 (show k ≤ n by omega)]
        · intro y w9 hb9 hF9
          obtain ⟨A8, c8, h63, hO8⟩ : ∃ A8 c8, y 63 = .slice A8 (k + 1) c8 ∧ Own0 w9 w1.heap.size 28 2 A8 (k + 1) c8 (ctCs (l.take k ++ [(x1, x2)])) := hF9 7 (by decide) rfl
          have h66 : y 66 = .slice (if c = k then A else (A : Option Addr).map (·.add (k * 2))) (n - k) (c - k) := hF9 10 (by decide) rfl
          have hr : Reads w9 w.heap.size 2 (if c = k then A else (A : Option Addr).map (·.add (k * 2))) (n - k) (ctCs (l.drop k)) := by
            have := ((HRD.out.below HB1.out).below (hb9.mono HB1.out.size)).cut hkn1 hnc
            rwa [ctCs_drop] at this
          obtain ⟨At, hAt⟩ : ∃ At, (if c = k then A else (A : Option Addr).map (·.add (k * 2))) = At := ⟨_, rfl⟩
          rw [hAt] at h66 hr
          clear hAt
          have HR9 := Lib.hid hr
          have HO9 := Lib.hid hO8
          have HB9 := Lib.hid hb9
          have hs9 := hb9.size
          clear hF9 hr hO8 hb9
          rw [after11 (d0 := 56) (d1 := 57) (d2 := 58) (d3 := 59) (d4 := 60) (d5 := 61) (d6 := 62) (d7 := 63) (d8 := 64) (d9 := 65) (d10 := 66) (by kernel_rfl) rfl]
          rw [h63, h66]
          simp only [List.set_cons_succ, List.set_cons_zero]
          refine from_list 14 (by kernel_rfl) (by simp only [List.take_succ_cons, List.take_zero, List.drop_succ_cons, List.drop_zero]; exact rfl) ?_
          (intro Q' hQ' hX; clear hX)
          go_wp2_with (at_builtin; refine wpList_appK elemCt (by omega) rfl _ _ rfl HO9.out rfl w.heap.size At (n - k) (c - k) _ rfl HR9.out (ctCs_one _) (by omega) (by omega) hs9 ?_; intro A7 c7 w7 hO7 hg7; have HB7 := Lib.hid (Bg0 HB9.out HO9.out (Nat.le_refl _) hg7); have HO7 := Lib.hid hO7; clear hO7 hg7)
          refine from_end rfl ?_
          go_wp2_with fail
          go_ret2
          refine ⟨_, by rw [HNF.out.1]; rfl, ?_, Bt HB1.out HB7.out⟩
          rw [HNF.out.2]
          have h8 := HO7.out
          rw [← ctCs_app, show k + 1 + (n - k) = n + 1 by omega] at h8
          have hl8 : (l.take k ++ [(x1, x2)] ++ l.drop k).length = n + 1 := by
            have := HN.out
            simp only [List.length_append, List.length_take, List.length_drop, List.length_cons, List.length_nil]; omega
          first
            | exact h8.cts hl8.symm (by omega) fun b q1 q2 => .inr ⟨Nat.le_trans HB1.out.size q1, q2⟩
            | (rw [show k + 1 + (n - k) = n + 1 by omega]; exact h8.cts hl8.symm (by omega) fun b q1 q2 => .inr ⟨Nat.le_trans HB1.out.size q1, q2⟩)
end Go.Proofs.YtnkjhppjjklgfaaDoor
