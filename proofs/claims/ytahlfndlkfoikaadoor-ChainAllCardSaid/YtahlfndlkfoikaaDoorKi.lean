/- Walks over coupler: the order of contacts. Walks over coupler: the sort of contacts. Walks over coupler: reach. Walks over coupler: right, Reach, Step. -/
import Derived.Test.YtahlfndlkfoikaaDoorKa
import Derived.Shelf.SlSortCmp.InsertionK
import Derived.Shelf.SlSortCmp.NoneTotal
import Derived.Test.YtahlfndlkfoikaaDoorLay
import Derived.Test.YtahlfndlkfoikaaDoorKd
import Derived.Test.YtahlfndlkfoikaaDoorKh
namespace Go.Proofs.YtahlfndlkfoikaaDoor
open Go Go.RowKit Go.Shelf Go.Sort
namespace Cou
/-- cmp.Compare. -/
def cmpI (x y : Int) : Int := if x < y then -1 else if y < x then 1 else 0
/-- The order of contacts, as a number. -/
def ordF (x y : Ct) : Int := if cmpI x.1 y.1 = 0 then cmpI x.2 y.2 else cmpI x.1 y.1
/-- cmp.Or of two. -/
def orI (x y : Int) : Int := if x = 0 then y else x
theorem ordF_lt (x y : Ct) : ordF x y < 0 ↔ lt x y := by
  unfold ordF cmpI lt
  repeat' split
  all_goals omega
end Cou
set_option maxHeartbeats 1000000 in
theorem compare_any (x y : Int) (w : World) : Calls Tryd.prog 49 #[.int .i64 x, .int .i64 y] w fun e w' => e = .returned (.int .i64 (Cou.cmpI x y)) ∧ w' = w := by
  go_enter Tryd.func49, Tryd.ntmps49
  go_wp2
  all_goals
    go_ret
    refine ⟨?_, rfl⟩
    unfold Cou.cmpI
    first
    | (rw [if_pos (by assumption)]; rfl)
    | (rw [if_neg (by omega), if_pos (by assumption)]; rfl)
    | (rw [if_neg (by omega), if_neg (by omega)]; rfl)
set_option maxHeartbeats 1000000 in
theorem or_any (x y : Int) (b : Nat) (w : World) (h0 : w.cell? ⟨b, 0, none⟩ = some (.int .i64 x)) (h1 : w.cell? ⟨b, 1, none⟩ = some (.int .i64 y)) : Calls Tryd.prog 48 #[.slice (some ⟨b, 0, none⟩) 2 2] w fun e w' => e = .returned (.int .i64 (Cou.orI x y)) ∧ w' = w := by
  go_enter Tryd.func48, Tryd.ntmps48
  go_wp2
  go_loopg [8] 2 (fun gg s wr => ∃ k : Nat, k ≤ 2 ∧ 2 - k ≤ gg ∧ s = .int .i64 k ∧ Aside (1 ≤ k → x = 0) ∧ Aside (2 ≤ k → y = 0) ∧ wr = w)
  case atStart => exact ⟨0, by omega, by omega, rfl, fun h => absurd h (by omega), fun h => absurd h (by omega), rfl⟩
  case round =>
    obtain ⟨k, hk, hg, rfl, HX, HY, rfl⟩ := hrel
    have hk3 : k = 0 ∨ k = 1 ∨ k = 2 := by omega
    rcases hk3 with rfl | rfl | rfl
    · by_cases hx : x = 0
      · have d1 : (x != 0) = false := by simp [hx]
        go_wp2
        go_roundg 1
        case measure => omega
        case rel => exact ⟨1, by omega, by omega, by go_num, fun _ => hx, fun h => absurd h (by omega), rfl⟩
      · have d1 : (x != 0) = true := by simpa using hx
        go_wp2
        go_ret
        exact ⟨by unfold Cou.orI; rw [if_neg hx]; rfl, rfl⟩
    · have hx : x = 0 := HX (Nat.le_refl 1)
      by_cases hy : y = 0
      · have d1 : (y != 0) = false := by simp [hy]
        go_wp2
        go_roundg 0
        case measure => omega
        case rel => exact ⟨2, by omega, by omega, by go_num, fun _ => hx, fun _ => hy, rfl⟩
      · have d1 : (y != 0) = true := by simpa using hy
        go_wp2
        go_ret
        exact ⟨by unfold Cou.orI; rw [if_pos hx]; rfl, rfl⟩
    · have hx : x = 0 := HX (by omega)
      have hy : y = 0 := HY (by omega)
      go_wp2
      go_ret
      exact ⟨by unfold Cou.orI; rw [if_pos hx, hy]; rfl, rfl⟩
set_option maxHeartbeats 1000000 in
theorem order_any (x y : Cou.Ct) (w : World) : Calls Tryd.prog 69 #[.agg #[.int .i64 x.1, .int .i64 x.2], .agg #[.int .i64 y.1, .int .i64 y.2]] w fun e w' => e = .returned (.int .i64 (Cou.ordF x y)) ∧ ∃ q os', w' = grow (w.drewN q) os' := by
  obtain ⟨x1, x2⟩ := x
  obtain ⟨y1, y2⟩ := y
  have hz : Cou.ordF (x1, x2) (y1, y2) = Cou.orI (Cou.cmpI x1 y1) (Cou.cmpI x2 y2) := rfl
  have HZ := Lib.hid hz
  have hc1 := fun W => compare_any x1 y1 W
  have hc2 := fun W => compare_any x2 y2 W
  generalize Cou.cmpI x1 y1 = r1 at *
  generalize Cou.cmpI x2 y2 = r2 at *
  have HC1 := Lib.hid hc1
  have HC2 := Lib.hid hc2
  clear hc1 hc2 hz
  dsimp only
  go_enter Tryd.func69, Tryd.ntmps69
  go_upto_region 1 with fail
  obtain ⟨w1, hw1⟩ : ∃ w1 : World, (w.alloc (.cells #[.int .i64 x1, .int .i64 x2] 36)).alloc (.cells #[.int .i64 y1, .int .i64 y2] 36) = w1 := ⟨_, rfl⟩
  have p0 : w1.cell? ⟨w.heap.size, 0, none⟩ = some (.int .i64 x1) := by rw [← hw1]; simp [go_sem]
  have p1 : w1.cell? ⟨w.heap.size, 1, none⟩ = some (.int .i64 x2) := by rw [← hw1]; simp [go_sem]
  have p2 : w1.cell? ⟨w.heap.size + 1, 0, none⟩ = some (.int .i64 y1) := by rw [← hw1]; simp [go_sem]
  have p3 : w1.cell? ⟨w.heap.size + 1, 1, none⟩ = some (.int .i64 y2) := by rw [← hw1]; simp [go_sem]
  have l1 : w.heap.size + 1 < w1.heap.size := by rw [← hw1]; simp
  have l0 : w.heap.size < w1.heap.size := by omega
  have HW1 : Hid (w1 = grow w #[.cells #[.int .i64 x1, .int .i64 x2] 36, .cells #[.int .i64 y1, .int .i64 y2] 36]) := Lib.hid (by rw [← hw1, alloc_eq_grow, alloc_eq_grow, grow_grow]; rfl)
  rw [hw1]
  clear hw1
  have hb : Below w1.heap.size w1 (w1.alloc (.cells #[.int .i64 r1, .int .i64 r2] 3)).drew := (Ba (B0 w1) _).drew
  go_region_held3 (fun w' => w'.cell? ⟨w.heap.size, 0, none⟩ = some (.int .i64 x1) ∧ w'.cell? ⟨w.heap.size, 1, none⟩ = some (.int .i64 x2) ∧ w'.cell? ⟨w.heap.size + 1, 0, none⟩ = some (.int .i64 y1) ∧ w'.cell? ⟨w.heap.size + 1, 1, none⟩ = some (.int .i64 y2))
    (first | exact ⟨p0, p1, p2, p3⟩ | exact ⟨(Bc hb l0).trans p0, (Bc hb l0).trans p1, (Bc hb l1).trans p2, (Bc hb l1).trans p3⟩)
    (first
    | (go_at_call 49; (with_reducible refine ((HC1.out _).mono ?_)); rintro e w5 ⟨rfl, rfl⟩)
    | (go_at_call 49; (with_reducible refine ((HC2.out _).mono ?_)); rintro e w5 ⟨rfl, rfl⟩)
    | (go_at_call 48; (with_reducible refine ((or_any r1 r2 _ _ (by simp [go_sem]) (by simp [go_sem])).mono ?_)); rintro e w5 ⟨rfl, rfl⟩))
  all_goals
    go_wp2
    go_ret
    exact ⟨by rw [HZ.out]; rfl, 1, _, by rw [HW1.out, alloc_eq_grow, grow_grow, drew_grow]; rfl⟩
theorem cmpLays_order (blk off size : Nat) (w : World) : CmpLays Tryd.prog 69 #[] (fun c : Cou.Ct => [Value.int .i64 c.1, Value.int .i64 c.2]) 2 Cou.ordF blk off size w :=
  fun _ _ _ _ x y => order_any x y _
end Go.Proofs.YtahlfndlkfoikaaDoor
namespace Go.Proofs.YtahlfndlkfoikaaDoor
open Go Go.RowKit Go.Shelf
def encC (c : Cou.Ct) : List Value := [.int .i64 c.1, .int .i64 c.2]
theorem ltOf_ord (x y : Cou.Ct) : Go.Proofs.ltOf Cou.ordF x y = decide (Cou.lt x y) := by
  unfold Go.Proofs.ltOf
  exact decide_eq_decide.2 (Cou.ordF_lt x y)
theorem swo_ord : Go.Sort.SWO (Go.Proofs.ltOf Cou.ordF) where
  irrefl x := by rw [ltOf_ord]; exact decide_eq_false (Cou.lt_irrefl x)
  trans x y z h1 h2 := by rw [ltOf_ord] at *; simp only [decide_eq_true_eq] at *; exact Cou.lt_trans h1 h2
  ntrans x y z h1 h2 := by rw [ltOf_ord] at *; simp only [decide_eq_false_iff_not] at *; unfold Cou.lt at *; omega
theorem below_sort {base g : Nat} (hg : base ≤ g) (w : World) (n : Nat) (d : Array Cou.Ct) (os : Array Obj) (hb : base ≤ w.heap.size) : Below base w (sortWorldK encC 2 w g 0 n d os) := by
  refine ⟨rfl, rfl, rfl, ?_, fun k hk => ?_⟩
  · simp [sortWorldK, Go.Sort.grow, Go.Sort.putRowK]
  · have hk2 : k < w.heap.size := by omega
    simp only [sortWorldK, Go.Sort.grow, Go.Sort.putRowK, Go.Sort.putRow, Go.Sort.mapBlock, Go.Sort.heap_ahead]
    rw [Array.getElem?_append_left (by simpa using hk2), Array.getElem?_modify, if_neg (by omega)]
theorem add_two (g i j : Nat) : ((⟨g, 0, none⟩ : Addr).add (i * 2)).add j = ⟨g, 0 + i * 2 + j, none⟩ := by
  have h1 : (⟨g, 0, none⟩ : Addr).add (i * 2) = ⟨g, 0 + i * 2, none⟩ := by unfold Addr.add; split <;> simp_all
  rw [h1]
  unfold Addr.add
  split <;> simp_all
set_option maxHeartbeats 1000000 in
theorem sort_any (Q : List Cou.Ct) (hn : Q.Nodup) (base : Nat) (v : Value) (w : World) (hown : OwnL base 36 2 CtC w v Q) (hl : Q.length ≤ 1024) (hb : base ≤ w.heap.size) :
    Calls Tryd.prog 68 #[v, .func (.func 69) #[] #[]] w fun e w' => e = .returned (.tuple #[]) ∧ ∃ l, SlCt (fun b => base ≤ b) w' v l ∧ Cou.Srt l ∧ (∀ t, t ∈ l ↔ t ∈ Q) ∧ Below base w w' := by
  have hsl := hown.sl (F := fun b => base ≤ b) (by omega) (fun b h _ _ => h)
  have hlt := hown.lt
  obtain ⟨A, c, rfl, h1, h2, hat⟩ := id hsl
  rcases Nat.eq_zero_or_pos Q.length with h0 | hpos
  · have hq : Q = [] := List.eq_nil_of_length_eq_zero h0
    subst hq
    refine (AnyF.slices_SortFunc_none sortCt A c _ w).mono ?_
    rintro e w' ⟨rfl, rfl⟩
    exact ⟨rfl, [], hsl, List.Pairwise.nil, fun t => Iff.rfl, Below.refl _ _⟩
  · obtain ⟨ad, _, rfl, _, _, _, _⟩ := hat 0 hpos
    obtain ⟨g, rfl⟩ : ∃ g, ad = ⟨g, 0, none⟩ := by
      obtain ⟨cs, _, _, h3⟩ := hown
      rcases h3.2 with ⟨q, _⟩ | ⟨g, cap, cur, q, _⟩
      · cases q
      · injection q with q
        injection q with q
        exact ⟨g, q⟩
    have hgb := hlt g rfl
    have hfz : ∀ o, w.frozen? ⟨g, o, none⟩ = false := by
      obtain ⟨cs, _, _, h3⟩ := hown
      rcases h3.2 with ⟨q, _⟩ | ⟨g', cap, cur, q, _, hh, _⟩
      · cases q
      · injection q with q
        injection q with q
        injection q with q
        subst q
        intro o
        simp [World.frozen?, hh]
    have hH : Go.Sort.HoldsK encC 2 w g 0 Q.toArray := by
      intro j hj
      rw [Go.Sort.size_flatK, List.size_toArray] at hj
      refine ⟨?_, hfz _⟩
      obtain ⟨ad', cs, q1, _, _, q4, q5⟩ := hat (j / 2) (by omega)
      injection q1 with q1
      subst q1
      unfold CtC at q4
      subst q4
      rw [Go.Sort.get_flatK _ _ _ _ (by simpa using hj)]
      have hjj : j = j / 2 * 2 + j % 2 := by omega
      have hgt : Q.toArray[j / 2]! = Q[j / 2]'(by omega) := by
        rw [getElem!_pos _ _ (by simpa using (by omega : j / 2 < Q.length))]
        simp
      rw [hgt]
      have hm : j % 2 = 0 ∨ j % 2 = 1 := by omega
      rcases hm with hm | hm
      · have := q5 0 (.int .i64 (Q[j / 2]'(by omega)).1) rfl
        rw [add_two] at this
        rw [hm]
        rw [show 0 + j = 0 + j / 2 * 2 + 0 by omega]
        exact this
      · have := q5 1 (.int .i64 (Q[j / 2]'(by omega)).2) rfl
        rw [add_two] at this
        rw [hm]
        rw [show 0 + j = 0 + j / 2 * 2 + 1 by omega]
        exact this
    have eg : ∀ args w, (callFunc 69 args).run Tryd.prog w = .ok (.enter 69 args) w := enters_of Tryd.func69 (by kernel_rfl) rfl
    have hcon := AnyQ.slices_SortFunc sortCt 2 Tryd.isAgg36 Tryd.sizeOf36 encC (fun _ => rfl) (fun x v hv => by simp [encC] at hv; rcases hv with rfl | rfl <;> rfl) Cou.ordF swo_ord 69 #[] g 0 c Q.toArray w eg (cmpLays_order g 0 Q.toArray.size w) hH hgb.2 (by simp; omega)
    rw [List.size_toArray] at hcon
    refine hcon.mono ?_
    rintro e w' ⟨rfl, d', n, os, hp, hs, rfl⟩
    obtain ⟨hp1, _, hp3⟩ := hp
    replace hp1 : d'.size = Q.length := by simpa using hp1
    have hperm : d'.toList.Perm Q := by
      have e1 : d'.extract 0 Q.length = d' := by rw [← hp1]; exact Array.extract_size
      have e2 : Q.toArray.extract 0 Q.length = Q.toArray := by
        simp
      rw [e1, e2] at hp3
      simpa using hp3
    have hnd : d'.toList.Nodup := hperm.nodup_iff.2 hn
    refine ⟨rfl, d'.toList, ?_, ?_, fun t => hperm.mem_iff, below_sort hgb.1 w n d' os hb⟩
    · have hH2 : Go.Sort.HoldsK encC 2 (sortWorldK encC 2 w g 0 n d' os) g 0 d' := by
        unfold sortWorldK
        exact Go.Sort.holdsK_grow encC 2 _ _ _ _ _ (by simp [Go.Sort.putRowK]; exact hgb.2) (Go.Sort.holdsK_putRowK encC 2 _ _ _ Q.toArray d' (Go.Sort.holdsK_ahead encC 2 _ _ _ _ _ hH) (by simpa using hp1))
      have hlen : d'.toList.length = Q.length := by simpa using hp1
      refine ⟨some ⟨g, 0, none⟩, c, by rw [hlen], by omega, by omega, fun i hi => ⟨⟨g, 0, none⟩, encC d'.toList[i], rfl, hgb.1, rfl, rfl, fun j u hu => ?_⟩⟩
      have hi2 : i < d'.size := by simpa using hi
      have hgt : d'[i]! = d'.toList[i]'hi := by rw [getElem!_pos d' i hi2]; simp
      rw [add_two]
      have hj : j < 2 := by
        have := (List.getElem?_eq_some_iff.1 hu).1
        simpa [encC] using this
      have := (hH2.cell hi2 hj).1
      rw [this, hgt]
      have hj2 : j = 0 ∨ j = 1 := by omega
      rcases hj2 with rfl | rfl
      · simpa [encC] using hu
      · simpa [encC] using hu
    · unfold Cou.Srt
      rw [List.pairwise_iff_getElem]
      intro i j hi hj hij
      have hi2 : i < d'.size := by simpa using hi
      have hj2 : j < d'.size := by simpa using hj
      have := hs i j (Nat.zero_le _) hij (by omega)
      rw [ltOf_ord, decide_eq_false_iff_not, getElem!_pos d' i hi2, getElem!_pos d' j hj2] at this
      rcases Cou.lt_tri d'.toList[i] d'.toList[j] with q | q | q
      · exact q
      · have := (List.getElem_inj hnd (h₀ := hi) (h₁ := hj)).1 q
        omega
      · exact absurd (by simpa using q) this
end Go.Proofs.YtahlfndlkfoikaaDoor
namespace Go.Proofs.YtahlfndlkfoikaaDoor
open Go Go.RowKit Go.Shelf
namespace Cou
/-- What the queue holds behind k played contacts. -/
structure L1 (a : Ac) (pl : List Ct) (k : Nat) (Q : List Ct) : Prop where
  nd : Q.Nodup
  inA : ∀ x ∈ Q, InA a x
  mem : ∀ t, t ∈ Q ↔ ∃ p ∈ pl.take k, ∃ i, a.drawn.testBit i = true ∧ stepF a i p = some t
/-- What it holds behind i of its own. -/
structure L2 (a : Ac) (pl : List Ct) (i : Nat) (Q : List Ct) : Prop where
  nd : Q.Nodup
  inA : ∀ x ∈ Q, InA a x
  hop : ∀ x ∈ Q, Hop a pl x
  fst : ∀ p ∈ pl, ∀ j t, a.drawn.testBit j = true → stepF a j p = some t → t ∈ Q
  cl : ∀ c ∈ Q.take i, ∀ j t, a.drawn.testBit j = true → thruF a j = true → stepF a j c = some t → t ∈ Q
  le : i ≤ Q.length
variable {a : Ac} {pl : List Ct} {Q Q' : List Ct}
theorem L1.start : L1 a pl 0 [] := ⟨List.nodup_nil, by simp, fun t => by simp⟩
theorem L1.next {k : Nat} (h : L1 a pl k Q) (hk : k < pl.length) (hn : Q'.Nodup) (hi : ∀ x ∈ Q', InA a x) (hm : ∀ t, t ∈ Q' ↔ t ∈ Q ∨ ∃ i, a.drawn.testBit i = true ∧ Cond a false pl[k] i t) : L1 a pl (k + 1) Q' := ⟨hn, hi, fun t => by
  rw [hm, h.mem, List.take_add_one, List.getElem?_eq_getElem hk]
  constructor
  · rintro (⟨p, hp, q⟩ | ⟨i, h1, h2⟩)
    · exact ⟨p, List.mem_append.2 (.inl hp), q⟩
    · exact ⟨pl[k], List.mem_append.2 (.inr (by simp)), i, h1, h2.2⟩
  · rintro ⟨p, hp, q⟩
    rcases List.mem_append.1 hp with hp | hp
    · exact .inl ⟨p, hp, q⟩
    · simp only [Option.toList_some, List.mem_singleton] at hp
      subst hp
      obtain ⟨i, h1, h2⟩ := q
      exact .inr ⟨i, h1, by simp, h2⟩⟩
theorem L1.last (h : L1 a pl pl.length Q) : L2 a pl 0 Q := ⟨h.nd, h.inA, fun x hx => by
  obtain ⟨p, hp, i, h1, h2⟩ := (h.mem x).1 hx
  exact .first (List.mem_of_mem_take hp) h1 h2, fun p hp j t h1 h2 => (h.mem t).2 ⟨p, by rw [List.take_length]; exact hp, j, h1, h2⟩, by simp, Nat.zero_le _⟩
theorem L2.next {i : Nat} (h : L2 a pl i Q) (hi : i < Q.length) (hp : Q <+: Q') (hn : Q'.Nodup) (hA : ∀ x ∈ Q', InA a x) (hm : ∀ t, t ∈ Q' ↔ t ∈ Q ∨ ∃ j, a.drawn.testBit j = true ∧ Cond a true Q[i] j t) : L2 a pl (i + 1) Q' := by
  have hsub : ∀ x ∈ Q, x ∈ Q' := fun x hx => (hm x).2 (.inl hx)
  obtain ⟨R, rfl⟩ := hp
  refine ⟨hn, hA, fun x hx => ?_, fun p hp j t h1 h2 => hsub _ (h.fst p hp j t h1 h2), fun c hc j t h1 h2 h3 => ?_, by simp; omega⟩
  · rcases (hm x).1 hx with q | ⟨j, h1, h2⟩
    · exact h.hop x q
    · exact .more (h.hop _ (List.getElem_mem hi)) h1 (h2.1 rfl) h2.2
  · rw [List.take_append_of_le_length (by omega), List.take_add_one, List.getElem?_eq_getElem hi] at hc
    rcases List.mem_append.1 hc with hc | hc
    · exact hsub _ (h.cl c hc j t h1 h2 h3)
    · simp only [Option.toList_some, List.mem_singleton] at hc
      subst hc
      exact (hm t).2 (.inr ⟨j, h1, fun _ => h2, h3⟩)
theorem L2.done (h : L2 a pl Q.length Q) (t : Ct) : t ∈ Q ↔ Hop a pl t :=
  ⟨h.hop t, Hop.sub h.fst (fun c hc => h.cl c (by rw [List.take_length]; exact hc))⟩
end Cou
/-- What is said of the sort. -/
def SortSaid : Prop := ∀ (Q : List Cou.Ct) (_ : Q.Nodup) (base : Nat) (v : Value) (w : World) (_ : OwnL base 36 2 CtC w v Q) (_ : Q.length ≤ 1024) (_ : base ≤ w.heap.size),
    Calls Tryd.prog 68 #[v, .func (.func 69) #[] #[]] w fun e w' => e = .returned (.tuple #[]) ∧ ∃ l, SlCt (fun b => base ≤ b) w' v l ∧ Cou.Srt l ∧ (∀ t, t ∈ l ↔ t ∈ Q) ∧ Below base w w'
set_option maxRecDepth 100000 in
set_option maxHeartbeats 4000000 in
theorem reach_walk (hSort : SortSaid) (a : Cou.Ac) (hok : Cou.Ok a) (vd vc : Value) (pv : Value) (pl : List Cou.Ct) (hpl : ∀ p ∈ pl, CtS p) (w : World) (F : Nat → Prop) (hA : AcAt F w vd vc a) (hP : SlCt F w pv pl) (hT : Tab64 w) (hF : ∀ b, F b → b < w.heap.size) (hg : 0 < w.heap.size) :
    Calls Tryd.prog 52 #[.agg #[vd, vc, .int .u64 a.drawn], pv] w fun e w' => ∃ v l, e = .returned v ∧ SlCt (fun b => w.heap.size ≤ b) w' v l ∧ Cou.Srt l ∧ (∀ t, t ∈ l ↔ Cou.Hop a pl t) ∧ Below w.heap.size w w' := by
  obtain ⟨Ad, cd, hvd, _⟩ := id hA.dv.open
  obtain ⟨Ac, cc, hvc, _⟩ := id hA.cp.open
  obtain ⟨Ap, cp, rfl, hpc, hpl2, hpat⟩ := id hP
  subst hvd; subst hvc
  have hmm := @run_makeMap Tryd.prog
  obtain ⟨ab, hab⟩ : ∃ ab, w.heap.size = ab := ⟨_, rfl⟩
  obtain ⟨w1, hw1⟩ : ∃ w1 : World, (((w.alloc (.cells #[.slice Ad a.divs.length cd, .slice Ac a.cps.length cc, .int .u64 a.drawn] 33)).alloc (.cells #[.slice none 0 0] 38)).alloc (.map #[] 0)).alloc (.cells #[.map (some (ab + 1 + 1))] 104) = w1 := ⟨_, rfl⟩
  have hB1 : Below w.heap.size w w1 := by rw [← hw1]; exact Ba (Ba (Ba (Ba (B0 w) _) _) _) _
  have hs1 : w1.heap.size = ab + 4 := by rw [← hw1, ← hab]; simp
  have hQ1 : QSt ab (ab + 1) (ab + 1 + 1) (ab + 1 + 1 + 1) (ab + 4) (.slice Ad a.divs.length cd) (.slice Ac a.cps.length cc) a.drawn (.slice none 0 0) [] w1 := by
    refine ⟨?_, ?_, ?_, OwnL.nil, ?_, by omega⟩
    · rw [← hw1, ← hab]; exact (((Blk.new w _ _).alloc _).alloc _).alloc _
    · have := Blk.new (((w.alloc (.cells #[.slice Ad a.divs.length cd, .slice Ac a.cps.length cc, .int .u64 a.drawn] 33)).alloc (.cells #[.slice none 0 0] 38)).alloc (.map #[] 0)) 104 #[.map (some (ab + 1 + 1))]
      rw [hw1] at this
      simpa [hab] using this
    · have := ((Blk.new (w.alloc (.cells #[.slice Ad a.divs.length cd, .slice Ac a.cps.length cc, .int .u64 a.drawn] 33)) 38 #[.slice none 0 0]).alloc (.map #[] 0)).alloc (.cells #[.map (some (ab + 1 + 1))] 104)
      rw [hw1] at this
      simpa [hab] using this
    · refine ⟨[], ?_, by simp, by simp⟩
      have h1 := MapAt.made ((w.alloc (.cells #[.slice Ad a.divs.length cd, .slice Ac a.cps.length cc, .int .u64 a.drawn] 33)).alloc (.cells #[.slice none 0 0] 38))
      have h2 := h1.of_block (w' := w1) (by rw [← hw1]; exact Below.heap_alloc _ _ _ (by simp))
      simpa [hab] using h2
  have ho : QOrd ab (ab + 1) (ab + 1 + 1) (ab + 1 + 1 + 1) (ab + 4) := ⟨by omega, by omega, by omega, by omega⟩
  go_enter Tryd.func52, Tryd.ntmps52
  rw [hab]
  go_wp2
  clear hmm hw1
  have hord := ho.aq
  have HQ1 := Lib.hid hQ1
  have HB1 := Lib.hid hB1
  have HA := Lib.hid hA
  have HT := Lib.hid hT
  clear hQ1 hB1 hA hT hP
  go_loopg [15] pl.length (fun gg s wr => ∃ k : Nat, k ≤ pl.length ∧ pl.length - k ≤ gg ∧ s = .int .i64 k ∧ Aside (∃ v Q, QSt ab (ab + 1) (ab + 1 + 1) (ab + 1 + 1 + 1) (ab + 4) (.slice Ad a.divs.length cd) (.slice Ac a.cps.length cc) a.drawn v Q wr ∧ Cou.L1 a pl k Q) ∧ Aside (Below w.heap.size w wr))
  case atStart => exact ⟨0, by omega, by omega, rfl, ⟨_, _, HQ1.out, .start⟩, HB1.out⟩
  case round =>
    obtain ⟨k, hk, hg2, rfl, ⟨v, Q, hQ, hL⟩, hB⟩ := hrel
    have hbg := hQ.big
    by_cases hlt : k < pl.length
    · have hki : decide ((k : Int) < pl.length) = true := decide_eq_true (by omega)
      have hkl : (k : Int) < pl.length := by omega
      obtain ⟨ad, cs, rfl, hfb, hcl, hcs, hfl⟩ := hpat k hlt
      unfold CtC at hcs
      subst hcs
      have hfb2 : (ad.add (k * 2)).block < w.heap.size := by rw [block_of_add]; exact hF _ hfb
      have hfl2 := hfl.below hB hfb2
      have f0 := hfl2.f0 rfl
      have f1 := hfl2.f1 rfl
      have hsm := hpl pl[k] (List.getElem_mem hlt)
      have hTK := take_any a hok (.slice Ad a.divs.length cd) (.slice Ac a.cps.length cc) F false pl[k] ⟨hsm.2.2.1, hsm.2.2.2⟩ ab (ab + 1) (ab + 1 + 1) (ab + 1 + 1 + 1) (ab + 4) ho (by rw [← hab]; exact hF) (by rw [← hab]; exact hg) v Q hL.nd hL.inA (wr.alloc (.cells #[.int .i64 pl[k].1, .int .i64 pl[k].2] 36)) (HA.out.onB hF (Ba hB _)) (HT.out.below (Ba hB _)) (hQ.keep (Ba (B0 wr) _))
      have HTK := Lib.hid hTK
      have HL := Lib.hid hL
      have HB := Lib.hid hB
      clear hTK hL hB hfl hfl2 hpat hQ
      go_wp2_with (go_at_call 65; (with_reducible refine (HTK.out.mono ?_)); rintro e w3 ⟨⟨r, rfl⟩, v', Q', q1, q2, q3, q4, q5, q6⟩)
      go_roundg (pl.length - (k + 1))
      case measure => omega
      case rel => exact ⟨k + 1, by omega, by omega, by go_num, ⟨v', Q', q1, HL.out.next hlt q3 q4 q5⟩, (Ba HB.out _).trans (q6.mono (by omega))⟩
    · have hki : decide ((k : Int) < pl.length) = false := decide_eq_false (by omega)
      have hkl : k = pl.length := by omega
      subst hkl
      have HL := Lib.hid hL.last
      have HB := Lib.hid hB
      have HQ := Lib.hid hQ
      clear hL hB hQ hpat HQ1 HB1
      have m0 := HQ.out.que.cell 0
      simp only [List.getElem?_toArray, List.getElem?_cons_zero] at m0
      have HSo := Lib.hid hSort
      clear hSort
      go_wp2
      clear m0
      go_loopg [10] 1024 (fun gg s wr2 => ∃ i : Nat, i ≤ 1024 ∧ 1024 - i ≤ gg ∧ s = .int .i64 i ∧ Aside (∃ v Q, QSt ab (ab + 1) (ab + 1 + 1) (ab + 1 + 1 + 1) (ab + 4) (.slice Ad a.divs.length cd) (.slice Ac a.cps.length cc) a.drawn v Q wr2 ∧ Cou.L2 a pl i Q) ∧ Aside (Below w.heap.size w wr2))
      case atStart => exact ⟨0, by omega, by omega, rfl, ⟨v, Q, HQ.out, HL.out⟩, HB.out⟩
      case round =>
        clear HQ HL HB
        obtain ⟨i, hi, hg3, rfl, ⟨v, Q, hQ, hL⟩, hB⟩ := hrel
        have hbg := hQ.big
        have hsh := Cou.cts_short hok hL.nd hL.inA
        have hsl := hQ.own.sl (F := fun b => ab + 4 ≤ b) (by omega) (fun b h _ _ => h)
        have m0 := hQ.que.cell 0
        simp only [List.getElem?_toArray, List.getElem?_cons_zero] at m0
        have hle := hL.le
        by_cases hlt : i < Q.length
        · obtain ⟨A, c, rfl, hc1, hc2, hat⟩ := id hsl
          have hki : decide ((i : Int) < Q.length) = true := decide_eq_true (by omega)
          have hkl : (i : Int) < Q.length := by omega
          obtain ⟨ad, cs, rfl, hfb, hcl, hcs, hfl⟩ := hat i hlt
          unfold CtC at hcs
          subst hcs
          have f0 := hfl.f0 rfl
          have f1 := hfl.f1 rfl
          have hsm := inA_small hok (hL.inA Q[i] (List.getElem_mem hlt))
          have hTK := take_any a hok (.slice Ad a.divs.length cd) (.slice Ac a.cps.length cc) F true Q[i] ⟨hsm.2.2.1, hsm.2.2.2⟩ ab (ab + 1) (ab + 1 + 1) (ab + 1 + 1 + 1) (ab + 4) ho (by rw [← hab]; exact hF) (by rw [← hab]; exact hg) _ Q hL.nd hL.inA wr (HA.out.onB hF hB) (HT.out.below hB) hQ
          have HTK := Lib.hid hTK
          have HL := Lib.hid hL
          have HB := Lib.hid hB
          clear hTK hL hB hfl hat hQ hsl
          go_wp2_with (go_at_call 65; (with_reducible refine (HTK.out.mono ?_)); rintro e w3 ⟨⟨r, rfl⟩, v', Q', q1, q2, q3, q4, q5, q6⟩)
          go_roundg (1024 - (i + 1))
          case measure => omega
          case rel => exact ⟨i + 1, by omega, by omega, by go_num, ⟨v', Q', q1, HL.out.next hlt q2 q3 q4 q5⟩, HB.out.trans (q6.mono (by omega))⟩
        · have hiq : i = Q.length := by omega
          subst hiq
          have hki : decide ((Q.length : Int) < Q.length) = false := decide_eq_false (by omega)
          have hSO := HSo.out Q hL.nd (ab + 4) v wr hQ.own hsh hQ.big
          have HSO := Lib.hid hSO
          have HD := Lib.hid hL.done
          have HB := Lib.hid hB
          have hqb := hQ.que
          have HQB := Lib.hid hqb
          obtain ⟨A, c, rfl, hc1, hc2, hat⟩ := id hsl
          clear hSO hL hB hqb hat hsl HSo hQ
          go_wp2_with (go_at_call 68; (with_reducible refine (HSO.out.mono ?_)); rintro e w3 ⟨rfl, l, q1, q2, q3, q4⟩; have m1 := (HQB.out.below q4 (by omega)).cell 0; simp only [List.getElem?_toArray, List.getElem?_cons_zero] at m1)
          go_ret
          exact ⟨_, l, rfl, q1.mono (fun b h => by show ab ≤ b; omega), q2, fun t => (q3 t).trans (HD.out t), by rw [← hab]; exact HB.out.trans (q4.mono (by omega))⟩
end Go.Proofs.YtahlfndlkfoikaaDoor
namespace Go.Proofs.YtahlfndlkfoikaaDoor
open Go Go.RowKit Go.Shelf
theorem reach_any (a : Cou.Ac) (hok : Cou.Ok a) (vd vc : Value) (pv : Value) (pl : List Cou.Ct) (hpl : ∀ p ∈ pl, CtS p) (w : World) (F : Nat → Prop) (hA : AcAt F w vd vc a) (hP : SlCt F w pv pl) (hT : Tab64 w) (hF : ∀ b, F b → b < w.heap.size) (hg : 0 < w.heap.size) :
    Calls Tryd.prog 52 #[.agg #[vd, vc, .int .u64 a.drawn], pv] w fun e w' => ∃ v l, e = .returned v ∧ SlCt (fun b => w.heap.size ≤ b) w' v l ∧ Cou.Srt l ∧ (∀ t, t ∈ l ↔ Cou.Hop a pl t) ∧ Below w.heap.size w w' :=
  reach_walk sort_any a hok vd vc pv pl hpl w F hA hP hT hF hg
namespace Cou
def rightF (a : Ac) : Int := if checkF a.divs a.cps = 0 then (if a.drawn >>> a.cps.length = 0 then 0 else 3) else checkF a.divs a.cps
theorem divF_ok {l : List (Int × Int)} (h : divF l = 0) : ∀ c ∈ l, 0 ≤ c.1 ∧ c.1 ≤ c.2 ∧ c.2 ≤ 127 := by
  induction l with
  | nil => simp
  | cons x l ih =>
    rw [divF] at h
    by_cases hx : compF x = 0
    · rw [if_pos hx] at h
      intro c hc
      rcases List.mem_cons.1 hc with e | e
      · subst e
        unfold compF at hx
        by_cases q : c.1 < 0 ∨ 127 < c.2
        · rw [if_pos q] at hx; cases hx
        · rw [if_neg q] at hx
          by_cases q2 : c.2 < c.1
          · rw [if_pos q2] at hx; cases hx
          · omega
      · exact ih h c e
    · rw [if_neg hx] at h; cases h
theorem goF_ok {nd : Nat} {cps : List Cpl} : ∀ (d : Nat), d ≤ cps.length → goF nd cps d = 0 → ∀ i (hi : i < cps.length), cps.length - d ≤ i → oneF nd cps i cps[i] = 0
  | 0, _, _, i, hi, h => absurd hi (by omega)
  | d + 1, hd, hg, i, hi, h => by
    have hlt : cps.length - (d + 1) < cps.length := by omega
    rw [goF, List.getElem?_eq_getElem hlt] at hg
    simp only at hg
    by_cases h0 : oneF nd cps (cps.length - (d + 1)) cps[cps.length - (d + 1)] = 0
    · rw [if_pos h0] at hg
      by_cases e : i = cps.length - (d + 1)
      · subst e; exact h0
      · exact goF_ok d (by omega) hg i hi (by omega)
    · rw [if_neg h0] at hg; exact absurd hg h0
theorem oneF_ok {nd : Nat} {cps : List Cpl} {i : Nat} {x : Cpl} (h : oneF nd cps i x = 0) : 0 ≤ x.from_ ∧ x.from_ < nd ∧ 0 ≤ x.to ∧ x.to < nd ∧ -127 ≤ x.shift ∧ x.shift ≤ 127 := by
  unfold oneF at h
  split at h
  · cases h
  · split at h
    · cases h
    · split at h
      · cases h
      · split at h
        · cases h
        · omega
theorem check_ok {divs : List (Int × Int)} {cps : List Cpl} (h : checkF divs cps = 0) : divs.length ≤ 8 ∧ cps.length ≤ 40 ∧ (∀ c ∈ divs, 0 ≤ c.1 ∧ c.1 ≤ c.2 ∧ c.2 ≤ 127) ∧ ∀ x ∈ cps, 0 ≤ x.from_ ∧ x.from_ < divs.length ∧ 0 ≤ x.to ∧ x.to < divs.length ∧ -127 ≤ x.shift ∧ x.shift ≤ 127 := by
  unfold checkF at h
  split at h
  · cases h
  · rename_i hl
    split at h
    · rename_i hd
      refine ⟨by omega, by omega, divF_ok hd, fun x hx => ?_⟩
      obtain ⟨i, hi, rfl⟩ := List.getElem_of_mem hx
      exact oneF_ok (goF_ok cps.length (Nat.le_refl _) h i hi (by omega))
    · cases h
theorem right_ok {a : Ac} (h : rightF a = 0) : Ok a := by
  unfold rightF at h
  split at h
  · rename_i hc
    split at h
    · rename_i hd
      obtain ⟨h1, h2, h3, h4⟩ := check_ok hc
      refine ⟨h1, h2, h3, h4, ?_⟩
      rw [Nat.shiftRight_eq_div_pow] at hd
      rcases (Nat.div_eq_zero_iff).1 hd with q | q
      · exact absurd q (by have := Nat.two_pow_pos a.cps.length; omega)
      · exact q
    · cases h
  · rename_i hc
    exact absurd h hc
end Cou
set_option maxHeartbeats 1000000 in
theorem right_any (a : Cou.Ac) (vd vc : Value) (_hdr : a.drawn < 2 ^ 64) (w : World) (F : Nat → Prop) (hA : AcAt F w vd vc a) :
    Calls Tryd.prog 27 #[.agg #[vd, vc, .int .u64 a.drawn]] w fun e w' => e = .returned (.int .i64 (Cou.rightF a)) ∧ Below w.heap.size w w' := by
  obtain ⟨Ad, cd, hvd, hd1, _⟩ := id hA.dv.open
  obtain ⟨Ac, cc, hvc, hc1, _⟩ := id hA.cp.open
  subst hvd; subst hvc
  have hb1 := Ba (B0 w) (.cells #[.slice Ad a.divs.length cd, .slice Ac a.cps.length cc, .int .u64 a.drawn] 33)
  have hCK := check_any (.slice Ad a.divs.length cd) (.slice Ac a.cps.length cc) a.divs a.cps (w.alloc (.cells #[.slice Ad a.divs.length cd, .slice Ac a.cps.length cc, .int .u64 a.drawn] 33)) F (fun b h => Nat.lt_of_lt_of_le (hA.inW b h) hb1.size) (hA.dv.keep (Agree.below hb1 hA.inW)) (hA.cp.keep (Agree.below hb1 hA.inW))
  have HCK := Lib.hid hCK
  clear hA hCK hb1
  by_cases hck : Cou.checkF a.divs a.cps = 0
  · have hz : Cou.rightF a = if a.drawn >>> a.cps.length = 0 then 0 else 3 := by unfold Cou.rightF; rw [if_pos hck]
    have HZ := Lib.hid hz
    have hl40 := (Cou.check_ok hck).2.1
    have hm : min a.cps.length 64 = a.cps.length := by omega
    have hsh : ((a.drawn : Int) / 2 ^ min a.cps.length 64) = ((a.drawn >>> a.cps.length : Nat) : Int) := by
      rw [hm, Nat.shiftRight_eq_div_pow]; simp
    rw [hck] at HCK
    clear hz hck hm hl40
    by_cases hs : a.drawn >>> a.cps.length = 0
    · have d2 : ((a.drawn : Int) / 2 ^ min a.cps.length 64 != 0) = false := by rw [hsh, hs]; rfl
      have HS := Lib.hid hs
      clear hsh hs
      go_enter Tryd.func27, Tryd.ntmps27
      go_wp2_with (go_at_call 53; (with_reducible refine (HCK.out.mono ?_)); rintro e w3 ⟨rfl, hb⟩; have m1 : w3.cell? ⟨w.heap.size, 1, none⟩ = some (.slice Ac a.cps.length cc) := (Bc (k := w.heap.size) (o := 1) hb (by simp)).trans (by simp [go_sem]); have m2 : w3.cell? ⟨w.heap.size, 2, none⟩ = some (.int .u64 a.drawn) := (Bc (k := w.heap.size) (o := 2) hb (by simp)).trans (by simp [go_sem]))
      go_ret
      exact ⟨by rw [HZ.out, if_pos HS.out]; rfl, Bt (Ba (B0 w) _) hb⟩
    · have d2 : ((a.drawn : Int) / 2 ^ min a.cps.length 64 != 0) = true := by
        rw [hsh]
        generalize a.drawn >>> a.cps.length = q at hs
        simp only [bne_iff_ne, ne_eq]
        omega
      have HS := Lib.hid hs
      clear hsh hs
      go_enter Tryd.func27, Tryd.ntmps27
      go_wp2_with (go_at_call 53; (with_reducible refine (HCK.out.mono ?_)); rintro e w3 ⟨rfl, hb⟩; have m1 : w3.cell? ⟨w.heap.size, 1, none⟩ = some (.slice Ac a.cps.length cc) := (Bc (k := w.heap.size) (o := 1) hb (by simp)).trans (by simp [go_sem]); have m2 : w3.cell? ⟨w.heap.size, 2, none⟩ = some (.int .u64 a.drawn) := (Bc (k := w.heap.size) (o := 2) hb (by simp)).trans (by simp [go_sem]))
      go_ret
      exact ⟨by rw [HZ.out, if_neg HS.out]; rfl, Bt (Ba (B0 w) _) hb⟩
  · have HZ : Hid (Cou.rightF a = Cou.checkF a.divs a.cps) := Lib.hid (by unfold Cou.rightF; rw [if_neg hck])
    have d1 : (Cou.checkF a.divs a.cps != 0) = true := by simpa using hck
    clear hck
    go_enter Tryd.func27, Tryd.ntmps27
    go_wp2_with (go_at_call 53; (with_reducible refine (HCK.out.mono ?_)); rintro e w3 ⟨rfl, hb⟩)
    go_ret
    exact ⟨by rw [HZ.out]; rfl, Bt (Ba (B0 w) _) hb⟩
theorem zeroCt (w : World) : (zeroValue 36).run Tryd.prog w = .ok (.agg #[.int .i64 0, .int .i64 0]) w := by kernel_rfl
/-- What Reach answers. -/
def reachErr (a : Cou.Ac) (c : Cou.Ct) : Int := if Cou.rightF a = 0 then Cou.wrongF a c else Cou.rightF a
set_option maxHeartbeats 1000000 in
theorem Reach_any (a : Cou.Ac) (vd vc : Value) (hdr : a.drawn < 2 ^ 64) (c : Cou.Ct) (w : World) (F : Nat → Prop) (hA : AcAt F w vd vc a) (hT : Tab64 w) (hg : 0 < w.heap.size) :
    Calls Tryd.prog 25 #[.agg #[vd, vc, .int .u64 a.drawn], .agg #[.int .i64 c.1, .int .i64 c.2]] w fun e w' => ∃ v l, e = .returned (.tuple #[v, .int .i64 (reachErr a c)]) ∧ SlCt (fun b => w.heap.size ≤ b) w' v l ∧ (reachErr a c ≠ 0 → l = []) ∧ (reachErr a c = 0 → Cou.Srt l ∧ ∀ t, t ∈ l ↔ Cou.Hop a [c] t) ∧ Below w.heap.size w w' := by
  obtain ⟨c1, c2⟩ := c
  obtain ⟨w1, hw1⟩ : ∃ w1 : World, (w.alloc (.cells #[vd, vc, .int .u64 a.drawn] 33)).alloc (.cells #[.int .i64 c1, .int .i64 c2] 36) = w1 := ⟨_, rfl⟩
  have x0 : w1.cell? ⟨w.heap.size, 0, none⟩ = some vd := by rw [← hw1]; simp [go_sem]
  have x1 : w1.cell? ⟨w.heap.size, 1, none⟩ = some vc := by rw [← hw1]; simp [go_sem]
  have x2 : w1.cell? ⟨w.heap.size, 2, none⟩ = some (.int .u64 a.drawn) := by rw [← hw1]; simp [go_sem]
  have y0 : w1.cell? ⟨w.heap.size + 1, 0, none⟩ = some (.int .i64 c1) := by rw [← hw1]; simp [go_sem]
  have y1 : w1.cell? ⟨w.heap.size + 1, 1, none⟩ = some (.int .i64 c2) := by rw [← hw1]; simp [go_sem]
  have B1 : Below w.heap.size w w1 := by rw [← hw1]; exact Ba (Ba (B0 w) _) _
  have l1 : w.heap.size + 1 < w1.heap.size := by rw [← hw1]; simp
  have l0 : w.heap.size < w1.heap.size := by omega
  have hF := hA.inW
  have HRT := Lib.hid (right_any a vd vc hdr w1 F (hA.onB hF B1))
  have HCT := Lib.hid (fun (hok : Cou.Ok a) W (hb : Below w.heap.size w W) => contact_any a hok vd vc (c1, c2) a.drawn W F (hA.onB hF hb))
  have hHRE : ∀ (_ : Cou.Ok a) (_ : CtS (c1, c2)) (W : World) (_ : Below w.heap.size w W), Calls Tryd.prog 52 #[.agg #[vd, vc, .int .u64 a.drawn], .slice (some ⟨W.heap.size, 0, none⟩) 1 1] (W.alloc (.cells #[.int .i64 c1, .int .i64 c2] 36)) fun e w' => ∃ v l, e = .returned v ∧ SlCt (fun b => w.heap.size ≤ b) w' v l ∧ Cou.Srt l ∧ (∀ t, t ∈ l ↔ Cou.Hop a [(c1, c2)] t) ∧ Below W.heap.size W w' := fun hok hs W hb => by
    have hb2 := Ba hb (.cells #[.int .i64 c1, .int .i64 c2] 36)
    have hA2 := hA.onB hF hb2
    have hP : SlCt (fun b => b < (W.alloc (.cells #[.int .i64 c1, .int .i64 c2] 36)).heap.size) (W.alloc (.cells #[.int .i64 c1, .int .i64 c2] 36)) (.slice (some ⟨W.heap.size, 0, none⟩) 1 1) [(c1, c2)] := by
      refine ⟨some ⟨W.heap.size, 0, none⟩, 1, rfl, by simp, by simp, fun i hi => ?_⟩
      have hi0 : i = 0 := by simpa using hi
      subst hi0
      exact ⟨⟨W.heap.size, 0, none⟩, [.int .i64 c1, .int .i64 c2], rfl, by simp, rfl, rfl, by simpa [Addr.add] using Flds.new W [.int .i64 c1, .int .i64 c2] 36⟩
    refine (reach_any a hok vd vc _ [(c1, c2)] (fun p hp => by simp only [List.mem_singleton] at hp; subst hp; exact hs) _ (fun b => b < (W.alloc (.cells #[.int .i64 c1, .int .i64 c2] 36)).heap.size) ⟨fun b h => h, hA2.dv.mono hA2.inW, hA2.cp.mono hA2.inW⟩ hP (hT.below hb2) (fun b h => h) (Nat.lt_of_lt_of_le hg hb2.size)).mono ?_
    rintro e w' ⟨v, l, rfl, q1, q2, q3, q4⟩
    exact ⟨v, l, rfl, q1.mono (fun b h => by have := hb.size; simp at h; show w.heap.size ≤ b; omega), q2, q3, Bt (Ba (B0 W) _) q4⟩
  have HRE := Lib.hid hHRE
  clear hHRE hA hT
  by_cases hr : Cou.rightF a = 0
  · have hok := Cou.right_ok hr
    by_cases hc : Cou.wrongF a (c1, c2) = 0
    · have he : reachErr a (c1, c2) = 0 := by unfold reachErr; rw [if_pos hr, hc]
      have hin : Cou.InA a (c1, c2) := by
        unfold Cou.wrongF at hc
        by_cases q : c1 < 0 ∨ (a.divs.length : Int) ≤ c1
        · rw [if_pos q] at hc; cases hc
        · rw [if_neg q] at hc
          refine ⟨by simp only; omega, by simp only; omega, ?_⟩
          cases hq : Cou.inB (a.divs.getD c1.toNat (0, -1)) c2 with
          | true => rfl
          | false => simp only [hq, cond_false] at hc; cases hc
      have hs := inA_small hok hin
      have HCT2 := Lib.hid (HCT.out hok)
      rw [hc] at HCT2
      have HRE2 := Lib.hid (HRE.out hok hs)
      have HE := Lib.hid he
      rw [hr] at HRT
      clear HCT HRE hs hin he hc hok hr
      go_enter Tryd.func25, Tryd.ntmps25
      go_wp2_with (first
        | (go_at_call 27; (with_reducible refine (HRT.out.mono ?_)); rintro e w2 ⟨rfl, hb2⟩; have x0' := (Bc hb2 l0).trans x0; have x1' := (Bc hb2 l0).trans x1; have x2' := (Bc hb2 l0).trans x2; have y0' := (Bc hb2 l1).trans y0; have y1' := (Bc hb2 l1).trans y1; have B2 := Bt B1 hb2; have l2 := Nat.lt_of_lt_of_le l1 hb2.size)
        | (go_at_call 51; (with_reducible refine ((HCT2.out _ B2).mono ?_)); rintro e w3 ⟨rfl, hb3⟩; have x0'' := (Bc hb3 (Nat.lt_of_succ_lt l2)).trans x0'; have x1'' := (Bc hb3 (Nat.lt_of_succ_lt l2)).trans x1'; have x2'' := (Bc hb3 (Nat.lt_of_succ_lt l2)).trans x2'; have y0'' := (Bc hb3 l2).trans y0'; have y1'' := (Bc hb3 l2).trans y1'; have B3 := Bt B2 hb3)
        | (go_at_call 52; (with_reducible refine ((HRE2.out _ B3).mono ?_)); rintro e w4 ⟨v, l, rfl, q1, q2, q3, q4⟩))
      refine bodyPost_ret (v := .tuple #[v, .int .i64 0]) ?_ rfl ?_
      · simp [results, Tryd.f25, go_sem]
      · exact ⟨v, l, by rw [HE.out], q1, fun h => absurd HE.out h, fun _ => ⟨q2, q3⟩, Bt B3 q4⟩
    · have he : reachErr a (c1, c2) = Cou.wrongF a (c1, c2) := by unfold reachErr; rw [if_pos hr]
      have HCT2 := Lib.hid (HCT.out hok)
      have HE := Lib.hid he
      have d1 : (Cou.wrongF a (c1, c2) != 0) = true := by simpa using hc
      have HN := Lib.hid (show reachErr a (c1, c2) ≠ 0 by rw [he]; exact hc)
      rw [hr] at HRT
      clear HCT HRE he hc hok hr
      go_enter Tryd.func25, Tryd.ntmps25
      go_wp2_with (first
        | (go_at_call 27; (with_reducible refine (HRT.out.mono ?_)); rintro e w2 ⟨rfl, hb2⟩; have x0' := (Bc hb2 l0).trans x0; have x1' := (Bc hb2 l0).trans x1; have x2' := (Bc hb2 l0).trans x2; have y0' := (Bc hb2 l1).trans y0; have y1' := (Bc hb2 l1).trans y1; have B2 := Bt B1 hb2; have l2 := Nat.lt_of_lt_of_le l1 hb2.size)
        | (go_at_call 51; (with_reducible refine ((HCT2.out _ B2).mono ?_)); rintro e w3 ⟨rfl, hb3⟩; have B3 := Bt B2 hb3))
      refine bodyPost_ret (v := .tuple #[.slice none 0 0, .int .i64 (Cou.wrongF a (c1, c2))]) ?_ rfl ?_
      · simp [results, Tryd.f25, go_sem]
      · exact ⟨_, [], by rw [HE.out], Sl.nil_, fun _ => rfl, fun h => absurd h HN.out, B3⟩
  · have he : reachErr a (c1, c2) = Cou.rightF a := by unfold reachErr; rw [if_neg hr]
    have HE := Lib.hid he
    have d1 : (Cou.rightF a != 0) = true := by simpa using hr
    have HN := Lib.hid (show reachErr a (c1, c2) ≠ 0 by rw [he]; exact hr)
    clear HCT HRE he hr
    go_enter Tryd.func25, Tryd.ntmps25
    go_wp2_with (first
      | (go_at_call 27; (with_reducible refine (HRT.out.mono ?_)); rintro e w2 ⟨rfl, hb2⟩; have B2 := Bt B1 hb2))
    refine bodyPost_ret (v := .tuple #[.slice none 0 0, .int .i64 (Cou.rightF a)]) ?_ rfl ?_
    · simp [results, Tryd.f25, go_sem]
    · exact ⟨_, [], by rw [HE.out], Sl.nil_, fun _ => rfl, fun h => absurd h HN.out, B2⟩
end Go.Proofs.YtahlfndlkfoikaaDoor
