/- Walks over matching: Best. Walks over the statement: both checks answer alike. -/
import Derived.Test.YtnphdmiondccgaaYj
import Derived.Test.YtnphdmiondccgaaRegW
namespace Go.Proofs.Ytnphdmiondccgaa
open Go Go.RowKit Go.Shelf
open Asg
set_option maxRecDepth 100000 in
set_option maxHeartbeats 4000000 in
theorem best_any (A : Option Addr) (c n : Nat) (costs : List (List Int)) (hn : costs.length = n) (hn5 : n ≤ 5) (hm8 : ∀ i, i < n → (costs.getD i []).length ≤ 8) (w : World) (h : SlII (fun b => b < w.heap.size) w (.slice A n c) costs) :
    Calls Try.prog 5 #[.slice A n c] w fun e w' => ∃ (A0 A2 A3 : Option Addr) (n0 c0 n2 c2 n3 c3 : Nat) (tot e0 : Int) (cols rows pots : List Int), e = .returned (.tuple #[.agg #[.slice A0 n0 c0, .int .i64 tot, .slice A2 n2 c2, .slice A3 n3 c3], .int .i64 e0]) ∧
      (cols.length = n0 ∧ rows.length = n2 ∧ pots.length = n3) ∧
      SlI (fun b => b < w'.heap.size) w' (.slice A0 n0 c0) cols ∧ SlI (fun b => b < w'.heap.size) w' (.slice A2 n2 c2) rows ∧ SlI (fun b => b < w'.heap.size) w' (.slice A3 n3 c3) pots ∧ cols.length ≤ 5 ∧ rows.length ≤ 5 ∧ pots.length ≤ 8 ∧ Below w.heap.size w w' := by
  obtain ⟨w1, hw1⟩ : ∃ w1 : World, w.alloc (.cells #[.slice none 0 0, .int .i64 0, .slice none 0 0, .slice none 0 0] 28) = w1 := ⟨_, rfl⟩
  have hB1 : Below w.heap.size w w1 := by rw [← hw1]; exact Ba (B0 w) _
  have hK1 : Blk w1 w.heap.size 28 #[.slice none 0 0, .int .i64 0, .slice none 0 0, .slice none 0 0] := by rw [← hw1]; exact Blk.new _ _ _
  obtain ⟨rb, hrb⟩ : ∃ rb, w.heap.size = rb := ⟨_, rfl⟩
  rw [hrb] at hK1
  have HCK := Lib.hid (mCheck_any A c n costs hn hn5 hm8 w1 _ (h.bel hB1))
  have hsv : ChkP costs → Calls Try.prog 11 #[.slice A n c] w1 fun e w' => ∃ (s0 s2 s3 : Value) (tot : Int) (cols rows pots : List Int), e = .returned (.agg #[s0, .int .i64 tot, s2, s3]) ∧
      SlI (fun b => w1.heap.size ≤ b ∧ b < w'.heap.size) w' s0 cols ∧ SlI (fun b => w1.heap.size ≤ b ∧ b < w'.heap.size) w' s2 rows ∧ SlI (fun b => w1.heap.size ≤ b ∧ b < w'.heap.size) w' s3 pots ∧ cols.length ≤ 5 ∧ rows.length ≤ 5 ∧ pots.length ≤ 8 ∧ Below w1.heap.size w1 w' := fun hC => by
    rcases Nat.eq_zero_or_pos n with h0 | h0
    · subst h0
      exact solve_nil A c w1
    · have hm8' : wd costs ≤ 8 := by
        have h1 := hm8 0 h0
        have h2 := (hC.2.2 0 (by omega)).1
        omega
      exact solve_any A c n (wd costs) costs hn h0 hn5 hm8' (by have := hC.2.1; omega) rfl (fun i hi => hC.2.2 i (by omega)) w1 _ (fun _ h => h) (h.bel hB1)
  have HSV := Lib.hid hsv
  have HK1 := Lib.hid hK1
  have HB1 := Lib.hid hB1
  have HW1 := Lib.hid hw1
  have HRB := Lib.hid hrb
  clear h hsv hK1 hB1 hw1 hrb hn hm8
  go_enter Try.func5, Try.ntmps5
  go_upto_region 1 with fail
  have hw1 := HW1.out
  have hrb := HRB.out
  rw [hw1]
  rw [hrb]
  clear hw1 HW1 hrb
  go_upto_region 2 with (go_at_call 10; (with_reducible refine (HCK.out.mono ?_)); rintro e w' ⟨⟨e0, rfl, he⟩, rfl⟩; have HE := Lib.hid he; clear he)
  obtain ⟨w1, rfl⟩ : ∃ w1 : World, w1 = w' := ⟨_, rfl⟩
  by_cases he : e0 = 0
  · subst he
    have HSV2 := Lib.hid (HSV.out (HE.out.1 rfl))
    have y0 := HK1.out.cell 0
    have f0 := HK1.out.frozen 0
    go_wp2_with (go_at_call 11; (with_reducible refine (HSV2.out.mono ?_)); rintro e w5 ⟨s0, s2, s3, tot, cols, rows, pots, rfl, h0, h2, h3, l0, l2, l3, hb5⟩; obtain ⟨A0, c0, rfl, -, -, -⟩ := SlI.open h0; obtain ⟨A2, c2, rfl, -, -, -⟩ := SlI.open h2; obtain ⟨A3, c3, rfl, -, -, -⟩ := SlI.open h3; have hO := HK1.out.below hb5 HK1.out.lt; have y0 := hO.cell 0; have y1 := hO.cell 1; have y2 := hO.cell 2; have y3 := hO.cell 3; have f0 := hO.frozen 0; have f1 := hO.frozen 1; have f2 := hO.frozen 2; have f3 := hO.frozen 3; simp only [List.getElem?_toArray, List.getElem?_cons_zero, List.getElem?_cons_succ] at y0 y1 y2 y3; have H0 := Lib.hid h0; have H2 := Lib.hid h2; have H3 := Lib.hid h3; have HL := Lib.hid (And.intro l0 (And.intro l2 l3)); have HB5 := Lib.hid hb5; have HO := Lib.hid hO; clear h0 h2 h3 l0 l2 l3 hb5 hO)
    obtain ⟨w9, hw9⟩ : ∃ w9 : World, ((((w5.setCell ⟨rb, 0, none⟩ (.slice A0 cols.length c0)).setCell ⟨rb, 1, none⟩ (.int .i64 tot)).setCell ⟨rb, 2, none⟩ (.slice A2 rows.length c2)).setCell ⟨rb, 3, none⟩ (.slice A3 pots.length c3)) = w9 := ⟨_, rfl⟩
    have K9 := (((HO.out.set_ 0 (.slice A0 cols.length c0)).set_ 1 (.int .i64 tot)).set_ 2 (.slice A2 rows.length c2)).set_ 3 (.slice A3 pots.length c3)
    rw [hw9] at K9 ⊢
    have x0 : w9.cell? ⟨rb, 0, none⟩ = some (.slice A0 cols.length c0) := (K9.cell 0).trans rfl
    have x1 : w9.cell? ⟨rb, 1, none⟩ = some (.int .i64 tot) := (K9.cell 1).trans rfl
    have x2 : w9.cell? ⟨rb, 2, none⟩ = some (.slice A2 rows.length c2) := (K9.cell 2).trans rfl
    have x3 : w9.cell? ⟨rb, 3, none⟩ = some (.slice A3 pots.length c3) := (K9.cell 3).trans rfl
    have hrw : w.heap.size ≤ rb := by rw [HRB.out]; exact Nat.le_refl _
    have hB9 : Below w.heap.size w w9 := by
      rw [← hw9]
      exact Bs (Bs (Bs (Bs (Bt HB1.out HB5.out) _ hrw) _ hrw) _ hrw) _ hrw
    have hag : Agree (fun b => w1.heap.size ≤ b ∧ b < w5.heap.size) w5 w9 := by
      have hne : ∀ b, (w1.heap.size ≤ b ∧ b < w5.heap.size) → b ≠ rb := fun b hb => by have := HK1.out.lt; omega
      rw [← hw9]
      exact (((Agree.setCell (p := ⟨rb, 0, none⟩) _ hne).trans (Agree.setCell (p := ⟨rb, 1, none⟩) _ hne)).trans (Agree.setCell (p := ⟨rb, 2, none⟩) _ hne)).trans (Agree.setCell (p := ⟨rb, 3, none⟩) _ hne)
    have hsz : w5.heap.size = w9.heap.size := by rw [← hw9]; simp only [World.size_setCell]
    have hm : ∀ b, (w1.heap.size ≤ b ∧ b < w5.heap.size) → b < w9.heap.size := fun b hb => by rw [← hsz]; exact hb.2
    refine bodyPost_ret (v := .tuple #[.agg #[.slice A0 cols.length c0, .int .i64 tot, .slice A2 rows.length c2, .slice A3 pots.length c3], .int .i64 0]) (by simp [results, Try.f5, go_sem, x0, x1, x2, x3]) rfl ?_
    exact ⟨_, _, _, _, _, _, _, _, _, _, _, cols, rows, pots, rfl, ⟨rfl, rfl, rfl⟩, (SlI.keep H0.out hag).mono hm, (SlI.keep H2.out hag).mono hm, (SlI.keep H3.out hag).mono hm, HL.out.1, HL.out.2.1, HL.out.2.2, hB9⟩
  · have hI : (e0 != 0) = true := by simpa using he
    have y0 := HK1.out.cell 0
    have y1 := HK1.out.cell 1
    have y2 := HK1.out.cell 2
    have y3 := HK1.out.cell 3
    have f0 := HK1.out.frozen 0
    have f1 := HK1.out.frozen 1
    have f2 := HK1.out.frozen 2
    have f3 := HK1.out.frozen 3
    simp only [List.getElem?_toArray, List.getElem?_cons_zero, List.getElem?_cons_succ] at y0 y1 y2 y3
    go_wp2_with fail
    obtain ⟨w9, hw9⟩ : ∃ w9 : World, ((((w1.setCell ⟨rb, 0, none⟩ (.slice none 0 0)).setCell ⟨rb, 1, none⟩ (.int .i64 0)).setCell ⟨rb, 2, none⟩ (.slice none 0 0)).setCell ⟨rb, 3, none⟩ (.slice none 0 0)) = w9 := ⟨_, rfl⟩
    have K9 := (((HK1.out.set_ 0 (.slice none 0 0)).set_ 1 (.int .i64 0)).set_ 2 (.slice none 0 0)).set_ 3 (.slice none 0 0)
    rw [hw9] at K9 ⊢
    have x0 : w9.cell? ⟨rb, 0, none⟩ = some (.slice none 0 0) := (K9.cell 0).trans rfl
    have x1 : w9.cell? ⟨rb, 1, none⟩ = some (.int .i64 0) := (K9.cell 1).trans rfl
    have x2 : w9.cell? ⟨rb, 2, none⟩ = some (.slice none 0 0) := (K9.cell 2).trans rfl
    have x3 : w9.cell? ⟨rb, 3, none⟩ = some (.slice none 0 0) := (K9.cell 3).trans rfl
    have hrw : w.heap.size ≤ rb := by rw [HRB.out]; exact Nat.le_refl _
    have hB9 : Below w.heap.size w w9 := by
      rw [← hw9]
      exact Bs (Bs (Bs (Bs HB1.out _ hrw) _ hrw) _ hrw) _ hrw
    have hnil : SlI (fun b => b < w9.heap.size) w9 (.slice none 0 0) [] := ⟨none, 0, rfl, by simp, by simp, fun i hi => absurd hi (by simp)⟩
    refine bodyPost_ret (v := .tuple #[.agg #[.slice none 0 0, .int .i64 0, .slice none 0 0, .slice none 0 0], .int .i64 e0]) (by simp [results, Try.f5, go_sem, x0, x1, x2, x3]) rfl ?_
    exact ⟨_, _, _, _, _, _, _, _, _, _, _, [], [], [], rfl, ⟨rfl, rfl, rfl⟩, hnil, hnil, hnil, by simp, by simp, by simp, hB9⟩
/-- What holds behind each operation of a drawn region. -/
def FO (Q : Prop) (rb : Nat) (A Ac Ar Al : Option Addr) (n c nc cc nr cr q cl : Nat) (tot : Int) (j : Nat) (s : Nat → Value) (_w : World) : Prop :=
  match j with
  | 0 => s 5 = .slice A n c
  | 1 => s 6 = .pointer (some ⟨rb, 0, none⟩)
  | 2 => s 7 = .slice Ac nc cc
  | 3 => s 8 = .pointer (some ⟨rb, 1, none⟩)
  | 4 => s 9 = .int .i64 tot
  | 5 => s 10 = .pointer (some ⟨rb, 2, none⟩)
  | 6 => s 11 = .slice Ar nr cr
  | 7 => s 12 = .pointer (some ⟨rb, 3, none⟩)
  | 8 => s 13 = .slice Al q cl
  | 9 => s 14 = .agg #[.slice A n c, .slice Ac nc cc, .int .i64 tot, .slice Ar nr cr, .slice Al q cl]
  | 10 => BoolIs (s 15) Q
  | 11 => s 16 = .slice A n c
  | 12 => s 17 = .agg #[.slice Ac nc cc, .int .i64 tot, .slice Ar nr cr, .slice Al q cl]
  | 13 => ∃ e1 : Int, s 18 = .int .i64 e1 ∧ (e1 = 0 ↔ Q)
  | 14 => BoolIs (s 19) Q
  | 15 => s 20 = .bool true
  | 16 => s 4 = .bool true
  | _ => True
def VO (j : Nat) : List Nat := match j with
  | 0 => [5] | 1 => [6] | 2 => [7] | 3 => [8] | 4 => [9] | 5 => [10] | 6 => [11] | 7 => [12] | 8 => [13] | 9 => [14] | 10 => [15] | 11 => [16] | 12 => [17] | 13 => [18] | 14 => [19] | 15 => [20] | 16 => [4] | _ => []
def EO (j : Nat) : Bool := j == 16
theorem FO_V (Q : Prop) (rb : Nat) (A Ac Ar Al : Option Addr) (n c nc cc nr cr q cl : Nat) (tot : Int) (j : Nat) (s s' : Nat → Value) (w : World) (h : ∀ t, t ∈ VO j → s' t = s t) (hF : FO Q rb A Ac Ar Al n c nc cc nr cr q cl tot j s w) : FO Q rb A Ac Ar Al n c nc cc nr cr q cl tot j s' w := by
  match j with
  | 0 => unfold FO at hF ⊢; simp only at hF ⊢; rw [h 5 (by simp [VO])]; exact hF
  | 1 => unfold FO at hF ⊢; simp only at hF ⊢; rw [h 6 (by simp [VO])]; exact hF
  | 2 => unfold FO at hF ⊢; simp only at hF ⊢; rw [h 7 (by simp [VO])]; exact hF
  | 3 => unfold FO at hF ⊢; simp only at hF ⊢; rw [h 8 (by simp [VO])]; exact hF
  | 4 => unfold FO at hF ⊢; simp only at hF ⊢; rw [h 9 (by simp [VO])]; exact hF
  | 5 => unfold FO at hF ⊢; simp only at hF ⊢; rw [h 10 (by simp [VO])]; exact hF
  | 6 => unfold FO at hF ⊢; simp only at hF ⊢; rw [h 11 (by simp [VO])]; exact hF
  | 7 => unfold FO at hF ⊢; simp only at hF ⊢; rw [h 12 (by simp [VO])]; exact hF
  | 8 => unfold FO at hF ⊢; simp only at hF ⊢; rw [h 13 (by simp [VO])]; exact hF
  | 9 => unfold FO at hF ⊢; simp only at hF ⊢; rw [h 14 (by simp [VO])]; exact hF
  | 10 => unfold FO at hF ⊢; simp only at hF ⊢; rw [h 15 (by simp [VO])]; exact hF
  | 11 => unfold FO at hF ⊢; simp only at hF ⊢; rw [h 16 (by simp [VO])]; exact hF
  | 12 => unfold FO at hF ⊢; simp only at hF ⊢; rw [h 17 (by simp [VO])]; exact hF
  | 13 => unfold FO at hF ⊢; simp only at hF ⊢; rw [h 18 (by simp [VO])]; exact hF
  | 14 => unfold FO at hF ⊢; simp only at hF ⊢; rw [h 19 (by simp [VO])]; exact hF
  | 15 => unfold FO at hF ⊢; simp only at hF ⊢; rw [h 20 (by simp [VO])]; exact hF
  | 16 => unfold FO at hF ⊢; simp only at hF ⊢; rw [h 4 (by simp [VO])]; exact hF
  | _ + 17 => trivial
theorem FO_below (Q : Prop) (rb : Nat) (A Ac Ar Al : Option Addr) (n c nc cc nr cr q cl : Nat) (tot : Int) (j : Nat) (s : Nat → Value) (w w' : World) (_hb : Below w.heap.size w w') (hF : FO Q rb A Ac Ar Al n c nc cc nr cr q cl tot j s w) : FO Q rb A Ac Ar Al n c nc cc nr cr q cl tot j s w' := by
  match j with
  | 0 => exact hF
  | 1 => exact hF
  | 2 => exact hF
  | 3 => exact hF
  | 4 => exact hF
  | 5 => exact hF
  | 6 => exact hF
  | 7 => exact hF
  | 8 => exact hF
  | 9 => exact hF
  | 10 => exact hF
  | 11 => exact hF
  | 12 => exact hF
  | 13 => exact hF
  | 14 => exact hF
  | 15 => exact hF
  | 16 => exact hF
  | _ + 17 => trivial
set_option maxRecDepth 100000 in
set_option maxHeartbeats 4000000 in
theorem assigns_any (A : Option Addr) (c n : Nat) (costs : List (List Int)) (hn : costs.length = n) (hn5 : n ≤ 5) (hm8 : ∀ i, i < n → (costs.getD i []).length ≤ 8) (Ac Ar Al : Option Addr) (nc cc nr cr q cl : Nat) (cols rows l : List Int) (hc : cols.length = nc) (hr : rows.length = nr) (hq : l.length = q) (tot : Int) (w : World)
    (h : SlII (fun b => b < w.heap.size) w (.slice A n c) costs) (hcs : SlI (fun b => b < w.heap.size) w (.slice Ac nc cc) cols) (hrs : SlI (fun b => b < w.heap.size) w (.slice Ar nr cr) rows) (hl : SlI (fun b => b < w.heap.size) w (.slice Al q cl) l) :
    Calls Try.prog 6 #[.slice A n c, .agg #[.slice Ac nc cc, .int .i64 tot, .slice Ar nr cr, .slice Al q cl]] w fun e w' => e = .returned (.bool true) ∧ Below w.heap.size w w' := by
  obtain ⟨w1, hw1⟩ : ∃ w1 : World, w.alloc (.cells #[.slice Ac nc cc, .int .i64 tot, .slice Ar nr cr, .slice Al q cl] 28) = w1 := ⟨_, rfl⟩
  have hB1 : Below w.heap.size w w1 := by rw [← hw1]; exact Ba (B0 w) _
  have hK1 : Blk w1 w.heap.size 28 #[.slice Ac nc cc, .int .i64 tot, .slice Ar nr cr, .slice Al q cl] := by rw [← hw1]; exact Blk.new _ _ _
  obtain ⟨rb, hrb⟩ : ∃ rb, w.heap.size = rb := ⟨_, rfl⟩
  rw [hrb] at hK1
  obtain ⟨Q, hQ⟩ : ∃ Q : Prop, AsgP costs cols tot rows l = Q := ⟨_, rfl⟩
  have hV : VerP costs cols tot rows l ↔ Q := by rw [← hQ]; exact (asg_iff costs cols tot rows l).symm
  have HC1 : Hid (∀ W, Below w1.heap.size w1 W → Calls Try.prog 12 #[.agg #[.slice A n c, .slice Ac nc cc, .int .i64 tot, .slice Ar nr cr, .slice Al q cl]] W fun e w' => (∃ v, e = .returned v ∧ BoolIs v Q) ∧ Below W.heap.size W w') := Lib.hid fun W hb => by
    have hb' := Bt hB1 hb
    rw [← hQ]
    exact cassigns_any A c n costs hn hn5 hm8 Ac Ar Al nc cc nr cr q cl cols rows l hc hr hq tot W (h.bel hb') (hcs.bel hb') (hrs.bel hb') (hl.bel hb')
  have HC2 : Hid (∀ W, Below w1.heap.size w1 W → Calls Try.prog 13 #[.slice A n c, .agg #[.slice Ac nc cc, .int .i64 tot, .slice Ar nr cr, .slice Al q cl]] W fun e w' => (∃ e1, e = .returned (.int .i64 e1) ∧ (e1 = 0 ↔ Q)) ∧ Below W.heap.size W w') := Lib.hid fun W hb => by
    have hb' := Bt hB1 hb
    refine (mverify_any A c n costs hn hn5 hm8 Ac Ar Al nc cc nr cr q cl cols rows l hc hr hq tot W (h.bel hb') (hcs.bel hb') (hrs.bel hb') (hl.bel hb')).mono ?_
    rintro e w' ⟨⟨e1, r1, r2⟩, r3⟩
    exact ⟨⟨e1, r1, r2.trans hV⟩, r3⟩
  have HS := Lib.hid (fun W (hb : Below w1.heap.size w1 W) => by
    have hk := hK1.below hb hK1.lt
    have k0 := hk.cell 0
    have k1 := hk.cell 1
    have k2 := hk.cell 2
    have k3 := hk.cell 3
    simp only [List.getElem?_toArray, List.getElem?_cons_zero, List.getElem?_cons_succ] at k0 k1 k2 k3
    exact (show W.cell? ⟨rb, 0, none⟩ = some (.slice Ac nc cc) ∧ W.cell? ⟨rb, 1, none⟩ = some (.int .i64 tot) ∧ W.cell? ⟨rb, 2, none⟩ = some (.slice Ar nr cr) ∧ W.cell? ⟨rb, 3, none⟩ = some (.slice Al q cl) from ⟨k0, k1, k2, k3⟩))
  have hBB : ∀ (L : Nat → Bool) (i : Nat) (W W' : World), Below W.heap.size W W' → Below w1.heap.size w1 W → Below w1.heap.size w1 W' := fun _ _ _ _ hb h => Bt h hb
  have HB1 := Lib.hid hB1
  have HW1 := Lib.hid hw1
  have HRB := Lib.hid hrb
  clear h hcs hrs hl hV hK1 hB1 hw1 hrb hQ hc hr hq hn hm8
  go_enter Try.func6, Try.ntmps6
  go_upto_region 1 with fail
  have hw1 := HW1.out
  have hrb := HRB.out
  rw [hw1]
  rw [hrb]
  clear hw1 HW1 hrb
  refine region_blocks (by kernel_rfl) ?_
  refine from_lawW 17 EO (fun _ W => Below w1.heap.size w1 W) (FO Q rb A Ac Ar Al n c nc cc nr cr q cl tot) VO (by kernel_rfl) rfl (FO_V _ _ _ _ _ _ _ _ _ _ _ _ _ _ _) (by kernel_rfl) (by kernel_rfl) ((B0 w1).drew) ⟨?_, ?_, ?_, ?_, ?_, ?_, ?_, ?_, ?_, ?_, ?_, ?_, ?_, ?_, ?_, ?_, ?_, trivial⟩ ?_
  · refine OpFactW.value rfl (FO_below _ _ _ _ _ _ _ _ _ _ _ _ _ _ _) hBB fun L a wx hl hf D hb => ?_
    have h0 : sl a 0 = .slice A n c := hf 0 (by kernel_rfl)
    refine ⟨.slice A n c, wx, ?_, B0 _, fun s _ h => h 5 rfl⟩
    unfold sl at h0
    simp [go_sem, h0]
  · refine OpFactW.value rfl (FO_below _ _ _ _ _ _ _ _ _ _ _ _ _ _ _) hBB fun L a wx hl hf D hb => ?_
    have h0 : sl a 3 = .pointer (some ⟨rb, 0, none⟩) := hf 3 (by kernel_rfl)
    refine ⟨.pointer (some ⟨rb, 0, none⟩), wx, ?_, B0 _, fun s _ h => h 6 rfl⟩
    unfold sl at h0
    simp at h0
    simp [go_sem, h0]
  · refine OpFactW.value rfl (FO_below _ _ _ _ _ _ _ _ _ _ _ _ _ _ _) hBB fun L a wx hl hf D hb => ?_
    have h0 : sl a 6 = .pointer (some ⟨rb, 0, none⟩) := D 1 (by kernel_rfl)
    have es := HS.out wx hb
    refine ⟨.slice Ac nc cc, wx, ?_, B0 _, fun s _ h => h 7 rfl⟩
    unfold sl at h0
    simp at h0
    simp [go_sem, h0, es]
  · refine OpFactW.value rfl (FO_below _ _ _ _ _ _ _ _ _ _ _ _ _ _ _) hBB fun L a wx hl hf D hb => ?_
    have h0 : sl a 3 = .pointer (some ⟨rb, 0, none⟩) := hf 3 (by kernel_rfl)
    refine ⟨.pointer (some ⟨rb, 1, none⟩), wx, ?_, B0 _, fun s _ h => h 8 rfl⟩
    unfold sl at h0
    simp at h0
    simp [go_sem, h0]
  · refine OpFactW.value rfl (FO_below _ _ _ _ _ _ _ _ _ _ _ _ _ _ _) hBB fun L a wx hl hf D hb => ?_
    have h0 : sl a 8 = .pointer (some ⟨rb, 1, none⟩) := D 3 (by kernel_rfl)
    have es := HS.out wx hb
    refine ⟨.int .i64 tot, wx, ?_, B0 _, fun s _ h => h 9 rfl⟩
    unfold sl at h0
    simp at h0
    simp [go_sem, h0, es]
  · refine OpFactW.value rfl (FO_below _ _ _ _ _ _ _ _ _ _ _ _ _ _ _) hBB fun L a wx hl hf D hb => ?_
    have h0 : sl a 3 = .pointer (some ⟨rb, 0, none⟩) := hf 3 (by kernel_rfl)
    refine ⟨.pointer (some ⟨rb, 2, none⟩), wx, ?_, B0 _, fun s _ h => h 10 rfl⟩
    unfold sl at h0
    simp at h0
    simp [go_sem, h0]
  · refine OpFactW.value rfl (FO_below _ _ _ _ _ _ _ _ _ _ _ _ _ _ _) hBB fun L a wx hl hf D hb => ?_
    have h0 : sl a 10 = .pointer (some ⟨rb, 2, none⟩) := D 5 (by kernel_rfl)
    have es := HS.out wx hb
    refine ⟨.slice Ar nr cr, wx, ?_, B0 _, fun s _ h => h 11 rfl⟩
    unfold sl at h0
    simp at h0
    simp [go_sem, h0, es]
  · refine OpFactW.value rfl (FO_below _ _ _ _ _ _ _ _ _ _ _ _ _ _ _) hBB fun L a wx hl hf D hb => ?_
    have h0 : sl a 3 = .pointer (some ⟨rb, 0, none⟩) := hf 3 (by kernel_rfl)
    refine ⟨.pointer (some ⟨rb, 3, none⟩), wx, ?_, B0 _, fun s _ h => h 12 rfl⟩
    unfold sl at h0
    simp at h0
    simp [go_sem, h0]
  · refine OpFactW.value rfl (FO_below _ _ _ _ _ _ _ _ _ _ _ _ _ _ _) hBB fun L a wx hl hf D hb => ?_
    have h0 : sl a 12 = .pointer (some ⟨rb, 3, none⟩) := D 7 (by kernel_rfl)
    have es := HS.out wx hb
    refine ⟨.slice Al q cl, wx, ?_, B0 _, fun s _ h => h 13 rfl⟩
    unfold sl at h0
    simp at h0
    simp [go_sem, h0, es]
  · refine OpFactW.value rfl (FO_below _ _ _ _ _ _ _ _ _ _ _ _ _ _ _) hBB fun L a wx hl hf D hb => ?_
    have h1 : sl a 5 = .slice A n c := D 0 (by kernel_rfl)
    have h2 : sl a 7 = .slice Ac nc cc := D 2 (by kernel_rfl)
    have h3 : sl a 9 = .int .i64 tot := D 4 (by kernel_rfl)
    have h4 : sl a 11 = .slice Ar nr cr := D 6 (by kernel_rfl)
    have h5 : sl a 13 = .slice Al q cl := D 8 (by kernel_rfl)
    refine ⟨.agg #[.slice A n c, .slice Ac nc cc, .int .i64 tot, .slice Ar nr cr, .slice Al q cl], wx, ?_, B0 _, fun s _ h => h 14 rfl⟩
    unfold sl at h1 h2 h3 h4 h5
    simp at h1 h2 h3 h4 h5
    simp [go_sem, h1, h2, h3, h4, h5]
  · refine OpFactW.call rfl (FO_below _ _ _ _ _ _ _ _ _ _ _ _ _ _ _) hBB fun L a wx hl hf D hb => ?_
    have h1 : sl a 14 = .agg #[.slice A n c, .slice Ac nc cc, .int .i64 tot, .slice Ar nr cr, .slice Al q cl] := D 9 (by kernel_rfl)
    refine ⟨12, #[.agg #[.slice A n c, .slice Ac nc cc, .int .i64 tot, .slice Ar nr cr, .slice Al q cl]], ?_, (HC1.out wx hb).mono ?_⟩
    · unfold sl at h1
      simp at h1
      simp [go_sem, h1]
    · rintro e w' ⟨⟨v, rfl, hv⟩, hb3⟩
      refine ⟨v, rfl, hb3, fun s _ h => ?_⟩
      have e15 := h 15 rfl
      show BoolIs (s 15) Q
      rw [e15]
      exact hv
  · refine OpFactW.value rfl (FO_below _ _ _ _ _ _ _ _ _ _ _ _ _ _ _) hBB fun L a wx hl hf D hb => ?_
    have h0 : sl a 0 = .slice A n c := hf 0 (by kernel_rfl)
    refine ⟨.slice A n c, wx, ?_, B0 _, fun s _ h => h 16 rfl⟩
    unfold sl at h0
    simp [go_sem, h0]
  · refine OpFactW.value rfl (FO_below _ _ _ _ _ _ _ _ _ _ _ _ _ _ _) hBB fun L a wx hl hf D hb => ?_
    have h0 : sl a 3 = .pointer (some ⟨rb, 0, none⟩) := hf 3 (by kernel_rfl)
    have es := HS.out wx hb
    refine ⟨.agg #[.slice Ac nc cc, .int .i64 tot, .slice Ar nr cr, .slice Al q cl], wx, ?_, B0 _, fun s _ h => h 17 rfl⟩
    unfold sl at h0
    simp at h0
    simp [go_sem, h0, es]
  · refine OpFactW.call rfl (FO_below _ _ _ _ _ _ _ _ _ _ _ _ _ _ _) hBB fun L a wx hl hf D hb => ?_
    have h1 : sl a 16 = .slice A n c := D 11 (by kernel_rfl)
    have h2 : sl a 17 = .agg #[.slice Ac nc cc, .int .i64 tot, .slice Ar nr cr, .slice Al q cl] := D 12 (by kernel_rfl)
    refine ⟨13, #[.slice A n c, .agg #[.slice Ac nc cc, .int .i64 tot, .slice Ar nr cr, .slice Al q cl]], ?_, (HC2.out wx hb).mono ?_⟩
    · unfold sl at h1 h2
      simp at h1 h2
      simp [go_sem, h1, h2]
    · rintro e w' ⟨⟨e1, rfl, hv⟩, hb3⟩
      exact ⟨_, rfl, hb3, fun s _ h => ⟨e1, h 18 rfl, hv⟩⟩
  · refine OpFactW.value rfl (FO_below _ _ _ _ _ _ _ _ _ _ _ _ _ _ _) hBB fun L a wx hl hf D hb => ?_
    obtain ⟨e1, h1, hq⟩ : ∃ e1 : Int, sl a 18 = .int .i64 e1 ∧ (e1 = 0 ↔ Q) := D 13 (by kernel_rfl)
    unfold sl at h1
    simp at h1
    by_cases he : e1 = 0
    · refine ⟨.bool true, wx, by subst he; simp [go_sem, h1], B0 _, fun s _ h => ?_⟩
      have e19 := h 19 rfl
      show BoolIs (s 19) Q
      rw [e19]
      exact BoolIs.yes (hq.1 he)
    · refine ⟨.bool false, wx, by simp [go_sem, h1, he], B0 _, fun s _ h => ?_⟩
      have e19 := h 19 rfl
      show BoolIs (s 19) Q
      rw [e19]
      exact BoolIs.no fun h => he (hq.2 h)
  · refine OpFactW.value rfl (FO_below _ _ _ _ _ _ _ _ _ _ _ _ _ _ _) hBB fun L a wx hl hf D hb => ?_
    have h1 : BoolIs (sl a 15) Q := D 10 (by kernel_rfl)
    have h2 : BoolIs (sl a 19) Q := D 14 (by kernel_rfl)
    refine ⟨.bool true, wx, ?_, B0 _, fun s _ h => h 20 rfl⟩
    rcases h1 with ⟨h1, p1⟩ | ⟨h1, p1⟩ <;> rcases h2 with ⟨h2, p2⟩ | ⟨h2, p2⟩
    · unfold sl at h1 h2
      simp at h1 h2
      simp [go_sem, h1, h2]
    · exact absurd p1 p2
    · exact absurd p2 p1
    · unfold sl at h1 h2
      simp at h1 h2
      simp [go_sem, h1, h2]
  · refine OpFactW.value rfl (FO_below _ _ _ _ _ _ _ _ _ _ _ _ _ _ _) hBB fun L a wx hl hf D hb => ?_
    have h1 : sl a 20 = .bool true := D 15 (by kernel_rfl)
    refine ⟨.bool true, wx, ?_, B0 _, fun s _ h => h 4 rfl⟩
    unfold sl at h1
    simp at h1
    simp [go_sem, h1]
  intro L9 y9 w9 hb9 hF9
  have h4 : y9 4 = .bool true := hF9 16 (by decide) rfl
  clear hF9
  rw [aft17 (d0 := 5) (d1 := 6) (d2 := 7) (d3 := 8) (d4 := 9) (d5 := 10) (d6 := 11) (d7 := 12) (d8 := 13) (d9 := 14) (d10 := 15) (d11 := 16) (d12 := 17) (d13 := 18) (d14 := 19) (d15 := 20) (d16 := 4) (by kernel_rfl) rfl]
  rw [h4]
  simp only [List.set_cons_succ, List.set_cons_zero]
  refine from_end rfl ?_
  go_wp2_with fail
  go_ret
  exact ⟨rfl, Bt HB1.out hb9⟩
end Go.Proofs.Ytnphdmiondccgaa
