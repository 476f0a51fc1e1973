/- Walks over checker: Assigns. -/
import Derived.Test.YtnphdmiondccgaaYh
namespace Go.Proofs.Ytnphdmiondccgaa
open Go Go.RowKit Go.Shelf
open Go.Maps (Keyed)
/-- The map of what has been used. -/
def Seen (l : List Int) (mb : Nat) (w : World) : Prop := ∃ es, MapAt w mb es ∧ (∀ p ∈ es, ∃ i ∈ l, p = (.int .i64 i, .bool true)) ∧ ∀ i ∈ l, (.int .i64 i, .bool true) ∈ es
theorem keyKI : Keyed Try.prog 3 := Go.Maps.int_keyed Try.underlying3
theorem zeroB (w : World) : (zeroValue 4).run Try.prog w = .ok (.bool false) w := by kernel_rfl
theorem seen_look {l : List Int} {mb : Nat} {w : World} (h : Seen l mb w) (hl : ∀ i ∈ l, (Lit.int .i64 i).wf = true) (i : Int) (hi : (Lit.int .i64 i).wf = true) :
    (Instr.lookup 67 (.map (some mb)) (.int .i64 i) false).run Try.prog w = .ok (.bool (l.contains i)) w := by
  obtain ⟨es, h1, h2, h3⟩ := h
  have hk : ∀ p ∈ es, ∃ kl, keyOf Try.prog 3 p.1 = some kl := fun p hp => by
    obtain ⟨j, hj, rfl⟩ := h2 p hp
    exact ⟨_, Go.Maps.keyOf_int_mk Try.underlying3 (hl j hj)⟩
  rcases run_lookup_at false keyKI Try.underlying67 (zeroB w) h1 hk (Go.Maps.keyOf_int_mk Try.underlying3 hi) with ⟨q, q2⟩ | ⟨v, hv, q⟩
  · have : l.contains i = false := by
      cases hc : l.contains i with
      | false => rfl
      | true => exact absurd rfl (q2 _ (h3 i (by simpa using hc)))
    rw [this]; exact q
  · obtain ⟨j, hj, e⟩ := h2 _ hv
    have e1 : i = j := by have h0 := congrArg Prod.fst e; simpa using h0
    have e2 : v = .bool true := congrArg Prod.snd e
    subst e1
    rw [e2] at q
    have : l.contains i = true := by simpa using hj
    rw [this]; exact q
theorem seen_store {l : List Int} {mb : Nat} {w : World} (h : Seen l mb w) (hl : ∀ i ∈ l, (Lit.int .i64 i).wf = true) (i : Int) (hi : (Lit.int .i64 i).wf = true) :
    ∃ w', (Instr.mapUpdate 67 (.map (some mb)) (.int .i64 i) (.bool true)).run Try.prog w = .ok () w' ∧ Seen (l ++ [i]) mb w' ∧ w.grownBy w' (some mb) := by
  obtain ⟨es, h1, h2, h3⟩ := h
  have hk : ∀ p ∈ es, ∃ kl, keyOf Try.prog 3 p.1 = some kl := fun p hp => by
    obtain ⟨j, hj, rfl⟩ := h2 p hp
    exact ⟨_, Go.Maps.keyOf_int_mk Try.underlying3 (hl j hj)⟩
  obtain ⟨w', es', q1, q2, q3, q4, q5, q6⟩ := run_update_at keyKI Try.underlying67 h1 hk (val := .bool true) (Go.Maps.keyOf_int_mk Try.underlying3 hi)
  refine ⟨w', q1, ⟨es', q2, fun p hp => ?_, fun j hj => ?_⟩, q3⟩
  · rcases q4 p hp with rfl | hp
    · exact ⟨i, by simp, rfl⟩
    · obtain ⟨j, hj, rfl⟩ := h2 p hp
      exact ⟨j, by simp [hj], rfl⟩
  · rcases List.mem_append.1 hj with hj | hj
    · obtain ⟨v, hv⟩ := q6 _ (h3 j hj)
      rcases q4 _ hv with e | hp
      · have e2 : v = .bool true := congrArg Prod.snd e
        rw [e2] at hv
        exact hv
      · obtain ⟨j', _, e⟩ := h2 _ hp
        have e2 : v = .bool true := congrArg Prod.snd e
        rw [e2] at hv
        exact hv
    · simp only [List.mem_singleton] at hj
      subst hj
      exact q5
theorem Seen.lt {l : List Int} {mb : Nat} {w : World} (h : Seen l mb w) : mb < w.heap.size := by
  obtain ⟨es, h1, _⟩ := h
  exact h1.lt
theorem Seen.of_block {l : List Int} {mb : Nat} {w w' : World} (h : Seen l mb w) (e : w'.heap[mb]? = w.heap[mb]?) : Seen l mb w' := by
  obtain ⟨es, h1, h2⟩ := h
  exact ⟨es, h1.of_block e, h2⟩
theorem Seen.below {l : List Int} {mb : Nat} {w w' : World} (h : Seen l mb w) (hb : Below w.heap.size w w') : Seen l mb w' := h.of_block (hb.block mb h.lt)
theorem below_row {w w' : World} {B mb : Nat} {w0 : World} (h : Below B w0 w) (hB : B ≤ w.heap.size) (hg : w.grownBy w' (some mb)) (hm : B ≤ mb) : Below B w0 w' := h.grown hg hB fun k hk => by injection hk with hk; omega
theorem grown_row {a b c : World} {mb : Nat} (h : a.grownBy b (some mb)) (k : b.grownBy c (some mb)) : a.grownBy c (some mb) :=
  ⟨k.os.trans h.os, k.tape.trans h.tape, k.output.trans h.output, Nat.le_trans h.size k.size, fun i hi hne => (k.block i (Nat.lt_of_lt_of_le hi h.size) hne).trans (h.block i hi hne)⟩
theorem grown_of {a w : World} (h : Below a.heap.size a w) (mb : Nat) : a.grownBy w (some mb) := only_of_below h _
theorem cell_grownBy {a b : World} {mb g i : Nat} (h : a.grownBy b (some mb)) (hg : g < a.heap.size) (hne : g ≠ mb) : b.cell? ⟨g, i, none⟩ = a.cell? ⟨g, i, none⟩ :=
  World.cell?_of_block (w := a) (h.block g hg (by intro e; injection e with e; exact hne e))
theorem wf_small {i : Int} (h0 : 0 ≤ i) (h1 : i ≤ 1000000) : (Lit.int .i64 i).wf = true := by
  have := wf_wrap .i64 i
  rwa [IntWalk.i64_in _ (by omega)] at this
theorem within_one (lo hi a : Int) (W : World) : Calls Try.prog 14 #[.int .i64 lo, .int .i64 hi, .slice (some ⟨W.heap.size, 0, none⟩) 1 1] (W.alloc (.cells #[.int .i64 a] 3)) fun e w' => e = .returned (.bool (withinB lo hi [a])) ∧ Below W.heap.size W w' :=
  (within_any lo hi _ [a] _ (fun b => b < (W.alloc (.cells #[.int .i64 a] 3)).heap.size) (fun _ h => h) (SlI.one (by simp [go_sem]) (by simp))).mono fun _ _ ⟨h1, h2⟩ => ⟨h1, Bt (Ba (B0 W) _) h2⟩
theorem within1_eq (lo hi a : Int) : withinB lo hi [a] = decide (lo ≤ a ∧ a ≤ hi) := by
  unfold withinB; simp
namespace Asg
theorem withinB_iff (lo hi : Int) (l : List Int) : withinB lo hi l = true ↔ ∀ x ∈ l, lo ≤ x ∧ x ≤ hi := by
  unfold withinB
  rw [List.all_eq_true]
  refine forall_congr' fun x => forall_congr' fun _ => ?_
  simp
/-- The value says whether P holds. -/
def BoolIs (v : Value) (P : Prop) : Prop := (v = .bool true ∧ P) ∨ (v = .bool false ∧ ¬ P)
theorem BoolIs.yes {P : Prop} (h : P) : BoolIs (.bool true) P := .inl ⟨rfl, h⟩
theorem BoolIs.no {P : Prop} (h : ¬ P) : BoolIs (.bool false) P := .inr ⟨rfl, h⟩
end Asg
open Asg
set_option maxRecDepth 100000 in
set_option maxHeartbeats 8000000 in
theorem cassigns_pos (A : Option Addr) (c n : Nat) (costs : List (List Int)) (hn : costs.length = n) (h0n : 0 < n) (hn5 : n ≤ 5) (hm8 : ∀ i, i < n → (costs.getD i []).length ≤ 8) (Ac Ar Al : Option Addr) (nc cc nr cr q cl : Nat) (cols rows l : List Int) (hc : cols.length = nc) (hr : rows.length = nr) (hq : l.length = q) (tot : Int) (w : World)
    (h : SlII (fun b => b < w.heap.size) w (.slice A n c) costs) (hcs : SlI (fun b => b < w.heap.size) w (.slice Ac nc cc) cols) (hrs : SlI (fun b => b < w.heap.size) w (.slice Ar nr cr) rows) (hl : SlI (fun b => b < w.heap.size) w (.slice Al q cl) l) :
    Calls Try.prog 12 #[.agg #[.slice A n c, .slice Ac nc cc, .int .i64 tot, .slice Ar nr cr, .slice Al q cl]] w fun e w' =>
      (∃ v, e = .returned v ∧ BoolIs v (AsgP costs cols tot rows l)) ∧ Below w.heap.size w w' := by
  obtain ⟨w1, hw1⟩ : ∃ w1 : World, w.alloc (.cells #[.slice A n c, .slice Ac nc cc, .int .i64 tot, .slice Ar nr cr, .slice Al q cl] 47) = w1 := ⟨_, rfl⟩
  have hB1 : Below w.heap.size w w1 := by rw [← hw1]; exact Ba (B0 w) _
  have hK1 : Blk w1 w.heap.size 47 #[.slice A n c, .slice Ac nc cc, .int .i64 tot, .slice Ar nr cr, .slice Al q cl] := by rw [← hw1]; exact Blk.new _ _ _
  obtain ⟨ab, hab⟩ : ∃ ab, w.heap.size = ab := ⟨_, rfl⟩
  have hab1 : ab < w1.heap.size := by rw [← hab]; exact hK1.lt
  rw [hab] at hK1
  have k0 := hK1.cell 0
  have k1 := hK1.cell 1
  have k2 := hK1.cell 2
  have k3 := hK1.cell 3
  have k4 := hK1.cell 4
  simp only [List.getElem?_toArray, List.getElem?_cons_zero, List.getElem?_cons_succ] at k0 k1 k2 k3 k4
  obtain ⟨m, hm⟩ : ∃ m, wd costs = m := ⟨_, rfl⟩
  have h1 := h.bel hB1
  have hcs1 := hcs.bel hB1
  have hrs1 := hrs.bel hB1
  have hl1 := hl.bel hB1
  have hcell0 : 0 < n → ∃ ad ai ci, A = some ad ∧ w1.cell? ad = some (.slice ai m ci) := fun h0 => by
    obtain ⟨A', c', e, -, -, hat⟩ := SlII.open h1
    injection e with e1 e2 e3
    subst e1
    obtain ⟨ad, u, rfl, -, hc0, hu⟩ := hat 0 (by omega)
    obtain ⟨Au, cu, rfl, -, -, -⟩ := SlI.open hu
    have hwz := wd_eq (costs := costs) (by omega)
    rw [getD_in (by omega)] at hwz
    have hz : ad.add 0 = ad := by simp [Addr.add]
    rw [hz, ← hwz, hm] at hc0
    exact ⟨ad, Au, cu, rfl, hc0⟩
  have HH := Lib.hid h1
  have HCS := Lib.hid hcs1
  have HRS := Lib.hid hrs1
  have HLS := Lib.hid hl1
  have HC := Lib.hid hc
  have HR := Lib.hid hr
  have HQ := Lib.hid hq
  have HN := Lib.hid hn
  have HM := Lib.hid hm
  have HM8 := Lib.hid hm8
  have HK1 := Lib.hid hK1
  have HB1 := Lib.hid hB1
  have HW1 := Lib.hid hw1
  have HAB := Lib.hid hab
  have HC0 := Lib.hid hcell0
  clear h hcs hrs hl h1 hcs1 hrs1 hl1 hc hr hq hn hm hm8 hK1 hB1 hw1 hcell0 hab
  go_enter Try.func12, Try.ntmps12
  go_upto_region 2 with fail
  have hw1 := HW1.out
  have hab := HAB.out
  rw [hw1]
  rw [hab]
  clear hw1 HW1 hab
  have h3 : (0 : Int) < n := by omega
  obtain ⟨ad, ai, ci, hA, hci⟩ := HC0.out h0n
  subst hA
  have hrw : ∀ i, i < n → ∃ Ai ci, w1.cell? (ad.add i) = some (.slice Ai (costs.getD i []).length ci) ∧ (ad.add i).block < w1.heap.size ∧ SlI (fun b => b < w1.heap.size) w1 (.slice Ai (costs.getD i []).length ci) (costs.getD i []) := fun i hi => by
    obtain ⟨A', c', e, -, -, hat⟩ := SlII.open HH.out
    injection e with e1 e2 e3
    subst e1
    obtain ⟨ad', u', e, hf, hci, hui⟩ := hat i (by rw [HN.out]; exact hi)
    injection e with e
    subst e
    obtain ⟨A1, c1, rfl, -, -, -⟩ := SlI.open hui
    rw [getD_in (by rw [HN.out]; exact hi)]
    exact ⟨A1, c1, hci, by rw [block_of_add]; exact hf, hui⟩
  have HRW := Lib.hid hrw
  clear hrw
  go_upto_region 4 with fail
  go_cut [61] from 22 to 60 (fun s61 wx => ∃ b, s61 = .bool b ∧ (b = true ↔ ¬ Sized costs cols rows l) ∧ wx = w1)
  case first =>
    have hsz : Sized costs cols rows l ↔ m ≤ 120 ∧ n ≤ m ∧ nc = n ∧ nr = n ∧ q = m := by
      unfold Sized
      rw [HM.out, HN.out, HC.out, HR.out, HQ.out]
    have HSZ := Lib.hid hsz
    clear hsz
    have d0 : decide ((60 : Int) < n) = false := decide_eq_false (by omega)
    by_cases c1 : m ≤ 120
    · have d1 : decide ((120 : Int) < m) = false := decide_eq_false (by omega)
      by_cases c2 : n ≤ m
      · have d2 : decide ((m : Int) < n) = false := decide_eq_false (by omega)
        have d2' : decide (m < n) = false := decide_eq_false (by omega)
        have HC1 := Lib.hid c1
        have HC2 := Lib.hid c2
        clear c1 c2
        by_cases c3 : nc = n
        · by_cases c4 : nr = n
          · by_cases c5 : q = m
            · have HX := Lib.hid (show ¬ ¬ Sized costs cols rows l from fun h => h (HSZ.out.2 ⟨HC1.out, HC2.out, c3, c4, c5⟩))
              subst c3 c4 c5
              go_wp2_with fail
              go_meet
              exact ⟨false, rfl, ⟨fun h => (by cases h), fun h => absurd h HX.out⟩, rfl⟩
            · have hI : ((q : Int) != m) = true := by simp; omega
              have HX := Lib.hid (show ¬ Sized costs cols rows l from fun h => c5 (HSZ.out.1 h).2.2.2.2)
              subst c3 c4
              go_wp2_with fail
              go_meet
              exact ⟨true, rfl, ⟨fun _ => HX.out, fun _ => rfl⟩, rfl⟩
          · have hI : ((nr : Int) != n) = true := by simp; omega
            have HX := Lib.hid (show ¬ Sized costs cols rows l from fun h => c4 (HSZ.out.1 h).2.2.2.1)
            subst c3
            go_wp2_with fail
            go_meet
            exact ⟨true, rfl, ⟨fun _ => HX.out, fun _ => rfl⟩, rfl⟩
        · have hI : ((nc : Int) != n) = true := by simp; omega
          have HX := Lib.hid (show ¬ Sized costs cols rows l from fun h => c3 (HSZ.out.1 h).2.2.1)
          go_wp2_with fail
          go_meet
          exact ⟨true, rfl, ⟨fun _ => HX.out, fun _ => rfl⟩, rfl⟩
      · have d2 : decide ((m : Int) < n) = true := decide_eq_true (by omega)
        have d2' : (m : Int) < n := by omega
        have HX := Lib.hid (show ¬ Sized costs cols rows l from fun h => c2 (HSZ.out.1 h).2.1)
        go_wp2_with fail
        go_meet
        exact ⟨true, rfl, ⟨fun _ => HX.out, fun _ => rfl⟩, rfl⟩
    · have d1 : decide ((120 : Int) < m) = true := decide_eq_true (by omega)
      have d1' : (120 : Int) < m := by omega
      have HX := Lib.hid (show ¬ Sized costs cols rows l from fun h => c1 (HSZ.out.1 h).1)
      go_wp2_with fail
      go_meet
      exact ⟨true, rfl, ⟨fun _ => HX.out, fun _ => rfl⟩, rfl⟩
  case rest =>
    obtain ⟨b, rfl, hb, rfl⟩ := hcut
    obtain ⟨w1, rfl⟩ : ∃ w1 : World, w1 = wc := ⟨_, rfl⟩
    cases b with
    | true =>
      have HX := Lib.hid (hb.1 rfl)
      clear hb
      go_wp2_with fail
      go_ret
      exact ⟨⟨_, rfl, BoolIs.no fun hP => HX.out hP.1⟩, HB1.out⟩
    | false =>
      have hsz : Sized costs cols rows l := Classical.byContradiction fun h => by have := hb.2 h; cases this
      have HSZ := Lib.hid hsz
      clear hb hsz
      obtain ⟨z1, z2, z3, z4, z5⟩ := HSZ.out
      rw [HM.out, HN.out] at z2
      rw [HN.out, HC.out] at z3
      rw [HN.out, HR.out] at z4
      rw [HM.out, HQ.out] at z5
      clear z1
      have hm8 : m ≤ 8 := by
        have := HM8.out 0 h0n
        rw [← wd_eq (by rw [HN.out]; exact h0n), HM.out] at this
        exact this
      obtain rfl : n = nc := z3.symm
      obtain rfl : n = nr := z4.symm
      obtain rfl : m = q := z5.symm
      have hWr := fun W (hb : Below w1.heap.size w1 W) => within_any (-1000000000000) 1000000000000 _ rows W _ (fun _ h => h) (HRS.out.bel hb)
      have hWl := fun W (hb : Below w1.heap.size w1 W) => within_any (-1000000000000) 0 _ l W _ (fun _ h => h) (HLS.out.bel hb)
      have hrg : Ranged rows l ↔ withinB (-1000000000000) 1000000000000 rows = true ∧ withinB (-1000000000000) 0 l = true := by
        rw [withinB_iff, withinB_iff]; rfl
      obtain ⟨b1, hb1⟩ : ∃ b1, withinB (-1000000000000) 1000000000000 rows = b1 := ⟨_, rfl⟩
      obtain ⟨b2, hb2⟩ : ∃ b2, withinB (-1000000000000) 0 l = b2 := ⟨_, rfl⟩
      rw [hb1] at hWr hrg
      rw [hb2] at hWl hrg
      have HWr := Lib.hid hWr
      have HWl := Lib.hid hWl
      have HRG := Lib.hid hrg
      have hcc := ints_cell HCS.out HC.out (fun _ h => h)
      have hrc := ints_cell HRS.out HR.out (fun _ h => h)
      have hlc := ints_cell HLS.out HQ.out (fun _ h => h)
      have HCC := Lib.hid hcc
      have HRC := Lib.hid hrc
      have HLC := Lib.hid hlc
      clear hWr hWl hrg hb1 hb2 hcc hrc hlc
      go_upto_region 6 with fail
      go_cut [71] from 62 to 70 (fun s71 wx => ∃ b, s71 = .bool b ∧ (b = true ↔ ¬ Ranged rows l) ∧ Aside (Below w1.heap.size w1 wx))
      case first =>
        cases b1 with
        | false =>
          go_wp2_with (go_at_call 14; (with_reducible refine ((HWr.out _ (B0 _)).mono ?_)); rintro e w2 ⟨rfl, hb2⟩; have k4' := (HK1.out.below hb2 HK1.out.lt).cell 4; simp only [List.getElem?_toArray, List.getElem?_cons_zero, List.getElem?_cons_succ] at k4'; have HB2 := Lib.hid hb2; clear hb2)
          go_meet
          exact ⟨true, rfl, ⟨fun _ h => (by cases (HRG.out.1 h).1), fun _ => rfl⟩, HB2.out⟩
        | true =>
          cases b2 with
          | false =>
            go_wp2_with (go_at_call 14; first | ((with_reducible refine ((HWr.out _ (B0 _)).mono ?_)); rintro e w2 ⟨rfl, hb2⟩; have k4' := (HK1.out.below hb2 HK1.out.lt).cell 4; simp only [List.getElem?_toArray, List.getElem?_cons_zero, List.getElem?_cons_succ] at k4'; have HB2 := Lib.hid hb2; clear hb2) | ((with_reducible refine ((HWl.out _ HB2.out).mono ?_)); rintro e w3 ⟨rfl, hb3⟩; have HB3 := Lib.hid (Bt HB2.out hb3); clear hb3))
            go_meet
            exact ⟨true, rfl, ⟨fun _ h => (by cases (HRG.out.1 h).2), fun _ => rfl⟩, HB3.out⟩
          | true =>
            go_wp2_with (go_at_call 14; first | ((with_reducible refine ((HWr.out _ (B0 _)).mono ?_)); rintro e w2 ⟨rfl, hb2⟩; have k4' := (HK1.out.below hb2 HK1.out.lt).cell 4; simp only [List.getElem?_toArray, List.getElem?_cons_zero, List.getElem?_cons_succ] at k4'; have HB2 := Lib.hid hb2; clear hb2) | ((with_reducible refine ((HWl.out _ HB2.out).mono ?_)); rintro e w3 ⟨rfl, hb3⟩; have HB3 := Lib.hid (Bt HB2.out hb3); clear hb3))
            go_meet
            exact ⟨false, rfl, ⟨fun h => (by cases h), fun h => absurd (HRG.out.2 (by first | exact ⟨rfl, rfl⟩ | trivial | simp)) h⟩, HB3.out⟩
      case rest =>
        obtain ⟨b, rfl, hb, hbx⟩ := hcut
        have HB2 : Hid (Below w1.heap.size w1 wc) := Lib.hid hbx
        clear hbx
        obtain ⟨w2, rfl⟩ : ∃ w2 : World, w2 = wc := ⟨_, rfl⟩
        cases b with
        | true =>
          have HX := Lib.hid (hb.1 rfl)
          clear hb
          go_wp2_with fail
          go_ret
          exact ⟨⟨_, rfl, BoolIs.no fun hP => HX.out hP.2.1⟩, Bt HB1.out HB2.out⟩
        | false =>
          have hra : Ranged rows l := Classical.byContradiction fun h => by have := hb.2 h; cases this
          have HRA := Lib.hid hra
          clear hb hra k0 k1 k2 k3 k4 HWr HWl HRG
          have hmm := @run_makeMap Try.prog
          have hk2 := HK1.out.below HB2.out HK1.out.lt
          have k0 := hk2.cell 0
          have k1 := hk2.cell 1
          have k2 := hk2.cell 2
          have k3 := hk2.cell 3
          have k4 := hk2.cell 4
          simp only [List.getElem?_toArray, List.getElem?_cons_zero, List.getElem?_cons_succ] at k0 k1 k2 k3 k4
          go_upto_region 10 with fail
          obtain ⟨w3, hw3⟩ : ∃ w3 : World, w2.alloc (.map #[] 0) = w3 := ⟨_, rfl⟩
          obtain ⟨mb, hmb⟩ : ∃ mb, w2.heap.size = mb := ⟨_, rfl⟩
          have hS3 : Seen [] mb w3 := by rw [← hw3, ← hmb]; exact ⟨[], MapAt.made w2, fun p hp => absurd hp (by simp), fun i hi => absurd hi (by simp)⟩
          have hB3 : Below w1.heap.size w1 w3 := by rw [← hw3]; exact Ba HB2.out _
          have hab3 : ab < mb := by rw [← hmb]; exact Nat.lt_of_lt_of_le hab1 HB2.out.size
          have hw1mb : w1.heap.size ≤ mb := by rw [← hmb]; exact HB2.out.size
          have hmb3 : mb < w3.heap.size := hS3.lt
          rw [hw3]
          rw [hmb]
          have HS3 := Lib.hid hS3
          have HB3 := Lib.hid hB3
          have hk3 := HK1.out.below hB3 HK1.out.lt
          have HK3 := Lib.hid hk3
          clear hS3 hB3 hw3 hmb hmm hk3 k0 k1 k2 k3 k4
          have k0 := HK3.out.cell 0
          simp only [List.getElem?_toArray, List.getElem?_cons_zero] at k0
          go_wp2_with fail
          clear k0
          go_loopg [4, 5, 76] n (fun gg s4 s5 s76 wr => ∃ i : Nat, i ≤ n ∧ n - i ≤ gg ∧ s76 = .int .i64 i ∧ s4 = .int .i64 (ctot costs cols i) ∧ s5 = .int .i64 (rsum rows i) ∧ Aside (∀ j, j < i → RowOk costs cols rows l j) ∧ Aside (Seen (cols.take i) mb wr) ∧ Aside (w3.grownBy wr (some mb)))
          case atStart => exact ⟨0, by omega, by omega, rfl, rfl, rfl, fun j hj => absurd hj (by omega), HS3.out, World.grownBy.refl w3 _⟩
          case round =>
            obtain ⟨i, hi, hgg, rfl, rfl, rfl, HJ, HS, HG⟩ := hrel
            replace HJ : Hid (∀ j, j < i → RowOk costs cols rows l j) := Lib.hid HJ
            replace HS : Hid (Seen (cols.take i) mb wr) := Lib.hid HS
            replace HG : Hid (w3.grownBy wr (some mb)) := Lib.hid HG
            obtain ⟨wo, rfl⟩ : ∃ wo : World, wo = wr := ⟨_, rfl⟩
            have hBo : Below w1.heap.size w1 wo := below_row HB3.out HB3.out.size HG.out hw1mb
            have HBo := Lib.hid hBo
            have hk2 := HK1.out.below hBo hab1
            have k0 := hk2.cell 0
            have k1 := hk2.cell 1
            have k2 := hk2.cell 2
            have k3 := hk2.cell 3
            have k4 := hk2.cell 4
            simp only [List.getElem?_toArray, List.getElem?_cons_zero, List.getElem?_cons_succ] at k0 k1 k2 k3 k4
            clear hk2 hBo
            by_cases hlt : i < n
            · have hiI : (i : Int) < n := by omega
              obtain ⟨Ai, ci', r1, r2, hsr⟩ := HRW.out i hlt
              obtain ⟨qi, hqi⟩ : ∃ qi, (costs.getD i []).length = qi := ⟨_, rfl⟩
              rw [hqi] at r1 hsr
              have HRAW := Lib.hid r1
              have HR2 := Lib.hid r2
              have HSR := Lib.hid hsr
              have HQI := Lib.hid hqi
              replace r1 := (HBo.out.cell (p := ad.add i) r2).trans r1
              obtain ⟨ac, hac, c1, c2⟩ := HCC.out i hlt
              subst hac
              have HC1 := Lib.hid c1
              have HC2 := Lib.hid c2
              replace c1 := (HBo.out.cell (p := ac.add i) c2).trans c1
              obtain ⟨x, hx⟩ : ∃ x, g0 cols i = x := ⟨_, rfl⟩
              rw [hx] at c1 HC1
              have HX := Lib.hid hx
              obtain ⟨m1, hm1⟩ : ∃ m1, m = m1 + 1 := ⟨m - 1, by omega⟩
              have em : (m : Int) - 1 = (m1 : Int) := by omega
              have HM1 := Lib.hid hm1
              clear r2 hsr hqi c2 hx hm1
              go_upto_region 13 with fail
              go_cut [110] from 81 to 109 (fun s110 wx => BoolIs s110 (¬ (qi = m ∧ (∀ c ∈ costs.getD i [], -Mc ≤ c ∧ c ≤ Mc) ∧ (0 ≤ x ∧ x < m) ∧ x ∉ cols.take i)) ∧ Aside (Below wo.heap.size wo wx))
              case first =>
                by_cases e1 : qi = m
                · subst e1
                  have hwr := fun W (hb : Below w1.heap.size w1 W) => within_any (-1000000000) 1000000000 _ (costs.getD i []) W _ (fun _ h => h) (HSR.out.bel hb)
                  have hri := withinB_iff (-1000000000) 1000000000 (costs.getD i [])
                  obtain ⟨b1, hb1⟩ : ∃ b1, withinB (-1000000000) 1000000000 (costs.getD i []) = b1 := ⟨_, rfl⟩
                  rw [hb1] at hwr hri
                  have HWr := Lib.hid hwr
                  have HRI := Lib.hid hri
                  clear hwr hri hb1
                  cases b1 with
                  | false =>
                    go_wp2_with (go_at_call 14; (with_reducible refine ((HWr.out _ HBo.out).mono ?_)); rintro e w5 ⟨rfl, hb5⟩; have HB5 := Lib.hid hb5; clear hb5)
                    go_meet
                    exact ⟨BoolIs.yes fun h => (by cases HRI.out.2 h.2.1), HB5.out⟩
                  | true =>
                    have hri := HRI.out.1 rfl
                    have HRI2 := Lib.hid hri
                    have hwo := fun W => within_one 0 (m1 : Int) x W
                    rw [within1_eq] at hwo
                    obtain ⟨b2, hb2⟩ : ∃ b2, decide (0 ≤ x ∧ x ≤ (m1 : Int)) = b2 := ⟨_, rfl⟩
                    rw [hb2] at hwo
                    have HWo := Lib.hid hwo
                    have HB2' := Lib.hid hb2
                    clear hri hwo hb2
                    have carm : ∀ W, Below wo.heap.size wo W → W.cell? ⟨ab, 1, none⟩ = some (.slice (some ac) n cc) ∧ W.cell? (ac.add i) = some (.int .i64 x) := fun W hb => by
                      have hb' := Bt HBo.out hb
                      refine ⟨?_, (hb'.cell (p := ac.add i) HC2.out).trans HC1.out⟩
                      have := (HK1.out.below hb' hab1).cell 1
                      simpa only [List.getElem?_toArray, List.getElem?_cons_zero, List.getElem?_cons_succ] using this
                    have CARM := Lib.hid carm
                    clear carm
                    cases b2 with
                    | false =>
                      go_wp2_with (go_at_call 14; first
                        | ((with_reducible refine ((HWr.out _ HBo.out).mono ?_)); rintro e w5 ⟨rfl, hb5⟩; have y1 := (CARM.out w5 hb5).1; have y2 := (CARM.out w5 hb5).2; have HB5 := Lib.hid hb5; clear hb5)
                        | ((with_reducible refine ((HWo.out _).mono ?_)); rintro e w6 ⟨rfl, hb6⟩; have HB6 := Lib.hid (Bt HB5.out hb6); clear hb6))
                      go_meet
                      refine ⟨BoolIs.yes fun h => ?_, HB6.out⟩
                      have := of_decide_eq_false HB2'.out
                      have hm1 := HM1.out
                      omega
                    | true =>
                      have hx2 := of_decide_eq_true HB2'.out
                      have hlk := fun W (hb : Below wo.heap.size wo W) => seen_look (HS.out.below hb) (fun z hz => by
                        obtain ⟨j, hj, rfl⟩ := List.getElem_of_mem hz
                        rw [List.length_take] at hj
                        rw [List.getElem_take]
                        have := (HJ.out j (by omega)).2.2.1
                        rw [HM.out, List.getD_eq_getElem?_getD, List.getElem?_eq_getElem (by omega)] at this
                        simp only [Option.getD_some] at this
                        exact wf_small this.1 (by omega)) x (wf_small hx2.1 (by have := HM1.out; omega))
                      obtain ⟨b3, hb3⟩ : ∃ b3, (cols.take i).contains x = b3 := ⟨_, rfl⟩
                      rw [hb3] at hlk
                      have HLK := Lib.hid hlk
                      have HB3' := Lib.hid hb3
                      have HX2 := Lib.hid hx2
                      clear hlk hb3 hx2
                      cases b3 with
                      | true =>
                        go_wp2_with (go_at_call 14; first
                          | ((with_reducible refine ((HWr.out _ HBo.out).mono ?_)); rintro e w5 ⟨rfl, hb5⟩; have y1 := (CARM.out w5 hb5).1; have y2 := (CARM.out w5 hb5).2; have HB5 := Lib.hid hb5; clear hb5)
                          | ((with_reducible refine ((HWo.out _).mono ?_)); rintro e w6 ⟨rfl, hb6⟩; have z1 := (CARM.out w6 (Bt HB5.out hb6)).1; have z2 := (CARM.out w6 (Bt HB5.out hb6)).2; have z3 := HLK.out w6 (Bt HB5.out hb6); have HB6 := Lib.hid (Bt HB5.out hb6); clear hb6))
                        go_meet
                        refine ⟨BoolIs.yes fun h => h.2.2.2 (by simpa using HB3'.out), HB6.out⟩
                      | false =>
                        go_wp2_with (go_at_call 14; first
                          | ((with_reducible refine ((HWr.out _ HBo.out).mono ?_)); rintro e w5 ⟨rfl, hb5⟩; have y1 := (CARM.out w5 hb5).1; have y2 := (CARM.out w5 hb5).2; have HB5 := Lib.hid hb5; clear hb5)
                          | ((with_reducible refine ((HWo.out _).mono ?_)); rintro e w6 ⟨rfl, hb6⟩; have z1 := (CARM.out w6 (Bt HB5.out hb6)).1; have z2 := (CARM.out w6 (Bt HB5.out hb6)).2; have z3 := HLK.out w6 (Bt HB5.out hb6); have HB6 := Lib.hid (Bt HB5.out hb6); clear hb6))
                        go_meet
                        refine ⟨BoolIs.no fun h => h ⟨by first | rfl | trivial, HRI2.out, ⟨HX2.out.1, by have h1 := HX2.out.2; have h2 := HM1.out; omega⟩, by simpa using HB3'.out⟩, HB6.out⟩
                · have hI : ((qi : Int) != m) = true := by simp; omega
                  go_wp2_with fail
                  go_meet
                  exact ⟨BoolIs.yes fun h => e1 h.1, B0 wo⟩
              case rest =>
                obtain ⟨hbi, hbx⟩ := hcut
                have HB5 : Hid (Below wo.heap.size wo wc) := Lib.hid hbx
                obtain ⟨w5, rfl⟩ : ∃ w5 : World, w5 = wc := ⟨_, rfl⟩
                clear hbx k0 k1 k2 k3 k4 c1 r1 em
                rcases hbi with ⟨rfl, hP⟩ | ⟨rfl, hP⟩
                · have HX1 := Lib.hid hP
                  clear hP
                  go_wp2_with fail
                  go_ret
                  refine ⟨⟨_, rfl, BoolIs.no fun hA => HX1.out ?_⟩, Bt HB1.out (Bt HBo.out HB5.out)⟩
                  have := hA.2.2.1 i (by rw [HN.out]; exact hlt)
                  obtain ⟨q1, q2, q3, q4, -⟩ := this
                  rw [HQI.out, HM.out] at q1
                  have q5 : cols.getD i 0 = x := HX.out
                  rw [q5, HM.out] at q3
                  rw [q5] at q4
                  exact ⟨q1, q2, q3, q4⟩
                · have hP' := Classical.not_not.1 hP
                  obtain ⟨p1, p2, p3, p4⟩ := hP'
                  have HP2 := Lib.hid p2
                  have HP4 := Lib.hid p4
                  obtain ⟨xp, rfl⟩ : ∃ xp : Nat, x = xp := ⟨x.toNat, by omega⟩
                  have hxp : xp < m := by omega
                  subst p1
                  clear hP p2 p3 p4
                  have hBo5 : Below w1.heap.size w1 w5 := Bt HBo.out HB5.out
                  have hkm : ∀ z ∈ cols.take i, (Lit.int .i64 z).wf = true := fun z hz => by
                    obtain ⟨j, hj, rfl⟩ := List.getElem_of_mem hz
                    rw [List.length_take] at hj
                    rw [List.getElem_take]
                    have := (HJ.out j (by omega)).2.2.1
                    rw [HM.out, List.getD_eq_getElem?_getD, List.getElem?_eq_getElem (by omega)] at this
                    simp only [Option.getD_some] at this
                    exact wf_small this.1 (by omega)
                  obtain ⟨w6, hru, hse6, hg6⟩ := seen_store (HS.out.below HB5.out) hkm (xp : Int) (wf_small (by omega) (by omega))
                  have hg36 : w3.grownBy w6 (some mb) := grown_row (grown_row HG.out (grown_of HB5.out mb)) hg6
                  have hB6 : Below w1.heap.size w1 w6 := below_row HB3.out HB3.out.size hg36 hw1mb
                  have hse7 : Seen (cols.take (i + 1)) mb w6 := by
                    rw [List.take_add_one, List.getElem?_eq_getElem (by rw [HC.out]; exact hlt)]
                    have : cols[i]'(by rw [HC.out]; exact hlt) = (xp : Int) := by
                      have := HX.out
                      unfold g0 at this
                      rw [List.getD_eq_getElem?_getD, List.getElem?_eq_getElem (by rw [HC.out]; exact hlt)] at this
                      exact this
                    rw [this]
                    exact hse6
                  have HS7 := Lib.hid hse7
                  have HG6 := Lib.hid hg36
                  have HB6 := Lib.hid hB6
                  have hk5 := HK1.out.below hBo5 hab1
                  have k1 := hk5.cell 1
                  simp only [List.getElem?_toArray, List.getElem?_cons_zero, List.getElem?_cons_succ] at k1
                  have c1 := (hBo5.cell (p := ac.add i) HC2.out).trans HC1.out
                  clear hse6 hg6 hg36 hB6 hse7 hkm hk5 hBo5
                  go_upto_region 16 with fail
                  clear hru k1 c1
                  have hk6 := HK1.out.below HB6.out hab1
                  have k1 := hk6.cell 1
                  have k3 := hk6.cell 3
                  simp only [List.getElem?_toArray, List.getElem?_cons_zero, List.getElem?_cons_succ] at k1 k3
                  have c1 := (HB6.out.cell (p := ac.add i) HC2.out).trans HC1.out
                  have hri := ints_cell HSR.out HQI.out (fun _ h => h)
                  obtain ⟨ai', hai, s1, s2⟩ := hri xp hxp
                  have HSR2 := Lib.hid hri
                  subst hai
                  replace s1 := (HB6.out.cell (p := ai'.add xp) s2).trans s1
                  obtain ⟨ar, har, t1, t2⟩ := HRC.out i hlt
                  subst har
                  replace t1 := (HB6.out.cell (p := ar.add i) t2).trans t1
                  have hct : ctot costs cols (i + 1) = ctot costs cols i + g0 (costs.getD i []) xp := by
                    have : ctot costs cols (i + 1) = ctot costs cols i + gi (costs.getD i []) (cols.getD i 0) := rfl
                    rw [this]
                    have hx := HX.out
                    unfold g0 at hx
                    rw [hx]
                    rfl
                  have hle := ctot_le (costs := costs) (cols := cols) (n := i + 1) (m := qi) (fun j hj => by
                    by_cases e : j = i
                    · subst e; exact HP2.out
                    · exact (HJ.out j (by omega)).2.1)
                  have hl0 := hle i (by omega)
                  have hl1 := hle (i + 1) (Nat.le_refl _)
                  have hrr := rsum_succ rows i
                  have hrl := rsum_le (z := rows) (i + 1) fun j hj => mem_g0.1 HRA.out.1 j (by rw [HR.out]; omega)
                  have hrl0 := rsum_le (z := rows) i fun j hj => mem_g0.1 HRA.out.1 j (by rw [HR.out]; omega)
                  obtain ⟨cst, hcst⟩ : ∃ z, g0 (costs.getD i []) xp = z := ⟨_, rfl⟩
                  obtain ⟨rx, hrx⟩ : ∃ z, g0 rows i = z := ⟨_, rfl⟩
                  obtain ⟨ci0, hci0⟩ : ∃ z, ctot costs cols i = z := ⟨_, rfl⟩
                  obtain ⟨ri0, hri0⟩ : ∃ z, rsum rows i = z := ⟨_, rfl⟩
                  rw [hcst] at s1 hct
                  rw [hrx] at t1 hrr
                  rw [hci0] at hct hl0 ⊢
                  rw [hri0] at hrr hrl0 ⊢
                  rw [hct] at hl1
                  rw [hrr] at hrl
                  have g1 : IntKind.i64.wrap (ci0 + cst) = ci0 + cst := IntWalk.i64_in _ (by omega)
                  have g2 : IntKind.i64.wrap (ri0 + rx) = ri0 + rx := IntWalk.i64_in _ (by omega)
                  have HCT := Lib.hid hct
                  have HRR := Lib.hid hrr
                  have HRX := Lib.hid hrx
                  have hxI : (xp : Int) < qi := by omega
                  clear hk6 hri s2 t2 hct hle hrr hcst hrx hci0 hri0
                  go_upto_region 19 with fail
                  clear k1 k3 c1 s1 t1 g1 g2 hl0 hl1 hrl hrl0 hxI
                  go_loopg [136] qi (fun gg s136 wr => ∃ k : Nat, k ≤ qi ∧ qi - k ≤ gg ∧ s136 = .int .i64 k ∧ Aside (∀ k', k' < k → g0 rows i + g0 l k' ≤ g0 (costs.getD i []) k') ∧ Aside (Below w6.heap.size w6 wr))
                  case atStart => exact ⟨0, by omega, by omega, rfl, fun j hj => absurd hj (by omega), B0 _⟩
                  case round =>
                    obtain ⟨k, hk, hg3, rfl, HK, HB⟩ := hrel
                    replace HK : Hid (∀ k', k' < k → g0 rows i + g0 l k' ≤ g0 (costs.getD i []) k') := Lib.hid HK
                    replace HB : Hid (Below w6.heap.size w6 wr) := Lib.hid HB
                    obtain ⟨wp, rfl⟩ : ∃ wp : World, wp = wr := ⟨_, rfl⟩
                    by_cases hlk : k < qi
                    · have hkI : (k : Int) < qi := by omega
                      have hB7 := Bt HB6.out HB.out
                      obtain ⟨ai2, hai, s1, s2⟩ := HSR2.out k hlk
                      injection hai with hai
                      subst hai
                      replace s1 := (hB7.cell (p := ai'.add k) s2).trans s1
                      obtain ⟨ar2, har, t1, t2⟩ := HRC.out i hlt
                      injection har with har
                      subst har
                      replace t1 := (hB7.cell (p := ar.add i) t2).trans t1
                      obtain ⟨al, hal, l1, l2⟩ := HLC.out k hlk
                      subst hal
                      replace l1 := (hB7.cell (p := al.add k) l2).trans l1
                      have hk7 := HK1.out.below hB7 hab1
                      have k3 := hk7.cell 3
                      have k4 := hk7.cell 4
                      simp only [List.getElem?_toArray, List.getElem?_cons_zero, List.getElem?_cons_succ] at k3 k4
                      have q1 := mem_g0.1 HRA.out.1 i (by rw [HR.out]; omega)
                      have q2 := mem_g0.1 HRA.out.2 k (by rw [HQ.out]; omega)
                      obtain ⟨cx, hcx⟩ : ∃ z, g0 (costs.getD i []) k = z := ⟨_, rfl⟩
                      obtain ⟨lx, hlx⟩ : ∃ z, g0 l k = z := ⟨_, rfl⟩
                      rw [hcx] at s1
                      rw [HRX.out] at t1 q1
                      rw [hlx] at l1 q2
                      obtain ⟨xx, hxx⟩ : ∃ z, rx + lx = z := ⟨_, rfl⟩
                      have g1 : IntKind.i64.wrap (rx + lx) = xx := by rw [IntWalk.i64_in _ (by unfold Mp at *; omega)]; exact hxx
                      have HXX := Lib.hid (show g0 rows i + g0 l k = xx by rw [HRX.out, hlx]; exact hxx)
                      have HCX := Lib.hid hcx
                      clear hcx hlx hxx q1 q2 hk7 s2 t2 l2 hB7
                      go_upto_region 21 with fail
                      go_quiet (fail)
                      generalize hw13 : World.drewN wp _ = w13
                      have hB13 : Below w6.heap.size w6 w13 := by rw [← hw13]; exact below_drewN HB.out _
                      have HB13 := Lib.hid hB13
                      clear hw13 hB13 s1 t1 l1 g1 k3 k4
                      by_cases hcx : cx < xx
                      · go_wp2_with fail
                        go_ret
                        refine ⟨⟨_, rfl, BoolIs.no fun hA => ?_⟩, Bt HB1.out (Bt HB6.out HB13.out)⟩
                        have := (hA.2.2.1 i (by rw [HN.out]; exact hlt)).2.2.2.2 k (by rw [HM.out]; exact hlk)
                        have h1 : rows.getD i 0 + l.getD k 0 = xx := HXX.out
                        have h2 : (costs.getD i []).getD k 0 = cx := HCX.out
                        rw [h1, h2] at this
                        omega
                      · have hd : decide (cx < xx) = false := decide_eq_false hcx
                        go_wp2_with fail
                        go_roundg (qi - (k + 1))
                        case measure => omega
                        case rel => exact ⟨k + 1, by omega, by omega, by go_num, (show Aside _ from fun k' hk' => by
                          by_cases e : k' = k
                          · subst e; rw [HXX.out, HCX.out]; omega
                          · exact HK.out k' (by omega)), HB13.out⟩
                    · obtain rfl : k = qi := by omega
                      go_wp2_with fail
                      go_roundg (n - (i + 1))
                      case measure => omega
                      case rel =>
                        refine ⟨i + 1, by omega, by omega, by go_num, by rw [HCT.out], by rw [HRR.out], (show Aside _ from fun j hj => ?_), HS7.out.below HB.out, grown_row HG6.out (grown_of HB.out mb)⟩
                        by_cases e : j = i
                        · subst e
                          have hx : cols.getD j 0 = (xp : Int) := HX.out
                          exact ⟨by rw [HQI.out, HM.out], HP2.out, by rw [hx, HM.out]; exact ⟨by omega, by omega⟩, by rw [hx]; exact HP4.out, fun k' hk' => HK.out k' (by rw [HM.out] at hk'; exact hk')⟩
                        · exact HJ.out j (by omega)
            · obtain rfl : i = n := by omega
              have hrz : rows.length = i := HR.out
              have hlz : l.length = m := HQ.out
              have hctl := ctot_le (costs := costs) (cols := cols) (n := i) (m := m) (fun j hj => (HJ.out j hj).2.1) i (Nat.le_refl _)
              have hrl0 := rsum_le (z := rows) i fun j hj => mem_g0.1 HRA.out.1 j (by rw [HR.out]; omega)
              obtain ⟨ci0, hci0⟩ : ∃ z, ctot costs cols i = z := ⟨_, rfl⟩
              obtain ⟨ri0, hri0⟩ : ∃ z, rsum rows i = z := ⟨_, rfl⟩
              rw [hci0] at hctl ⊢
              rw [hri0] at hrl0 ⊢
              have HCI := Lib.hid hci0
              have HRI := Lib.hid hri0
              clear hci0 hri0 hrz hlz
              go_wp2_with fail
              clear k0 k1 k2 k3 k4
              go_loopg [5, 159] m (fun gg s5 s159 wr => ∃ k : Nat, k ≤ m ∧ m - k ≤ gg ∧ s159 = .int .i64 k ∧ s5 = .int .i64 (ri0 + rsum l k) ∧ wr = wo)
              case atStart => exact ⟨0, by omega, by omega, rfl, by simp [rsum, sumTo], rfl⟩
              case round =>
                obtain ⟨k, hk, hg3, rfl, rfl, rfl⟩ := hrel
                obtain ⟨wo, rfl⟩ : ∃ wo : World, wo = wr := ⟨_, rfl⟩
                by_cases hlk : k < m
                · have hkI : (k : Int) < m := by omega
                  obtain ⟨al, hal, l1, l2⟩ := HLC.out k hlk
                  subst hal
                  replace l1 := (HBo.out.cell (p := al.add k) l2).trans l1
                  have hr1 := rsum_le (z := l) (k + 1) fun j hj => by
                    have := mem_g0.1 HRA.out.2 j (by rw [HQ.out]; omega)
                    unfold Mp at *
                    omega
                  have hr0 := rsum_le (z := l) k fun j hj => by
                    have := mem_g0.1 HRA.out.2 j (by rw [HQ.out]; omega)
                    unfold Mp at *
                    omega
                  have hrr := rsum_succ l k
                  obtain ⟨lx, hlx⟩ : ∃ z, g0 l k = z := ⟨_, rfl⟩
                  obtain ⟨sx, hsx⟩ : ∃ z, rsum l k = z := ⟨_, rfl⟩
                  rw [hlx] at l1 hrr
                  rw [hsx] at hrr hr0 ⊢
                  rw [hrr] at hr1
                  have HRR := Lib.hid hrr
                  have g1 : IntKind.i64.wrap (ri0 + sx + lx) = ri0 + sx + lx := IntWalk.i64_in _ (by omega)
                  clear hrr hlx hsx l2
                  go_wp2_with fail
                  go_roundg (m - (k + 1))
                  case measure => omega
                  case rel => exact ⟨k + 1, by omega, by omega, by go_num, by rw [HRR.out]; go_num, rfl⟩
                · obtain rfl : k = m := by omega
                  have hk2 := HK1.out.below HBo.out hab1
                  have k2 := hk2.cell 2
                  simp only [List.getElem?_toArray, List.getElem?_cons_zero, List.getElem?_cons_succ] at k2
                  clear hk2
                  have hbnd : rsum rows rows.length + rsum l l.length = ri0 + rsum l k := by rw [HR.out, HQ.out, HRI.out]
                  have hcc : ctot costs cols costs.length = ci0 := by rw [HN.out]; exact HCI.out
                  have HBND := Lib.hid hbnd
                  have HCCI := Lib.hid hcc
                  obtain ⟨bd, hbd⟩ : ∃ z, ri0 + rsum l k = z := ⟨_, rfl⟩
                  rw [hbd] at HBND ⊢
                  clear hbnd hcc hbd
                  by_cases e1 : ci0 = tot
                  · by_cases e2 : bd = tot
                    · have HA := Lib.hid (show AsgP costs cols tot rows l from ⟨HSZ.out, HRA.out, fun j hj => HJ.out j (by rw [HN.out] at hj; exact hj), by rw [HCCI.out]; exact e1, by rw [HBND.out]; exact e2⟩)
                      subst e1 e2
                      go_wp2_with fail
                      go_ret
                      exact ⟨⟨_, rfl, BoolIs.yes HA.out⟩, Bt HB1.out HBo.out⟩
                    · have hI : (bd == tot) = false := by simpa using e2
                      have HA := Lib.hid (show ¬ AsgP costs cols tot rows l from fun h => e2 (by rw [← HBND.out]; exact h.2.2.2.2))
                      subst e1
                      go_wp2_with fail
                      go_ret
                      exact ⟨⟨_, rfl, BoolIs.no HA.out⟩, Bt HB1.out HBo.out⟩
                  · have hI : (ci0 == tot) = false := by simpa using e1
                    have HA := Lib.hid (show ¬ AsgP costs cols tot rows l from fun h => e1 (by rw [← HCCI.out]; exact h.2.2.2.1))
                    go_wp2_with fail
                    go_ret
                    exact ⟨⟨_, rfl, BoolIs.no HA.out⟩, Bt HB1.out HBo.out⟩
end Go.Proofs.Ytnphdmiondccgaa
