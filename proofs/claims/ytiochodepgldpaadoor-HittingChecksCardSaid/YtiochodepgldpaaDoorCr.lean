/- Walks over the reference of hitting: the error of a problem; the statements' test of a problem's size. -/
import Derived.Test.YtiochodepgldpaaDoorHQ
import Derived.Deep.CutRange
namespace Go.Proofs.YtiochodepgldpaaDoor
open Go Go.RowKit
set_option maxHeartbeats 2000000 in
theorem checkR_any (n : Int) (vs : Value) (ls : List (List Int)) (w : World) (F : Nat → Prop) (hF : ∀ b, F b → b < w.heap.size) (hr : SlII F w vs ls) :
    Calls Tryd.prog 28 #[.agg #[.int .i64 n, vs]] w fun e w' => e = .returned (.int .i64 (Hit.checkF n ls)) ∧ Below w.heap.size w w' := by
  obtain ⟨As, cs, rfl, hlc, _, hat⟩ := hr.open
  clear hr
  go_enter Tryd.func28, Tryd.ntmps28
  by_cases hn : n < 0 ∨ n > 20
  · have hz := checkF_low n ls hn
    have HZ := Lib.hid hz
    clear hz hat
    by_cases h0 : n < 0
    · have h0' : decide (n < 0) = true := decide_eq_true h0
      clear hn
      go_wp2
      go_ret
      exact ⟨by rw [HZ.out]; rfl, Ba (B0 w) _⟩
    · have h0' : decide (n < 0) = false := decide_eq_false h0
      have h1' : decide (20 < n) = true := decide_eq_true (by omega)
      clear hn
      go_wp2
      go_ret
      exact ⟨by rw [HZ.out]; rfl, Ba (B0 w) _⟩
  · have h0' : decide (n < 0) = false := decide_eq_false (by omega)
    have h1' : decide (20 < n) = false := decide_eq_false (by omega)
    by_cases hm : ls.length > 100
    · have hz := checkF_many n ls hn hm
      have h2' : decide (100 < (ls.length : Int)) = true := decide_eq_true (by omega)
      have h2n : decide (100 < ls.length) = true := decide_eq_true (by omega)
      have HZ := Lib.hid hz
      clear hz hat hn hm
      go_wp2
      go_ret
      exact ⟨by rw [HZ.out]; rfl, Ba (B0 w) _⟩
    · have hz := checkF_sets n ls hn hm
      have h2' : decide (100 < (ls.length : Int)) = false := decide_eq_false (by omega)
      have HZ := Lib.hid hz
      clear hz hn hm
      go_upto_region 5 with fail
      obtain ⟨w1, hw1⟩ : ∃ w1 : World, w.alloc (.cells #[.int .i64 n, .slice As ls.length cs] 36) = w1 := ⟨_, rfl⟩
      have c0 : w1.cell? ⟨w.heap.size, 0, none⟩ = some (.int .i64 n) := by rw [← hw1]; simp [go_sem]
      have c1 : w1.cell? ⟨w.heap.size, 1, none⟩ = some (.slice As ls.length cs) := by rw [← hw1]; simp [go_sem]
      have s1 : w.heap.size < w1.heap.size := by rw [← hw1]; simp
      have B1 : Below w.heap.size w w1 := by rw [← hw1]; exact Ba (B0 w) _
      rw [hw1]
      clear hw1
      have HB1 := Lib.hid B1
      have C0 := Lib.hid c0
      have C1 := Lib.hid c1
      clear B1 c0 c1
      go_wp2_with fail
      go_loopg [3] ls.length (fun gg s wr => ∃ k : Nat, k ≤ ls.length ∧ ls.length - k ≤ gg ∧ s = .int .i64 k ∧ Aside (Hit.setsGo n ls = Hit.setsGo n (ls.drop k)) ∧ Aside (Below w1.heap.size w1 wr))
      case atStart => exact ⟨0, by omega, by omega, rfl, by simp [Aside], B0 w1⟩
      case round =>
        obtain ⟨k, hk, hg, rfl, HL, HB⟩ := hrel
        have hw := Bt HB1.out HB.out
        have c0 := (Bc HB.out s1).trans C0.out
        have c1 := (Bc HB.out s1).trans C1.out
        by_cases hlt : k < ls.length
        · have hki : decide ((k : Int) < ls.length) = true := decide_eq_true (by omega)
          have hk2 : (k : Int) < ls.length := by omega
          obtain ⟨ad, u, rfl, hf, hc, hu⟩ := hat k hlt
          have hc' := (hw.cell (p := ad.add k) (by rw [block_of_add]; exact hF _ hf)).trans hc
          have hd : Hit.setsGo n ls = Hit.setsGo n (ls[k] :: ls.drop (k + 1)) := by rw [HL.out, List.drop_eq_getElem_cons hlt]
          rw [setsGo_cons] at hd
          obtain ⟨Au, cu, rfl, _⟩ := hu.open
          have hfl := hF _ hf
          have hL : ∀ q : Cls wr, Calls Tryd.prog 61 #[.int .i64 n, .slice Au ls[k].length cu] q.w fun e w' => e = .returned (.int .i64 (Hit.listF n ls[k])) ∧ ∃ r : Cls wr, w' = r.w := fun q =>
            (listR_any n _ ls[k] q.w F (fun b hb => by have := hF b hb; have := (Bt hw q.b).size; omega) (hu.keep (Agree.below (Bt hw q.b) hF))).mono fun e w' ⟨q1, q2⟩ => ⟨q1, Cls.mk' (Bt q.b q2), rfl⟩
          have hws := hw.size
          have kq0 : ∀ q : Cls wr, q.w.cell? ⟨w.heap.size, 0, none⟩ = some (.int .i64 n) := fun q => (Bc (Bt HB.out q.b) s1).trans C0.out
          have kq1 : ∀ q : Cls wr, q.w.cell? ⟨w.heap.size, 1, none⟩ = some (.slice (some ad) ls.length cs) := fun q => (Bc (Bt HB.out q.b) s1).trans C1.out
          have kqe : ∀ q : Cls wr, q.w.cell? (ad.add k) = some (.slice Au ls[k].length cu) := fun q => (q.b.cell (p := ad.add k) (by rw [block_of_add]; omega)).trans hc'
          generalize ls[k] = s at *
          clear hu hc hf
          by_cases hs : s = []
          · subst hs
            have hz : Hit.setsGo n ls = 13 := by rw [hd, if_pos rfl]
            have HZ2 := Lib.hid hz
            have HW := Lib.hid hw
            clear hd hz hL kq0 kq1 kqe hat hw
            go_wp2
            go_ret
            exact ⟨by rw [HZ.out, HZ2.out]; rfl, HW.out⟩
          · have hs' : ((s.length : Int) == 0) = false := by simp; exact hs
            rw [if_neg hs] at hd
            by_cases he : Hit.listF n s = 0
            · rw [if_neg (by simpa using he)] at hd
              rw [he] at hL
              have HD := Lib.hid hd
              have HL2 := Lib.hid hL
              clear hd hL he hs hat hw
              go_wp2_with fail
              refine wp_region_class_lit (C := fun w' => ∃ q : Cls wr, w' = q.w) (by kernel_rfl) (by kernel_rfl) ⟨Cls.mk' (B0 wr).drew, rfl⟩ ?_
              repeat (any_goals (first | go_big_quiet_step ((go_at_call 61; with_reducible exact HL2.out _)) | quiet_step ((go_at_call 61; with_reducible exact HL2.out _))))
              refine wpQuiet_nil ?_
              rintro _ ⟨q, rfl⟩
              have B5 := Lib.hid (Bt HB.out q.b)
              clear kq0 kq1 kqe
              generalize q.w = w5 at *
              go_wp2
              go_roundg (ls.length - (k + 1))
              case measure => omega
              case rel => exact ⟨k + 1, by omega, by omega, by go_num, HD.out, B5.out⟩
            · rw [if_pos he] at hd
              have he' : (Hit.listF n s != 0) = true := by simp [he]
              have HD := Lib.hid hd
              have HL2 := Lib.hid hL
              generalize Hit.listF n s = er at *
              clear hd hL he hs hat hw
              go_wp2_with fail
              refine wp_region_class_lit (C := fun w' => ∃ q : Cls wr, w' = q.w) (by kernel_rfl) (by kernel_rfl) ⟨Cls.mk' (B0 wr).drew, rfl⟩ ?_
              repeat (any_goals (first | go_big_quiet_step ((go_at_call 61; with_reducible exact HL2.out _)) | quiet_step ((go_at_call 61; with_reducible exact HL2.out _))))
              refine wpQuiet_nil ?_
              rintro _ ⟨q, rfl⟩
              have B5 := Lib.hid (Bt HB1.out (Bt HB.out q.b))
              clear kq0 kq1 kqe
              generalize q.w = w5 at *
              go_wp2
              go_ret
              exact ⟨by rw [HZ.out, HD.out]; rfl, B5.out⟩
        · have hki : decide ((k : Int) < ls.length) = false := decide_eq_false (by omega)
          have : k = ls.length := by omega
          subst this
          have hz : Hit.setsGo n ls = 0 := by rw [HL.out, List.drop_length]; rfl
          have HZ2 := Lib.hid hz
          have HW := Lib.hid hw
          clear hat hz hw
          go_wp2
          go_ret
          exact ⟨by rw [HZ.out, HZ2.out]; rfl, HW.out⟩
/-- The size of a problem of the statement: at most 6 sets, or 99 to 102, of at most 9 numbers. -/
def fewF (ls : List (List Int)) : Bool := (ls.all fun s => decide (s.length ≤ 9)) && (decide (ls.length ≤ 6) || (decide (99 ≤ ls.length) && decide (ls.length ≤ 102)))
set_option maxHeartbeats 1000000 in
theorem few_any (n : Int) (vs : Value) (ls : List (List Int)) (w : World) (F : Nat → Prop) (hF : ∀ b, F b → b < w.heap.size) (hr : SlII F w vs ls) :
    Calls Tryd.prog 27 #[.agg #[.int .i64 n, vs]] w fun e w' => e = .returned (.bool (fewF ls)) ∧ Below w.heap.size w w' := by
  obtain ⟨As, cs, rfl, hlc, _, hat⟩ := hr.open
  clear hr
  go_enter Tryd.func27, Tryd.ntmps27
  go_upto_region 1 with fail
  obtain ⟨w1, hw1⟩ : ∃ w1 : World, w.alloc (.cells #[.int .i64 n, .slice As ls.length cs] 28) = w1 := ⟨_, rfl⟩
  have c1 : w1.cell? ⟨w.heap.size, 1, none⟩ = some (.slice As ls.length cs) := by rw [← hw1]; simp [go_sem]
  have B1 : Below w.heap.size w w1 := by rw [← hw1]; exact Ba (B0 w) _
  rw [hw1]
  clear hw1
  have HB1 := Lib.hid B1
  clear B1
  go_wp2_with fail
  go_loopg [3] ls.length (fun gg s wr => ∃ k : Nat, k ≤ ls.length ∧ ls.length - k ≤ gg ∧ s = .int .i64 k ∧ Aside ((ls.all fun s => decide (s.length ≤ 9)) = ((ls.drop k).all fun s => decide (s.length ≤ 9))) ∧ wr = w1)
  case atStart => exact ⟨0, by omega, by omega, rfl, rfl, rfl⟩
  case round =>
    obtain ⟨k, hk, hg, rfl, HA, rfl⟩ := hrel
    by_cases hlt : k < ls.length
    · have hki : decide ((k : Int) < ls.length) = true := decide_eq_true (by omega)
      have hk2 : (k : Int) < ls.length := by omega
      obtain ⟨ad, u, rfl, hf, hc, hu⟩ := hat k hlt
      have hc' := (HB1.out.cell (p := ad.add k) (by rw [block_of_add]; exact hF _ hf)).trans hc
      obtain ⟨Au, cu, rfl, _⟩ := hu.open
      have hall := HA.out
      rw [List.drop_eq_getElem_cons hlt, List.all_cons] at hall
      generalize ls[k] = s at *
      clear hu hc hf hat
      by_cases h9 : 9 < s.length
      · have d : decide (9 < (s.length : Int)) = true := decide_eq_true (by omega)
        have dn : decide (9 < s.length) = true := decide_eq_true h9
        have hz : fewF ls = false := by unfold fewF; rw [hall, decide_eq_false (by omega)]; rfl
        have HZ := Lib.hid hz
        clear hall hz
        go_wp2
        go_ret
        exact ⟨by rw [HZ.out]; rfl, HB1.out⟩
      · have d : decide (9 < (s.length : Int)) = false := decide_eq_false (by omega)
        have dn : decide (9 < s.length) = false := decide_eq_false h9
        rw [decide_eq_true (show s.length ≤ 9 by omega), Bool.true_and] at hall
        have HAL := Lib.hid hall
        clear hall
        go_wp2
        go_roundg (ls.length - (k + 1))
        case measure => omega
        case rel => exact ⟨k + 1, by omega, by omega, by go_num, HAL.out, rfl⟩
    · have hki : decide ((k : Int) < ls.length) = false := decide_eq_false (by omega)
      clear hat
      have : k = ls.length := by omega
      subst this
      have hall : (ls.all fun s => decide (s.length ≤ 9)) = true := by rw [HA.out, List.drop_length]; rfl
      have hz : fewF ls = (decide (ls.length ≤ 6) || (decide (99 ≤ ls.length) && decide (ls.length ≤ 102))) := by unfold fewF; rw [hall, Bool.true_and]
      have hq : (fewF ls = true ∧ decide ((ls.length : Int) ≤ 6) = true ∧ decide (ls.length ≤ 6) = true) ∨ ((decide ((ls.length : Int) ≤ 6) = false ∧ decide (ls.length ≤ 6) = false) ∧ ((fewF ls = true ∧ (decide ((99 : Int) ≤ ls.length) = true ∧ decide (99 ≤ ls.length) = true) ∧ decide ((ls.length : Int) ≤ 102) = true ∧ decide (ls.length ≤ 102) = true) ∨
          (fewF ls = false ∧ (decide ((99 : Int) ≤ ls.length) = true ∧ decide (99 ≤ ls.length) = true) ∧ decide ((ls.length : Int) ≤ 102) = false ∧ decide (ls.length ≤ 102) = false) ∨ (fewF ls = false ∧ decide ((99 : Int) ≤ ls.length) = false ∧ decide (99 ≤ ls.length) = false))) := by
        rw [hz]
        simp only [decide_eq_true_eq, decide_eq_false_iff_not, Bool.or_eq_true, Bool.and_eq_true, Bool.or_eq_false_iff, Bool.and_eq_false_iff]
        omega
      clear hz hall
      rcases hq with ⟨hz, h1, h2⟩ | ⟨⟨h1, h2⟩, ⟨hz, ⟨h3, h4⟩, h5, h6⟩ | ⟨hz, ⟨h3, h4⟩, h5, h6⟩ | ⟨hz, h3, h4⟩⟩
      all_goals
        have HZ := Lib.hid hz
        clear hz
        go_wp2
        go_ret
        exact ⟨by rw [HZ.out]; rfl, HB1.out⟩
end Go.Proofs.YtiochodepgldpaaDoor
