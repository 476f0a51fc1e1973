/- Walks over hitting: the error of a problem, of a problem and a list. -/
import Derived.Test.YtnpdoejjebgcpaaH2
namespace Go.Proofs.Ytnpdoejjebgcpaa
open Go Go.RowKit
theorem setsGo_cons (n : Int) (s : List Int) (r : List (List Int)) : Hit.setsGo n (s :: r) = if s = [] then 13 else if Hit.listF n s ≠ 0 then Hit.listF n s else Hit.setsGo n r := rfl
theorem checkF_low (n : Int) (ls : List (List Int)) (h : n < 0 ∨ n > 20) : Hit.checkF n ls = 3 := by unfold Hit.checkF; rw [if_pos h]
theorem checkF_many (n : Int) (ls : List (List Int)) (h : ¬ (n < 0 ∨ n > 20)) (h2 : ls.length > 100) : Hit.checkF n ls = 4 := by unfold Hit.checkF; rw [if_neg h, if_pos h2]
theorem checkF_sets (n : Int) (ls : List (List Int)) (h : ¬ (n < 0 ∨ n > 20)) (h2 : ¬ ls.length > 100) : Hit.checkF n ls = Hit.setsGo n ls := by unfold Hit.checkF; rw [if_neg h, if_neg h2]
set_option maxHeartbeats 1000000 in
theorem check_any (n : Int) (vs : Value) (ls : List (List Int)) (w : World) (F : Nat → Prop) (hF : ∀ b, F b → b < w.heap.size) (hr : SlII F w vs ls) :
    Calls Try.prog 44 #[.agg #[.int .i64 n, vs]] w fun e w' => e = .returned (.int .i64 (Hit.checkF n ls)) ∧ Below w.heap.size w w' := by
  have hr' := hr
  obtain ⟨As, cs, rfl, hlc, _, hat⟩ := hr.open
  clear hr
  go_enter Try.func44, Try.ntmps44
  by_cases hn : n < 0 ∨ n > 20
  · have hz := checkF_low n ls hn
    have HZ := Lib.hid hz
    clear hz hat hr'
    by_cases h0 : n < 0
    · have h0' : decide (n < 0) = true := decide_eq_true h0
      clear hn
      go_wp2
      go_ret
      exact ⟨by rw [HZ.out]; rfl, Ba (B0 w) _⟩
    · have h0' : decide (n < 0) = false := decide_eq_false h0
      have h1' : decide (20 < n) = true := decide_eq_true (by omega)
      clear hn
      go_wp2
      go_ret
      exact ⟨by rw [HZ.out]; rfl, Ba (B0 w) _⟩
  · have h0' : decide (n < 0) = false := decide_eq_false (by omega)
    have h1' : decide (20 < n) = false := decide_eq_false (by omega)
    by_cases hm : ls.length > 100
    · have hz := checkF_many n ls hn hm
      have h2' : decide (100 < (ls.length : Int)) = true := decide_eq_true (by omega)
      have HZ := Lib.hid hz
      clear hz hat hr' hn hm
      go_wp2
      go_ret
      exact ⟨by rw [HZ.out]; rfl, Ba (B0 w) _⟩
    · have hz := checkF_sets n ls hn hm
      have h2' : decide (100 < (ls.length : Int)) = false := decide_eq_false (by omega)
      have HZ := Lib.hid hz
      clear hz hn hm
      go_wp2_with fail
      obtain ⟨w1, hw1⟩ : ∃ w1 : World, w.alloc (.cells #[.int .i64 n, .slice As ls.length cs] 38) = w1 := ⟨_, rfl⟩
      have c0 : w1.cell? ⟨w.heap.size, 0, none⟩ = some (.int .i64 n) := by rw [← hw1]; simp [go_sem]
      have c1 : w1.cell? ⟨w.heap.size, 1, none⟩ = some (.slice As ls.length cs) := by rw [← hw1]; simp [go_sem]
      have s1 : w.heap.size < w1.heap.size := by rw [← hw1]; simp
      have B1 : Below w.heap.size w w1 := by rw [← hw1]; exact Ba (B0 w) _
      rw [hw1]
      clear hw1
      have HB1 := Lib.hid B1
      have C0 := Lib.hid c0
      have C1 := Lib.hid c1
      clear B1 c0 c1
      go_loopg [23] ls.length (fun gg s wr => ∃ k : Nat, k ≤ ls.length ∧ ls.length - k ≤ gg ∧ s = .int .i64 k ∧ Aside (Hit.setsGo n ls = Hit.setsGo n (ls.drop k)) ∧ Aside (Below w1.heap.size w1 wr))
      case atStart => exact ⟨0, by omega, by omega, rfl, by simp [Aside], B0 w1⟩
      case round =>
        obtain ⟨k, hk, hg, rfl, HL, HB⟩ := hrel
        have hw := Bt HB1.out HB.out
        by_cases hlt : k < ls.length
        · have hki : decide ((k : Int) < ls.length) = true := decide_eq_true (by omega)
          obtain ⟨ad, u, rfl, hf, hc, hu⟩ := hat k hlt
          have hc' := (hw.cell (p := ad.add k) (by rw [block_of_add]; exact hF _ hf)).trans hc
          have hd : Hit.setsGo n ls = Hit.setsGo n (ls[k] :: ls.drop (k + 1)) := by rw [HL.out, List.drop_eq_getElem_cons hlt]
          rw [setsGo_cons] at hd
          have hu' := hu.keep (Agree.below hw hF)
          have c0 := (Bc HB.out s1).trans C0.out
          have c1 := (Bc HB.out s1).trans C1.out
          obtain ⟨Au, cu, rfl, _⟩ := hu.open
          have hL := list_any n (.slice (some ad) ls.length cs) (.slice Au ls[k].length cu) ls[k] wr F (fun b hb => Nat.lt_of_lt_of_le (hF b hb) hw.size) hu'
          have HW := Lib.hid hw
          generalize ls[k] = s at *
          clear hat hu hc hr' hw hu'
          by_cases hs : s = []
          · subst hs
            have hz : Hit.setsGo n ls = 13 := by rw [hd, if_pos rfl]
            have HZ2 := Lib.hid hz
            clear hd hz hL
            go_wp2
            go_ret
            exact ⟨by rw [HZ.out, HZ2.out]; rfl, HW.out⟩
          · have hs' : ((s.length : Int) == 0) = false := by simp; exact hs
            rw [if_neg hs] at hd
            by_cases he : Hit.listF n s = 0
            · rw [if_neg (by simpa using he)] at hd
              rw [he] at hL
              have HD := Lib.hid hd
              have HL2 := Lib.hid hL
              clear hd hL he hs
              go_wp2_with (go_at_call 66; refine HL2.out.mono ?_; rintro e w2 ⟨rfl, q⟩; have Q := Lib.hid (Bt HB.out q); clear q)
              go_roundg (ls.length - (k + 1))
              case measure => omega
              case rel => exact ⟨k + 1, by omega, by omega, by go_num, HD.out, Q.out⟩
            · rw [if_pos he] at hd
              have he' : (Hit.listF n s != 0) = true := by simp [he]
              have HD := Lib.hid hd
              have HL2 := Lib.hid hL
              generalize Hit.listF n s = er at *
              clear hd hL he hs
              go_wp2_with (go_at_call 66; refine HL2.out.mono ?_; rintro e w2 ⟨rfl, q⟩; have Q := Lib.hid (Bt HW.out q); clear q)
              go_ret
              exact ⟨by rw [HZ.out, HD.out]; rfl, Q.out⟩
        · have hki : decide ((k : Int) < ls.length) = false := decide_eq_false (by omega)
          have : k = ls.length := by omega
          subst this
          have hz : Hit.setsGo n ls = 0 := by rw [HL.out, List.drop_length]; rfl
          have HZ2 := Lib.hid hz
          have HW := Lib.hid hw
          clear hat hz hr' hw
          go_wp2
          go_ret
          exact ⟨by rw [HZ.out, HZ2.out]; rfl, HW.out⟩
/-- The first error of a problem and a list. -/
def bothF (n : Int) (ls : List (List Int)) (l : List Int) : Int := if Hit.checkF n ls ≠ 0 then Hit.checkF n ls else Hit.listF n l
end Go.Proofs.Ytnpdoejjebgcpaa
