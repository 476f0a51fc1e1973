/- Walks over checker and covering: lists that must increase. Walks over covering: Check. Walks over covering: check, word, all, covered. Walks over covering: covered. Walks over covering: words, weigh. -/
import Derived.Test.YtnpdoejjebgcpaaH0
namespace Go.Proofs.Ytnpdoejjebgcpaa
open Go Go.RowKit
/-- The error of covering's lists. -/
def riseF (n : Int) (l : List Int) : Int := if Hit.listF n l = 3 then 10 else Hit.listF n l
theorem rise_zero (n : Int) (l : List Int) : riseF n l = 0 ↔ Hit.listF n l = 0 := by
  unfold riseF
  split
  · rename_i h; rw [h]; simp
  · rfl
set_option maxHeartbeats 1000000 in
theorem riseC_any (n : Int) (vl : Value) (l : List Int) (w : World) (F : Nat → Prop) (hr : SlI F w vl l) :
    Calls Try.prog 22 #[vl, .int .i64 n] w fun e w' => e = .returned (.bool (decide (Hit.listF n l = 0))) ∧ w = w' := by
  obtain ⟨A, c, rfl, hlc, hl, hat⟩ := hr.open
  clear hr
  go_enter Try.func22, Try.ntmps22
  go_wp2_with fail
  go_loopg [9] l.length (fun gg s wr => ∃ k : Nat, k ≤ l.length ∧ l.length - k ≤ gg ∧ s = .int .i64 k ∧ Aside (Hit.listF n l = Hit.listGo n (prevOf l k) (l.drop k)) ∧ wr = w)
  case atStart => exact ⟨0, by omega, by omega, rfl, by simp [Aside, Hit.listF, prevOf], rfl⟩
  case round =>
    obtain ⟨k, hk, hg, rfl, HL, rfl⟩ := hrel
    by_cases hlt : k < l.length
    · have hki : decide ((k : Int) < l.length) = true := decide_eq_true (by omega)
      obtain ⟨ad, rfl, hf, hc⟩ := hat k hlt
      have hc' := hc
      have hd : Hit.listF n l = Hit.listGo n (prevOf l k) (l[k] :: l.drop (k + 1)) := by rw [HL.out, List.drop_eq_getElem_cons hlt]
      have hs : prevOf l (k + 1) = some l[k] := by simp [prevOf, hlt]
      by_cases h1 : l[k] < 0 ∨ l[k] ≥ n
      · have hz : Hit.listF n l = 3 := by rw [hd, listGo_cons, if_pos h1]
        have HZ := Lib.hid hz
        generalize l[k] = v at *
        clear hat hd hs hz hc
        by_cases h0 : v < 0
        · have h0' : decide (v < 0) = true := decide_eq_true h0
          clear h1
          go_wp2
          go_ret
          exact ⟨by rw [HZ.out]; rfl, rfl⟩
        · have h0' : decide (v < 0) = false := decide_eq_false h0
          have h1' : decide (n ≤ v) = true := decide_eq_true (by omega)
          clear h1
          go_wp2
          go_ret
          exact ⟨by rw [HZ.out]; rfl, rfl⟩
      · have h0' : decide (l[k] < 0) = false := decide_eq_false (by omega)
        have h1' : decide (n ≤ l[k]) = false := decide_eq_false (by omega)
        rw [listGo_cons, if_neg h1] at hd
        by_cases hk0 : k = 0
        · subst hk0
          have hz : Hit.listF n l = Hit.listGo n (prevOf l 1) (l.drop 1) := by rw [hd, hs]; simp [prevOf]
          have HZ := Lib.hid hz
          have hc0 : wr.cell? ad = some (.int .i64 l[0]) := by simpa [Addr.add] using hc'
          generalize l[0] = v at *
          clear hat hd hs hz hc h1
          go_wp2
          go_roundg (l.length - 1)
          case measure => omega
          case rel => exact ⟨1, by omega, by omega, by go_num, HZ.out, rfl⟩
        · have hk0' : decide ((0 : Int) < (k : Int)) = true := decide_eq_true (by omega)
          obtain ⟨j, u, hj, hjl, hcp, hp⟩ : ∃ (j : Nat) (u : Int), (k : Int) - 1 = j ∧ (j : Int) < l.length ∧ wr.cell? (ad.add j) = some (.int .i64 u) ∧ prevOf l k = some u := by
            obtain ⟨ad2, e2, hf2, hc2⟩ := hat (k - 1) (by omega)
            injection e2 with e2
            subst e2
            exact ⟨k - 1, l[k - 1], by omega, by omega, hc2, by unfold prevOf; rw [if_neg hk0, List.getElem?_eq_getElem (by omega)]⟩
          rw [hp] at hd
          simp only [decide_eq_true_eq] at hd
          by_cases h2 : l[k] ≤ u
          · have hz : Hit.listF n l = 6 := by rw [hd, if_pos h2]
            have h2' : decide (l[k] ≤ u) = true := decide_eq_true h2
            have HZ := Lib.hid hz
            generalize l[k] = v at *
            clear hat hd hs hz hc hp h1 h2
            go_wp2
            go_ret
            exact ⟨by rw [HZ.out]; rfl, rfl⟩
          · have hz : Hit.listF n l = Hit.listGo n (prevOf l (k + 1)) (l.drop (k + 1)) := by rw [hd, if_neg h2, hs]
            have h2' : decide (l[k] ≤ u) = false := decide_eq_false h2
            have HZ := Lib.hid hz
            generalize l[k] = v at *
            clear hat hd hs hz hc hp h1 h2
            go_wp2
            go_roundg (l.length - (k + 1))
            case measure => omega
            case rel => exact ⟨k + 1, by omega, by omega, by go_num, HZ.out, rfl⟩
    · have hki : decide ((k : Int) < l.length) = false := decide_eq_false (by omega)
      have : k = l.length := by omega
      subst this
      have hz : Hit.listF n l = 0 := by rw [HL.out, List.drop_length]; rfl
      have HZ := Lib.hid hz
      clear hat hz
      go_wp2
      go_ret
      exact ⟨by rw [HZ.out]; rfl, rfl⟩
set_option maxHeartbeats 1000000 in
theorem riseV_any (n : Int) (vl : Value) (l : List Int) (w : World) (F : Nat → Prop) (hr : SlI F w vl l) :
    Calls Try.prog 57 #[vl, .int .i64 n] w fun e w' => e = .returned (.int .i64 (riseF n l)) ∧ w = w' := by
  obtain ⟨A, c, rfl, hlc, hl, hat⟩ := hr.open
  clear hr
  go_enter Try.func57, Try.ntmps57
  go_wp2_with fail
  go_loopg [9] l.length (fun gg s wr => ∃ k : Nat, k ≤ l.length ∧ l.length - k ≤ gg ∧ s = .int .i64 k ∧ Aside (Hit.listF n l = Hit.listGo n (prevOf l k) (l.drop k)) ∧ wr = w)
  case atStart => exact ⟨0, by omega, by omega, rfl, by simp [Aside, Hit.listF, prevOf], rfl⟩
  case round =>
    obtain ⟨k, hk, hg, rfl, HL, rfl⟩ := hrel
    by_cases hlt : k < l.length
    · have hki : decide ((k : Int) < l.length) = true := decide_eq_true (by omega)
      obtain ⟨ad, rfl, hf, hc⟩ := hat k hlt
      have hc' := hc
      have hd : Hit.listF n l = Hit.listGo n (prevOf l k) (l[k] :: l.drop (k + 1)) := by rw [HL.out, List.drop_eq_getElem_cons hlt]
      have hs : prevOf l (k + 1) = some l[k] := by simp [prevOf, hlt]
      by_cases h1 : l[k] < 0 ∨ l[k] ≥ n
      · have hz : Hit.listF n l = 3 := by rw [hd, listGo_cons, if_pos h1]
        have HZ := Lib.hid hz
        generalize l[k] = v at *
        clear hat hd hs hz hc
        by_cases h0 : v < 0
        · have h0' : decide (v < 0) = true := decide_eq_true h0
          clear h1
          go_wp2
          go_ret
          exact ⟨by unfold riseF; rw [HZ.out]; rfl, rfl⟩
        · have h0' : decide (v < 0) = false := decide_eq_false h0
          have h1' : decide (n ≤ v) = true := decide_eq_true (by omega)
          clear h1
          go_wp2
          go_ret
          exact ⟨by unfold riseF; rw [HZ.out]; rfl, rfl⟩
      · have h0' : decide (l[k] < 0) = false := decide_eq_false (by omega)
        have h1' : decide (n ≤ l[k]) = false := decide_eq_false (by omega)
        rw [listGo_cons, if_neg h1] at hd
        by_cases hk0 : k = 0
        · subst hk0
          have hz : Hit.listF n l = Hit.listGo n (prevOf l 1) (l.drop 1) := by rw [hd, hs]; simp [prevOf]
          have HZ := Lib.hid hz
          have hc0 : wr.cell? ad = some (.int .i64 l[0]) := by simpa [Addr.add] using hc'
          generalize l[0] = v at *
          clear hat hd hs hz hc h1
          go_wp2
          go_roundg (l.length - 1)
          case measure => omega
          case rel => exact ⟨1, by omega, by omega, by go_num, HZ.out, rfl⟩
        · have hk0' : decide ((0 : Int) < (k : Int)) = true := decide_eq_true (by omega)
          obtain ⟨j, u, hj, hjl, hcp, hp⟩ : ∃ (j : Nat) (u : Int), (k : Int) - 1 = j ∧ (j : Int) < l.length ∧ wr.cell? (ad.add j) = some (.int .i64 u) ∧ prevOf l k = some u := by
            obtain ⟨ad2, e2, hf2, hc2⟩ := hat (k - 1) (by omega)
            injection e2 with e2
            subst e2
            exact ⟨k - 1, l[k - 1], by omega, by omega, hc2, by unfold prevOf; rw [if_neg hk0, List.getElem?_eq_getElem (by omega)]⟩
          rw [hp] at hd
          simp only [decide_eq_true_eq] at hd
          by_cases h2 : l[k] ≤ u
          · have hz : Hit.listF n l = 6 := by rw [hd, if_pos h2]
            have h2' : decide (l[k] ≤ u) = true := decide_eq_true h2
            have HZ := Lib.hid hz
            generalize l[k] = v at *
            clear hat hd hs hz hc hp h1 h2
            go_wp2
            go_ret
            exact ⟨by unfold riseF; rw [HZ.out]; rfl, rfl⟩
          · have hz : Hit.listF n l = Hit.listGo n (prevOf l (k + 1)) (l.drop (k + 1)) := by rw [hd, if_neg h2, hs]
            have h2' : decide (l[k] ≤ u) = false := decide_eq_false h2
            have HZ := Lib.hid hz
            generalize l[k] = v at *
            clear hat hd hs hz hc hp h1 h2
            go_wp2
            go_roundg (l.length - (k + 1))
            case measure => omega
            case rel => exact ⟨k + 1, by omega, by omega, by go_num, HZ.out, rfl⟩
    · have hki : decide ((k : Int) < l.length) = false := decide_eq_false (by omega)
      have : k = l.length := by omega
      subst this
      have hz : Hit.listF n l = 0 := by rw [HL.out, List.drop_length]; rfl
      have HZ := Lib.hid hz
      clear hat hz
      go_wp2
      go_ret
      exact ⟨by unfold riseF; rw [HZ.out]; rfl, rfl⟩
end Go.Proofs.Ytnpdoejjebgcpaa
namespace Go.Proofs.Ytnpdoejjebgcpaa
open Go Go.RowKit
/-- A set of a covering problem: its elements and its cost. -/
def SetC (F : Nat → Prop) (w : World) (cs : List Value) (x : List Int × Int) : Prop := ∃ vw, cs = [vw, .int .i64 x.2] ∧ SlI F w vw x.1
abbrev SlS (F : Nat → Prop) (w : World) (v : Value) (l : List (List Int × Int)) : Prop := Sl F 2 (SetC F) w v l
theorem SlS.keep {F : Nat → Prop} {w w' : World} {v : Value} {l : List (List Int × Int)} (h : SlS F w v l) (ha : Agree F w w') : SlS F w' v l :=
  Sl.keep h ha fun _ _ ⟨vw, hc, hr⟩ => ⟨vw, hc, hr.keep ha⟩
theorem SlS.open {F : Nat → Prop} {w : World} {v : Value} {l : List (List Int × Int)} (h : SlS F w v l) : ∃ A c, v = .slice A l.length c ∧ l.length ≤ c ∧ l.length ≤ 140737488355328 ∧
    ∀ i (hi : i < l.length), ∃ ad vw, A = some ad ∧ F ad.block ∧ SlI F w vw l[i].1 ∧ Flds w (ad.add (i * 2)) [vw, .int .i64 l[i].2] := by
  obtain ⟨A, c, hv, hc, hl, hi⟩ := h
  refine ⟨A, c, hv, hc, hl, fun i hil => ?_⟩
  obtain ⟨ad, cs, hA, hF, hk, ⟨vw, rfl, hr⟩, hcell⟩ := hi i hil
  exact ⟨ad, vw, hA, hF, hr, hcell⟩
/-- The error of a covering problem. -/
def setsV (n : Int) : List (List Int × Int) → Int
  | [] => 0
  | s :: r => if riseF n s.1 ≠ 0 then riseF n s.1 else if s.2 < 1 ∨ s.2 > 1000000 then 3 else setsV n r
def checkV (n : Int) (ls : List (List Int × Int)) : Int := if n < 0 then 3 else if n > 40 ∨ ls.length > 40 then 4 else setsV n ls
theorem setsV_cons (n : Int) (s : List Int × Int) (r : List (List Int × Int)) : setsV n (s :: r) = if riseF n s.1 ≠ 0 then riseF n s.1 else if s.2 < 1 ∨ s.2 > 1000000 then 3 else setsV n r := rfl
set_option maxHeartbeats 2000000 in
theorem checkV_any (n : Int) (vs : Value) (ls : List (List Int × Int)) (w : World) (F : Nat → Prop) (hF : ∀ b, F b → b < w.heap.size) (hr : SlS F w vs ls) :
    Calls Try.prog 56 #[.agg #[.int .i64 n, vs]] w fun e w' => e = .returned (.int .i64 (checkV n ls)) ∧ Below w.heap.size w w' := by
  obtain ⟨As, cs, rfl, hlc, _, hat⟩ := hr.open
  clear hr
  go_enter Try.func56, Try.ntmps56
  by_cases hn : n < 0
  · have hz : checkV n ls = 3 := by unfold checkV; rw [if_pos hn]
    have h0' : decide (n < 0) = true := decide_eq_true hn
    have HZ := Lib.hid hz
    clear hz hat hn
    go_wp2
    go_ret
    exact ⟨by rw [HZ.out]; rfl, Ba (B0 w) _⟩
  · have h0' : decide (n < 0) = false := decide_eq_false (by omega)
    by_cases hm : n > 40 ∨ ls.length > 40
    · have hz : checkV n ls = 4 := by unfold checkV; rw [if_neg hn, if_pos hm]
      have HZ := Lib.hid hz
      clear hz hat
      by_cases h1 : 40 < n
      · have h1' : decide (40 < n) = true := decide_eq_true h1
        clear hm
        go_wp2
        go_ret
        exact ⟨by rw [HZ.out]; rfl, Ba (B0 w) _⟩
      · have h1' : decide (40 < n) = false := decide_eq_false h1
        have h2' : decide (40 < (ls.length : Int)) = true := decide_eq_true (by omega)
        clear hm
        go_wp2
        go_ret
        exact ⟨by rw [HZ.out]; rfl, Ba (B0 w) _⟩
    · have hz : checkV n ls = setsV n ls := by unfold checkV; rw [if_neg hn, if_neg hm]
      have h1' : decide (40 < n) = false := decide_eq_false (by omega)
      have h2' : decide (40 < (ls.length : Int)) = false := decide_eq_false (by omega)
      have hll : ls.length ≤ 40 := by omega
      have HZ := Lib.hid hz
      clear hz hn hm
      go_wp2_with fail
      obtain ⟨w1, hw1⟩ : ∃ w1 : World, w.alloc (.cells #[.int .i64 n, .slice As ls.length cs] 36) = w1 := ⟨_, rfl⟩
      have c0 : w1.cell? ⟨w.heap.size, 0, none⟩ = some (.int .i64 n) := by rw [← hw1]; simp [go_sem]
      have s1 : w.heap.size < w1.heap.size := by rw [← hw1]; simp
      have B1 : Below w.heap.size w w1 := by rw [← hw1]; exact Ba (B0 w) _
      rw [hw1]
      clear hw1
      have HB1 := Lib.hid B1
      have C0 := Lib.hid c0
      clear B1 c0
      go_loopg [23] ls.length (fun gg s wr => ∃ k : Nat, k ≤ ls.length ∧ ls.length - k ≤ gg ∧ s = .int .i64 k ∧ Aside (setsV n ls = setsV n (ls.drop k)) ∧ Aside (Below w1.heap.size w1 wr))
      case atStart => exact ⟨0, by omega, by omega, rfl, by simp [Aside], B0 w1⟩
      case round =>
        obtain ⟨k, hk, hg, rfl, HL, HB⟩ := hrel
        have hw := Bt HB1.out HB.out
        by_cases hlt : k < ls.length
        · have hki : decide ((k : Int) < ls.length) = true := decide_eq_true (by omega)
          have hkI : (k : Int) < ls.length := by omega
          obtain ⟨ad, vw, rfl, hf, hu, hfl⟩ := hat k hlt
          have hfl' := hfl.keep (Agree.below hw hF) (by rw [block_of_add]; exact hf)
          have q0 := hfl'.f0 rfl
          have q1 := hfl'.f1 rfl
          have hd : setsV n ls = setsV n (ls[k] :: ls.drop (k + 1)) := by rw [HL.out, List.drop_eq_getElem_cons hlt]
          rw [setsV_cons] at hd
          obtain ⟨Au, cu, rfl, hx1⟩ := id hu.open
          clear hx1
          have hu' := hu.keep (Agree.below (Ba hw (.cells #[.slice Au ls[k].1.length cu, .int .i64 ls[k].2] 40)) hF)
          have c0 := (Bc HB.out s1).trans C0.out
          have s2 : w.heap.size < wr.heap.size := Nat.lt_of_lt_of_le s1 HB.out.size
          have hL := riseV_any n (.slice Au ls[k].1.length cu) ls[k].1 _ F hu'
          have HW := Lib.hid hw
          have HBA := Lib.hid (Ba HB.out (.cells #[.slice Au ls[k].1.length cu, .int .i64 ls[k].2] 40))
          generalize ls[k] = s at *
          obtain ⟨s, cost⟩ := s
          simp only at hd hL q1 q0 HBA
          have hz0 := rise_zero n s
          have HL2 := Lib.hid hL
          generalize riseF n s = er at *
          clear hat hu hu' hw hL hfl hfl' hz0
          generalize s.length = sl at *
          by_cases he : er = 0
          · subst he
            rw [if_neg (by simp)] at hd
            by_cases hcst : cost < 1 ∨ cost > 1000000
            · rw [if_pos hcst] at hd
              have HD := Lib.hid hd
              clear hd
              by_cases h0 : cost < 1
              · have d1 : decide (cost < 1) = true := decide_eq_true h0
                clear hcst
                go_wp2_with (go_at_call 57; (with_reducible refine (HL2.out.mono ?_)); rintro e w2 ⟨rfl, rfl⟩)
                go_ret
                exact ⟨by rw [HZ.out, HD.out]; rfl, Bt HB1.out HBA.out⟩
              · have d1 : decide (cost < 1) = false := decide_eq_false h0
                have d2 : decide (1000000 < cost) = true := decide_eq_true (by omega)
                clear hcst
                go_wp2_with (go_at_call 57; (with_reducible refine (HL2.out.mono ?_)); rintro e w2 ⟨rfl, rfl⟩)
                go_ret
                exact ⟨by rw [HZ.out, HD.out]; rfl, Bt HB1.out HBA.out⟩
            · rw [if_neg hcst] at hd
              have HD := Lib.hid hd
              have d1 : decide (cost < 1) = false := decide_eq_false (by omega)
              have d2 : decide (1000000 < cost) = false := decide_eq_false (by omega)
              clear hd hcst
              go_wp2_with (go_at_call 57; (with_reducible refine (HL2.out.mono ?_)); rintro e w2 ⟨rfl, rfl⟩)
              go_roundg (ls.length - (k + 1))
              case measure => omega
              case rel => exact ⟨k + 1, by omega, by omega, by go_num, HD.out, HBA.out⟩
          · rw [if_pos he] at hd
            have he' : (er != 0) = true := by simp [he]
            have HD := Lib.hid hd
            clear hd he
            go_wp2_with (go_at_call 57; (with_reducible refine (HL2.out.mono ?_)); rintro e w2 ⟨rfl, rfl⟩)
            go_ret
            exact ⟨by rw [HZ.out, HD.out]; rfl, Bt HB1.out HBA.out⟩
        · have hki : decide ((k : Int) < ls.length) = false := decide_eq_false (by omega)
          have : k = ls.length := by omega
          subst this
          have hz : setsV n ls = 0 := by rw [HL.out, List.drop_length]; rfl
          have HZ2 := Lib.hid hz
          have HW := Lib.hid hw
          clear hat hz hw
          go_wp2
          go_ret
          exact ⟨by rw [HZ.out, HZ2.out]; rfl, HW.out⟩
end Go.Proofs.Ytnpdoejjebgcpaa
namespace Go.Proofs.Ytnpdoejjebgcpaa
open Go Go.RowKit
/-- The first error of a problem and a list of sets. -/
def bothV (n : Int) (ls : List (List Int × Int)) (l : List Int) : Int := if checkV n ls ≠ 0 then checkV n ls else riseF ls.length l
set_option maxHeartbeats 1000000 in
theorem bothV_any (n : Int) (vs vl : Value) (ls : List (List Int × Int)) (l : List Int) (w : World) (F G : Nat → Prop) (hF : ∀ b, F b → b < w.heap.size) (hG : ∀ b, G b → b < w.heap.size) (hr : SlS F w vs ls) (hl : SlI G w vl l) :
    Calls Try.prog 37 #[.agg #[.int .i64 n, vs], vl] w fun e w' => e = .returned (.int .i64 (bothV n ls l)) ∧ Below w.heap.size w w' := by
  have hC : ∀ W, Below w.heap.size w W → Calls Try.prog 56 #[.agg #[.int .i64 n, vs]] W fun e w' => e = .returned (.int .i64 (checkV n ls)) ∧ Below W.heap.size W w' :=
    fun W hW => checkV_any n vs ls W F (fun b hb => Nat.lt_of_lt_of_le (hF b hb) hW.size) (hr.keep (Agree.below hW hF))
  have hR : ∀ W, Below w.heap.size w W → Calls Try.prog 57 #[vl, .int .i64 (ls.length : Nat)] W fun e w' => e = .returned (.int .i64 (riseF (ls.length : Nat) l)) ∧ W = w' :=
    fun W hW => riseV_any (ls.length : Nat) vl l W G (hl.keep (Agree.below hW hG))
  obtain ⟨As, cs, rfl, _⟩ := hr.open
  have HC := Lib.hid hC
  have HR := Lib.hid hR
  have hz1 : checkV n ls = 0 → bothV n ls l = riseF (ls.length : Nat) l := fun h => by unfold bothV; rw [if_neg (by rw [h]; simp)]
  have hz2 : checkV n ls ≠ 0 → bothV n ls l = checkV n ls := fun h => by unfold bothV; rw [if_pos h]
  clear hC hR hr hl
  obtain ⟨er, her⟩ : ∃ er, checkV n ls = er := ⟨_, rfl⟩
  rw [her] at HC hz1 hz2
  go_enter Try.func37, Try.ntmps37
  go_wp2_with fail
  (with_reducible refine ((HC.out _ (Ba (B0 w) _)).mono ?_))
  rintro e w1 ⟨rfl, hb1⟩
  have HB1 := Lib.hid (Bt (Ba (B0 w) _) hb1)
  have c1 : w1.cell? ⟨w.heap.size, 1, none⟩ = some (.slice As ls.length cs) := (Bc hb1 (by simp)).trans (by simp [go_sem])
  clear hb1
  by_cases he : er = 0
  · have HZ := Lib.hid (hz1 he)
    subst he
    clear hz1 hz2 her
    go_wp2_with fail
    (with_reducible refine ((HR.out _ HB1.out).mono ?_))
    rintro e w2 ⟨rfl, rfl⟩
    go_wp2
    go_ret
    exact ⟨by rw [HZ.out]; rfl, HB1.out⟩
  · have HZ := Lib.hid (hz2 he)
    have he' : (er != 0) = true := by simp [he]
    clear hz1 hz2 her he
    go_wp2
    go_ret
    exact ⟨by rw [HZ.out]; rfl, HB1.out⟩
set_option maxHeartbeats 1000000 in
theorem wordV_any (vl : Value) (ns : List Nat) (hn : ∀ x ∈ ns, x < 64) (w : World) (F : Nat → Prop) (hr : SlI F w vl (Hit.ints ns)) :
    Calls Try.prog 58 #[vl] w fun e w' => e = .returned (.int .u64 (Hit.word ns : Nat)) ∧ w = w' := by
  obtain ⟨A, c, rfl, hlc, hl, hat⟩ := hr.open
  rw [ints_length] at hlc hl ⊢
  clear hr
  have hbd : ∀ k, Hit.word (ns.take k) < 2 ^ 64 := fun k => Hit.word_lt fun x hx => hn x (List.mem_of_mem_take hx)
  go_enter Try.func58, Try.ntmps58
  go_wp2
  go_loopg [3, 8] ns.length (fun gg s3 s wr => ∃ k : Nat, k ≤ ns.length ∧ ns.length - k ≤ gg ∧ s = .int .i64 k ∧ s3 = .int .u64 (Hit.word (ns.take k) : Nat) ∧ wr = w)
  case atStart => exact ⟨0, by omega, by omega, rfl, rfl, rfl⟩
  case round =>
    obtain ⟨k, hk, hg, rfl, rfl, rfl⟩ := hrel
    by_cases hlt : k < ns.length
    · have hki : decide ((k : Int) < ns.length) = true := decide_eq_true (by omega)
      obtain ⟨ad, rfl, hf, hc⟩ := hat k (by rw [ints_length]; exact hlt)
      rw [ints_get] at hc
      have hx := hn ns[k] (List.getElem_mem hlt)
      have hs := word_take ns k hlt
      have h1 := Hit.two_u64w ns[k] hx
      have h2 := Hit.u64_or _ _ (hbd k) (Hit.bit_lt hx)
      rw [← h1] at h2
      have h3 : ((ns[k] : Nat) : Int) % 18446744073709551616 = ns[k] := by omega
      have h4 : min ns[k] 64 = ns[k] := by omega
      have HS := Lib.hid hs
      have H2 := Lib.hid h2
      generalize Hit.word (ns.take k) = acc at *
      generalize ns[k] = x at *
      clear hat hn hbd h1 h2 hs
      go_wp2
      go_roundg (ns.length - (k + 1))
      case measure => omega
      case rel => exact ⟨k + 1, by omega, by omega, by go_num, by rw [HS.out, ← H2.out], rfl⟩
    · have hki : decide ((k : Int) < ns.length) = false := decide_eq_false (by omega)
      have : k = ns.length := by omega
      subst this
      clear hat hbd
      go_wp2
      go_ret
      exact ⟨by rw [List.take_length]; rfl, rfl⟩
theorem allV_any (n : Nat) (hn : n ≤ 40) (vs : Value) (hv : ∃ A m c, vs = .slice A m c) (w : World) :
    Calls Try.prog 39 #[.agg #[.int .i64 n, vs]] w fun e w' => e = .returned (.int .u64 ((Hit.bit n - 1 : Nat) : Int)) ∧ Below w.heap.size w w' := by
  obtain ⟨A, m, c, rfl⟩ := hv
  have two := Hit.two_u64w n (by omega)
  have hbn : Hit.bit n ≤ 2 ^ 40 := Nat.pow_le_pow_right (n := 2) (by decide) hn
  have hbp : 0 < Hit.bit n := Nat.two_pow_pos n
  have hsub : IntKind.u64.wrap (((Hit.bit n : Nat) : Int) - 1) = ((Hit.bit n - 1 : Nat) : Int) := by
    rw [IntKind.wrap_u64]; omega
  have n64 : (n : Int) % 18446744073709551616 = n := by omega
  have n64b : min n 64 = n := by omega
  generalize Hit.bit n - 1 = bn1 at *
  generalize Hit.bit n = bn at *
  go_enter Try.func39, Try.ntmps39
  go_wp2
  go_ret
  exact ⟨rfl, Ba (B0 w) _⟩
end Go.Proofs.Ytnpdoejjebgcpaa
namespace Go.Proofs.Ytnpdoejjebgcpaa
open Go Go.RowKit
/-- The sets and costs of a covering problem, as lists. -/
def covL (ws : List Nat) (cs : List Int) : List (List Int × Int) := List.zipWith (fun s c => (Hit.ints (Hit.members s), c)) ws cs
theorem covL_length {ws : List Nat} {cs : List Int} (h : cs.length = ws.length) : (covL ws cs).length = ws.length := by unfold covL; rw [List.length_zipWith, h, Nat.min_self]
theorem covL_get {ws : List Nat} {cs : List Int} (h : cs.length = ws.length) (i : Nat) (hi : i < (covL ws cs).length) : (covL ws cs)[i] = (Hit.ints (Hit.members (ws.getD i 0)), cs.getD i 0) := by
  have hw : i < ws.length := by rwa [covL_length h] at hi
  have e : (covL ws cs)[i]? = some (Hit.ints (Hit.members (ws.getD i 0)), cs.getD i 0) := by
    unfold covL
    rw [List.getElem?_zipWith, List.getD_eq_getElem?_getD, List.getD_eq_getElem?_getD, List.getElem?_eq_getElem hw, List.getElem?_eq_getElem (show i < cs.length by omega)]
    rfl
  rw [List.getElem?_eq_getElem hi] at e
  exact Option.some.inj e
/-- The cells of a covering problem's sets. -/
theorem SlS.openC {F : Nat → Prop} {w : World} {v : Value} {ws : List Nat} {cs : List Int} (he : cs.length = ws.length) (h : SlS F w v (covL ws cs)) : ∃ A c, v = .slice A ws.length c ∧
    ∀ i, i < ws.length → ∃ ad vw, A = some ad ∧ F ad.block ∧ SlI F w vw (Hit.ints (Hit.members (ws.getD i 0))) ∧ Flds w (ad.add (i * 2)) [vw, .int .i64 (cs.getD i 0)] := by
  obtain ⟨A, c, rfl, _, _, hat⟩ := h.open
  refine ⟨A, c, by rw [covL_length he], fun i hi => ?_⟩
  have hi' : i < (covL ws cs).length := by rw [covL_length he]; exact hi
  obtain ⟨ad, vw, h1, h2, h3, h4⟩ := hat i hi'
  rw [covL_get he i hi'] at h3 h4
  exact ⟨ad, vw, h1, h2, h3, h4⟩
/-- A right covering problem. -/
structure Cov (n : Nat) (ws : List Nat) (cs : List Int) : Prop where
  le : n ≤ 40
  len : ws.length ≤ 40
  eq : cs.length = ws.length
  lt : ∀ s ∈ ws, s < 2 ^ n
  cost : ∀ c ∈ cs, 1 ≤ c ∧ c ≤ 1000000
theorem Cov.getW {n : Nat} {ws : List Nat} {cs : List Int} (h : Cov n ws cs) (i : Nat) : ws.getD i 0 < 2 ^ n := by
  rw [List.getD_eq_getElem?_getD]
  cases hc : ws[i]? with
  | none => exact Nat.two_pow_pos n
  | some x => exact h.lt x (List.mem_of_getElem? hc)
theorem Cov.getC {n : Nat} {ws : List Nat} {cs : List Int} (h : Cov n ws cs) (i : Nat) : 0 ≤ cs.getD i 0 ∧ cs.getD i 0 ≤ 1000000 := by
  rw [List.getD_eq_getElem?_getD]
  cases hc : cs[i]? with
  | none => simp
  | some x => have := h.cost x (List.mem_of_getElem? hc); simp; omega
theorem Cov.w64 {n : Nat} {ws : List Nat} {cs : List Int} (h : Cov n ws cs) (i : Nat) : ws.getD i 0 < 2 ^ 64 := Nat.lt_of_lt_of_le (h.getW i) (Nat.pow_le_pow_right (by decide) (by have := h.le; omega))
def unionL (ws : List Nat) (ns : List Nat) : Nat := ns.foldl (fun w i => w ||| ws.getD i 0) 0
def costL (cs : List Int) (ns : List Nat) : Int := ns.foldl (fun c i => c + cs.getD i 0) 0
theorem unionL_take (ws ns : List Nat) (k : Nat) (hk : k < ns.length) : unionL ws (ns.take (k + 1)) = unionL ws (ns.take k) ||| ws.getD ns[k] 0 := by
  unfold unionL; rw [List.take_succ_eq_append_getElem hk, List.foldl_append]; rfl
theorem costL_take (cs : List Int) (ns : List Nat) (k : Nat) (hk : k < ns.length) : costL cs (ns.take (k + 1)) = costL cs (ns.take k) + cs.getD ns[k] 0 := by
  unfold costL; rw [List.take_succ_eq_append_getElem hk, List.foldl_append]; rfl
theorem unionL_lt {n : Nat} {ws : List Nat} {cs : List Int} (h : Cov n ws cs) (ns : List Nat) (k : Nat) : unionL ws (ns.take k) < 2 ^ n := by
  induction k with
  | zero => exact Nat.two_pow_pos n
  | succ k ih =>
    by_cases hk : k < ns.length
    · rw [unionL_take ws ns k hk]; exact Nat.or_lt_two_pow ih (h.getW _)
    · rwa [List.take_of_length_le (by omega), ← List.take_of_length_le (l := ns) (i := k) (by omega)]
theorem costL_bd {n : Nat} {ws : List Nat} {cs : List Int} (h : Cov n ws cs) (ns : List Nat) (k : Nat) : 0 ≤ costL cs (ns.take k) ∧ costL cs (ns.take k) ≤ 1000000 * k := by
  induction k with
  | zero => simp [costL]
  | succ k ih =>
    by_cases hk : k < ns.length
    · rw [costL_take cs ns k hk]; have := h.getC ns[k]; omega
    · rw [List.take_of_length_le (by omega), ← List.take_of_length_le (l := ns) (i := k) (by omega)]; omega
set_option maxHeartbeats 2000000 in
theorem coveredV_any (n : Int) (m : Nat) (vs vl : Value) (ws : List Nat) (cs : List Int) (hcov : Cov m ws cs) (ns : List Nat) (hns : ∀ x ∈ ns, x < ws.length) (hnl : ns.length ≤ 1000) (w : World) (F G : Nat → Prop) (hF : ∀ b, F b → b < w.heap.size) (hG : ∀ b, G b → b < w.heap.size) (hr : SlS F w vs (covL ws cs)) (hl : SlI G w vl (Hit.ints ns)) :
    Calls Try.prog 38 #[.agg #[.int .i64 n, vs], vl] w fun e w' => e = .returned (.tuple #[.int .u64 (unionL ws ns : Nat), .int .i64 (costL cs ns)]) ∧ Below w.heap.size w w' := by
  obtain ⟨As, c1, rfl, hat⟩ := hr.openC hcov.eq
  obtain ⟨Al, c2, rfl, _, _, hal⟩ := hl.open
  rw [ints_length]
  have hlen := hcov.len
  have HCOV := Lib.hid hcov
  have HNS := Lib.hid hns
  clear hr hl hcov hns
  go_enter Try.func38, Try.ntmps38
  go_wp2_with fail
  obtain ⟨w1, hw1⟩ : ∃ w1 : World, w.alloc (.cells #[.int .i64 n, .slice As ws.length c1] 36) = w1 := ⟨_, rfl⟩
  have c0 : w1.cell? ⟨w.heap.size, 1, none⟩ = some (.slice As ws.length c1) := by rw [← hw1]; simp [go_sem]
  have c00 : w1.cell? ⟨w.heap.size, 0, none⟩ = some (.int .i64 n) := by rw [← hw1]; simp [go_sem]
  have s1 : w.heap.size < w1.heap.size := by rw [← hw1]; simp
  have B1 : Below w.heap.size w w1 := by rw [← hw1]; exact Ba (B0 w) _
  rw [hw1]
  clear hw1
  have HB1 := Lib.hid B1
  clear B1
  go_loopg [4, 5, 10] ns.length (fun gg s4 s5 s wr => ∃ k : Nat, k ≤ ns.length ∧ ns.length - k ≤ gg ∧ s = .int .i64 k ∧ s4 = .int .u64 (unionL ws (ns.take k) : Nat) ∧ s5 = .int .i64 (costL cs (ns.take k)) ∧ wr = w1)
  case atStart => exact ⟨0, by omega, by omega, rfl, rfl, rfl, rfl⟩
  case round =>
    obtain ⟨k, hk, hg, rfl, rfl, rfl, rfl⟩ := hrel
    by_cases hlt : k < ns.length
    · have hki : decide ((k : Int) < ns.length) = true := decide_eq_true (by omega)
      have hkI : (k : Int) < ns.length := by omega
      obtain ⟨al, rfl, hfl, hcl⟩ := hal k (by rw [ints_length]; exact hlt)
      rw [ints_get] at hcl
      have hcl' := (HB1.out.cell (p := al.add k) (by rw [block_of_add]; exact hG _ hfl)).trans hcl
      have hx := HNS.out ns[k] (List.getElem_mem hlt)
      obtain ⟨ad, vw, rfl, hf, hu, hfd⟩ := hat ns[k] hx
      have hfd' := hfd.keep (Agree.below HB1.out hF) (by rw [block_of_add]; exact hf)
      have hu' := SlI.keep hu (Agree.below HB1.out hF)
      obtain ⟨Au, cu, rfl, hx1⟩ := id hu.open
      clear hx1
      have q0 := hfd'.f0 rfl
      have q1 := hfd'.f1 rfl
      have hW := wordV_any (.slice Au (Hit.ints (Hit.members (ws.getD ns[k] 0))).length cu) (Hit.members (ws.getD ns[k] 0)) (fun x hx => by have := Hit.members_lt (HCOV.out.getW ns[k]) x hx; have := HCOV.out.le; omega) wr F hu'
      rw [Hit.word_members (HCOV.out.w64 _)] at hW
      have hs := unionL_take ws ns k hlt
      have hs5 := costL_take cs ns k hlt
      have hb4 := unionL_lt HCOV.out ns k
      have hb5 := costL_bd HCOV.out ns k
      have hgc := HCOV.out.getC ns[k]
      have h40 : (2 : Nat) ^ m ≤ 2 ^ 64 := Nat.pow_le_pow_right (by decide) (by have := HCOV.out.le; omega)
      have h2 := Hit.u64_or (unionL ws (ns.take k)) (ws.getD ns[k] 0) (by omega) (HCOV.out.w64 _)
      have HS := Lib.hid hs
      have HS5 := Lib.hid hs5
      have HW := Lib.hid hW
      have hxI : ((ns[k] : Nat) : Int) < ws.length := by omega
      generalize unionL ws (ns.take k) = acc at *
      generalize costL cs (ns.take k) = acc5 at *
      generalize ws.getD ns[k] 0 = sw at *
      generalize cs.getD ns[k] 0 = sc at *
      generalize ns[k] = x at *
      clear hat hal hs hs5 hW hu hu' hfd hfd' hcl h40
      go_wp2_with (go_at_call 58; (with_reducible refine (HW.out.mono ?_)); rintro e w2 ⟨rfl, rfl⟩)
      go_roundg (ns.length - (k + 1))
      case measure => omega
      case rel => exact ⟨k + 1, by omega, by omega, by go_num, by rw [HS.out, ← h2], by rw [HS5.out], rfl⟩
    · have hki : decide ((k : Int) < ns.length) = false := decide_eq_false (by omega)
      have : k = ns.length := by omega
      subst this
      clear hat hal
      go_wp2
      go_ret2
      exact ⟨by rw [List.take_length]; rfl, HB1.out⟩
end Go.Proofs.Ytnpdoejjebgcpaa
namespace Go.Proofs.Ytnpdoejjebgcpaa
open Go Go.RowKit
theorem infoU64 : (Try.prog.info? 76).map (fun i => (i.zero, i.size, i.bytes)) = some (some (.int .u64 0), 1, 8) := by kernel_rfl
theorem elemU64 : ElemN Try.prog 81 76 1 8 := ⟨Try.underlying81, by
  obtain ⟨i, hi, hz, hs, hb⟩ := info_parts infoU64
  exact ⟨i, _, hi, hz, hs, hb, rfl⟩⟩
theorem getD_at (ws : List Nat) (k : Nat) (h : k < ws.length) : ws.getD k 0 = ws[k] := by rw [List.getD_eq_getElem?_getD, List.getElem?_eq_getElem h]; rfl
set_option maxHeartbeats 2000000 in
theorem wordsV_any (n : Int) (m : Nat) (vs : Value) (ws : List Nat) (cs : List Int) (hcov : Cov m ws cs) (w : World) (F : Nat → Prop) (hF : ∀ b, F b → b < w.heap.size) (hr : SlS F w vs (covL ws cs)) :
    Calls Try.prog 59 #[.agg #[.int .i64 n, vs]] w fun e w' => ∃ A m c, e = .returned (.slice A m c) ∧ m = ws.length ∧ Own0 w' w.heap.size 76 1 A m c (cellsV (vU .u64) ws) ∧ Below w.heap.size w w' := by
  obtain ⟨As, c1, rfl, hat⟩ := hr.openC hcov.eq
  have hlen := hcov.len
  have HCOV := Lib.hid hcov
  clear hr hcov
  go_enter Try.func59, Try.ntmps59
  go_wp2_with fail
  go_loopg [3, 9] ws.length (fun gg s3 s9 wr => ∃ (k : Nat) (A : Option Addr) (c : Nat), k ≤ ws.length ∧ ws.length - k ≤ gg ∧ s9 = .int .i64 k ∧ s3 = .slice A k c ∧ Aside (Own0 wr w.heap.size 76 1 A k c (cellsV (vU .u64) (ws.take k))) ∧ Aside (Below w.heap.size w wr))
  case atStart => exact ⟨0, none, 0, by omega, by omega, rfl, rfl, Own0.nil, Ba (B0 w) _⟩
  case round =>
    obtain ⟨k, A, c, hk, hg, rfl, rfl, HO, HB⟩ := hrel
    by_cases hlt : k < ws.length
    · have hki : decide ((k : Int) < ws.length) = true := decide_eq_true (by omega)
      have hkI : (k : Int) < ws.length := by omega
      obtain ⟨ad, vw, rfl, hf, hu, hfd⟩ := hat k hlt
      have hfd' := hfd.keep (Agree.below HB.out hF) (by rw [block_of_add]; exact hf)
      obtain ⟨Au, cu, rfl, hx1⟩ := id hu.open
      clear hx1
      have q0 := hfd'.f0 rfl
      have q1 := hfd'.f1 rfl
      have hu' := SlI.keep hu (Agree.below (Ba HB.out (.cells #[.slice Au (Hit.ints (Hit.members (ws.getD k 0))).length cu, .int .i64 (cs.getD k 0)] 40)) hF)
      have hW := wordV_any (.slice Au (Hit.ints (Hit.members (ws.getD k 0))).length cu) (Hit.members (ws.getD k 0)) (fun x hx => by have := Hit.members_lt (HCOV.out.getW k) x hx; have := HCOV.out.le; omega) _ F hu'
      rw [Hit.word_members (HCOV.out.w64 _)] at hW
      have ht : ws.take (k + 1) = ws.take k ++ [ws.getD k 0] := by rw [getD_at ws k hlt]; exact List.take_succ_eq_append_getElem hlt
      have HW := Lib.hid hW
      have HT := Lib.hid ht
      have hs2 : w.heap.size ≤ wr.heap.size := HB.out.size
      generalize (Hit.ints (Hit.members (ws.getD k 0))).length = lu at *
      generalize ws.getD k 0 = q at *
      generalize cs.getD k 0 = sc at *
      clear hat hu hu' hW ht hfd hfd'
      go_wp2_with (first
        | (go_at_call 58; refine HW.out.mono ?_; rintro e w' ⟨rfl, rfl⟩)
        | (at_builtin; refine wpList_app0 elemU64 rfl _ _ rfl (Own0.alloc (Own0.alloc HO.out _) _) rfl (wr.heap.size + 1) (.int .u64 (q : Int)) rfl (by simp [go_sem]) rfl (by omega) (by omega) (by simp; omega) ?_; intro A' c' w2 q1 q2; have Q1 := Lib.hid q1; have Q2 := Lib.hid (Bg0 (Ba (Ba HB.out _) _) (Own0.alloc (Own0.alloc HO.out _) _) (Nat.le_refl _) q2); clear q1 q2))
      go_roundg (ws.length - (k + 1))
      case measure => omega
      case rel => exact ⟨k + 1, A', c', by omega, by omega, by go_num, rfl, by rw [HT.out, cellsV_snoc]; exact Q1.out, Q2.out⟩
    · have hki : decide ((k : Int) < ws.length) = false := decide_eq_false (by omega)
      have : k = ws.length := by omega
      subst this
      clear hat
      go_wp2
      go_ret
      exact ⟨A, _, c, rfl, rfl, by have := HO.out; rw [List.take_length] at this; exact this, HB.out⟩
/-- The sum of the first weights of a set. -/
def weighL (weights : List Int) (ns : List Nat) : Int := ns.foldl (fun c i => c + weights.getD i 0) 0
theorem weighL_eq (weights : List Int) (ns : List Nat) : weighL weights ns = Hit.sumI (ns.map fun k => weights.getD k 0) := by
  have key : ∀ (ns : List Nat) (a : Int), ns.foldl (fun c i => c + weights.getD i 0) a = a + Hit.sumI (ns.map fun k => weights.getD k 0) := by
    intro ns
    induction ns with
    | nil => intro a; simp [Hit.sumI]
    | cons x r ih => intro a; rw [List.foldl_cons, ih, List.map_cons, Hit.sumI]; omega
  unfold weighL
  rw [key]; omega
theorem weighL_take (weights : List Int) (ns : List Nat) (k : Nat) (hk : k < ns.length) : weighL weights (ns.take (k + 1)) = weighL weights (ns.take k) + weights.getD ns[k] 0 := by
  unfold weighL; rw [List.take_succ_eq_append_getElem hk, List.foldl_append]; rfl
theorem weighL_bd {weights : List Int} (h : ∀ x ∈ weights, 0 ≤ x ∧ x ≤ 1000000) (ns : List Nat) (k : Nat) : 0 ≤ weighL weights (ns.take k) ∧ weighL weights (ns.take k) ≤ 1000000 * k := by
  induction k with
  | zero => simp [weighL]
  | succ k ih =>
    by_cases hk : k < ns.length
    · rw [weighL_take weights ns k hk]
      have : 0 ≤ weights.getD ns[k] 0 ∧ weights.getD ns[k] 0 ≤ 1000000 := by
        rw [List.getD_eq_getElem?_getD]
        cases hc : weights[ns[k]]? with
        | none => simp
        | some x => have := h x (List.mem_of_getElem? hc); simp; omega
      omega
    · rw [List.take_of_length_le (by omega), ← List.take_of_length_le (l := ns) (i := k) (by omega)]; omega
set_option maxHeartbeats 2000000 in
theorem weighV_any (cost : Int) (vl vt : Value) (ns : List Nat) (weights : List Int) (hwt : ∀ x ∈ weights, 0 ≤ x ∧ x ≤ 1000000) (hns : ∀ x ∈ ns, x < weights.length) (hnl : ns.length ≤ 1000) (w : World) (F G : Nat → Prop) (hF : ∀ b, F b → b < w.heap.size) (hG : ∀ b, G b → b < w.heap.size) (hl : SlI F w vl (Hit.ints ns)) (hr : SlI G w vt weights) :
    Calls Try.prog 75 #[.agg #[vl, .int .i64 cost], vt] w fun e w' => e = .returned (.int .i64 (weighL weights ns)) ∧ Below w.heap.size w w' := by
  obtain ⟨Al, c2, rfl, _, _, hal⟩ := hl.open
  obtain ⟨Aw, c3, rfl, _, _, haw⟩ := hr.open
  rw [ints_length]
  have HNS := Lib.hid hns
  have HWT := Lib.hid hwt
  clear hr hl hns hwt
  go_enter Try.func75, Try.ntmps75
  go_wp2_with fail
  obtain ⟨w1, hw1⟩ : ∃ w1 : World, w.alloc (.cells #[.slice Al ns.length c2, .int .i64 cost] 40) = w1 := ⟨_, rfl⟩
  have B1 : Below w.heap.size w w1 := by rw [← hw1]; exact Ba (B0 w) _
  rw [hw1]
  clear hw1
  have HB1 := Lib.hid B1
  clear B1
  go_loopg [5, 11] ns.length (fun gg s5 s wr => ∃ k : Nat, k ≤ ns.length ∧ ns.length - k ≤ gg ∧ s = .int .i64 k ∧ s5 = .int .i64 (weighL weights (ns.take k)) ∧ wr = w1)
  case atStart => exact ⟨0, by omega, by omega, rfl, rfl, rfl⟩
  case round =>
    obtain ⟨k, hk, hg, rfl, rfl, rfl⟩ := hrel
    by_cases hlt : k < ns.length
    · have hki : decide ((k : Int) < ns.length) = true := decide_eq_true (by omega)
      have hkI : (k : Int) < ns.length := by omega
      obtain ⟨al, rfl, hfl, hcl⟩ := hal k (by rw [ints_length]; exact hlt)
      rw [ints_get] at hcl
      have hcl' := (HB1.out.cell (p := al.add k) (by rw [block_of_add]; exact hF _ hfl)).trans hcl
      have hx := HNS.out ns[k] (List.getElem_mem hlt)
      obtain ⟨ad, rfl, hf, hcw⟩ := haw ns[k] hx
      have hcw' := (HB1.out.cell (p := ad.add ns[k]) (by rw [block_of_add]; exact hG _ hf)).trans hcw
      have hs := weighL_take weights ns k hlt
      have hbd := weighL_bd HWT.out ns k
      have hgd : weights.getD ns[k] 0 = weights[ns[k]] := by rw [List.getD_eq_getElem?_getD, List.getElem?_eq_getElem hx]; rfl
      have hgc := HWT.out weights[ns[k]] (List.getElem_mem hx)
      rw [hgd] at hs
      have HS := Lib.hid hs
      have hxI : ((ns[k] : Nat) : Int) < weights.length := by omega
      generalize weights[ns[k]] = u at *
      generalize weighL weights (ns.take k) = acc at *
      clear hgd
      generalize ns[k] = x at *
      clear hal haw hs hcl hcw
      go_wp2
      go_roundg (ns.length - (k + 1))
      case measure => omega
      case rel => exact ⟨k + 1, by omega, by omega, by go_num, by rw [HS.out], rfl⟩
    · have hki : decide ((k : Int) < ns.length) = false := decide_eq_false (by omega)
      have : k = ns.length := by omega
      subst this
      clear hal haw
      go_wp2
      go_ret
      exact ⟨by rw [List.take_length]; rfl, HB1.out⟩
end Go.Proofs.Ytnpdoejjebgcpaa
