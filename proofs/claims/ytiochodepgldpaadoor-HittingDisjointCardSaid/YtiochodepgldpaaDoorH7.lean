/- Walks over the reference of hitting: the bits of a list, the error of a list, the first set that is missed, what is left of a list. -/
import Derived.Test.YtiochodepgldpaaDoorH6
import Derived.IntWalk
namespace Go.Proofs.YtiochodepgldpaaDoor
open Go Go.RowKit
set_option maxHeartbeats 1000000 in
theorem bits_any (vl : Value) (ns : List Nat) (hn : ∀ x ∈ ns, x < 64) (w : World) (F : Nat → Prop) (hr : SlI F w vl (Hit.ints ns)) :
    Calls Tryd.prog 70 #[vl] w fun e w' => e = .returned (.int .u64 (Hit.word ns : Nat)) ∧ w = w' := by
  obtain ⟨A, c, rfl, hlc, hl, hat⟩ := hr.open
  rw [ints_length] at hlc hl ⊢
  clear hr
  have hbd : ∀ k, Hit.word (ns.take k) < 2 ^ 64 := fun k => Hit.word_lt fun x hx => hn x (List.mem_of_mem_take hx)
  go_enter Tryd.func70, Tryd.ntmps70
  go_wp2
  go_loopg [3, 4] ns.length (fun gg s3 s wr => ∃ k : Nat, k ≤ ns.length ∧ ns.length - k ≤ gg ∧ s = .int .i64 k ∧ s3 = .int .u64 (Hit.word (ns.take k) : Nat) ∧ wr = w)
  case atStart => exact ⟨0, by omega, by omega, rfl, rfl, rfl⟩
  case round =>
    obtain ⟨k, hk, hg, rfl, rfl, rfl⟩ := hrel
    by_cases hlt : k < ns.length
    · have hki : decide ((k : Int) < ns.length) = true := decide_eq_true (by omega)
      obtain ⟨ad, rfl, hf, hc⟩ := hat k (by rw [ints_length]; exact hlt)
      rw [ints_get] at hc
      have hx := hn ns[k] (List.getElem_mem hlt)
      have hs := word_take ns k hlt
      have h1 := Hit.two_u64w ns[k] hx
      have h2 := Hit.u64_or _ _ (hbd k) (Hit.bit_lt hx)
      rw [← h1] at h2
      have h3 : ((ns[k] : Nat) : Int) % 18446744073709551616 = ns[k] := by omega
      have h4 : min ns[k] 64 = ns[k] := by omega
      have HS := Lib.hid hs
      have H2 := Lib.hid h2
      generalize Hit.word (ns.take k) = acc at *
      generalize ns[k] = x at *
      clear hat hn hbd h1 h2 hs
      go_wp2
      go_roundg (ns.length - (k + 1))
      case measure => omega
      case rel => exact ⟨k + 1, by omega, by omega, by go_num, by rw [HS.out, ← H2.out], rfl⟩
    · have hki : decide ((k : Int) < ns.length) = false := decide_eq_false (by omega)
      have : k = ns.length := by omega
      subst this
      clear hat hbd
      go_wp2
      go_ret
      exact ⟨by rw [List.take_length]; rfl, rfl⟩
set_option maxHeartbeats 1000000 in
theorem listR_any (n : Int) (vl : Value) (l : List Int) (w : World) (F : Nat → Prop) (hF : ∀ b, F b → b < w.heap.size) (hr : SlI F w vl l) :
    Calls Tryd.prog 61 #[.int .i64 n, vl] w fun e w' => e = .returned (.int .i64 (Hit.listF n l)) ∧ Below w.heap.size w w' := by
  obtain ⟨A, c, rfl, hlc, hl, hat⟩ := hr.open
  clear hr
  go_enter Tryd.func61, Tryd.ntmps61
  go_wp2
  go_loopg [5] l.length (fun gg s wr => ∃ k : Nat, k ≤ l.length ∧ l.length - k ≤ gg ∧ s = .int .i64 k ∧ Aside (Hit.listF n l = Hit.listGo n (prevOf l k) (l.drop k)) ∧ Aside (Below w.heap.size w wr))
  case atStart => exact ⟨0, by omega, by omega, rfl, by simp [Aside, Hit.listF, prevOf], B0 w⟩
  case round =>
    obtain ⟨k, hk, hg, rfl, HL, HB⟩ := hrel
    by_cases hlt : k < l.length
    · have hki : decide ((k : Int) < l.length) = true := decide_eq_true (by omega)
      have hki2 : (k : Int) < l.length := by omega
      obtain ⟨ad, rfl, hf, hc⟩ := hat k hlt
      have hc' := (HB.out.cell (p := ad.add k) (by rw [block_of_add]; exact hF _ hf)).trans hc
      have hd : Hit.listF n l = Hit.listGo n (prevOf l k) (l[k] :: l.drop (k + 1)) := by rw [HL.out, List.drop_eq_getElem_cons hlt]
      have hs : prevOf l (k + 1) = some l[k] := by simp [prevOf, hlt]
      by_cases h1 : l[k] < 0 ∨ l[k] ≥ n
      · have hz : Hit.listF n l = 3 := by rw [hd, listGo_cons, if_pos h1]
        have HZ := Lib.hid hz
        generalize l[k] = v at *
        clear hat hd hs hz hc
        by_cases h0 : v < 0
        · have h0' : decide (v < 0) = true := decide_eq_true h0
          clear h1
          go_wp2
          go_ret
          exact ⟨by rw [HZ.out]; rfl, HB.out⟩
        · have h0' : decide (v < 0) = false := decide_eq_false h0
          have h1' : decide (n ≤ v) = true := decide_eq_true (by omega)
          clear h1
          go_wp2
          go_ret
          exact ⟨by rw [HZ.out]; rfl, HB.out⟩
      · have h0' : decide (l[k] < 0) = false := decide_eq_false (by omega)
        have h1' : decide (n ≤ l[k]) = false := decide_eq_false (by omega)
        rw [listGo_cons, if_neg h1] at hd
        by_cases hk0 : k = 0
        · subst hk0
          have hz : Hit.listF n l = Hit.listGo n (prevOf l 1) (l.drop 1) := by rw [hd, hs]; simp [prevOf]
          have HZ := Lib.hid hz
          have hc0 : wr.cell? ad = some (.int .i64 l[0]) := by simpa [Addr.add] using hc'
          generalize l[0] = v at *
          clear hat hd hs hz hc h1
          go_wp2_with fail
          go_quiet (fail)
          go_wp2
          go_roundg (l.length - 1)
          case measure => omega
          case rel => exact ⟨1, by omega, by omega, by go_num, HZ.out, below_drewN HB.out _⟩
        · have hk0' : decide ((0 : Int) < (k : Int)) = true := decide_eq_true (by omega)
          have hk0n : decide (0 < k) = true := decide_eq_true (by omega)
          obtain ⟨j, u, hj, hjl, hcp, hp⟩ : ∃ (j : Nat) (u : Int), (k : Int) - 1 = j ∧ (j : Int) < l.length ∧ wr.cell? (ad.add j) = some (.int .i64 u) ∧ prevOf l k = some u := by
            obtain ⟨ad2, e2, hf2, hc2⟩ := hat (k - 1) (by omega)
            injection e2 with e2
            subst e2
            exact ⟨k - 1, l[k - 1], by omega, by omega, (HB.out.cell (p := ad.add (k - 1)) (by rw [block_of_add]; exact hF _ hf2)).trans hc2, by unfold prevOf; rw [if_neg hk0, List.getElem?_eq_getElem (by omega)]⟩
          have hwr : IntKind.i64.wrap (j : Int) = j := IntWalk.i64_in _ (by omega)
          have hwr2 : IntKind.i64.wrap ((k : Int) - 1) = j := by rw [hj]; exact hwr
          rw [hp] at hd
          simp only [decide_eq_true_eq] at hd
          by_cases h2 : l[k] ≤ u
          · have hz : Hit.listF n l = 6 := by rw [hd, if_pos h2]
            have h2' : decide (l[k] ≤ u) = true := decide_eq_true h2
            have HZ := Lib.hid hz
            generalize l[k] = v at *
            clear hat hd hs hz hc hp h1 h2
            go_wp2_with fail
            go_quiet (fail)
            go_wp2
            go_ret
            exact ⟨by rw [HZ.out]; rfl, below_drewN HB.out _⟩
          · have hz : Hit.listF n l = Hit.listGo n (prevOf l (k + 1)) (l.drop (k + 1)) := by rw [hd, if_neg h2, hs]
            have h2' : decide (l[k] ≤ u) = false := decide_eq_false h2
            have HZ := Lib.hid hz
            generalize l[k] = v at *
            clear hat hd hs hz hc hp h1 h2
            go_wp2_with fail
            go_quiet (fail)
            go_wp2
            go_roundg (l.length - (k + 1))
            case measure => omega
            case rel => exact ⟨k + 1, by omega, by omega, by go_num, HZ.out, below_drewN HB.out _⟩
    · have hki : decide ((k : Int) < l.length) = false := decide_eq_false (by omega)
      have : k = l.length := by omega
      subst this
      have hz : Hit.listF n l = 0 := by rw [HL.out, List.drop_length]; rfl
      have HZ := Lib.hid hz
      clear hat hz
      go_wp2
      go_ret
      exact ⟨by rw [HZ.out]; rfl, HB.out⟩
set_option maxHeartbeats 1000000 in
theorem missedR_any (n : Int) (vs : Value) (ws : List Nat) (hw : ∀ s ∈ ws, s < 4294967296) (x : Nat) (hx : x < 4294967296) (w : World) (F : Nat → Prop) (hF : ∀ b, F b → b < w.heap.size) (hr : SlII F w vs (setsOf ws)) :
    Calls Tryd.prog 51 #[.agg #[.int .i64 n, vs], .int .u64 x] w fun e w' => e = .returned (.int .i64 (missF ws x)) ∧ Below w.heap.size w w' := by
  have hr' := hr
  obtain ⟨As, cs, rfl, hlc, hll, hat⟩ := hr.open
  rw [setsOf_length] at hlc hll
  clear hr
  go_enter Tryd.func51, Tryd.ntmps51
  go_wp2_with fail
  obtain ⟨w1, hw1⟩ : ∃ w1 : World, w.alloc (.cells #[.int .i64 n, .slice As (setsOf ws).length cs] 36) = w1 := ⟨_, rfl⟩
  have c1 : w1.cell? ⟨w.heap.size, 1, none⟩ = some (.slice As ws.length cs) := by rw [← hw1]; simp [go_sem, setsOf_length]
  have s1 : w.heap.size < w1.heap.size := by rw [← hw1]; simp
  have B1 : Below w.heap.size w w1 := by rw [← hw1]; exact Ba (B0 w) _
  rw [hw1]
  clear hw1
  have HB1 := Lib.hid B1
  clear B1
  go_loopg [5] ws.length (fun gg s wr => ∃ k : Nat, k ≤ ws.length ∧ ws.length - k ≤ gg ∧ s = .int .i64 k ∧ Aside (∀ j (hj : j < ws.length), j < k → (ws[j] &&& x == 0) = false) ∧ wr = w1)
  case atStart => exact ⟨0, by omega, by omega, rfl, fun j _ hj => absurd hj (Nat.not_lt_zero _), rfl⟩
  case round =>
    obtain ⟨k, hk, hg, rfl, HA, rfl⟩ := hrel
    by_cases hlt : k < ws.length
    · have hki : decide ((k : Int) < ws.length) = true := decide_eq_true (by omega)
      have hki2 : (k : Int) < ws.length := by omega
      obtain ⟨ad, u, rfl, hf, hc, hu⟩ := hat k (by rw [setsOf_length]; exact hlt)
      rw [setsOf_get] at hu
      have hc' := (HB1.out.cell (p := ad.add k) (by rw [block_of_add]; exact hF _ hf)).trans hc
      have hws := hw _ (List.getElem_mem hlt)
      have hC : Calls Tryd.prog 70 #[u] wr fun e w' => e = .returned (.int .u64 ((ws[k] : Nat) : Int)) ∧ wr = w' := by
        have := bits_any u (Hit.members ws[k]) (fun y hy => (Hit.mem_members.1 hy).1) wr F (hu.keep (Agree.below HB1.out hF))
        rw [Hit.word_members (Nat.lt_of_lt_of_le hws (by decide))] at this
        exact this
      have hand := Hit.u64_and ws[k] x (by omega) (by omega)
      have HC := Lib.hid hC
      by_cases hz : ws[k] &&& x = 0
      · have hm : missF ws x = k := idxF_hit ws (fun s => s &&& x == 0) k HA.out hlt (by simpa using hz)
        rw [hz] at hand
        have HM := Lib.hid hm
        generalize ws[k] = q at *
        clear hat hu hc hr' hC hm hz
        go_wp2_with (go_at_call 70; refine HC.out.mono ?_; rintro e w' ⟨rfl, rfl⟩)
        go_ret
        exact ⟨by rw [HM.out]; rfl, HB1.out⟩
      · have hne : (((ws[k] &&& x : Nat) : Int) == 0) = false := by simp; exact hz
        have hA : ∀ j (hj : j < ws.length), j < k + 1 → (ws[j] &&& x == 0) = false := fun j hj hjk => by
          by_cases e : j = k
          · subst e; simpa using hz
          · exact HA.out j hj (by omega)
        have HA2 := Lib.hid hA
        generalize hq : ws[k] = q at *
        generalize q &&& x = z at *
        clear hat hu hc hr' hC hz hq HA hA
        go_wp2_with (go_at_call 70; refine HC.out.mono ?_; rintro e w' ⟨rfl, rfl⟩)
        go_roundg (ws.length - (k + 1))
        case measure => omega
        case rel => exact ⟨k + 1, by omega, by omega, by go_num, HA2.out, rfl⟩
    · have hki : decide ((k : Int) < ws.length) = false := decide_eq_false (by omega)
      have : k = ws.length := by omega
      subst this
      have hm : missF ws x = -1 := idxF_miss ws (fun s => s &&& x == 0) fun j hj => HA.out j hj hj
      have HM := Lib.hid hm
      clear hat hr' hm
      go_wp2
      go_ret
      exact ⟨by rw [HM.out]; rfl, HB1.out⟩
end Go.Proofs.YtiochodepgldpaaDoor
