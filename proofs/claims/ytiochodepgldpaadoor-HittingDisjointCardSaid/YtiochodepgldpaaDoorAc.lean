/- Walks over the reference of hitting: all irreducible lists, in order. -/
import Derived.Test.YtiochodepgldpaaDoorAb
import Derived.Test.YtiochodepgldpaaDoorHZ
import Derived.Test.YtiochodepgldpaaDoorHRed
namespace Go.Proofs.YtiochodepgldpaaDoor
open Go Go.RowKit
def stepA (ws : List Nat) (n : Nat) (r : List (List Nat) × Nat) (b : Nat) : List (List Nat) × Nat := if Hit.hit ws b then (if Hit.irr ws n b then Hit.insertF r.1 (Hit.members b) else r.1, r.2 + 1) else r
theorem allGo_snoc (ws : List Nat) (n : Nat) (b : Nat) : ∀ (l : List Nat) (r : List (List Nat) × Nat), Hit.allGo ws n (l ++ [b]) r = stepA ws n (Hit.allGo ws n l r) b
  | [], r => rfl
  | x :: l, r => by
    show Hit.allGo ws n (l ++ [b]) _ = _
    rw [allGo_snoc ws n b l]; rfl
/-- What has been found below b. -/
def toB (ws : List Nat) (n b : Nat) : List (List Nat) × Nat := Hit.allGo ws n (List.range b) ([], 0)
theorem toB_zero (ws : List Nat) (n : Nat) : toB ws n 0 = ([], 0) := rfl
theorem toB_nil (ws : List Nat) (n : Nat) (F : Nat → Prop) (w : World) : SlII F w (.slice none 0 0) (intsL (toB ws n 0).1) := by rw [toB_zero]; exact Sl.nil_
theorem toB_succ (ws : List Nat) (n b : Nat) : toB ws n (b + 1) = stepA ws n (toB ws n b) b := by
  unfold toB; rw [List.range_succ, allGo_snoc]
theorem toB_miss {ws : List Nat} {n b : Nat} (h : Hit.hit ws b = false) : toB ws n (b + 1) = toB ws n b := by rw [toB_succ]; unfold stepA; rw [h]; rfl
theorem toB_hit {ws : List Nat} {n b : Nat} (h : Hit.hit ws b = true) : (toB ws n (b + 1)).2 = (toB ws n b).2 + 1 := by rw [toB_succ]; unfold stepA; rw [h]; rfl
theorem toB_irr {ws : List Nat} {n b : Nat} (h : Hit.hit ws b = true) (hi : Hit.irr ws n b = true) : (toB ws n (b + 1)).1 = Hit.insertF (toB ws n b).1 (Hit.members b) := by rw [toB_succ]; unfold stepA; rw [h, hi]; rfl
theorem toB_red {ws : List Nat} {n b : Nat} (hi : Hit.irr ws n b = false) : (toB ws n (b + 1)).1 = (toB ws n b).1 := by
  rw [toB_succ]; unfold stepA
  cases h : Hit.hit ws b
  · rfl
  · rw [hi]; rfl
theorem insertF_len (L : List (List Nat)) (x : List Nat) : (Hit.insertF L x).length = L.length + 1 := by
  induction L with
  | nil => simp [Hit.insertF]
  | cons z L ih => rw [Hit.insertF_cons]; split <;> simp [ih]
theorem toB_len (ws : List Nat) (n : Nat) : ∀ b, (toB ws n b).1.length ≤ b ∧ (toB ws n b).2 ≤ b
  | 0 => ⟨Nat.le_refl 0, Nat.le_refl 0⟩
  | b + 1 => by
    obtain ⟨h1, h2⟩ := toB_len ws n b
    rw [toB_succ]; unfold stepA
    split
    · refine ⟨?_, by show (toB ws n b).2 + 1 ≤ b + 1; omega⟩
      show (if Hit.irr ws n b = true then Hit.insertF (toB ws n b).1 (Hit.members b) else (toB ws n b).1).length ≤ b + 1
      split
      · rw [insertF_len]; omega
      · omega
    · exact ⟨by omega, by omega⟩
/-- No number below i can be left out. -/
def irrTo (ws : List Nat) (b i : Nat) : Bool := (List.range i).all fun j => !(b.testBit j && Hit.hit ws (Hit.andn b (Hit.bit j)))
theorem irrTo_succ (ws : List Nat) (b i : Nat) : irrTo ws b (i + 1) = (irrTo ws b i && !(b.testBit i && Hit.hit ws (Hit.andn b (Hit.bit i)))) := by
  unfold irrTo; rw [List.range_succ, List.all_append]; simp
theorem irrTo_end (ws : List Nat) (n b : Nat) : irrTo ws b n = Hit.irr ws n b := rfl
set_option maxRecDepth 100000 in
set_option maxHeartbeats 4000000 in
theorem allR_any (n : Nat) (hn : n ≤ 8) (vs : Value) (ws : List Nat) (hw : ∀ s ∈ ws, s < 4294967296) (w : World) (F : Nat → Prop) (hF : ∀ b, F b → b < w.heap.size) (hr : SlII F w vs (setsOf ws)) :
    Calls Tryd.prog 21 #[.agg #[.int .i64 n, vs]] w fun e w' => ∃ A m c, e = .returned (.tuple #[.slice A m c, .int .i64 ((Hit.allF ws n).2 : Nat)]) ∧ m = (Hit.allF ws n).1.length ∧ SlII (fun b => w.heap.size ≤ b ∧ b < w'.heap.size) w' (.slice A m c) (intsL (Hit.allF ws n).1) ∧ Below w.heap.size w w' := by
  have hM : ∀ W z, z < 4294967296 → Below w.heap.size w W → Calls Tryd.prog 51 #[.agg #[.int .i64 n, vs], .int .u64 (z : Nat)] W fun e w' => e = .returned (.int .i64 (missF ws z)) ∧ Below W.heap.size W w' := fun W z hz hW =>
    missedR_any n _ ws hw _ hz W F (fun b hb => Nat.lt_of_lt_of_le (hF b hb) hW.size) (hr.keep (Agree.below hW hF))
  obtain ⟨As, cs, rfl, _⟩ := hr.open
  have hall : Hit.allF ws n = toB ws n (Hit.bit n) := rfl
  rw [hall]
  have two1 := Hit.two_u64w n (by omega)
  have n64 : (n : Int) % 18446744073709551616 = n := by omega
  have n64b : min n 64 = n := by omega
  have hN2 : Hit.bit n ≤ 256 := Nat.pow_le_pow_right (n := 2) (by decide) hn
  have hbit : ∀ i, i < n → Hit.bit i < 2 ^ 64 := fun i hi => Hit.bit_lt (by omega)
  obtain ⟨N2, hNN⟩ : ∃ N2, Hit.bit n = N2 := ⟨_, rfl⟩
  rw [hNN] at two1 hN2 ⊢
  have HM := Lib.hid hM
  clear hM hr hw hall hNN
  go_enter Tryd.func21, Tryd.ntmps21
  go_wp2_with fail
  obtain ⟨w1, hw1⟩ : ∃ w1 : World, w.alloc (.cells #[.int .i64 n, .slice As (setsOf ws).length cs] 36) = w1 := ⟨_, rfl⟩
  have c0 : w1.cell? ⟨w.heap.size, 0, none⟩ = some (.int .i64 n) := by rw [← hw1]; simp [go_sem]
  have c1 : w1.cell? ⟨w.heap.size, 1, none⟩ = some (.slice As (setsOf ws).length cs) := by rw [← hw1]; simp [go_sem]
  have s1 : w.heap.size < w1.heap.size := by rw [← hw1]; simp
  have B1 : Below w.heap.size w w1 := by rw [← hw1]; exact Ba (B0 w) _
  rw [hw1]
  clear hw1
  have HB1 := Lib.hid B1
  have C0 := Lib.hid c0
  have C1 := Lib.hid c1
  clear B1 c0 c1
  go_loopg [4, 5, 6] N2 (fun gg s4 s5 s6 wr => ∃ (b : Nat) (A : Option Addr) (m c : Nat), b ≤ N2 ∧ N2 - b ≤ gg ∧ s6 = .int .u64 b ∧ s5 = .int .i64 ((toB ws n b).2 : Nat) ∧ s4 = .slice A m c ∧ Aside (m = (toB ws n b).1.length) ∧
    Aside (SlII (fun x => w1.heap.size ≤ x ∧ x < wr.heap.size) wr (.slice A m c) (intsL (toB ws n b).1)) ∧ Aside (Below w1.heap.size w1 wr))
  case atStart => exact ⟨0, none, 0, 0, by omega, by omega, rfl, rfl, rfl, rfl, toB_nil ws n (fun x => w1.heap.size ≤ x ∧ x < w1.heap.size) w1, B0 w1⟩
  case round =>
    obtain ⟨b, A, m, c, hb, hg, rfl, rfl, rfl, HM1, HS1, HB⟩ := hrel
    obtain ⟨wo, rfl⟩ : ∃ wo : World, wo = wr := ⟨_, rfl⟩
    have k0 : wo.cell? ⟨w.heap.size, 0, none⟩ = some (.int .i64 n) := (Bc HB.out s1).trans C0.out
    have k1 : wo.cell? ⟨w.heap.size, 1, none⟩ = some (.slice As (setsOf ws).length cs) := (Bc HB.out s1).trans C1.out
    by_cases hlt : b < N2
    · have hki : decide (b < N2) = true := decide_eq_true hlt
      have hki2 : decide ((b : Int) < N2) = true := decide_eq_true (by omega)
      have hcall := HM.out wo b (by omega) (Bt HB1.out HB.out)
      have hneg := missF_neg ws b
      obtain ⟨hl1, hl2⟩ := toB_len ws n b
      cases hh : Hit.hit ws b with
      | false =>
        have hd : decide (0 ≤ missF ws b) = true := decide_eq_true (by
          have : ¬ missF ws b < 0 := fun q => by rw [hneg.1 q] at hh; cases hh
          omega)
        have hnx := toB_miss (n := n) hh
        have HNX := Lib.hid hnx
        have HC := Lib.hid hcall
        clear hcall hneg hh hnx
        generalize missF ws b = ms at *
        go_wp2_with (go_at_call 51; (with_reducible refine (HC.out.mono ?_)); rintro e w2 ⟨rfl, hb2⟩; have HB2 := Lib.hid (Bt HB.out hb2); have HS2 := Lib.hid ((HS1.out.keep (Agree.below hb2 fun x h => h.2)).wider (G := fun x => w1.heap.size ≤ x ∧ x < w2.heap.size) fun x h => ⟨h.1, Nat.lt_of_lt_of_le h.2 hb2.size⟩); clear hb2)
        go_roundg (N2 - (b + 1))
        case measure => omega
        case rel => exact ⟨b + 1, A, m, c, by omega, by omega, by go_num, by rw [HNX.out], rfl, by rw [HNX.out]; exact HM1.out, by rw [HNX.out]; exact HS2.out, HB2.out⟩
      | true =>
        have hms := missF_cases ws b
        rw [hh] at hms
        have hd : decide (0 ≤ missF ws b) = false := decide_eq_false (by
          rcases hms with ⟨_, q⟩ | ⟨q, _⟩
          · omega
          · cases q)
        have hcnt := toB_hit (n := n) hh
        have hirr := toB_irr (n := n) hh
        have hred := toB_red (ws := ws) (n := n) (b := b)
        have HCN := Lib.hid hcnt
        have HIR := Lib.hid hirr
        have HRE := Lib.hid hred
        have HC := Lib.hid hcall
        clear hcall hneg hh hms hcnt hirr hred
        generalize missF ws b = ms at *
        generalize (toB ws n b).2 = cnt at *
        go_wp2_with (go_at_call 51; (with_reducible refine (HC.out.mono ?_)); rintro e w2 ⟨rfl, hb2⟩; have HB2 := Lib.hid (Bt HB.out hb2); have HS2 := Lib.hid ((HS1.out.keep (Agree.below hb2 fun x h => h.2)).wider (G := fun x => w1.heap.size ≤ x ∧ x < w2.heap.size) fun x h => ⟨h.1, Nat.lt_of_lt_of_le h.2 hb2.size⟩); clear hb2)
        clear HS1 HB k0 k1
        go_loopg [7, 8] n (fun gg s7 s8 wr => ∃ i : Nat, i ≤ n ∧ n - i ≤ gg ∧ s8 = .int .i64 i ∧ s7 = .bool (irrTo ws b i) ∧ Aside (Below w2.heap.size w2 wr))
        case atStart => exact ⟨0, by omega, by omega, rfl, rfl, B0 w2⟩
        case round =>
          obtain ⟨i, hi, hgi, rfl, rfl, HBi⟩ := hrel
          have hBw := Bt HB2.out HBi.out
          have k0 : wr.cell? ⟨w.heap.size, 0, none⟩ = some (.int .i64 n) := (Bc hBw s1).trans C0.out
          have k1 : wr.cell? ⟨w.heap.size, 1, none⟩ = some (.slice As (setsOf ws).length cs) := (Bc hBw s1).trans C1.out
          have HBw := Lib.hid hBw
          clear hBw
          by_cases hil : i < n
          · have hii : decide ((i : Int) < n) = true := decide_eq_true (by omega)
            have hin : decide (i < n) = true := decide_eq_true hil
            have hnx := irrTo_succ ws b i
            have hbt := bit_of b i
            have hsh := shr_of b i (by omega)
            have hle : b >>> i ≤ b := by rw [Nat.shiftRight_eq_div_pow]; exact Nat.div_le_self _ _
            have hand : bits .and .u64 ((b >>> i : Nat) : Int) 1 = ((b >>> i &&& 1 : Nat) : Int) := Hit.u64_and (b >>> i) 1 (by omega) (by decide)
            have i64 : (i : Int) % 18446744073709551616 = i := by omega
            have i64b : min i 64 = i := by omega
            generalize b >>> i &&& 1 = y1 at *
            generalize b >>> i = y at *
            clear hle
            cases htb : b.testBit i with
            | false =>
              rw [htb] at hbt hnx
              have hnx2 : irrTo ws b (i + 1) = irrTo ws b i := by rw [hnx]; simp
              have HNX := Lib.hid hnx2
              clear hnx htb hnx2
              generalize irrTo ws b i = ib at *
              go_wp2_with fail
              go_roundg (n - (i + 1))
              case measure => omega
              case rel => exact ⟨i + 1, by omega, by omega, by go_num, by rw [HNX.out], HBi.out⟩
            | true =>
              rw [htb] at hbt hnx
              have two2 := Hit.two_u64w i (by omega)
              have hdn := Hit.u64_andn b (Hit.bit i) (by omega) (hbit i hil)
              have hzl : Hit.andn b (Hit.bit i) < 4294967296 := Hit.andn_lt (k := 32) (by omega)
              have hnz := missF_cases ws (Hit.andn b (Hit.bit i))
              generalize Hit.andn b (Hit.bit i) = z at *
              generalize Hit.bit i = bi at *
              have hcz := HM.out wr z hzl (Bt HB1.out HBw.out)
              have HCZ := Lib.hid hcz
              clear htb hcz hzl
              rcases hnz with ⟨hz, hmz⟩ | ⟨hz, hmz⟩
              · have hd2 : decide (missF ws z < 0) = true := decide_eq_true (by omega)
                have hnx2 : irrTo ws b (i + 1) = false := by rw [hnx, hz]; simp
                have HNX := Lib.hid hnx2
                clear hnx hz hnx2 hmz
                generalize missF ws z = mz at *
                generalize irrTo ws b i = ib at *
                go_wp2_with (go_at_call 51; (with_reducible refine (HCZ.out.mono ?_)); rintro e w3 ⟨rfl, hb3⟩; have HB3 := Lib.hid (Bt HBi.out hb3); clear hb3)
                go_roundg (n - (i + 1))
                case measure => omega
                case rel => exact ⟨i + 1, by omega, by omega, by go_num, by rw [HNX.out], HB3.out⟩
              · have hd2 : decide (missF ws z < 0) = false := decide_eq_false (by omega)
                have hnx2 : irrTo ws b (i + 1) = irrTo ws b i := by rw [hnx, hz]; simp
                have HNX := Lib.hid hnx2
                clear hnx hz hnx2 hmz
                generalize missF ws z = mz at *
                generalize irrTo ws b i = ib at *
                go_wp2_with (go_at_call 51; (with_reducible refine (HCZ.out.mono ?_)); rintro e w3 ⟨rfl, hb3⟩; have HB3 := Lib.hid (Bt HBi.out hb3); clear hb3)
                go_roundg (n - (i + 1))
                case measure => omega
                case rel => exact ⟨i + 1, by omega, by omega, by go_num, by rw [HNX.out], HB3.out⟩
          · have hii : decide ((i : Int) < n) = false := decide_eq_false (by omega)
            have hin : decide (i < n) = false := decide_eq_false hil
            obtain rfl : i = n := by omega
            rw [irrTo_end]
            clear hil
            have HSw := Lib.hid ((HS2.out.keep (Agree.below HBi.out fun x h => h.2)).wider (G := fun x => w1.heap.size ≤ x ∧ x < wr.heap.size) fun x h => ⟨h.1, Nat.lt_of_lt_of_le h.2 HBi.out.size⟩)
            cases hir : Hit.irr ws i b with
            | false =>
              have hnx := HRE.out hir
              have HNX := Lib.hid hnx
              clear hnx hir
              go_wp2_with fail
              go_roundg (N2 - (b + 1))
              case measure => omega
              case rel => exact ⟨b + 1, A, m, c, by omega, by omega, by go_num, by rw [HCN.out]; go_num, rfl, by rw [HNX.out]; exact HM1.out, by rw [HNX.out]; exact HSw.out, HBw.out⟩
            | true =>
              have hnx := HIR.out hir
              have HNX := Lib.hid hnx
              have HMe := Lib.hid (members_any b (by omega) wr)
              have hmm := HM1.out
              have HII := Lib.hid hmm
              have hmbl : (Hit.members b).length ≤ 1000000000 := red_len b
              clear hnx hir hmm
              go_wp2_with (first
                | (go_at_call 32; (with_reducible refine (HMe.out.mono ?_)); rintro e w4 ⟨A4, m4, c4, rfl, hm4, hO4, hb4⟩; have HV4 := Lib.hid (hO4.ints hm4 hmbl (F := fun x => w1.heap.size ≤ x ∧ x < w4.heap.size) fun x q1 q2 => ⟨Nat.le_trans HBw.out.size q1, q2⟩); have HS4 := Lib.hid ((HSw.out.keep (Agree.below hb4 fun x h => h.2)).wider (G := fun x => w1.heap.size ≤ x ∧ x < w4.heap.size) fun x h => ⟨h.1, Nat.lt_of_lt_of_le h.2 hb4.size⟩); have HB4 := Lib.hid (Bt HBw.out hb4); clear hm4 hO4 hb4)
                | (go_at_call 52; refine ((insert_any _ _ _ _ (by omega) w4 (fun x => w1.heap.size ≤ x ∧ x < w4.heap.size) (fun x h => h.2) HS4.out HV4.out).mono ?_); rintro e w5 ⟨A5, m5, c5, rfl, hm5, hs5, hb5⟩; have HB5 := Lib.hid (Bt HB4.out hb5); have hz4 := HB4.out.size; have hz5 := hb5.size; have HS5 := Lib.hid (hs5.wider (G := fun x => w1.heap.size ≤ x ∧ x < w5.heap.size) fun x h => by (rcases h with h | h); exact ⟨h.1, by omega⟩; exact ⟨by omega, h.2⟩); have HM5 := Lib.hid hm5; clear hb5 hs5 hm5 hz4 hz5))
              go_roundg (N2 - (b + 1))
              case measure => omega
              case rel => exact ⟨b + 1, A5, m5, c5, by omega, by omega, by go_num, by rw [HCN.out]; go_num, rfl, by rw [HNX.out]; exact HM5.out, by rw [HNX.out]; exact HS5.out, HB5.out⟩
    · have hki : decide (b < N2) = false := decide_eq_false hlt
      have hki2 : decide ((b : Int) < N2) = false := decide_eq_false (by omega)
      obtain rfl : b = N2 := by omega
      have HW := Lib.hid (HS1.out.wider (G := fun x => w.heap.size ≤ x ∧ x < wo.heap.size) fun x h => ⟨by omega, h.2⟩)
      have HB2 := Lib.hid (Bt HB1.out HB.out)
      clear HS1 HB hlt
      go_wp2_with fail
      go_ret2
      exact ⟨A, m, c, rfl, HM1.out, HW.out, HB2.out⟩
end Go.Proofs.YtiochodepgldpaaDoor
