/- Walks over coupler: names of ranks. -/
import Derived.Test.YtnkjhppjjklgfaaDoorKc
namespace Go.Proofs.YtnkjhppjjklgfaaDoor
open Go Go.RowKit Go.Shelf
namespace Cou
def letF (b : Nat) : Bool := (decide (65 ≤ b) && decide (b ≤ 90)) || (decide (97 ≤ b) && decide (b ≤ 122))
def byteF (b : Nat) : Bool := letF b || (decide (48 ≤ b) && decide (b ≤ 57)) || decide (b = 95)
/-- The byte of a name at i. -/
def at_ (s : ByteArray) (i : Nat) : Nat := if h : i < s.size then s[i].toNat else 0
def NameOk (s : ByteArray) : Prop := s.size ≠ 0 ∧ s.size ≤ 32 ∧ letF (at_ s 0) = true ∧ ∀ i, i < s.size → i ≠ 0 → byteF (at_ s i) = true
instance (s : ByteArray) : Decidable (NameOk s) := by unfold NameOk; infer_instance
def nameF (s : ByteArray) : Bool := decide (NameOk s)
end Cou
set_option maxHeartbeats 1000000 in
theorem letter_any (b : Nat) (hb : b < 256) (w : World) : Calls Tryd.prog 68 #[.int .u8 b] w fun e w' => e = .returned (.bool (Cou.letF b)) ∧ w' = w := by
  go_enter Tryd.func68, Tryd.ntmps68
  go_wp2
  all_goals
    go_ret
    refine ⟨?_, rfl⟩
    show Ending.returned (Value.bool _) = _
    congr 2
    unfold Cou.letF
    rw [Bool.eq_iff_iff]
    simp
    omega
set_option maxHeartbeats 1000000 in
theorem isName_any (s : ByteArray) (w : World) : Calls Tryd.prog 56 #[.string s] w fun e w' => e = .returned (.bool (Cou.nameF s)) ∧ w' = w := by
  have hemp : s.toList.isEmpty = decide (s.size = 0) := by
    rw [ByteArray.toList_eq, ← ByteArray.size_data, ← Array.length_toList]
    cases s.data.toList <;> simp
  by_cases h0 : s.size = 0
  · have d0 : s.toList.isEmpty = true := by rw [hemp]; exact decide_eq_true h0
    have HZ : Hid (Cou.nameF s = false) := Lib.hid (decide_eq_false fun h => h.1 h0)
    clear hemp h0
    go_enter Tryd.func56, Tryd.ntmps56
    go_wp2
    go_ret
    exact ⟨by rw [HZ.out]; rfl, rfl⟩
  have d0 : s.toList.isEmpty = false := by rw [hemp]; exact decide_eq_false h0
  clear hemp
  rcases Nat.lt_or_ge 32 s.size with h1 | h1
  · have d1 : decide ((32 : Int) < s.size) = true := decide_eq_true (by omega)
    have HZ : Hid (Cou.nameF s = false) := Lib.hid (decide_eq_false fun h => by have := h.2.1; omega)
    clear h1
    go_enter Tryd.func56, Tryd.ntmps56
    go_wp2
    go_ret
    exact ⟨by rw [HZ.out]; rfl, rfl⟩
  have d1 : decide ((32 : Int) < s.size) = false := decide_eq_false (by omega)
  have hpos : 0 < s.size := by omega
  have ha0 : Cou.at_ s 0 = s[0].toNat := by unfold Cou.at_; rw [dif_pos hpos]
  have hL0 := fun W => letter_any s[0].toNat (UInt8.toNat_lt _) W
  rw [← ha0] at hL0
  cases hl0 : Cou.letF (Cou.at_ s 0) with
  | false =>
    rw [hl0] at hL0
    have HL0 := Lib.hid hL0
    have HZ : Hid (Cou.nameF s = false) := Lib.hid (decide_eq_false fun h => by have := h.2.2.1; rw [hl0] at this; cases this)
    clear hL0 hl0
    go_enter Tryd.func56, Tryd.ntmps56
    go_wp2_with (go_at_call 68; rw [← ha0]; (with_reducible refine ((HL0.out _).mono ?_)); rintro e w5 ⟨rfl, rfl⟩)
    go_ret
    exact ⟨by rw [HZ.out]; rfl, rfl⟩
  | true =>
    rw [hl0] at hL0
    have HL0 := Lib.hid hL0
    clear hL0
    go_enter Tryd.func56, Tryd.ntmps56
    go_wp2_with (go_at_call 68; rw [← ha0]; (with_reducible refine ((HL0.out _).mono ?_)); rintro e w5 ⟨rfl, rfl⟩)
    clear HL0 ha0 d0 d1
    go_loopg [3] s.size (fun gg s3 wr => ∃ k : Nat, 1 ≤ k ∧ k ≤ s.size ∧ s.size - k ≤ gg ∧ s3 = .int .i64 k ∧ Aside (∀ i, i < k → i ≠ 0 → Cou.byteF (Cou.at_ s i) = true) ∧ wr = w5)
    case atStart => exact ⟨1, by omega, by omega, by omega, rfl, fun i h1 h2 => absurd h1 (by omega), rfl⟩
    case round =>
      obtain ⟨k, hk1, hk, hg, rfl, HA, rfl⟩ := hrel
      by_cases hlt : k < s.size
      · have hki : decide ((k : Int) < s.size) = true := decide_eq_true (by omega)
        have hkl : (k : Int) < s.size := by omega
        have hbk : Cou.at_ s k = s[k].toNat := by unfold Cou.at_; rw [dif_pos hlt]
        have hb256 : s[k].toNat < 256 := UInt8.toNat_lt _
        have hN : Cou.byteF (Cou.at_ s k) = true → ∀ i, i < k + 1 → i ≠ 0 → Cou.byteF (Cou.at_ s i) = true := fun h i h1 h2 => by
          rcases Nat.lt_or_ge i k with h3 | h3
          · exact HA i h3 h2
          · have : i = k := by omega
            subst this; exact h
        have hF : Cou.byteF (Cou.at_ s k) = false → Cou.nameF s = false := fun h => decide_eq_false fun q => by
          have := q.2.2.2 k hlt (by omega)
          rw [h] at this; cases this
        rw [hbk] at hN hF
        have HN := Lib.hid hN
        have HF := Lib.hid hF
        clear hN hF HA hbk
        obtain ⟨b, hb⟩ : ∃ b, s[k].toNat = b := ⟨_, rfl⟩
        rw [hb] at hb256 HN HF
        have hL := fun W => letter_any b hb256 W
        cases hl : Cou.letF b with
        | true =>
          rw [hl] at hL
          have HL := Lib.hid hL
          have hby : Cou.byteF b = true := by unfold Cou.byteF; rw [hl]; rfl
          clear hL hl
          go_wp2_with (go_at_call 68; (with_reducible refine ((HL.out _).mono ?_)); rintro e w6 ⟨rfl, rfl⟩)
          go_roundg (s.size - (k + 1))
          case measure => omega
          case rel => exact ⟨k + 1, by omega, by omega, by omega, by go_num, HN.out hby, rfl⟩
        | false =>
          rw [hl] at hL
          have HL := Lib.hid hL
          have hby0 : Cou.byteF b = ((decide (48 ≤ b) && decide (b ≤ 57)) || decide (b = 95)) := by unfold Cou.byteF; rw [hl]; rfl
          clear hL hl
          by_cases hd : 48 ≤ b ∧ b ≤ 57
          · have e1 : decide ((b : Int) < 48) = false := decide_eq_false (by omega)
            have e2 : decide ((57 : Int) < b) = false := decide_eq_false (by omega)
            have hby : Cou.byteF b = true := by rw [hby0, decide_eq_true hd.1, decide_eq_true hd.2]; rfl
            clear hby0 hd
            go_wp2_with (go_at_call 68; (with_reducible refine ((HL.out _).mono ?_)); rintro e w6 ⟨rfl, rfl⟩)
            go_roundg (s.size - (k + 1))
            case measure => omega
            case rel => exact ⟨k + 1, by omega, by omega, by omega, by go_num, HN.out hby, rfl⟩
          · have hdd : (decide (48 ≤ b) && decide (b ≤ 57)) = false := by rw [← Bool.decide_and]; exact decide_eq_false hd
            rw [hdd, Bool.false_or] at hby0
            have hor : b < 48 ∨ 57 < b := by omega
            by_cases h95 : b = 95
            · have hby : Cou.byteF b = true := by rw [hby0]; exact decide_eq_true h95
              have e1 : decide ((b : Int) < 48) = false := decide_eq_false (by omega)
              have e2 : decide ((57 : Int) < b) = true := decide_eq_true (by omega)
              have e3 : ((b : Int) != 95) = false := by simp; omega
              clear hby0 hdd hd hor h95
              go_wp2_with (go_at_call 68; (with_reducible refine ((HL.out _).mono ?_)); rintro e w6 ⟨rfl, rfl⟩)
              go_roundg (s.size - (k + 1))
              case measure => omega
              case rel => exact ⟨k + 1, by omega, by omega, by omega, by go_num, HN.out hby, rfl⟩
            · have HZ : Hid (Cou.nameF s = false) := Lib.hid (HF.out (by rw [hby0]; exact decide_eq_false h95))
              have e3 : ((b : Int) != 95) = true := by simp; omega
              clear hby0 hdd hd h95
              rcases hor with hor | hor
              · have e1 : decide ((b : Int) < 48) = true := decide_eq_true (by omega)
                clear hor
                go_wp2_with (go_at_call 68; (with_reducible refine ((HL.out _).mono ?_)); rintro e w6 ⟨rfl, rfl⟩)
                go_ret
                exact ⟨by rw [HZ.out]; rfl, rfl⟩
              · have e1 : decide ((b : Int) < 48) = false := decide_eq_false (by omega)
                have e2 : decide ((57 : Int) < b) = true := decide_eq_true (by omega)
                clear hor
                go_wp2_with (go_at_call 68; (with_reducible refine ((HL.out _).mono ?_)); rintro e w6 ⟨rfl, rfl⟩)
                go_ret
                exact ⟨by rw [HZ.out]; rfl, rfl⟩
      · have hki : decide ((k : Int) < s.size) = false := decide_eq_false (by omega)
        have hkk : k = s.size := by omega
        have HZ : Hid (Cou.nameF s = true) := Lib.hid (decide_eq_true ⟨h0, h1, hl0, fun i hi h2 => HA i (by omega) h2⟩)
        clear HA
        go_wp2
        go_ret
        exact ⟨by rw [HZ.out]; rfl, rfl⟩
end Go.Proofs.YtnkjhppjjklgfaaDoor
