/- Walks over the reference of integer: small integers in decimal text. -/
import Derived.Test.YthgjhfapnilfhaaDoorLb
import Derived.Test.YthgjhfapnilfhaaDoorSg
import Derived.Lib.ItoaLen
import Derived.Lib.IndexBytes
namespace Go.Proofs.YthgjhfapnilfhaaDoor
open Go Go.RowKit
/-- The decimal text of an int. -/
def itoaI (n : Int) : ByteArray := ⟨(Lib.itoa n).toArray⟩
theorem itoaI_nat (n : Nat) : itoaS n = itoaI (n : Int) := rfl
theorem decFrom_snoc : ∀ (l : List UInt8) (acc : Nat) (b : UInt8), Lib.decFrom acc (l ++ [b]) = (Lib.decFrom acc l).bind fun n => (Lib.digitVal b).map fun d => n * 10 + d
  | [], acc, b => by
    simp only [List.nil_append, Lib.decFrom]
    cases h : Lib.digitVal b <;> simp
  | a :: l, acc, b => by
    simp only [List.cons_append, Lib.decFrom]
    cases h : Lib.digitVal a with
    | none => rfl
    | some e => exact decFrom_snoc l _ b
theorem digitVal_of {d : Nat} (h : d < 10) : Lib.digitVal (UInt8.ofNat (48 + d)) = some d := by
  unfold Lib.digitVal
  have : (UInt8.ofNat (48 + d)).toNat = 48 + d := by simp; omega
  rw [this, if_pos (by omega)]
  congr 1; omega
theorem decFrom_dec : ∀ (u : Nat), Lib.decFrom 0 (Lib.decDigits u) = some u := by
  intro u
  induction u using Nat.strongRecOn with
  | ind u ih =>
    rw [Lib.decDigits]
    by_cases h : u < 10
    · rw [dif_pos h]
      simp only [Lib.decFrom, digitVal_of h]
      congr 1; omega
    · rw [dif_neg h, decFrom_snoc, ih (u / 10) (by omega), digitVal_of (Nat.mod_lt u (by decide))]
      simp only [Option.bind_some, Option.map_some]
      congr 1; omega
theorem dec_head (u : Nat) : ∃ b r, Lib.decDigits u = b :: r ∧ 48 ≤ b.toNat ∧ b.toNat ≤ 57 := by
  induction u using Nat.strongRecOn with
  | ind u ih =>
    rw [Lib.decDigits]
    by_cases h : u < 10
    · rw [dif_pos h]
      exact ⟨_, [], rfl, by simp; omega, by simp; omega⟩
    · rw [dif_neg h]
      obtain ⟨b, r, e, h1, h2⟩ := ih (u / 10) (by omega)
      exact ⟨b, r ++ [UInt8.ofNat (48 + u % 10)], by rw [e]; rfl, h1, h2⟩
theorem decNat_dec (u : Nat) : Lib.decNat (Lib.decDigits u) = some u := by
  unfold Lib.decNat
  obtain ⟨b, r, e, _⟩ := dec_head u
  have h : (Lib.decDigits u).isEmpty = false := by rw [e]; rfl
  rw [h]
  exact decFrom_dec u
theorem atoi_itoa (n : Int) : Lib.atoi (Lib.itoa n) = some n := by
  unfold Lib.itoa
  by_cases h : n < 0
  · rw [if_pos h]
    unfold Lib.atoi
    simp only [beq_self_eq_true, if_true, decNat_dec, Option.map_some]
    congr 1; omega
  · rw [if_neg h]
    obtain ⟨b, r, e, h1, h2⟩ := dec_head n.toNat
    have hb1 : (b == 45) = false := by rw [beq_eq_false_iff_ne]; intro hb; rw [hb] at h1; simp at h1
    have hb2 : (b == 43) = false := by rw [beq_eq_false_iff_ne]; intro hb; rw [hb] at h1; simp at h1
    have hd := decNat_dec n.toNat
    rw [e] at hd ⊢
    unfold Lib.atoi
    simp only [hb1, hb2, Bool.false_eq_true, if_false, hd, Option.map_some]
    congr 1; omega
theorem itoaI_inj {a b : Int} (h : itoaI a = itoaI b) : a = b := by
  have h1 : Lib.itoa a = Lib.itoa b := by
    have := congrArg (fun s : ByteArray => s.data.toList) h
    simpa [itoaI] using this
  have h2 := atoi_itoa a
  rw [h1, atoi_itoa b] at h2
  exact (Option.some.inj h2).symm
theorem nDigits_mono : ∀ {k u : Nat}, u < 10 ^ k → 1 ≤ k → Lib.nDigits u ≤ k
  | 0, _, _, h => absurd h (by decide)
  | k + 1, u, h, _ => by
    by_cases h5 : u < 10
    · rw [Lib.nDigits_small h5]; omega
    · rw [Lib.nDigits_big h5]
      rw [Nat.pow_succ] at h
      rcases Nat.eq_zero_or_pos k with rfl | hk
      · simp at h; omega
      · have := nDigits_mono (k := k) (u := u / 10) (by omega) hk
        omega
theorem itoa_len {n : Int} (h0 : -1000000000 < n) (h1 : n < 1000000000) : (Lib.itoa n).length ≤ 10 := by
  unfold Lib.itoa
  split
  · rw [List.length_cons, Lib.decDigits_length]
    have := nDigits_mono (u := n.natAbs) (k := 9) (by omega) (by decide)
    omega
  · rw [Lib.decDigits_length]
    have := nDigits_mono (u := n.toNat) (k := 9) (by omega) (by decide)
    omega
theorem itoa_len8 {n : Nat} (h1 : n < 100000000) : (Lib.itoa (n : Int)).length ≤ 8 := by
  unfold Lib.itoa
  rw [if_neg (by omega), Lib.decDigits_length]
  exact nDigits_mono (by omega) (by decide)
theorem itoaI_size (n : Int) : (itoaI n).size = (Lib.itoa n).length := by simp [itoaI, ByteArray.size]
theorem itoaI_list (n : Int) : (itoaI n).data.toList = Lib.itoa n := by simp [itoaI]
theorem itoaI_neg {n : Int} (h : n < 0) : Lib.itoa n = 45 :: Lib.itoa (-n) := by
  unfold Lib.itoa
  rw [if_pos h, if_neg (by omega)]
  congr 2; omega
theorem prefix_itoa (n : Int) : Lib.hasPrefix (itoaI n).data.toList [45] = decide (n < 0) := by
  rw [itoaI_list]
  by_cases h : n < 0
  · rw [itoaI_neg h, decide_eq_true h]; rfl
  · rw [decide_eq_false h]
    unfold Lib.itoa
    rw [if_neg h]
    obtain ⟨b, r, e, h1, _⟩ := dec_head n.toNat
    rw [e]
    have hb : ((45 : UInt8) == b) = false := by rw [beq_eq_false_iff_ne]; intro hb; rw [← hb] at h1; simp at h1
    simp [Lib.hasPrefix, List.isPrefixOf, hb]
theorem cut_extract {n : Int} (h : n < 0) : (itoaI n).extract 1 (itoaI n).size = itoaI (-n) := by
  have e : (itoaI n).data.toList = 45 :: (itoaI (-n)).data.toList := by rw [itoaI_list, itoaI_list]; exact itoaI_neg h
  have e2 : ((itoaI n).extract 1 (itoaI n).size).data.toList = (itoaI (-n)).data.toList := by
    rw [Lib.extract_to_end]
    simp [e]
  cases hh : (itoaI n).extract 1 (itoaI n).size with
  | mk d =>
    rw [hh] at e2
    cases hk : itoaI (-n) with
    | mk d2 =>
      rw [hk] at e2
      congr 1
      exact Array.toList_inj.1 e2
theorem neg_append {n : Int} (h : 0 < n) : (⟨#[45]⟩ : ByteArray) ++ itoaI n = itoaI (-n) := by
  have e := itoaI_neg (n := -n) (by omega)
  rw [Int.neg_neg] at e
  have e2 : ((⟨#[45]⟩ : ByteArray) ++ itoaI n).data.toList = (itoaI (-n)).data.toList := by
    rw [itoaI_list, e, ByteArray.data_append]
    simp [itoaI]
  cases hh : (⟨#[45]⟩ : ByteArray) ++ itoaI n with
  | mk d =>
    rw [hh] at e2
    cases hk : itoaI (-n) with
    | mk d2 =>
      rw [hk] at e2
      congr 1
      exact Array.toList_inj.1 e2
theorem itoaZ_any (n : Int) (h0 : -1000000000 < n) (h1 : n < 1000000000) (w : World) (hT : TabP w) : Calls Tryd.prog 58 #[.int .i64 n] w fun e w' => e = .returned (.string (itoaI n)) ∧ Below w.heap.size w w' :=
  (Tryd.strconv_Itoa n (by omega) (by omega) w hT).mono fun _ _ ⟨he, k, os, hw⟩ => ⟨he, by rw [hw]; exact below_grow w k os⟩
set_option maxHeartbeats 1000000 in
theorem ofZ_any (n : Int) (h0 : -1000000000 < n) (h1 : n < 1000000000) (w : World) (hT : TabP w) : Calls Tryd.prog 23 #[.int .i64 n] w fun e w' => e = .returned (.string (itoaI n)) ∧ Below w.heap.size w w' := by
  have HI := Lib.hid (itoaZ_any n h0 h1 w hT)
  generalize itoaI n = s at *
  clear hT
  go_enter Tryd.func23, Tryd.ntmps23
  go_wp2_with (go_at_call 58; (with_reducible refine (HI.out.mono ?_)); rintro e w' ⟨rfl, hb⟩; have HB := Lib.hid hb; clear hb)
  go_ret
  exact ⟨rfl, HB.out⟩
theorem below_bytes (w : World) (e : TypeId) (t : ByteArray) : Below w.heap.size w (Lib.bytesWorld w e t) := by
  have h1 : Below w.heap.size w (w.drew.alloc (.cells (Lib.bytesCells w e t) e)) := (Ba (B0 w).drew _)
  refine ⟨h1.os, h1.tape, h1.output, ?_, fun i hi => ?_⟩
  · unfold Lib.bytesWorld
    simp [World.freeze]
  · unfold Lib.bytesWorld
    rw [← h1.block i hi]
    have hne : w.heap.size ≠ i := by omega
    simp [World.freeze, Array.getElem?_modify, hne]
theorem atoiZ_any (n : Int) (h0 : -1000000000 < n) (h1 : n < 1000000000) (w : World) : Calls Tryd.prog 138 #[.string (itoaI n)] w fun e w' => e = .returned (.tuple #[.int .i64 n, .nilIface]) ∧ Below w.heap.size w w' :=
  (Tryd.strconv_Atoi (itoaI n) n (by rw [itoaI_size]; have := itoa_len h0 h1; omega) (by rw [itoaI_list]; exact atoi_itoa n) w).mono fun _ _ ⟨he, t, hw⟩ => ⟨he, by rw [hw]; exact below_bytes w _ t⟩
def cutS (n : Int) : ByteArray := if n < 0 then itoaI (-n) else itoaI n
theorem cutS_size {n : Int} (h0 : -1000000000 < n) (h1 : n < 1000000000) : (cutS n).size ≤ 10 := by
  unfold cutS
  split
  · rw [itoaI_size]; exact itoa_len (by omega) (by omega)
  · rw [itoaI_size]; exact itoa_len (by omega) (by omega)
set_option maxHeartbeats 1000000 in
theorem cutZ_any (n : Int) (h0 : -1000000000 < n) (h1 : n < 1000000000) (w : World) : Calls Tryd.prog 104 #[.string (itoaI n)] w fun e w' => e = .returned (.tuple #[.bool (decide (n < 0)), .string (cutS n)]) ∧ Below w.heap.size w w' := by
  have hp := Tryd.strings_HasPrefix (itoaI n) ⟨#[45]⟩ w
  rw [show (⟨#[45]⟩ : ByteArray).data.toList = [45] from rfl, prefix_itoa] at hp
  have hsz := itoaI_size n
  have hl := itoa_len h0 h1
  by_cases h : n < 0
  · have hcut := cut_extract h
    have hc : cutS n = itoaI (-n) := by unfold cutS; rw [if_pos h]
    have hpos : 1 ≤ (itoaI n).size := by rw [hsz, itoaI_neg h]; simp
    have hle : (itoaI n).size ≤ 10 := by omega
    rw [decide_eq_true h] at hp ⊢
    rw [hc, ← hcut]
    have HP := Lib.hid hp
    clear hp hsz hl hcut hc h h0 h1
    generalize itoaI n = s at *
    go_enter Tryd.func104, Tryd.ntmps104
    go_wp2_with (go_at_call 135; (with_reducible refine (HP.out.mono ?_)); rintro e w' ⟨rfl, rfl⟩)
    go_quiet (fail)
    go_wp2_with fail
    go_ret2
    exact ⟨rfl, below_drewN (B0 _) _⟩
  · have hc : cutS n = itoaI n := by unfold cutS; rw [if_neg h]
    rw [decide_eq_false h] at hp ⊢
    rw [hc]
    have HP := Lib.hid hp
    clear hp hsz hl hc h h0 h1
    generalize itoaI n = s at *
    go_enter Tryd.func104, Tryd.ntmps104
    go_wp2_with (go_at_call 135; (with_reducible refine (HP.out.mono ?_)); rintro e w' ⟨rfl, rfl⟩)
    go_ret2
    exact ⟨rfl, B0 _⟩
end Go.Proofs.YthgjhfapnilfhaaDoor
