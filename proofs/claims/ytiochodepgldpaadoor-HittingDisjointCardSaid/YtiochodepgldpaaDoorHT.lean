/- Walks over hitting: the search. -/
import Derived.Test.YtiochodepgldpaaDoorHS
namespace Go.Proofs.YtiochodepgldpaaDoor
open Go Go.RowKit
/-- What a search returns. -/
def srchV : Option Nat → Value
  | some r => .tuple #[.int .u32 (r : Nat), .bool true]
  | none => .tuple #[.int .u32 0, .bool false]
theorem srch_hit {ws : List Nat} {d taken n : Nat} {most : Int} (h : Hit.miss ws taken = ws.length) : Hit.srch ws d taken n most = some taken := by unfold Hit.srch Hit.srchW; rw [if_pos h]
theorem srch_cut {ws : List Nat} {d taken n : Nat} {most : Int} (h : Hit.miss ws taken ≠ ws.length) (h2 : ((Hit.apart ws taken 0).length : Int) > most) : Hit.srch ws d taken n most = none := by unfold Hit.srch Hit.srchW; rw [if_neg h, if_pos h2]
theorem srch_loop {ws : List Nat} {d taken n : Nat} {most : Int} (h : Hit.miss ws taken ≠ ws.length) (h2 : ¬ ((Hit.apart ws taken 0).length : Int) > most) : Hit.srch ws d taken n most = Hit.loopF ws d (Hit.miss ws taken) taken n most := by unfold Hit.srch Hit.srchW; rw [if_neg h, if_neg h2]
theorem loopF_some {ws : List Nat} {d i taken n r : Nat} {most : Int} (h : Hit.srch ws d (taken ||| Hit.bit n) (n + 1) (most - 1) = some r) : Hit.loopF ws (d + 1) i taken n most = some r := by unfold Hit.srch at h; simp only [Hit.loopF, h]
theorem loopF_stop {ws : List Nat} {d i taken n : Nat} {most : Int} (h : Hit.srch ws d (taken ||| Hit.bit n) (n + 1) (most - 1) = none) (h2 : ws.getD i 0 >>> (n + 1) = 0) : Hit.loopF ws (d + 1) i taken n most = none := by unfold Hit.srch at h; simp only [Hit.loopF, h, h2, if_true]
theorem loopF_next {ws : List Nat} {d i taken n : Nat} {most : Int} (h : Hit.srch ws d (taken ||| Hit.bit n) (n + 1) (most - 1) = none) (h2 : ¬ ws.getD i 0 >>> (n + 1) = 0) : Hit.loopF ws (d + 1) i taken n most = Hit.loopF ws d i taken (n + 1) most := by unfold Hit.srch at h; simp only [Hit.loopF, h, h2, if_false]
theorem srch_lt {ws : List Nat} {size taken n r : Nat} {most : Int} (hm : 0 ≤ most) (hs : size ≤ 32) (ht : taken < 2 ^ 32) (h : Hit.srch ws (size - n) taken n most = some r) : r < 2 ^ 32 := by
  have := Hit.srch_spec ws size taken n most hm
  rw [h] at this
  obtain ⟨X, hX, rfl, _⟩ := this
  exact Hit.or_lt ht (Hit.word_lt fun x hx => by have := hX.lo x hx; omega)
set_option maxHeartbeats 4000000 in
theorem search_any (v : Value) (ws : List Nat) (hw : ∀ s ∈ ws, s < 4294967296) (hwl : ws.length ≤ 1000) (size : Nat) (hsz : size ≤ 20) (F : Nat → Prop) : ∀ (d taken n : Nat) (most : Int) (w : World), d = size - n → n ≤ size → taken < 4294967296 → 0 ≤ most → most ≤ 1000 → (∀ b, F b → b < w.heap.size) → SlU .u32 F w v ws →
    Calls Tryd.prog 69 #[v, .int .u32 taken, .int .i64 n, .int .i64 most, .int .i64 size] w fun e w' => e = .returned (srchV (Hit.srch ws d taken n most)) ∧ Below w.heap.size w w' := by
  intro d
  induction d using Nat.strongRecOn with
  | ind d ih =>
  intro taken n most w hd hn ht hm0 hm1 hF hr
  have hmis : Calls Tryd.prog 55 #[v, .int .u32 taken] w fun e w' => e = .returned (.int .i64 (missF ws taken)) ∧ Below w.heap.size w w' := missed_any v ws hw taken ht w F hF hr
  have hap : ∀ W, Below w.heap.size w W → Calls Tryd.prog 77 #[v, .int .u32 taken, .int .u32 0] W fun e w' => ∃ A n c, e = .returned (.slice A n c) ∧ n = (Hit.apart ws taken 0).length ∧ Own0 w' W.heap.size 3 1 A n c (cellsV vN (Hit.apart ws taken 0)) ∧ Below W.heap.size W w' :=
    fun W hW => apart_any v ws hw hwl taken 0 ht (by omega) W F (fun b hb => Nat.lt_of_lt_of_le (hF b hb) hW.size) (hr.keep (Agree.below hW hF))
  have hrec : ∀ W k, Below w.heap.size w W → n ≤ k → k < size → 1 ≤ most → taken ||| Hit.bit k < 4294967296 → Calls Tryd.prog 69 #[v, .int .u32 ((taken ||| Hit.bit k : Nat) : Int), .int .i64 ((k : Int) + 1), .int .i64 (most - 1), .int .i64 size] W fun e w' => e = .returned (srchV (Hit.srch ws (size - (k + 1)) (taken ||| Hit.bit k) (k + 1) (most - 1))) ∧ Below W.heap.size W w' :=
    fun W k hW h1 h2 h3 h4 => by
      have := ih (size - (k + 1)) (by omega) (taken ||| Hit.bit k) (k + 1) (most - 1) W rfl (by omega) h4 (by omega) (by omega) (fun b hb => Nat.lt_of_lt_of_le (hF b hb) hW.size) (hr.keep (Agree.below hW hF))
      rw [show ((k + 1 : Nat) : Int) = (k : Int) + 1 from by omega] at this
      exact this
  obtain ⟨As, cs, rfl, hlc, hll, hat⟩ := hr.open
  have HAP := Lib.hid hap
  have HREC := Lib.hid hrec
  clear hap hrec ih hr
  by_cases h0 : Hit.miss ws taken = ws.length
  · have hz := srch_hit (d := d) (n := n) (most := most) h0
    have hms : missF ws taken = -1 := by rw [missF_eq, if_pos h0]
    rw [hms] at hmis
    have HZ := Lib.hid hz
    have HMI := Lib.hid hmis
    clear hz hms h0 hmis hat hd
    go_enter Tryd.func69, Tryd.ntmps69
    go_wp2_with fail
    refine HMI.out.mono ?_
    rintro e w1 ⟨rfl, hb1⟩
    have HB := Lib.hid hb1
    clear hb1
    go_wp2
    go_ret2
    exact ⟨by rw [HZ.out]; rfl, HB.out⟩
  · have hms : missF ws taken = (Hit.miss ws taken : Nat) := by rw [missF_eq, if_neg h0]
    obtain ⟨hml, _, _⟩ := Hit.missed_at h0
    rw [hms] at hmis
    have hpos := Hit.apart_pos h0
    have HMI := Lib.hid hmis
    have hal : (Hit.apart ws taken 0).length ≤ 1000 ∨ True := .inr trivial
    by_cases h2 : ((Hit.apart ws taken 0).length : Int) > most
    · have hz := srch_cut (d := d) (n := n) h0 h2
      have h2' : decide (most < ((Hit.apart ws taken 0).length : Int)) = true := decide_eq_true (by omega)
      have HZ := Lib.hid hz
      generalize Hit.miss ws taken = m at *
      have HAP2 := Lib.hid HAP.out
      clear hz hms h0 hmis hat hd HAP hpos h2 hal
      go_enter Tryd.func69, Tryd.ntmps69
      go_wp2_with fail
      refine HMI.out.mono ?_
      rintro e w1 ⟨rfl, hb1⟩
      have HB := Lib.hid hb1
      clear hb1
      go_wp2_with fail
      refine (HAP2.out w1 HB.out).mono ?_
      rintro e w2 ⟨A, na, c, rfl, rfl, _, hb2⟩
      have HB2 := Lib.hid (Bt HB.out hb2)
      clear hb2
      go_wp2
      go_ret2
      exact ⟨by rw [HZ.out]; rfl, HB2.out⟩
    · have hz := srch_loop (d := d) (n := n) h0 h2
      have h2' : decide (most < ((Hit.apart ws taken 0).length : Int)) = false := decide_eq_false (by omega)
      have hm2 : 1 ≤ most := by omega
      have hgm : ws.getD (Hit.miss ws taken) 0 = ws[Hit.miss ws taken] := by rw [List.getD_eq_getElem?_getD, List.getElem?_eq_getElem hml]; rfl
      obtain ⟨adm, eA, hfm, hcm⟩ := hat (Hit.miss ws taken) hml
      subst eA
      have hwm := hw _ (List.getElem_mem hml)
      have HZ := Lib.hid hz
      have HGM := Lib.hid hgm
      generalize hwm2 : ws[Hit.miss ws taken] = sm at *
      generalize Hit.miss ws taken = m at *
      have HAP2 := Lib.hid HAP.out
      subst hd
      clear hz hms h0 hmis hat HAP hpos h2 hal hgm hwm2
      go_enter Tryd.func69, Tryd.ntmps69
      go_wp2_with fail
      refine HMI.out.mono ?_
      rintro e w1 ⟨rfl, hb1⟩
      have HB := Lib.hid hb1
      clear hb1
      go_wp2_with fail
      refine (HAP2.out w1 HB.out).mono ?_
      rintro e w2 ⟨A, na, c, rfl, rfl, _, hb2⟩
      have HB2 := Lib.hid (Bt HB.out hb2)
      clear hb2
      go_wp2_with fail
      go_loopg [13] size (fun gg s13 wr => ∃ k : Nat, n ≤ k ∧ k ≤ size ∧ size - k ≤ gg ∧ s13 = .int .i64 k ∧ Aside (Hit.srch ws (size - n) taken n most = Hit.loopF ws (size - k) m taken k most) ∧ Aside (Below w.heap.size w wr))
      case atStart => exact ⟨n, by omega, by omega, by omega, rfl, HZ.out, HB2.out⟩
      case round =>
        obtain ⟨k, hnk, hk, hg, rfl, HL, HW⟩ := hrel
        by_cases hlt : k < size
        · have hki : decide ((k : Int) < size) = true := decide_eq_true (by omega)
          have hb := Hit.bit_lt (show k < 32 by omega)
          have h1 := Hit.two_u32 k (by omega)
          have h3 := Hit.u32_or taken (Hit.bit k) ht hb
          rw [← h1] at h3
          have h4 : taken ||| Hit.bit k < 4294967296 := Hit.or_lt (k := 32) ht hb
          have hcm' := (HW.out.cell (p := adm.add m) (by rw [block_of_add]; exact hF _ hfm)).trans hcm
          have hR := HREC.out wr k HW.out hnk hlt hm2 h4
          have hdk : size - k = (size - (k + 1)) + 1 := by omega
          have HL2 : Hid (Hit.srch ws (size - n) taken n most = Hit.loopF ws (size - (k + 1) + 1) m taken k most) := by have := HL.out; rw [hdk] at this; exact this
          have hmi : (m : Int) < ws.length := by omega
          obtain ⟨zz, hzz⟩ : ∃ zz, sm >>> (k + 1) = zz := ⟨_, rfl⟩
          have hshr : (sm : Int) / 2 ^ (k + 1) = (zz : Int) := by
            rw [← hzz, Nat.shiftRight_eq_div_pow]
            have e : (2 : Int) ^ (k + 1) = ((2 ^ (k + 1) : Nat) : Int) := by simp
            rw [e]; rfl
          have hmin : min (k + 1) 32 = k + 1 := by omega
          have HR := Lib.hid hR
          have HZZ := Lib.hid hzz
          have H3 := Lib.hid h3
          clear hb h1 h4 hR hdk HL hzz hcm h3
          cases hs : Hit.srch ws (size - (k + 1)) (taken ||| Hit.bit k) (k + 1) (most - 1) with
          | some r =>
            have hf := HL2.out.trans (loopF_some hs)
            have HF := Lib.hid hf
            have HR2 : Hid (Calls Tryd.prog 69 #[.slice (some adm) ws.length cs, .int .u32 ((taken ||| Hit.bit k : Nat) : Int), .int .i64 ((k : Int) + 1), .int .i64 (most - 1), .int .i64 size] wr fun e w' => e = .returned (.tuple #[.int .u32 (r : Nat), .bool true]) ∧ Below wr.heap.size wr w') := by have := HR.out; rw [hs] at this; exact this
            have h3 := H3.out
            generalize taken ||| Hit.bit k = t2 at *
            clear hf hs HR
            go_wp2_with (go_at_call 69; refine HR2.out.mono ?_; rintro e w5 ⟨rfl, hb5⟩; have Q := Lib.hid (Bt HW.out hb5); clear hb5)
            go_ret2
            exact ⟨by rw [HF.out]; rfl, Q.out⟩
          | none =>
            have HR2 : Hid (Calls Tryd.prog 69 #[.slice (some adm) ws.length cs, .int .u32 ((taken ||| Hit.bit k : Nat) : Int), .int .i64 ((k : Int) + 1), .int .i64 (most - 1), .int .i64 size] wr fun e w' => e = .returned (.tuple #[.int .u32 0, .bool false]) ∧ Below wr.heap.size wr w') := by have := HR.out; rw [hs] at this; exact this
            have hcell : ∀ W, Below wr.heap.size wr W → W.cell? (adm.add m) = some (.int .u32 (sm : Int)) := fun W hW => ((Bt HW.out hW).cell (p := adm.add m) (by rw [block_of_add]; exact hF _ hfm)).trans ((HW.out.cell (p := adm.add m) (by rw [block_of_add]; exact hF _ hfm)).symm.trans hcm')
            have HCE := Lib.hid hcell
            by_cases hz0 : zz = 0
            · have hf := HL2.out.trans (loopF_stop hs (by rw [HGM.out, HZZ.out, hz0]))
              have HF := Lib.hid hf
              have h3 := H3.out
              subst hz0
              generalize taken ||| Hit.bit k = t2 at *
              clear hf hs HR hcell hcm'
              go_wp2_with (go_at_call 69; refine HR2.out.mono ?_; rintro e w5 ⟨rfl, hb5⟩; have Q := Lib.hid (Bt HW.out hb5); have hc5 := HCE.out w5 hb5; clear hb5)
              go_ret2
              exact ⟨by rw [HF.out]; rfl, Q.out⟩
            · have hz1 : ((zz : Int) == 0) = false := by simp; exact hz0
              have hf := HL2.out.trans (loopF_next hs (by rw [HGM.out, HZZ.out]; exact hz0))
              have HF := Lib.hid hf
              have h3 := H3.out
              generalize taken ||| Hit.bit k = t2 at *
              clear hf hs HR hcell hcm' hz0
              go_wp2_with (go_at_call 69; refine HR2.out.mono ?_; rintro e w5 ⟨rfl, hb5⟩; have Q := Lib.hid (Bt HW.out hb5); have hc5 := HCE.out w5 hb5; clear hb5)
              go_roundg (size - (k + 1))
              case measure => omega
              case rel => exact ⟨k + 1, by omega, by omega, by omega, by go_num, HF.out, Q.out⟩
        · have hki : decide ((k : Int) < size) = false := decide_eq_false (by omega)
          have : k = size := by omega
          subst this
          have hf : Hit.srch ws (k - n) taken n most = none := by rw [HL.out, Nat.sub_self]; rfl
          have HF := Lib.hid hf
          clear hf
          go_wp2
          go_ret2
          exact ⟨by rw [HF.out]; rfl, HW.out⟩
end Go.Proofs.YtiochodepgldpaaDoor
