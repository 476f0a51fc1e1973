/- Walks over hitting: disjoint sets that are found one after another. Walks over hitting: the search. Walks over hitting: the first shortest list. Walks over hitting: how many lists hit all sets. -/
import Derived.Test.YthgjhfapnilfhaaDoorH6
namespace Go.Proofs.YthgjhfapnilfhaaDoor
open Go Go.RowKit
theorem apartGo_cons (s : Nat) (r : List Nat) (i taken out used : Nat) : Hit.apartGo (s :: r) i taken out used = if s &&& taken = 0 ∧ Hit.andn s out &&& used = 0 then i :: Hit.apartGo r (i + 1) taken out (used ||| Hit.andn s out) else Hit.apartGo r (i + 1) taken out used := rfl
set_option maxHeartbeats 2000000 in
theorem apart_any (v : Value) (ws : List Nat) (hw : ∀ s ∈ ws, s < 4294967296) (hwl : ws.length ≤ 1000) (taken out : Nat) (ht : taken < 4294967296) (ho : out < 4294967296) (w : World) (F : Nat → Prop) (hF : ∀ b, F b → b < w.heap.size) (hr : SlU .u32 F w v ws) :
    Calls Tryd.prog 73 #[v, .int .u32 taken, .int .u32 out] w fun e w' => ∃ A n c, e = .returned (.slice A n c) ∧ n = (Hit.apart ws taken out).length ∧ Own0 w' w.heap.size 3 1 A n c (cellsV vN (Hit.apart ws taken out)) ∧ Below w.heap.size w w' := by
  obtain ⟨As, cs, rfl, hlc, hll, hat⟩ := hr.open
  clear hr
  go_enter Tryd.func73, Tryd.ntmps73
  go_wp2
  go_loopg [7, 8, 13] ws.length (fun gg s7 s8 s13 wr => ∃ (k : Nat) (A : Option Addr) (n c : Nat) (dn : List Nat) (used : Nat), k ≤ ws.length ∧ ws.length - k ≤ gg ∧ s13 = .int .i64 k ∧ s7 = .slice A n c ∧ s8 = .int .u32 used ∧ used < 4294967296 ∧ n ≤ k ∧ Aside (n = dn.length) ∧
    Aside (Hit.apart ws taken out = dn ++ Hit.apartGo (ws.drop k) k taken out used) ∧ Aside (Own0 wr w.heap.size 3 1 A n c (cellsV vN dn)) ∧ Aside (Below w.heap.size w wr))
  case atStart => exact ⟨0, none, 0, 0, [], 0, by omega, by omega, rfl, rfl, rfl, by omega, by omega, rfl, rfl, Own0.nil, B0 w⟩
  case round =>
    obtain ⟨k, A, n, c, dn, used, hk, hg, rfl, rfl, rfl, hu, hnk, HN, HD, HO, HB⟩ := hrel
    by_cases hlt : k < ws.length
    · have hki : decide ((k : Int) < ws.length) = true := decide_eq_true (by omega)
      obtain ⟨ad, rfl, hf, hc⟩ := hat k hlt
      have hc' := (HB.out.cell (p := ad.add k) (by rw [block_of_add]; exact hF _ hf)).trans hc
      have hs := hw _ (List.getElem_mem hlt)
      have hd : Hit.apart ws taken out = dn ++ Hit.apartGo (ws[k] :: ws.drop (k + 1)) k taken out used := by rw [HD.out, List.drop_eq_getElem_cons hlt]
      rw [apartGo_cons] at hd
      have h1 := Hit.u32_and ws[k] taken hs ht
      have h2 := Hit.u32_andn ws[k] out hs ho
      have ha : Hit.andn ws[k] out < 4294967296 := Hit.andn_lt (k := 32) hs
      have h3 := Hit.u32_and (Hit.andn ws[k] out) used ha hu
      have h4 := Hit.u32_or used (Hit.andn ws[k] out) hu ha
      have h5 : used ||| Hit.andn ws[k] out < 4294967296 := Hit.or_lt (k := 32) hu ha
      have HD2 := Lib.hid hd
      have H5 := Lib.hid h5
      generalize Hit.andn ws[k] out = z at *
      generalize used ||| z = u2 at *
      clear hat hd HD hw hs ha h5 hc
      by_cases q1 : ws[k] &&& taken = 0
      · rw [q1] at h1
        by_cases q2 : z &&& used = 0
        · rw [q2] at h3
          have hd3 : Hit.apart ws taken out = (dn ++ [k]) ++ Hit.apartGo (ws.drop (k + 1)) (k + 1) taken out u2 := by rw [HD2.out, if_pos ⟨q1, q2⟩]; simp
          have HD3 := Lib.hid hd3
          generalize ws[k] = s at *
          clear q1 q2 hd3 HD2
          go_wp2_with (at_builtin; refine wpList_app0 elemI rfl _ _ rfl (Own0.alloc HO.out _) rfl wr.heap.size (.int .i64 (k : Int)) rfl (by simp) rfl (by omega) (by omega) (by have := HB.out.size; simp; omega) ?_; intro A' c' w2 q1 q2; have Q1 := Lib.hid q1; have Q2 := Lib.hid (Bg0 (Ba HB.out _) (Own0.alloc HO.out _) (Nat.le_refl _) q2); clear q1 q2)
          go_roundg (ws.length - (k + 1))
          case measure => omega
          case rel => exact ⟨k + 1, A', n + 1, c', dn ++ [k], u2, by omega, by omega, by go_num, rfl, rfl, H5.out, by omega, by have := HN.out; show n + 1 = (dn ++ [k]).length; simp; exact this, HD3.out, by rw [cellsV_snoc]; exact Q1.out, Q2.out⟩
        · have q2' : (((z &&& used : Nat) : Int) == 0) = false := by simp; exact q2
          have hd3 : Hit.apart ws taken out = dn ++ Hit.apartGo (ws.drop (k + 1)) (k + 1) taken out used := by rw [HD2.out, if_neg (fun h => q2 h.2)]
          have HD3 := Lib.hid hd3
          generalize z &&& used = zz at *
          generalize ws[k] = s at *
          clear q1 q2 hd3 HD2
          go_wp2
          go_roundg (ws.length - (k + 1))
          case measure => omega
          case rel => exact ⟨k + 1, A, n, c, dn, used, by omega, by omega, by go_num, rfl, rfl, hu, by omega, HN.out, HD3.out, HO.out, HB.out⟩
      · have q1' : (((ws[k] &&& taken : Nat) : Int) == 0) = false := by simp; exact q1
        have hd3 : Hit.apart ws taken out = dn ++ Hit.apartGo (ws.drop (k + 1)) (k + 1) taken out used := by rw [HD2.out, if_neg (fun h => q1 h.1)]
        have HD3 := Lib.hid hd3
        generalize ws[k] &&& taken = zz at *
        generalize ws[k] = s at *
        clear q1 hd3 HD2
        go_wp2
        go_roundg (ws.length - (k + 1))
        case measure => omega
        case rel => exact ⟨k + 1, A, n, c, dn, used, by omega, by omega, by go_num, rfl, rfl, hu, by omega, HN.out, HD3.out, HO.out, HB.out⟩
    · have hki : decide ((k : Int) < ws.length) = false := decide_eq_false (by omega)
      have : k = ws.length := by omega
      subst this
      have he : Hit.apart ws taken out = dn := by rw [HD.out, List.drop_length]; simp [Hit.apartGo]
      have HE := Lib.hid he
      clear hat he hw
      go_wp2
      go_ret
      exact ⟨A, n, c, rfl, by rw [HE.out]; exact HN.out, by rw [HE.out]; exact HO.out, HB.out⟩
end Go.Proofs.YthgjhfapnilfhaaDoor
namespace Go.Proofs.YthgjhfapnilfhaaDoor
open Go Go.RowKit
/-- What a search returns. -/
def srchV : Option Nat → Value
  | some r => .tuple #[.int .u32 (r : Nat), .bool true]
  | none => .tuple #[.int .u32 0, .bool false]
theorem srch_hit {ws : List Nat} {d taken n : Nat} {most : Int} (h : Hit.miss ws taken = ws.length) : Hit.srch ws d taken n most = some taken := by unfold Hit.srch Hit.srchW; rw [if_pos h]
theorem srch_cut {ws : List Nat} {d taken n : Nat} {most : Int} (h : Hit.miss ws taken ≠ ws.length) (h2 : ((Hit.apart ws taken 0).length : Int) > most) : Hit.srch ws d taken n most = none := by unfold Hit.srch Hit.srchW; rw [if_neg h, if_pos h2]
theorem srch_loop {ws : List Nat} {d taken n : Nat} {most : Int} (h : Hit.miss ws taken ≠ ws.length) (h2 : ¬ ((Hit.apart ws taken 0).length : Int) > most) : Hit.srch ws d taken n most = Hit.loopF ws d (Hit.miss ws taken) taken n most := by unfold Hit.srch Hit.srchW; rw [if_neg h, if_neg h2]
theorem loopF_some {ws : List Nat} {d i taken n r : Nat} {most : Int} (h : Hit.srch ws d (taken ||| Hit.bit n) (n + 1) (most - 1) = some r) : Hit.loopF ws (d + 1) i taken n most = some r := by unfold Hit.srch at h; simp only [Hit.loopF, h]
theorem loopF_stop {ws : List Nat} {d i taken n : Nat} {most : Int} (h : Hit.srch ws d (taken ||| Hit.bit n) (n + 1) (most - 1) = none) (h2 : ws.getD i 0 >>> (n + 1) = 0) : Hit.loopF ws (d + 1) i taken n most = none := by unfold Hit.srch at h; simp only [Hit.loopF, h, h2, if_true]
theorem loopF_next {ws : List Nat} {d i taken n : Nat} {most : Int} (h : Hit.srch ws d (taken ||| Hit.bit n) (n + 1) (most - 1) = none) (h2 : ¬ ws.getD i 0 >>> (n + 1) = 0) : Hit.loopF ws (d + 1) i taken n most = Hit.loopF ws d i taken (n + 1) most := by unfold Hit.srch at h; simp only [Hit.loopF, h, h2, if_false]
theorem srch_lt {ws : List Nat} {size taken n r : Nat} {most : Int} (hm : 0 ≤ most) (hs : size ≤ 32) (ht : taken < 2 ^ 32) (h : Hit.srch ws (size - n) taken n most = some r) : r < 2 ^ 32 := by
  have := Hit.srch_spec ws size taken n most hm
  rw [h] at this
  obtain ⟨X, hX, rfl, _⟩ := this
  exact Hit.or_lt ht (Hit.word_lt fun x hx => by have := hX.lo x hx; omega)
set_option maxHeartbeats 4000000 in
theorem search_any (v : Value) (ws : List Nat) (hw : ∀ s ∈ ws, s < 4294967296) (hwl : ws.length ≤ 1000) (size : Nat) (hsz : size ≤ 20) (F : Nat → Prop) : ∀ (d taken n : Nat) (most : Int) (w : World), d = size - n → n ≤ size → taken < 4294967296 → 0 ≤ most → most ≤ 1000 → (∀ b, F b → b < w.heap.size) → SlU .u32 F w v ws →
    Calls Tryd.prog 72 #[v, .int .u32 taken, .int .i64 n, .int .i64 most, .int .i64 size] w fun e w' => e = .returned (srchV (Hit.srch ws d taken n most)) ∧ Below w.heap.size w w' := by
  intro d
  induction d using Nat.strongRecOn with
  | ind d ih =>
  intro taken n most w hd hn ht hm0 hm1 hF hr
  have hmis : Calls Tryd.prog 51 #[v, .int .u32 taken] w fun e w' => e = .returned (.int .i64 (missF ws taken)) ∧ Below w.heap.size w w' := missed_any v ws hw taken ht w F hF hr
  have hap : ∀ W, Below w.heap.size w W → Calls Tryd.prog 73 #[v, .int .u32 taken, .int .u32 0] W fun e w' => ∃ A n c, e = .returned (.slice A n c) ∧ n = (Hit.apart ws taken 0).length ∧ Own0 w' W.heap.size 3 1 A n c (cellsV vN (Hit.apart ws taken 0)) ∧ Below W.heap.size W w' :=
    fun W hW => apart_any v ws hw hwl taken 0 ht (by omega) W F (fun b hb => Nat.lt_of_lt_of_le (hF b hb) hW.size) (hr.keep (Agree.below hW hF))
  have hrec : ∀ W k, Below w.heap.size w W → n ≤ k → k < size → 1 ≤ most → taken ||| Hit.bit k < 4294967296 → Calls Tryd.prog 72 #[v, .int .u32 ((taken ||| Hit.bit k : Nat) : Int), .int .i64 ((k : Int) + 1), .int .i64 (most - 1), .int .i64 size] W fun e w' => e = .returned (srchV (Hit.srch ws (size - (k + 1)) (taken ||| Hit.bit k) (k + 1) (most - 1))) ∧ Below W.heap.size W w' :=
    fun W k hW h1 h2 h3 h4 => by
      have := ih (size - (k + 1)) (by omega) (taken ||| Hit.bit k) (k + 1) (most - 1) W rfl (by omega) h4 (by omega) (by omega) (fun b hb => Nat.lt_of_lt_of_le (hF b hb) hW.size) (hr.keep (Agree.below hW hF))
      rw [show ((k + 1 : Nat) : Int) = (k : Int) + 1 from by omega] at this
      exact this
  obtain ⟨As, cs, rfl, hlc, hll, hat⟩ := hr.open
  have HAP := Lib.hid hap
  have HREC := Lib.hid hrec
  clear hap hrec ih hr
  by_cases h0 : Hit.miss ws taken = ws.length
  · have hz := srch_hit (d := d) (n := n) (most := most) h0
    have hms : missF ws taken = -1 := by rw [missF_eq, if_pos h0]
    rw [hms] at hmis
    have HZ := Lib.hid hz
    have HMI := Lib.hid hmis
    clear hz hms h0 hmis hat hd
    go_enter Tryd.func72, Tryd.ntmps72
    go_wp2_with fail
    refine HMI.out.mono ?_
    rintro e w1 ⟨rfl, hb1⟩
    have HB := Lib.hid hb1
    clear hb1
    go_wp2
    go_ret2
    exact ⟨by rw [HZ.out]; rfl, HB.out⟩
  · have hms : missF ws taken = (Hit.miss ws taken : Nat) := by rw [missF_eq, if_neg h0]
    obtain ⟨hml, _, _⟩ := Hit.missed_at h0
    rw [hms] at hmis
    have hpos := Hit.apart_pos h0
    have HMI := Lib.hid hmis
    have hal : (Hit.apart ws taken 0).length ≤ 1000 ∨ True := .inr trivial
    by_cases h2 : ((Hit.apart ws taken 0).length : Int) > most
    · have hz := srch_cut (d := d) (n := n) h0 h2
      have h2' : decide (most < ((Hit.apart ws taken 0).length : Int)) = true := decide_eq_true (by omega)
      have HZ := Lib.hid hz
      generalize Hit.miss ws taken = m at *
      have HAP2 := Lib.hid HAP.out
      clear hz hms h0 hmis hat hd HAP hpos h2 hal
      go_enter Tryd.func72, Tryd.ntmps72
      go_wp2_with fail
      refine HMI.out.mono ?_
      rintro e w1 ⟨rfl, hb1⟩
      have HB := Lib.hid hb1
      clear hb1
      go_wp2_with fail
      refine (HAP2.out w1 HB.out).mono ?_
      rintro e w2 ⟨A, na, c, rfl, rfl, _, hb2⟩
      have HB2 := Lib.hid (Bt HB.out hb2)
      clear hb2
      go_wp2
      go_ret2
      exact ⟨by rw [HZ.out]; rfl, HB2.out⟩
    · have hz := srch_loop (d := d) (n := n) h0 h2
      have h2' : decide (most < ((Hit.apart ws taken 0).length : Int)) = false := decide_eq_false (by omega)
      have hm2 : 1 ≤ most := by omega
      have hgm : ws.getD (Hit.miss ws taken) 0 = ws[Hit.miss ws taken] := by rw [List.getD_eq_getElem?_getD, List.getElem?_eq_getElem hml]; rfl
      obtain ⟨adm, eA, hfm, hcm⟩ := hat (Hit.miss ws taken) hml
      subst eA
      have hwm := hw _ (List.getElem_mem hml)
      have HZ := Lib.hid hz
      have HGM := Lib.hid hgm
      generalize hwm2 : ws[Hit.miss ws taken] = sm at *
      generalize Hit.miss ws taken = m at *
      have HAP2 := Lib.hid HAP.out
      subst hd
      clear hz hms h0 hmis hat HAP hpos h2 hal hgm hwm2
      go_enter Tryd.func72, Tryd.ntmps72
      go_wp2_with fail
      refine HMI.out.mono ?_
      rintro e w1 ⟨rfl, hb1⟩
      have HB := Lib.hid hb1
      clear hb1
      go_wp2_with fail
      refine (HAP2.out w1 HB.out).mono ?_
      rintro e w2 ⟨A, na, c, rfl, rfl, _, hb2⟩
      have HB2 := Lib.hid (Bt HB.out hb2)
      clear hb2
      go_wp2_with fail
      go_loopg [13] size (fun gg s13 wr => ∃ k : Nat, n ≤ k ∧ k ≤ size ∧ size - k ≤ gg ∧ s13 = .int .i64 k ∧ Aside (Hit.srch ws (size - n) taken n most = Hit.loopF ws (size - k) m taken k most) ∧ Aside (Below w.heap.size w wr))
      case atStart => exact ⟨n, by omega, by omega, by omega, rfl, HZ.out, HB2.out⟩
      case round =>
        obtain ⟨k, hnk, hk, hg, rfl, HL, HW⟩ := hrel
        by_cases hlt : k < size
        · have hki : decide ((k : Int) < size) = true := decide_eq_true (by omega)
          have hb := Hit.bit_lt (show k < 32 by omega)
          have h1 := Hit.two_u32 k (by omega)
          have h3 := Hit.u32_or taken (Hit.bit k) ht hb
          rw [← h1] at h3
          have h4 : taken ||| Hit.bit k < 4294967296 := Hit.or_lt (k := 32) ht hb
          have hcm' := (HW.out.cell (p := adm.add m) (by rw [block_of_add]; exact hF _ hfm)).trans hcm
          have hR := HREC.out wr k HW.out hnk hlt hm2 h4
          have hdk : size - k = (size - (k + 1)) + 1 := by omega
          have HL2 : Hid (Hit.srch ws (size - n) taken n most = Hit.loopF ws (size - (k + 1) + 1) m taken k most) := by have := HL.out; rw [hdk] at this; exact this
          have hmi : (m : Int) < ws.length := by omega
          obtain ⟨zz, hzz⟩ : ∃ zz, sm >>> (k + 1) = zz := ⟨_, rfl⟩
          have hshr : (sm : Int) / 2 ^ (k + 1) = (zz : Int) := by
            rw [← hzz, Nat.shiftRight_eq_div_pow]
            have e : (2 : Int) ^ (k + 1) = ((2 ^ (k + 1) : Nat) : Int) := by simp
            rw [e]; rfl
          have hmin : min (k + 1) 32 = k + 1 := by omega
          have HR := Lib.hid hR
          have HZZ := Lib.hid hzz
          have H3 := Lib.hid h3
          clear hb h1 h4 hR hdk HL hzz hcm h3
          cases hs : Hit.srch ws (size - (k + 1)) (taken ||| Hit.bit k) (k + 1) (most - 1) with
          | some r =>
            have hf := HL2.out.trans (loopF_some hs)
            have HF := Lib.hid hf
            have HR2 : Hid (Calls Tryd.prog 72 #[.slice (some adm) ws.length cs, .int .u32 ((taken ||| Hit.bit k : Nat) : Int), .int .i64 ((k : Int) + 1), .int .i64 (most - 1), .int .i64 size] wr fun e w' => e = .returned (.tuple #[.int .u32 (r : Nat), .bool true]) ∧ Below wr.heap.size wr w') := by have := HR.out; rw [hs] at this; exact this
            have h3 := H3.out
            generalize taken ||| Hit.bit k = t2 at *
            clear hf hs HR
            go_wp2_with (go_at_call 72; refine HR2.out.mono ?_; rintro e w5 ⟨rfl, hb5⟩; have Q := Lib.hid (Bt HW.out hb5); clear hb5)
            go_ret2
            exact ⟨by rw [HF.out]; rfl, Q.out⟩
          | none =>
            have HR2 : Hid (Calls Tryd.prog 72 #[.slice (some adm) ws.length cs, .int .u32 ((taken ||| Hit.bit k : Nat) : Int), .int .i64 ((k : Int) + 1), .int .i64 (most - 1), .int .i64 size] wr fun e w' => e = .returned (.tuple #[.int .u32 0, .bool false]) ∧ Below wr.heap.size wr w') := by have := HR.out; rw [hs] at this; exact this
            have hcell : ∀ W, Below wr.heap.size wr W → W.cell? (adm.add m) = some (.int .u32 (sm : Int)) := fun W hW => ((Bt HW.out hW).cell (p := adm.add m) (by rw [block_of_add]; exact hF _ hfm)).trans ((HW.out.cell (p := adm.add m) (by rw [block_of_add]; exact hF _ hfm)).symm.trans hcm')
            have HCE := Lib.hid hcell
            by_cases hz0 : zz = 0
            · have hf := HL2.out.trans (loopF_stop hs (by rw [HGM.out, HZZ.out, hz0]))
              have HF := Lib.hid hf
              have h3 := H3.out
              subst hz0
              generalize taken ||| Hit.bit k = t2 at *
              clear hf hs HR hcell hcm'
              go_wp2_with (go_at_call 72; refine HR2.out.mono ?_; rintro e w5 ⟨rfl, hb5⟩; have Q := Lib.hid (Bt HW.out hb5); have hc5 := HCE.out w5 hb5; clear hb5)
              go_ret2
              exact ⟨by rw [HF.out]; rfl, Q.out⟩
            · have hz1 : ((zz : Int) == 0) = false := by simp; exact hz0
              have hf := HL2.out.trans (loopF_next hs (by rw [HGM.out, HZZ.out]; exact hz0))
              have HF := Lib.hid hf
              have h3 := H3.out
              generalize taken ||| Hit.bit k = t2 at *
              clear hf hs HR hcell hcm' hz0
              go_wp2_with (go_at_call 72; refine HR2.out.mono ?_; rintro e w5 ⟨rfl, hb5⟩; have Q := Lib.hid (Bt HW.out hb5); have hc5 := HCE.out w5 hb5; clear hb5)
              go_roundg (size - (k + 1))
              case measure => omega
              case rel => exact ⟨k + 1, by omega, by omega, by omega, by go_num, HF.out, Q.out⟩
        · have hki : decide ((k : Int) < size) = false := decide_eq_false (by omega)
          have : k = size := by omega
          subst this
          have hf : Hit.srch ws (k - n) taken n most = none := by rw [HL.out, Nat.sub_self]; rfl
          have HF := Lib.hid hf
          clear hf
          go_wp2
          go_ret2
          exact ⟨by rw [HF.out]; rfl, HW.out⟩
end Go.Proofs.YthgjhfapnilfhaaDoor
namespace Go.Proofs.YthgjhfapnilfhaaDoor
open Go Go.RowKit
theorem leastGo_zero (ws : List Nat) (size k : Nat) : Hit.leastGo ws size 0 k = (Hit.srch ws size 0 0 (k : Int)).getD 0 := rfl
theorem leastGo_some {ws : List Nat} {size f k r : Nat} (h : Hit.srch ws size 0 0 (k : Int) = some r) : Hit.leastGo ws size f k = r := by
  cases f with
  | zero => rw [leastGo_zero, h]; rfl
  | succ f => simp only [Hit.leastGo, h]
theorem leastGo_none {ws : List Nat} {size f k : Nat} (h : Hit.srch ws size 0 0 (k : Int) = none) : Hit.leastGo ws size (f + 1) k = Hit.leastGo ws size f (k + 1) := by simp only [Hit.leastGo, h]
theorem srch_full {ws : List Nat} {size : Nat} (hg : Hit.Good ws size) : Hit.srch ws size 0 0 (size : Int) ≠ none := by
  intro h
  have := Hit.srch_spec ws size 0 0 size (by omega)
  rw [Nat.sub_zero, h] at this
  exact this _ (Hit.all_ok hg)
theorem least_lt {ws : List Nat} {size : Nat} (hg : Hit.Good ws size) (hs : size ≤ 32) : Hit.least ws size < 4294967296 := by
  obtain ⟨X, hX⟩ := Hit.least_spec hg
  rw [hX.word]
  exact Hit.word_lt (k := 32) fun x hx => by have := hX.ok.lo x hx; omega
theorem good_lt {ws : List Nat} {size : Nat} (hg : Hit.Good ws size) (hs : size ≤ 32) : ∀ s ∈ ws, s < 4294967296 := fun s h => Nat.lt_of_lt_of_le (hg s h).2 (show 2 ^ size ≤ 2 ^ 32 from Nat.pow_le_pow_right (by decide) hs)
set_option maxHeartbeats 2000000 in
theorem least_any (n : Nat) (hn : n ≤ 20) (vs : Value) (ws : List Nat) (hg : Hit.Good ws n) (hwl : ws.length ≤ 1000) (w : World) (F : Nat → Prop) (hF : ∀ b, F b → b < w.heap.size) (hr : SlII F w vs (setsOf ws)) :
    Calls Tryd.prog 35 #[.agg #[.int .i64 n, vs]] w fun e w' => e = .returned (.int .u32 (Hit.least ws n : Nat)) ∧ Below w.heap.size w w' := by
  have hw := good_lt hg (by omega)
  have hW : ∀ W, Below w.heap.size w W → Calls Tryd.prog 36 #[.agg #[.int .i64 n, vs]] W fun e w' => ∃ A m c, e = .returned (.slice A m c) ∧ m = ws.length ∧ Own0 w' W.heap.size 95 1 A m c (cellsV (vU .u32) ws) ∧ Below W.heap.size W w' :=
    fun W hW => words_any n vs ws hw hwl W F (fun b hb => Nat.lt_of_lt_of_le (hF b hb) hW.size) (hr.keep (Agree.below hW hF))
  have hS : ∀ W A m c k, k ≤ n → m = ws.length → Own0 W w.heap.size 95 1 A m c (cellsV (vU .u32) ws) → Calls Tryd.prog 72 #[.slice A m c, .int .u32 0, .int .i64 0, .int .i64 ((k : Nat) : Int), .int .i64 n] W fun e w' => e = .returned (srchV (Hit.srch ws n 0 0 (k : Int))) ∧ Below W.heap.size W w' :=
    fun W A m c k hk hm hO => by
      have := search_any (.slice A m c) ws hw hwl n hn (fun b => b < W.heap.size) n 0 0 (k : Int) W (by omega) (by omega) (by omega) (by omega) (by omega) (fun _ h => h) (hO.words hm (by omega) fun b _ h => h)
      exact this
  obtain ⟨As, cs, rfl, _⟩ := hr.open
  have HW := Lib.hid hW
  have HS := Lib.hid hS
  have HG := Lib.hid hg
  clear hW hS hr hw hg
  go_enter Tryd.func35, Tryd.ntmps35
  go_wp2_with fail
  refine (HW.out _ (Ba (B0 w) _)).mono ?_
  rintro e w1 ⟨A, m, c, rfl, hm, hO, hb1⟩
  have c0 : w1.cell? ⟨w.heap.size, 0, none⟩ = some (.int .i64 n) := (Bc hb1 (by simp)).trans (by simp [go_sem])
  have s1 : w.heap.size < w1.heap.size := by have := hb1.size; simp at this; omega
  have HB := Lib.hid (Bt (Ba (B0 w) _) hb1)
  have HO := Lib.hid (hO.more (base' := w.heap.size) (by simp))
  have HM := Lib.hid hm
  have C0 := Lib.hid c0
  clear hb1 hO hm c0
  go_wp2_with fail
  go_loopg [4] n (fun gg s4 wr => ∃ k : Nat, k ≤ n ∧ n - k ≤ gg ∧ s4 = .int .i64 k ∧ Aside (Hit.least ws n = Hit.leastGo ws n (n - k) k) ∧ Aside (Below w1.heap.size w1 wr))
  case atStart => exact ⟨0, by omega, by omega, rfl, rfl, B0 w1⟩
  case round =>
    obtain ⟨k, hk, hg, rfl, HL, HBw⟩ := hrel
    have c0 := (Bc HBw.out s1).trans C0.out
    have hR := HS.out wr A m c k hk HM.out (HO.out.below HBw.out)
    cases hs : Hit.srch ws n 0 0 (k : Int) with
    | some r =>
      rw [hs] at hR
      have hf := HL.out.trans (leastGo_some hs)
      have HF := Lib.hid hf
      have HR2 : Hid (Calls Tryd.prog 72 #[.slice A m c, .int .u32 0, .int .i64 0, .int .i64 ((k : Nat) : Int), .int .i64 n] wr fun e w' => e = .returned (.tuple #[.int .u32 (r : Nat), .bool true]) ∧ Below wr.heap.size wr w') := hR
      clear hf hs hR
      go_wp2_with (go_at_call 72; refine HR2.out.mono ?_; rintro e w5 ⟨rfl, hb5⟩; have Q := Lib.hid (Bt HB.out (Bt HBw.out hb5)); clear hb5)
      go_ret
      exact ⟨by rw [HF.out]; rfl, Q.out⟩
    | none =>
      rw [hs] at hR
      have hkn : k < n := by
        rcases Nat.lt_or_ge k n with h | h
        · exact h
        · exfalso
          have e : k = n := by omega
          rw [e] at hs
          exact srch_full HG.out hs
      have hf : Hit.least ws n = Hit.leastGo ws n (n - (k + 1)) (k + 1) := by rw [HL.out, show n - k = (n - (k + 1)) + 1 from by omega, leastGo_none hs]
      have HF := Lib.hid hf
      have HR2 : Hid (Calls Tryd.prog 72 #[.slice A m c, .int .u32 0, .int .i64 0, .int .i64 ((k : Nat) : Int), .int .i64 n] wr fun e w' => e = .returned (.tuple #[.int .u32 0, .bool false]) ∧ Below wr.heap.size wr w') := hR
      clear hf hs hR
      go_wp2_with (go_at_call 72; refine HR2.out.mono ?_; rintro e w5 ⟨rfl, hb5⟩; have Q := Lib.hid (Bt HBw.out hb5); clear hb5)
      go_roundg (n - (k + 1))
      case measure => omega
      case rel => exact ⟨k + 1, by omega, by omega, by go_num, HF.out, Q.out⟩
set_option maxHeartbeats 2000000 in
theorem leastL_any (n : Nat) (hn : n ≤ 20) (vs : Value) (ws : List Nat) (hg : Hit.Good ws n) (hwl : ws.length ≤ 100) (w : World) (F : Nat → Prop) (hF : ∀ b, F b → b < w.heap.size) (hr : SlII F w vs (setsOf ws)) (hT : Tab32 w) :
    Calls Tryd.prog 18 #[.agg #[.int .i64 n, vs]] w fun e w' => ∃ A m c, e = .returned (.tuple #[.slice A m c, .int .i64 0]) ∧ m = (Hit.members (Hit.least ws n)).length ∧ Own0 w' w.heap.size 3 1 A m c (cellsV vN (Hit.members (Hit.least ws n))) ∧ Below w.heap.size w w' := by
  have hC : ∀ W, Below w.heap.size w W → Calls Tryd.prog 33 #[.agg #[.int .i64 n, vs]] W fun e w' => e = .returned (.int .i64 0) ∧ Below W.heap.size W w' :=
    fun W hW => by
      have := check_any n vs (setsOf ws) W F (fun b hb => Nat.lt_of_lt_of_le (hF b hb) hW.size) (hr.keep (Agree.below hW hF))
      rw [show Hit.checkF n (setsOf ws) = 0 from Hit.checkF_of hn hwl hg] at this
      exact this
  have hL : ∀ W, Below w.heap.size w W → Calls Tryd.prog 35 #[.agg #[.int .i64 n, vs]] W fun e w' => e = .returned (.int .u32 (Hit.least ws n : Nat)) ∧ Below W.heap.size W w' :=
    fun W hW => least_any n hn vs ws hg (by omega) W F (fun b hb => Nat.lt_of_lt_of_le (hF b hb) hW.size) (hr.keep (Agree.below hW hF))
  obtain ⟨As, cs, rfl, _⟩ := hr.open
  have hlt := least_lt hg (by omega)
  have HC := Lib.hid hC
  have HL := Lib.hid hL
  have HT := Lib.hid hT
  have HLT := Lib.hid hlt
  generalize hq : Hit.least ws n = q at *
  have HQ := Lib.hid hq
  clear hC hL hr hT hlt hg hq
  go_enter Tryd.func18, Tryd.ntmps18
  go_wp2_with fail
  refine (HC.out _ (Ba (B0 w) _)).mono ?_
  rintro e w1 ⟨rfl, hb1⟩
  have c0 : w1.cell? ⟨w.heap.size, 0, none⟩ = some (.int .i64 n) := (Bc hb1 (by simp)).trans (by simp [go_sem])
  have c1 : w1.cell? ⟨w.heap.size, 1, none⟩ = some (.slice As (setsOf ws).length cs) := (Bc hb1 (by simp)).trans (by simp [go_sem])
  have HB := Lib.hid (Bt (Ba (B0 w) _) hb1)
  clear hb1
  go_wp2_with fail
  refine (HL.out _ HB.out).mono ?_
  rintro e w2 ⟨rfl, hb2⟩
  have HB2 := Lib.hid (Bt HB.out hb2)
  clear hb2 c0 c1
  go_wp2_with fail
  refine (numbers_any q HLT.out w2 (HT.out.below HB2.out)).mono ?_
  rintro e w3 ⟨A, m, c, rfl, hm, hO, hb3⟩
  have Q0 := Lib.hid hm
  have Q1 := Lib.hid (hO.more HB2.out.size)
  have Q2 := Lib.hid (Bt HB2.out hb3)
  clear hm hO hb3
  go_wp2
  go_ret2
  exact ⟨A, m, c, rfl, Q0.out, Q1.out, Q2.out⟩
end Go.Proofs.YthgjhfapnilfhaaDoor
namespace Go.Proofs.YthgjhfapnilfhaaDoor
open Go Go.RowKit
def cntTo (ws : List Nat) (k : Nat) : Nat := ((List.range k).filter fun x => Hit.hit ws x).length
theorem cntTo_succ (ws : List Nat) (k : Nat) : cntTo ws (k + 1) = cntTo ws k + (if Hit.hit ws k then 1 else 0) := by
  unfold cntTo
  rw [List.range_succ, List.filter_append, List.length_append, List.filter_cons, List.filter_nil]
  split <;> rfl
theorem cntTo_le (ws : List Nat) (k : Nat) : cntTo ws k ≤ k := Nat.le_trans (List.length_filter_le _ _) (by simp)
set_option maxHeartbeats 1000000 in
theorem of4 (w : World) : Calls Tryd.prog 52 #[.int .i64 4] w fun e w' => e = .returned (.string ⟨#[52]⟩) ∧ Below w.heap.size w w' := by
  go_enter Tryd.func52, Tryd.ntmps52
  go_wp2
  go_ret
  exact ⟨rfl, B0 w⟩
set_option maxHeartbeats 2000000 in
theorem count_any (n : Nat) (hn : n ≤ 20) (vs : Value) (ws : List Nat) (hg : Hit.Good ws n) (hwl : ws.length ≤ 100) (str : ByteArray) (w : World) (F : Nat → Prop) (hF : ∀ b, F b → b < w.heap.size) (hr : SlII F w vs (setsOf ws))
    (hOf : ∀ W, Calls Tryd.prog 52 #[.int .i64 (cntTo ws (2 ^ n) : Nat)] W fun e w' => e = .returned (.string str) ∧ Below W.heap.size W w') :
    Calls Tryd.prog 19 #[.agg #[.int .i64 n, vs]] w fun e w' => e = .returned (.tuple #[.string str, .int .i64 0]) ∧ Below w.heap.size w w' := by
  have hw := good_lt hg (by omega)
  have hC : ∀ W, Below w.heap.size w W → Calls Tryd.prog 33 #[.agg #[.int .i64 n, vs]] W fun e w' => e = .returned (.int .i64 0) ∧ Below W.heap.size W w' :=
    fun W hW => by
      have := check_any n vs (setsOf ws) W F (fun b hb => Nat.lt_of_lt_of_le (hF b hb) hW.size) (hr.keep (Agree.below hW hF))
      rw [show Hit.checkF n (setsOf ws) = 0 from Hit.checkF_of hn hwl hg] at this
      exact this
  have hW : ∀ W, Below w.heap.size w W → Calls Tryd.prog 36 #[.agg #[.int .i64 n, vs]] W fun e w' => ∃ A m c, e = .returned (.slice A m c) ∧ m = ws.length ∧ Own0 w' W.heap.size 95 1 A m c (cellsV (vU .u32) ws) ∧ Below W.heap.size W w' :=
    fun W hW => words_any n vs ws hw (by omega) W F (fun b hb => Nat.lt_of_lt_of_le (hF b hb) hW.size) (hr.keep (Agree.below hW hF))
  have hM : ∀ W A m c x, x < 4294967296 → m = ws.length → Own0 W w.heap.size 95 1 A m c (cellsV (vU .u32) ws) → Calls Tryd.prog 51 #[.slice A m c, .int .u32 ((x : Nat) : Int)] W fun e w' => e = .returned (.int .i64 (missF ws x)) ∧ Below W.heap.size W w' :=
    fun W A m c x hx hm hO => missed_any _ ws hw x hx W (fun b => b < W.heap.size) (fun _ h => h) (hO.words hm (by omega) fun b _ h => h)
  obtain ⟨As, cs, rfl, _⟩ := hr.open
  have hT : 2 ^ n ≤ 1048576 := Nat.le_trans (Nat.pow_le_pow_right (by decide) hn) (by decide)
  have hshl : (2 : Int) ^ n % 4294967296 = ((2 ^ n : Nat) : Int) := Hit.two_u32 n (by omega)
  have hcl := cntTo_le ws
  generalize hTT : 2 ^ n = T at *
  have HC := Lib.hid hC
  have HW := Lib.hid hW
  have HM := Lib.hid hM
  have HOF := Lib.hid hOf
  have HCL := Lib.hid hcl
  clear hC hW hM hOf hr hw hg hTT hcl
  go_enter Tryd.func19, Tryd.ntmps19
  go_wp2_with fail
  refine (HC.out _ (Ba (B0 w) _)).mono ?_
  rintro e w1 ⟨rfl, hb1⟩
  have c0 : w1.cell? ⟨w.heap.size, 0, none⟩ = some (.int .i64 n) := (Bc hb1 (by simp)).trans (by simp [go_sem])
  have c1 : w1.cell? ⟨w.heap.size, 1, none⟩ = some (.slice As (setsOf ws).length cs) := (Bc hb1 (by simp)).trans (by simp [go_sem])
  have s1 : w.heap.size < w1.heap.size := by have := hb1.size; simp at this; omega
  have HB := Lib.hid (Bt (Ba (B0 w) _) hb1)
  clear hb1
  go_wp2_with fail
  refine (HW.out _ HB.out).mono ?_
  rintro e w2 ⟨A, m, c, rfl, hm, hO, hb2⟩
  have c02 := (Bc hb2 s1).trans c0
  have HB2 := Lib.hid (Bt HB.out hb2)
  have HO := Lib.hid (hO.more HB.out.size)
  have HMm := Lib.hid hm
  clear hb2 hO hm c0 c1
  go_wp2_with fail
  rw [hshl]
  clear hshl
  go_loopg [6, 18] T (fun gg s6 s18 wr => ∃ k : Nat, k ≤ T ∧ T - k ≤ gg ∧ s18 = .int .u32 k ∧ s6 = .int .i64 (cntTo ws k : Nat) ∧ Aside (Own0 wr w.heap.size 95 1 A m c (cellsV (vU .u32) ws)) ∧ Aside (Below w.heap.size w wr))
  case atStart => exact ⟨0, by omega, by omega, rfl, rfl, HO.out, HB2.out⟩
  case round =>
    obtain ⟨k, hk, hg, rfl, rfl, HO4, HB4⟩ := hrel
    by_cases hlt : k < T
    · have hki : decide ((k : Int) < T) = true := decide_eq_true (by omega)
      have hneg := missF_neg ws k
      have hcs := cntTo_succ ws k
      have hck := HCL.out k
      have HMz := Lib.hid (HM.out wr A m c k (by omega) HMm.out HO4.out)
      have HNG := Lib.hid hneg
      have HCS := Lib.hid hcs
      generalize cntTo ws k = q at *
      clear hneg hcs
      cases hz : Hit.hit ws k with
      | true =>
        have hd2 : decide (missF ws k < 0) = true := decide_eq_true (HNG.out.2 hz)
        have hS : cntTo ws (k + 1) = q + 1 := by rw [HCS.out, hz]; rfl
        have HS2 := Lib.hid hS
        generalize missF ws k = ms2 at *
        clear hz hS
        go_wp2_with (go_at_call 51; refine HMz.out.mono ?_; rintro e w5 ⟨rfl, hb5⟩; have Q1 := Lib.hid (HO4.out.below hb5); have Q2 := Lib.hid (Bt HB4.out hb5); clear hb5)
        go_roundg (T - (k + 1))
        case measure => omega
        case rel => exact ⟨k + 1, by omega, by omega, by go_num, by rw [HS2.out]; go_num, Q1.out, Q2.out⟩
      | false =>
        have hd2 : decide (missF ws k < 0) = false := decide_eq_false (fun h => by rw [HNG.out.1 h] at hz; cases hz)
        have hS : cntTo ws (k + 1) = q := by rw [HCS.out, hz]; rfl
        have HS2 := Lib.hid hS
        generalize missF ws k = ms2 at *
        clear hz hS
        go_wp2_with (go_at_call 51; refine HMz.out.mono ?_; rintro e w5 ⟨rfl, hb5⟩; have Q1 := Lib.hid (HO4.out.below hb5); have Q2 := Lib.hid (Bt HB4.out hb5); clear hb5)
        go_roundg (T - (k + 1))
        case measure => omega
        case rel => exact ⟨k + 1, by omega, by omega, by go_num, by rw [HS2.out], Q1.out, Q2.out⟩
    · have hki : decide ((k : Int) < T) = false := decide_eq_false (by omega)
      have : k = T := by omega
      subst this
      go_wp2_with fail
      refine (HOF.out _).mono ?_
      rintro e w6 ⟨rfl, hb6⟩
      have Q2 := Lib.hid (Bt HB4.out hb6)
      clear hb6
      go_wp2
      go_ret2
      exact ⟨rfl, Q2.out⟩
end Go.Proofs.YthgjhfapnilfhaaDoor
