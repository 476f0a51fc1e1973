/- Walks over chain: the closure of Cut that seeks. -/
import Derived.Test.YtahlfndlkfoikaaDoorEm
import Derived.Test.YtahlfndlkfoikaaDoorRegW
namespace Go.Proofs.YtahlfndlkfoikaaDoor
open Go Go.RowKit Go.Shelf
/-- What holds behind each operation of a drawn region. -/
def FK (_bR _bO _bS i L lf wo o n cO : Nat) (adO : Addr) (fv : Value) (j : Nat) (s : Nat → Value) (_w : World) : Prop :=
  match j with
  | 0 => s 27 = fv
  | 1 => s 28 = .int .i64 i
  | 2 => s 29 = .int .i64 ((i + 1 : Nat) : Int)
  | 3 => s 30 = .int .i64 L
  | 4 => s 31 = .int .i64 lf
  | 5 => s 32 = .int .u64 wo
  | 6 => s 33 = .slice (some adO) n cO
  | 7 => s 34 = .int .i64 i
  | 8 => s 35 = .pointer (some (adO.add i))
  | 9 => s 36 = .int .i64 o
  | 10 => s 37 = .int .u64 ((Hit.bit o : Nat) : Int)
  | 11 => s 38 = .int .u64 ((wo ||| Hit.bit o : Nat) : Int)
  | _ => True
def VK (j : Nat) : List Nat := match j with
  | 0 => [27] | 1 => [28] | 2 => [29] | 3 => [30] | 4 => [31] | 5 => [32] | 6 => [33] | 7 => [34] | 8 => [35] | 9 => [36] | 10 => [37] | 11 => [38] | _ => []
def EK (j : Nat) : Bool := j == 0 || j == 2 || j == 4 || j == 11
theorem FK_V (_bR _bO _bS i L lf wo o n cO : Nat) (adO : Addr) (fv : Value) (j : Nat) (s s' : Nat → Value) (w : World) (h : ∀ t, t ∈ VK j → s' t = s t) (hF : FK _bR _bO _bS i L lf wo o n cO adO fv j s w) : FK _bR _bO _bS i L lf wo o n cO adO fv j s' w := by
  match j with
  | 0 => unfold FK at hF ⊢; simp only at hF ⊢; rw [h 27 (by simp [VK])]; exact hF
  | 1 => unfold FK at hF ⊢; simp only at hF ⊢; rw [h 28 (by simp [VK])]; exact hF
  | 2 => unfold FK at hF ⊢; simp only at hF ⊢; rw [h 29 (by simp [VK])]; exact hF
  | 3 => unfold FK at hF ⊢; simp only at hF ⊢; rw [h 30 (by simp [VK])]; exact hF
  | 4 => unfold FK at hF ⊢; simp only at hF ⊢; rw [h 31 (by simp [VK])]; exact hF
  | 5 => unfold FK at hF ⊢; simp only at hF ⊢; rw [h 32 (by simp [VK])]; exact hF
  | 6 => unfold FK at hF ⊢; simp only at hF ⊢; rw [h 33 (by simp [VK])]; exact hF
  | 7 => unfold FK at hF ⊢; simp only at hF ⊢; rw [h 34 (by simp [VK])]; exact hF
  | 8 => unfold FK at hF ⊢; simp only at hF ⊢; rw [h 35 (by simp [VK])]; exact hF
  | 9 => unfold FK at hF ⊢; simp only at hF ⊢; rw [h 36 (by simp [VK])]; exact hF
  | 10 => unfold FK at hF ⊢; simp only at hF ⊢; rw [h 37 (by simp [VK])]; exact hF
  | 11 => unfold FK at hF ⊢; simp only at hF ⊢; rw [h 38 (by simp [VK])]; exact hF
  | _ + 12 => trivial
theorem FK_below (_bR _bO _bS i L lf wo o n cO : Nat) (adO : Addr) (fv : Value) (j : Nat) (s : Nat → Value) (w w' : World) (_hb : Below w.heap.size w w') (hF : FK _bR _bO _bS i L lf wo o n cO adO fv j s w) : FK _bR _bO _bS i L lf wo o n cO adO fv j s w' := by
  match j with
  | 0 => exact hF
  | 1 => exact hF
  | 2 => exact hF
  | 3 => exact hF
  | 4 => exact hF
  | 5 => exact hF
  | 6 => exact hF
  | 7 => exact hF
  | 8 => exact hF
  | 9 => exact hF
  | 10 => exact hF
  | 11 => exact hF
  | _ + 12 => trivial
theorem Cha.skF_len {R : Nat → Bool} {on : List Nat} : ∀ (left i wo : Nat) (l : List Nat), Cha.skF R on left i wo = some l → l.length = left
  | 0, i, wo, l, h => by
    rw [Cha.skF] at h
    split at h
    · cases h
    · injection h with h; subst h; rfl
  | left + 1, i, wo, l, h => by
    rw [Cha.skF] at h
    obtain ⟨j, _, hj⟩ := List.exists_of_findSome?_eq_some h
    cases hs : Cha.skF R on left (i + j + 1) (wo ||| Hit.bit (on.getD (i + j) 0)) with
    | none => rw [hs] at hj; cases hj
    | some m =>
      rw [hs] at hj
      injection hj with hj
      subst hj
      simp [Cha.skF_len left _ _ m hs]
/-- Numbers as ints. -/
abbrev intN (l : List Nat) : List Int := l.map fun x : Nat => (x : Int)
/-- What seek answers. -/
def SeekP (r : Option (List Nat)) (v : Value) (w : World) : Prop := match r with
  | none => v = .slice none 0 0
  | some l => (∃ ad c, v = .slice (some ad) l.length c) ∧ SlI (fun b => b < w.heap.size) w v (intN l)
/-- The boxes of seek. -/
structure SeekSt (w : World) (bA bK bC bR bO bS : Nat) (F : Nat → Prop) (vd vc : Value) (a : Cou.Ac) (key c : Cou.Ct) (FO : Nat → Prop) (vO : Value) (on : List Nat) : Prop where
  cut : CutSt w bA bK bC F vd vc a key c
  re : Blk w bR 92 #[.func (.func 45) #[] #[.pointer (some ⟨bA, 0, none⟩), .pointer (some ⟨bK, 0, none⟩), .pointer (some ⟨bC, 0, none⟩)]]
  bo : Blk w bO 27 #[vO]
  sk : Blk w bS 93 #[.func (.func 47) #[] #[.pointer (some ⟨bR, 0, none⟩), .pointer (some ⟨bO, 0, none⟩), .pointer (some ⟨bS, 0, none⟩)]]
  row : SlI FO w vO (intN on)
  inW : ∀ b, FO b → b < w.heap.size
theorem SeekSt.below {w w' : World} {bA bK bC bR bO bS : Nat} {F : Nat → Prop} {vd vc : Value} {a : Cou.Ac} {key c : Cou.Ct} {FO : Nat → Prop} {vO : Value} {on : List Nat} (h : SeekSt w bA bK bC bR bO bS F vd vc a key c FO vO on) (hb : Below w.heap.size w w') : SeekSt w' bA bK bC bR bO bS F vd vc a key c FO vO on :=
  ⟨h.cut.below hb, h.re.below hb h.re.lt, h.bo.below hb h.bo.lt, h.sk.below hb h.sk.lt, SlI.keep h.row (Agree.below hb h.inW), fun b q => Nat.lt_of_lt_of_le (h.inW b q) hb.size⟩
theorem infI : ∃ i z, Tryd.prog.info? 3 = some i ∧ i.zero = some z ∧ i.size = 1 ∧ i.bytes = 8 ∧ z.cells.size = 1 := elemIn.hi
theorem infI_ht : Tryd.prog.underlying 27 = some (.slice 3) := elemIn.ht
theorem own_one (w : World) (u : Value) (e : TypeId) : (w.alloc (.cells #[u] e)).ownsRow w.heap.size e 1 (.slice (some ⟨w.heap.size, 0, none⟩) 1 1) 1 [u] :=
  ⟨rfl, .inr ⟨w.heap.size, 1, #[u], rfl, Nat.le_refl _, heap_alloc_new w _, Nat.le_refl _, by unfold maxLen; decide, rfl, rfl⟩⟩
set_option maxRecDepth 100000 in
set_option maxHeartbeats 4000000 in
theorem seek_any (a : Cou.Ac) (hr : Cou.rightF a = 0) (vd vc : Value) (key c : Cou.Ct) (hkw : Cou.wrongF a key = 0) (bA bK bC bR bO bS : Nat) (on : List Nat) (hon : on.length ≤ 64) (ho64 : ∀ x ∈ on, x < 64) (vO : Value) (F FO : Nat → Prop) : ∀ (left : Nat), left ≤ 100 → ∀ (from_ : Nat), from_ ≤ 100 → ∀ (wo : Nat), wo < 2 ^ 64 → ∀ (w : World), SeekSt w bA bK bC bR bO bS F vd vc a key c FO vO on →
    Calls Tryd.prog 47 #[.int .i64 from_, .int .i64 left, .int .u64 wo, .pointer (some ⟨bR, 0, none⟩), .pointer (some ⟨bO, 0, none⟩), .pointer (some ⟨bS, 0, none⟩)] w fun e w' => ∃ v, e = .returned v ∧ SeekP (Cha.skF (Cha.reachB a key c) on left from_ wo) v w' ∧ Below w.heap.size w w'
  | 0, _, from_, hf, wo, hwo, w, hS => by
    have hcall := reached_any a hr vd vc key c hkw bA bK bC wo hwo w F hS.cut
    have r0 := hS.re.cell 0
    simp only [List.getElem?_toArray, List.getElem?_cons_zero] at r0
    have hz : Cha.skF (Cha.reachB a key c) on 0 from_ wo = if Cha.reachB a key c wo then none else some [] := rfl
    have HZ := Lib.hid hz
    clear hS hz
    cases hb : Cha.reachB a key c wo with
    | true =>
      rw [hb] at hcall
      have HC := Lib.hid hcall
      rw [hb] at HZ
      clear hcall hb
      go_enter Tryd.func47, Tryd.ntmps47
      go_wp2_with (go_at_call 45; (with_reducible refine (HC.out.mono ?_)); rintro e w2 ⟨rfl, hb2⟩; have HB2 := Lib.hid hb2; clear hb2)
      go_ret
      exact ⟨_, rfl, by rw [HZ.out]; rfl, HB2.out⟩
    | false =>
      rw [hb] at hcall
      have HC := Lib.hid hcall
      rw [hb] at HZ
      clear hcall hb
      go_enter Tryd.func47, Tryd.ntmps47
      go_wp2_with (go_at_call 45; (with_reducible refine (HC.out.mono ?_)); rintro e w2 ⟨rfl, hb2⟩; have HB2 := Lib.hid hb2; clear hb2)
      go_ret
      refine ⟨_, rfl, ?_, Ba HB2.out _⟩
      rw [HZ.out]
      exact ⟨⟨_, _, rfl⟩, ⟨_, 0, rfl, by simp, by simp, fun i hi => absurd hi (by simp)⟩⟩
  | lf + 1, hl, from_, hf, wo, hwo, w, hS => by
    have IH := Lib.hid (fun i (hi : i ≤ 100) wo2 (h2 : wo2 < 2 ^ 64) W hW => seek_any a hr vd vc key c hkw bA bK bC bR bO bS on hon ho64 vO F FO lf (by omega) i hi wo2 h2 W hW)
    obtain ⟨AO, cO, hvO, hcO, _, hat⟩ := hS.row.open
    obtain ⟨n, hn⟩ : ∃ n, on.length = n := ⟨_, rfl⟩
    have hnm : (intN on).length = n := by simp [hn]
    rw [hnm] at hvO hcO
    have HN := Lib.hid hn
    have HAT := Lib.hid hat
    have HS := Lib.hid (fun W (hb : Below w.heap.size w W) => hS.below hb)
    have HINW := Lib.hid hS.inW
    rw [hn] at hon
    clear hat hn hnm hS
    obtain ⟨L, hL⟩ : ∃ L, lf + 1 = L := ⟨_, rfl⟩
    have HSK := Lib.hid (fun i (h : i + L ≤ n) => (show Cha.skF (Cha.reachB a key c) on L i wo = match Cha.skF (Cha.reachB a key c) on lf (i + 1) (wo ||| Hit.bit (on.getD i 0)) with | some l => some (on.getD i 0 :: l) | none => Cha.skF (Cha.reachB a key c) on L (i + 1) wo from by
      subst hL
      exact Cha.skF_step (by rw [HN.out]; exact h)))
    have HEN := Lib.hid (fun i (h : n < i + L) => (show Cha.skF (Cha.reachB a key c) on L i wo = none from by
      subst hL
      exact Cha.skF_end (by rw [HN.out]; exact h)))
    rw [hL] at hl ⊢
    have hL0 : ((L : Int) == 0) = false := by simp; omega
    have e4 : IntKind.i64.wrap ((L : Int) - 1) = (lf : Int) := by
      rw [show ((L : Int) - 1) = (lf : Int) by omega]
      simp [IntKind.wrap, IntKind.bits, IntKind.signed]
      omega
    have HL := Lib.hid hL
    clear hL
    obtain ⟨⟨c0, -, -, -, -, -⟩, d0, d1, d2, -, -⟩ := id (HS.out w (B0 w))
    clear c0 d0 d1 d2
    go_enter Tryd.func47, Tryd.ntmps47
    go_wp2_with fail
    go_loopg [10] 300 (fun gg s10 wr => ∃ i : Nat, i ≤ 201 ∧ 201 - i ≤ gg ∧ s10 = .int .i64 i ∧ Aside (Cha.skF (Cha.reachB a key c) on L i wo = Cha.skF (Cha.reachB a key c) on L from_ wo) ∧ Aside (Below w.heap.size w wr))
    case atStart => exact ⟨from_, by omega, by omega, rfl, rfl, B0 w⟩
    case round =>
      obtain ⟨i, hi, hg, rfl, HE, HB⟩ := hrel
      replace HE := Lib.hid HE
      replace HB := Lib.hid HB
      have hst := HS.out wr HB.out
      have o0 := hst.bo.cell 0
      simp only [List.getElem?_toArray, List.getElem?_cons_zero] at o0
      rw [hvO] at o0
      by_cases hin2 : i + L ≤ n
      · have hcond : decide ((i : Int) + L ≤ n) = true := decide_eq_true (by omega)
        have hcond2 : decide (i + L ≤ n) = true := decide_eq_true hin2
        have hcond3 : (i : Int) + L ≤ n := by omega
        have hil : i < n := by have := HL.out; omega
        have hin : (i : Int) < n := by omega
        have hion : i < on.length := by rw [HN.out]; exact hil
        have hgd : on.getD i 0 = on[i] := by rw [List.getD_eq_getElem?_getD, List.getElem?_eq_getElem hion]; rfl
        obtain ⟨adO, hAO, hfO, hcell⟩ := HAT.out i (by simpa using hion)
        rw [List.getElem_map] at hcell
        have ho := ho64 on[i] (List.getElem_mem hion)
        have hsk := HSK.out i hin2
        rw [hgd] at hsk
        obtain ⟨o, hoo⟩ : ∃ o, on[i] = o := ⟨_, rfl⟩
        rw [hoo] at hcell ho hsk
        subst hAO
        have hfb : (adO.add i).block < w.heap.size := by rw [block_of_add]; exact HINW.out _ hfO
        have HS8 := Lib.hid (fun W (hb : Below wr.heap.size wr W) => (show W.cell? ⟨bS, 0, none⟩ = some (.func (.func 47) #[] #[.pointer (some ⟨bR, 0, none⟩), .pointer (some ⟨bO, 0, none⟩), .pointer (some ⟨bS, 0, none⟩)]) ∧ W.cell? ⟨bO, 0, none⟩ = some (.slice (some adO) n cO) ∧ W.cell? (adO.add i) = some (.int .i64 o) from
          ⟨(Bc hb hst.sk.lt).trans (hst.sk.cell 0), (Bc hb hst.bo.lt).trans o0, ((Bt HB.out hb).cell (p := adO.add i) hfb).trans hcell⟩))
        have hor := Hit.u64_or wo (Hit.bit o) hwo (Hit.bit_lt ho)
        have hwo2 : wo ||| Hit.bit o < 2 ^ 64 := Nat.or_lt_two_pow hwo (Hit.bit_lt ho)
        have hih := fun W (hb : Below wr.heap.size wr W) => IH.out (i + 1) (by omega) (wo ||| Hit.bit o) hwo2 W (hst.below hb)
        have e2 : IntKind.i64.wrap ((i : Int) + 1) = ((i + 1 : Nat) : Int) := by
          simp [IntKind.wrap, IntKind.bits, IntKind.signed]
          omega
        have hsh : IntKind.u64.wrap ((2 : Int) ^ o) = ((Hit.bit o : Nat) : Int) := by
          have := Hit.shl_u64 o ho
          rwa [Nat.min_eq_left (by omega), Int.one_mul] at this
        have hBB : ∀ (L : Nat → Bool) (i : Nat) (W W' : World), Below W.heap.size W W' → Below wr.heap.size wr W → Below wr.heap.size wr W' := fun _ _ _ _ hb h => Bt h hb
        have HS := HS8
        have HSKI := Lib.hid hsk
        have HIH := Lib.hid hih
        clear hst hcell hfO hfb hgd hion hsk hoo hih HS8
        go_upto_region 8 with fail
        refine region_blocks (by kernel_rfl) ?_
        refine from_lawW 12 EK (fun _ W => Below wr.heap.size wr W) (FK bR bO bS i L lf wo o n cO adO (.func (.func 47) #[] #[.pointer (some ⟨bR, 0, none⟩), .pointer (some ⟨bO, 0, none⟩), .pointer (some ⟨bS, 0, none⟩)])) VK (by kernel_rfl) rfl (FK_V _ _ _ _ _ _ _ _ _ _ _ _) (by kernel_rfl) (by kernel_rfl) ((B0 wr).drew) ⟨?_, ?_, ?_, ?_, ?_, ?_, ?_, ?_, ?_, ?_, ?_, ?_, trivial⟩ ?_
        · refine OpFactW.value rfl (FK_below _ _ _ _ _ _ _ _ _ _ _ _) hBB fun _ a wx hl hf D hb => ?_
          have h0 : sl a 5 = .pointer (some ⟨bS, 0, none⟩) := hf 5 (by kernel_rfl)
          have es := HS.out wx hb
          refine ⟨(.func (.func 47) #[] #[.pointer (some ⟨bR, 0, none⟩), .pointer (some ⟨bO, 0, none⟩), .pointer (some ⟨bS, 0, none⟩)]), wx, ?_, B0 _, fun s _ h => h 27 rfl⟩
          unfold sl at h0
          simp at h0
          simp [go_sem, h0, es]
        · refine OpFactW.value rfl (FK_below _ _ _ _ _ _ _ _ _ _ _ _) hBB fun _ a wx hl hf D hb => ?_
          have h0 : sl a 10 = .int .i64 i := hf 10 (by kernel_rfl)
          refine ⟨.int .i64 i, wx, ?_, B0 _, fun s _ h => h 28 rfl⟩
          unfold sl at h0
          simp [go_sem, h0]
        · refine OpFactW.value rfl (FK_below _ _ _ _ _ _ _ _ _ _ _ _) hBB fun _ a wx hl hf D hb => ?_
          have h1 : sl a 28 = .int .i64 i := D 1 (by kernel_rfl)
          refine ⟨.int .i64 ((i + 1 : Nat) : Int), wx, ?_, B0 _, fun s _ h => h 29 rfl⟩
          unfold sl at h1
          simp at h1
          simp [go_sem, h1, e2]
        · refine OpFactW.value rfl (FK_below _ _ _ _ _ _ _ _ _ _ _ _) hBB fun _ a wx hl hf D hb => ?_
          have h0 : sl a 1 = .int .i64 L := hf 1 (by kernel_rfl)
          refine ⟨.int .i64 L, wx, ?_, B0 _, fun s _ h => h 30 rfl⟩
          unfold sl at h0
          simp [go_sem, h0]
        · refine OpFactW.value rfl (FK_below _ _ _ _ _ _ _ _ _ _ _ _) hBB fun _ a wx hl hf D hb => ?_
          have h1 : sl a 30 = .int .i64 L := D 3 (by kernel_rfl)
          refine ⟨.int .i64 lf, wx, ?_, B0 _, fun s _ h => h 31 rfl⟩
          unfold sl at h1
          simp at h1
          simp [go_sem, h1, e4]
        · refine OpFactW.value rfl (FK_below _ _ _ _ _ _ _ _ _ _ _ _) hBB fun _ a wx hl hf D hb => ?_
          have h0 : sl a 2 = .int .u64 wo := hf 2 (by kernel_rfl)
          refine ⟨.int .u64 wo, wx, ?_, B0 _, fun s _ h => h 32 rfl⟩
          unfold sl at h0
          simp [go_sem, h0]
        · refine OpFactW.value rfl (FK_below _ _ _ _ _ _ _ _ _ _ _ _) hBB fun _ a wx hl hf D hb => ?_
          have h0 : sl a 4 = .pointer (some ⟨bO, 0, none⟩) := hf 4 (by kernel_rfl)
          have es := HS.out wx hb
          refine ⟨.slice (some adO) n cO, wx, ?_, B0 _, fun s _ h => h 33 rfl⟩
          unfold sl at h0
          simp at h0
          simp [go_sem, h0, es]
        · refine OpFactW.value rfl (FK_below _ _ _ _ _ _ _ _ _ _ _ _) hBB fun _ a wx hl hf D hb => ?_
          have h0 : sl a 10 = .int .i64 i := hf 10 (by kernel_rfl)
          refine ⟨.int .i64 i, wx, ?_, B0 _, fun s _ h => h 34 rfl⟩
          unfold sl at h0
          simp [go_sem, h0]
        · refine OpFactW.value rfl (FK_below _ _ _ _ _ _ _ _ _ _ _ _) hBB fun _ a wx hl hf D hb => ?_
          have h1 : sl a 33 = .slice (some adO) n cO := D 6 (by kernel_rfl)
          have h2 : sl a 34 = .int .i64 i := D 7 (by kernel_rfl)
          refine ⟨.pointer (some (adO.add i)), wx, ?_, B0 _, fun s _ h => h 35 rfl⟩
          unfold sl at h1 h2
          simp at h1 h2
          simp [go_sem, h1, h2, hin]
        · refine OpFactW.value rfl (FK_below _ _ _ _ _ _ _ _ _ _ _ _) hBB fun _ a wx hl hf D hb => ?_
          have h0 : sl a 35 = .pointer (some (adO.add i)) := D 8 (by kernel_rfl)
          have es := HS.out wx hb
          refine ⟨.int .i64 o, wx, ?_, B0 _, fun s _ h => h 36 rfl⟩
          unfold sl at h0
          simp at h0
          simp [go_sem, h0, es]
        · refine OpFactW.value rfl (FK_below _ _ _ _ _ _ _ _ _ _ _ _) hBB fun _ a wx hl hf D hb => ?_
          have h1 : sl a 36 = .int .i64 o := D 9 (by kernel_rfl)
          refine ⟨.int .u64 ((Hit.bit o : Nat) : Int), wx, ?_, B0 _, fun s _ h => h 37 rfl⟩
          unfold sl at h1
          simp at h1
          simp [go_sem, h1, hsh]
        · refine OpFactW.value rfl (FK_below _ _ _ _ _ _ _ _ _ _ _ _) hBB fun _ a wx hl hf D hb => ?_
          have h1 : sl a 32 = .int .u64 wo := D 5 (by kernel_rfl)
          have h2 : sl a 37 = .int .u64 ((Hit.bit o : Nat) : Int) := D 10 (by kernel_rfl)
          refine ⟨.int .u64 ((wo ||| Hit.bit o : Nat) : Int), wx, ?_, B0 _, fun s _ h => h 38 rfl⟩
          unfold sl at h1 h2
          simp at h1 h2
          simp [go_sem, h1, h2, hor]
        · intro L9 y w9 hb9 hF9
          have h27 : y 27 = .func (.func 47) #[] #[.pointer (some ⟨bR, 0, none⟩), .pointer (some ⟨bO, 0, none⟩), .pointer (some ⟨bS, 0, none⟩)] := hF9 0 (by decide) rfl
          have h29 : y 29 = .int .i64 ((i + 1 : Nat) : Int) := hF9 2 (by decide) rfl
          have h31 : y 31 = .int .i64 lf := hF9 4 (by decide) rfl
          have h38 : y 38 = .int .u64 ((wo ||| Hit.bit o : Nat) : Int) := hF9 11 (by decide) rfl
          have HC := Lib.hid (HIH.out w9 hb9)
          have HB9 := Lib.hid hb9
          clear hF9 hb9 HIH
          rw [aft12 (d0 := 27) (d1 := 28) (d2 := 29) (d3 := 30) (d4 := 31) (d5 := 32) (d6 := 33) (d7 := 34) (d8 := 35) (d9 := 36) (d10 := 37) (d11 := 38) (by kernel_rfl) rfl]
          rw [h27, h29, h31, h38]
          simp only [List.set_cons_succ, List.set_cons_zero]
          refine from_list 14 (by kernel_rfl) (by simp only [List.take_succ_cons, List.take_zero, List.drop_succ_cons, List.drop_zero]; exact rfl) ?_
          (intro Q' hQ' hX; clear hX)
          have hski := HSKI.out
          have hc := HC.out
          rw [show ((i + 1 : Nat) : Int) = (i : Int) + 1 by omega] at hc
          cases hsr : Cha.skF (Cha.reachB a key c) on lf (i + 1) (wo ||| Hit.bit o) with
          | none =>
            rw [hsr] at hski hc
            have HC2 := Lib.hid hc
            have HE2 : Hid (Cha.skF (Cha.reachB a key c) on L (i + 1) wo = Cha.skF (Cha.reachB a key c) on L from_ wo) := Lib.hid (by rw [← HE.out, hski])
            clear hski hc hsr HC HSKI HE
            go_wp2_with (go_at_call 47; (with_reducible refine (HC2.out.mono ?_)); rintro e w2 ⟨v, rfl, hv, hb2⟩; have hv2 : v = .slice none 0 0 := hv; clear hv; subst hv2; have HB2 := Lib.hid (Bt HB.out (Bt HB9.out hb2)); clear hb2)
            refine from_end rfl ?_
            go_wp2_with fail
            go_roundg (201 - (i + 1))
            case measure => omega
            case rel => exact ⟨i + 1, by omega, by omega, by go_num, HE2.out, HB2.out⟩
          | some l =>
            rw [hsr] at hski hc
            have HC2 := Lib.hid hc
            have HE2 : Hid (Cha.skF (Cha.reachB a key c) on L from_ wo = some (o :: l)) := Lib.hid (by rw [← HE.out, hski])
            have hll : l.length ≤ 100 := by have := Cha.skF_len lf _ _ l hsr; have := HL.out; omega
            clear hski hc hsr HC HSKI HE
            go_wp2_with (go_at_call 47; (with_reducible refine (HC2.out.mono ?_)); rintro e w2 ⟨v, rfl, hv, hb2⟩; obtain ⟨⟨av, cv, rfl⟩, hvs⟩ := hv; have HVS := Lib.hid hvs; have HB2 := Lib.hid (Bt HB9.out hb2); clear hb2 hvs)
            refine from_end rfl ?_
            obtain ⟨s0, s1, s2⟩ := HS.out w2 HB2.out
            obtain ⟨m, hm⟩ : ∃ m, l.length = m := ⟨_, rfl⟩
            have hvr := HVS.out
            rw [hm] at hvr hll
            have HRD := Lib.hid (SlI.reads hvr (B := w2.heap.size) fun _ h => h)
            rw [hm]
            clear hvr
            go_wp2_with (at_builtin; refine wpList_append_any _ rfl _ _ _ rfl w2.heap.size 3 infI.choose infI.choose_spec.choose 1 8 infI_ht infI.choose_spec.choose_spec.1 infI.choose_spec.choose_spec.2.1 infI.choose_spec.choose_spec.2.2.1 infI.choose_spec.choose_spec.2.2.2.1 infI.choose_spec.choose_spec.2.2.2.2 (by omega) (.slice (some ⟨w2.heap.size, 0, none⟩) 1 1) 1 [.int .i64 o] rfl (own_one w2 _ _) w2.heap.size (some av) m cv _ rfl (HRD.out.below (Ba (B0 w2) _)) (by intro u hu; obtain ⟨x, _, rfl⟩ := List.mem_map.1 hu; rfl) (by unfold maxLen; omega) (by omega) (by simp) ?_; intro v' w7 hown7 hg7 hgg; have HO7 := Lib.hid hown7; have HG7 := Lib.hid hg7; clear hown7 hg7 hgg)
            go_ret
            refine ⟨_, rfl, ?_, ?_⟩
            · rw [HE2.out]
              have h7 := HO7.out
              rw [show [Value.int .i64 (o : Int)] ++ inCs (intN l) = inCs (intN (o :: l)) from rfl, show 1 + m = (intN (o :: l)).length by simp [hm]; omega] at h7
              have hs := slI_own h7 (by simp; omega)
              obtain ⟨g, cap, hv⟩ : ∃ g cap, v' = .slice (some ⟨g, 0, none⟩) (intN (o :: l)).length cap := by
                have := own_lit (n := l.length) (by simpa using h7)
                simpa using this
              subst hv
              exact ⟨⟨⟨g, 0, none⟩, cap, by simp⟩, Sl.mono hs fun b h => h.lt⟩
            · exact (Bt HB.out (Ba HB2.out _)).grown HG7.out (by have := (Bt HB.out HB2.out).size; simp; omega) fun b h => by
                simp [Value.ownBlock] at h
                have := (Bt HB.out HB2.out).size
                omega
      · have hcond : decide ((i : Int) + L ≤ n) = false := decide_eq_false (by omega)
        have hcond2 : decide (i + L ≤ n) = false := decide_eq_false hin2
        have hcond3 : ¬ (i : Int) + L ≤ n := by omega
        have HZ : Hid (Cha.skF (Cha.reachB a key c) on L from_ wo = none) := Lib.hid (by rw [← HE.out]; exact HEN.out i (by omega))
        clear hst
        go_wp2_with fail
        go_ret
        exact ⟨_, rfl, by rw [HZ.out]; rfl, HB.out⟩
end Go.Proofs.YtahlfndlkfoikaaDoor
