/- Walks over hitting: the prover's node. -/
import Derived.Test.YthgjhfapnilfhaaDoorHNa
import Derived.Test.YthgjhfapnilfhaaDoorHS
import Derived.Deep.RegionWith
namespace Go.Proofs.YthgjhfapnilfhaaDoor
open Go Go.RowKit
namespace Hit
theorem pick_ok {ws : List Nat} {n taken out best : Nat} (hg : Good ws n) (hn : n ≤ 64) (hb : bestGo ws 0 taken out 0 = .inr best) (h0 : best ≠ 0) :
    best < 2 ^ n ∧ tz best < n ∧ free n ((taken ||| bit (tz best)) ||| out) + 1 ≤ free n (taken ||| out) ∧ free n (taken ||| (out ||| bit (tz best))) + 1 ≤ free n (taken ||| out) := by
  obtain ⟨hb1, _⟩ := bestGo_inr ws 0 taken out 0 best hb
  obtain ⟨s, hs, hst, hse, _⟩ : ∃ s ∈ ws, s &&& taken = 0 ∧ best = andn s out ∧ best ≠ 0 := by
    rcases hb1 with h | h
    · exact absurd h h0
    · exact h
  have hsn := (hg s hs).2
  have hbn : best < 2 ^ n := by rw [hse]; exact andn_lt hsn
  have hp := tz_test h0 (Nat.lt_of_lt_of_le hbn (Nat.pow_le_pow_right (by decide) hn))
  have hpn : tz best < n := by
    rcases Nat.lt_or_ge (tz best) n with hl | hl
    · exact hl
    · rw [test_of_lt hbn hl] at hp; cases hp
  rw [hse, andn_test] at hp
  simp only [Bool.and_eq_true, Bool.not_eq_true'] at hp
  rw [← hse] at hp
  have hpt := (and_zero_iff _ _).1 hst _ hp.1
  have hfree : (taken ||| out).testBit (tz best) = false := by rw [Nat.testBit_or, hpt, hp.2]; rfl
  have h3 := free_lt hpn hfree
  refine ⟨hbn, hpn, ?_, ?_⟩
  · rw [show (taken ||| bit (tz best)) ||| out = (taken ||| out) ||| bit (tz best) from ext fun i => by simp only [Nat.testBit_or]; cases taken.testBit i <;> cases out.testBit i <;> cases (bit (tz best)).testBit i <;> rfl]
    exact h3
  · rw [show taken ||| (out ||| bit (tz best)) = (taken ||| out) ||| bit (tz best) from ext fun i => by simp only [Nat.testBit_or, Bool.or_assoc]]
    exact h3
theorem bestGo_cons (s : Nat) (r : List Nat) (i taken out best : Nat) : bestGo (s :: r) i taken out best = if s &&& taken ≠ 0 then bestGo r (i + 1) taken out best
    else if andn s out = 0 then .inl i else bestGo r (i + 1) taken out (if best = 0 ∨ pop (andn s out) < pop best then andn s out else best) := rfl
theorem tz_bit {k : Nat} (h : k < 64) : tz (bit k) = k := by
  have e : members (bit k) = [k] := by
    refine inc_ext (inc_members _) ⟨by simp, trivial⟩ fun i => ?_
    rw [mem_members, bit_test]
    simp
    omega
  unfold tz
  rw [e]; rfl
theorem nodeF_on {ws : List Nat} {size : Int} {d at_ taken out best : Nat} (hb : bestGo ws 0 taken out 0 = .inr best) (h : ¬ (((apart ws taken out).length : Int) + pop taken ≥ size ∨ best = 0)) : nodeF ws size (d + 1) at_ taken out =
    ⟨tz best, (at_ + 1 : Nat), (at_ + 1 + (nodeF ws size d (at_ + 1) (taken ||| bit (tz best)) out).length : Nat), 0, []⟩ :: (nodeF ws size d (at_ + 1) (taken ||| bit (tz best)) out ++ nodeF ws size d (at_ + 1 + (nodeF ws size d (at_ + 1) (taken ||| bit (tz best)) out).length) taken (out ||| bit (tz best))) := by
  conv => lhs; unfold nodeF
  rw [hb]
  simp only
  rw [if_neg h]
theorem pop_le (x : Nat) : pop x ≤ 64 := Nat.le_trans (List.length_filter_le _ _) (by simp)
end Hit
theorem infoNode : (Tryd.prog.info? 39).map (fun i => (i.zero, i.size, i.bytes)) = some (some (.agg #[.int .i64 0, .int .i64 0, .int .i64 0, .int .i64 0, .slice none 0 0]), 5, 56) := by kernel_rfl
theorem elemNode : ElemN Tryd.prog 32 39 5 56 := ⟨Tryd.underlying32, by
  obtain ⟨i, hi, hz, hs, hb⟩ := info_parts infoNode
  exact ⟨i, _, hi, hz, hs, hb, rfl⟩⟩
theorem PT.leaf {pb g cap : Nat} {vs : Value} {size : Int} {w : World} {t : List Hit.TNode} {l : List Int} (o : Obj) (u : Value) (h : PT pb vs size w (.slice (some ⟨g, 0, none⟩) (t.length + 1) cap) (t ++ [⟨0, 0, 0, 0, []⟩])) (hu : SlI (fun b => pb < b ∧ b < (w.alloc o).heap.size ∧ b ≠ g) (w.alloc o) u l) :
    PT pb vs size ((w.setCell ⟨g, t.length * 5 + 4, none⟩ u).alloc o) (.slice (some ⟨g, 0, none⟩) (t.length + 1) cap) (t ++ [⟨0, 0, 0, 0, l⟩]) := by
  rw [← World.setCell_alloc_past o g (t.length * 5 + 4) u h.row.2.1]
  have := (h.later (Ba (B0 w) o)).put t.length (by simp) 4 (by omega) u ⟨0, 0, 0, 0, l⟩ (fun c _ hc => by
    have := hc.weights (u := u) (l := l) (Sl.mono hu fun b ⟨q1, q2, q3⟩ => ⟨q1, q2, by intro e; injection e with e; exact q3 e⟩)
    simpa using this)
  simpa using this
theorem PT.leaf0 {pb g cap : Nat} {vs : Value} {size : Int} {w : World} {t : List Hit.TNode} {l : List Int} (u : Value) (h : PT pb vs size w (.slice (some ⟨g, 0, none⟩) (t.length + 1) cap) (t ++ [⟨0, 0, 0, 0, []⟩])) (hu : SlI (fun b => pb < b ∧ b < w.heap.size ∧ b ≠ g) w u l) :
    PT pb vs size (w.setCell ⟨g, t.length * 5 + 4, none⟩ u) (.slice (some ⟨g, 0, none⟩) (t.length + 1) cap) (t ++ [⟨0, 0, 0, 0, l⟩]) := by
  have := h.put t.length (by simp) 4 (by omega) u ⟨0, 0, 0, 0, l⟩ (fun c _ hc => by
    have := hc.weights (u := u) (l := l) (Sl.mono hu fun b ⟨q1, q2, q3⟩ => ⟨q1, q2, by intro e; injection e with e; exact q3 e⟩)
    simpa using this)
  simpa using this
theorem PT.picked {pb g cap : Nat} {vs : Value} {size : Int} {w : World} {t : List Hit.TNode} (z : Int) (h : PT pb vs size w (.slice (some ⟨g, 0, none⟩) (t.length + 1) cap) (t ++ [⟨0, 0, 0, 0, []⟩])) :
    PT pb vs size (w.setCell ⟨g, t.length * 5, none⟩ (.int .i64 z)) (.slice (some ⟨g, 0, none⟩) (t.length + 1) cap) (t ++ [⟨z, 0, 0, 0, []⟩]) := by
  have := h.put t.length (by simp) 0 (by omega) (.int .i64 z) ⟨z, 0, 0, 0, []⟩ (fun c _ hc => by
    have := hc.pick z
    simpa using this)
  simpa using this
theorem PT.kids {pb g n cap : Nat} {vs : Value} {size : Int} {w : World} {t r : List Hit.TNode} {p : Int} (y z : Int) (h : PT pb vs size w (.slice (some ⟨g, 0, none⟩) n cap) (t ++ (⟨p, 0, 0, 0, []⟩ :: r))) :
    PT pb vs size ((w.setCell ⟨g, t.length * 5 + 1, none⟩ (.int .i64 y)).setCell ⟨g, t.length * 5 + 2, none⟩ (.int .i64 z)) (.slice (some ⟨g, 0, none⟩) n cap) (t ++ (⟨p, y, z, 0, []⟩ :: r)) := by
  have h1 := h.put t.length (by simp) 1 (by omega) (.int .i64 y) ⟨p, y, 0, 0, []⟩ (fun c _ hc => by
    have := hc.yes y
    simpa using this)
  have h2 := h1.put t.length (by simp) 2 (by omega) (.int .i64 z) ⟨p, y, z, 0, []⟩ (fun c _ hc => by
    have := hc.no z
    simpa using this)
  simpa using h2
theorem apartGo_len (ws : List Nat) : ∀ (i taken out used : Nat), (Hit.apartGo ws i taken out used).length ≤ ws.length := by
  induction ws with
  | nil => intro i taken out used; simp [Hit.apartGo]
  | cons s r ih =>
    intro i taken out used
    rw [apartGo_cons]
    split
    · simp only [List.length_cons]; have := ih (i + 1) taken out (used ||| Hit.andn s out); omega
    · simp only [List.length_cons]; have := ih (i + 1) taken out used; omega
/-- What a call of node leaves. -/
def NodeP (pb : Nat) (vs : Value) (ws : List Nat) (size : Int) (w : World) (t : List Hit.TNode) (d taken out : Nat) (e : Ending) (w' : World) : Prop :=
  e = .returned (.int .i64 (t.length : Nat)) ∧ (∃ v, PT pb vs size w' v (t ++ Hit.nodeF ws size d t.length taken out)) ∧ Below pb w w'
set_option maxRecDepth 200000 in
set_option maxHeartbeats 8000000 in
theorem node_any (pb : Nat) (hpt : 0 < pb) (vs : Value) (ws : List Nat) (n : Nat) (hn : n ≤ 20) (hgd : Hit.Good ws n) (hwl : ws.length ≤ 1000) (size : Int) (_hsz : 0 ≤ size ∧ size ≤ 100) (F : Nat → Prop) (hF : ∀ b, F b → b < pb) :
    ∀ (d taken out : Nat) (w : World) (v : Value) (t : List Hit.TNode), Hit.free n (taken ||| out) < d → taken < 2 ^ n → out < 2 ^ n → t.length + 2 ^ d ≤ 100000000 → SlU .u32 F w vs ws → Tab32 w → PT pb vs size w v t →
      Calls Tryd.prog 37 #[.pointer (some ⟨pb, 0, none⟩), .int .u32 taken, .int .u32 out] w (NodeP pb vs ws size w t d taken out) := by
  intro d
  induction d with
  | zero => intro taken out w v t h; omega
  | succ d ih =>
    intro taken out w v t hfr htk hot hsz2 hr hT hP
    have h20 : 2 ^ n ≤ 1048576 := Nat.pow_le_pow_right (n := 2) (by decide) hn
    have hpd : 2 ^ (d + 1) = 2 ^ d + 2 ^ d := by rw [Nat.pow_succ]; omega
    have hp1 : 1 ≤ 2 ^ d := Nat.one_le_two_pow
    have hws : ∀ s ∈ ws, s < 4294967296 := fun s hs => by have := (hgd s hs).2; omega
    obtain ⟨A0, c0, rfl⟩ := hP.form
    have hkb := hP.blk
    obtain ⟨cs, hc1, hc2, hc3⟩ := hP.own
    have hlt := hP.lt
    have kp0 := hkb.cell 0
    have kp2 := hkb.cell 2
    have fp := hkb.frozen
    obtain ⟨As, cA, hvs, hlc, hll, hat⟩ := hr.open
    subst hvs
    have htl : t.length ≤ 100000000 := by omega
    have HC1 := Lib.hid hc1
    have HC2 := Lib.hid hc2
    have HC3 := Lib.hid hc3
    have HKB := Lib.hid hkb
    have HR := Lib.hid hr
    have HT := Lib.hid hT
    have HP := Lib.hid hP
    have HFR := Lib.hid hfr
    have HIH := Lib.hid ih
    have HAT := Lib.hid hat
    have HWS := Lib.hid hws
    have HGD := Lib.hid hgd
    clear hc1 hc2 hc3 hkb hr hT hP hfr ih hat hws hgd hpd
    go_enter Tryd.func37, Tryd.ntmps37
    go_upto_region 2 with fail
    go_upto_region 3 with (at_builtin; refine wpList_appS elemNode (by omega) rfl _ _ rfl (pb + 1) _ t.length cs.flatten rfl (HC3.out.alloc _) ⟨w.heap.size, 0, none⟩ 1 [.int .i64 0, .int .i64 0, .int .i64 0, .int .i64 0, .slice none 0 0] rfl rfl (Flds.new w _ _) (by decide) (by omega) (by omega) (by simp; omega) ?_; intro g cap w' q1 q2 q3; have hkg := (HKB.out.alloc _).grown q2 (fun e => by have := (HC3.out.lt pb e.symm).1; omega); have kg2 := hkg.cell 2; have kgf := hkg.frozen 2; have Q1 := Lib.hid q1; have Q2 := Lib.hid q2; have Q3 := Lib.hid q3; clear q1 q2 q3 hkg)
    have hPA := PT.append HKB.out HC1.out HC2.out HC3.out Q1.out Q2.out Q3.out
    have hBA : Below pb w (w'.setCell ⟨pb, 2, none⟩ (.slice (some ⟨g, 0, none⟩) (t.length + 1) cap)) := (((Below.refl pb w).alloc (by omega) _).grown Q2.out (by simp; omega) (fun k hk => by have := (HC3.out.lt k hk).1; omega)).setCell (Nat.le_refl pb) _
    clear kg2 kgf kp0 kp2 fp
    generalize (w'.setCell ⟨pb, 2, none⟩ (.slice (some ⟨g, 0, none⟩) (t.length + 1) cap)) = wA at *
    have PA := Lib.hid hPA
    have BA := Lib.hid hBA
    have kA0 := hPA.blk.cell 0
    have hltA := hPA.lt
    clear hPA hBA
    go_wp2_with fail
    go_loopg [8, 36] ws.length (fun gg s8 s36 wr => ∃ k best : Nat, k ≤ ws.length ∧ ws.length - k ≤ gg ∧ s36 = .int .i64 k ∧ s8 = .int .u32 best ∧ best < 4294967296 ∧ Aside (Hit.bestGo (ws.drop k) k taken out best = Hit.bestGo ws 0 taken out 0) ∧ Aside (Below wA.heap.size wA wr))
    case atStart => exact ⟨0, 0, by omega, by omega, rfl, rfl, by omega, rfl, B0 wA⟩
    case round =>
      obtain ⟨k, best, hk, hg, rfl, rfl, hbb, HGo, HB⟩ := hrel
      by_cases hlt2 : k < ws.length
      · have hki : decide ((k : Int) < ws.length) = true := decide_eq_true (by omega)
        obtain ⟨ad, rfl, hf, hc⟩ := HAT.out k hlt2
        have hc' := (HB.out.cell (p := ad.add k) (by rw [block_of_add]; have := hF _ hf; omega)).trans ((BA.out.cell (p := ad.add k) (by rw [block_of_add]; exact hF _ hf)).trans hc)
        have hs := HWS.out _ (List.getElem_mem hlt2)
        have hgo : Hit.bestGo ws 0 taken out 0 = Hit.bestGo (ws[k] :: ws.drop (k + 1)) k taken out best := by rw [← HGo.out, List.drop_eq_getElem_cons hlt2]
        rw [Hit.bestGo_cons] at hgo
        have h1 := Hit.u32_and ws[k] taken hs (by omega)
        have h2 := Hit.u32_andn ws[k] out hs (by omega)
        have hz : Hit.andn ws[k] out < 4294967296 := Hit.andn_lt (k := 32) hs
        have hk2 : (k : Int) < ws.length := by omega
        generalize Hit.andn ws[k] out = z at *
        generalize ws[k] = s at *
        clear hc hf
        by_cases q1 : s &&& taken = 0
        · rw [q1] at h1
          rw [if_neg (by simp [q1])] at hgo
          by_cases q2 : z = 0
          · rw [if_pos q2] at hgo
            subst q2
            have HGO := Lib.hid hgo
            have hPr := PA.out.later HB.out
            have kr2 := hPr.blk.cell 2
            obtain ⟨u4, ku4⟩ := hPr.cell t.length (by simp) 4 (by omega)
            have fr4 := hPr.frozen (t.length * 5 + 4)
            have hrow := hPr.row
            have r1 := hrow.1
            have r2 := hrow.2.1
            have hltr := hPr.lt
            have HPr := Lib.hid hPr
            have htI : (t.length : Int) < ((t.length + 1 : Nat) : Int) := by omega
            have htI2 : (t.length : Int) < (t.length : Int) + 1 := by omega
            clear hgo q1 hPr hrow HGo hs
            go_wp2_with fail
            go_ret
            refine ⟨rfl, ⟨.slice (some ⟨g, 0, none⟩) (t.length + 1) cap, ?_⟩, ?_⟩
            · have hnode : Hit.nodeF ws size (d + 1) t.length taken out = [⟨0, 0, 0, 0, [(k : Int)]⟩] := by unfold Hit.nodeF; rw [HGO.out]; rfl
              rw [hnode]
              refine PT.leaf _ _ HPr.out ?_
              exact SlI.one (by simp [go_sem]) ⟨by omega, by simp, by omega⟩
            · exact ((BA.out.trans (HB.out.mono (by omega))).setCell (by show pb ≤ g; omega) _).alloc (by rw [set_size]; omega) _
          · rw [if_neg q2] at hgo
            have hz0 : ((z : Int) == 0) = false := by simp; exact q2
            have hO : ∀ (x : Nat), x < 4294967296 → ∀ W, Calls Tryd.prog 34 #[.int .u32 x] W fun e w' => e = .returned (.int .i64 (Hit.pop x : Nat)) ∧ ∃ n, w' = W.drewN n := fun x hx W => ones_any x hx W
            have HO := Lib.hid hO
            have HZ := Lib.hid hz
            have HBB := Lib.hid hbb
            have lz := Hit.pop_le z
            have lb := Hit.pop_le best
            clear q1 hs hO HGo
            by_cases b0 : best = 0
            · subst b0
              rw [if_pos (.inl rfl)] at hgo
              have HGO := Lib.hid hgo.symm
              clear hgo
              go_wp2_with fail
              go_roundg (ws.length - (k + 1))
              case measure => omega
              case rel => exact ⟨k + 1, z, by omega, by omega, by go_num, rfl, hz, HGO.out, HB⟩
            · have b0' : ((best : Int) == 0) = false := by simp; exact b0
              by_cases hlp : Hit.pop z < Hit.pop best
              · rw [if_pos (.inr hlp)] at hgo
                have HGO := Lib.hid hgo.symm
                have l1 : decide (((Hit.pop z : Nat) : Int) < ((Hit.pop best : Nat) : Int)) = true := decide_eq_true (by omega)
                have l2 : decide (Hit.pop z < Hit.pop best) = true := decide_eq_true (by omega)
                clear hgo b0
                go_wp2_with (first | (go_at_call 34; with_reducible refine ((HO.out z HZ.out _).mono ?_); rintro e w' ⟨rfl, nq, rfl⟩) | (go_at_call 34; with_reducible refine ((HO.out best HBB.out _).mono ?_); rintro e w' ⟨rfl, nq2, rfl⟩))
                go_roundg (ws.length - (k + 1))
                case measure => omega
                case rel => exact ⟨k + 1, z, by omega, by omega, by go_num, rfl, hz, HGO.out, below_drewN HB.out _⟩
              · rw [if_neg (fun h => by rcases h with h | h; exact b0 h; exact hlp h)] at hgo
                have HGO := Lib.hid hgo.symm
                have l1 : decide (((Hit.pop z : Nat) : Int) < ((Hit.pop best : Nat) : Int)) = false := decide_eq_false (by omega)
                have l2 : decide (Hit.pop z < Hit.pop best) = false := decide_eq_false (by omega)
                clear hgo b0
                go_wp2_with (first | (go_at_call 34; with_reducible refine ((HO.out z HZ.out _).mono ?_); rintro e w' ⟨rfl, nq, rfl⟩) | (go_at_call 34; with_reducible refine ((HO.out best HBB.out _).mono ?_); rintro e w' ⟨rfl, nq2, rfl⟩))
                go_roundg (ws.length - (k + 1))
                case measure => omega
                case rel => exact ⟨k + 1, best, by omega, by omega, by go_num, rfl, hbb, HGO.out, below_drewN HB.out _⟩
        · rw [if_pos q1] at hgo
          have hn1 : (((s &&& taken : Nat) : Int) != 0) = true := by simp; exact q1
          have HGO := Lib.hid hgo.symm
          generalize s &&& taken = zz at *
          clear hgo q1 HGo hs
          go_wp2_with fail
          go_roundg (ws.length - (k + 1))
          case measure => omega
          case rel => exact ⟨k + 1, best, by omega, by omega, by go_num, rfl, hbb, HGO.out, HB⟩
      · have hki : decide ((k : Int) < ws.length) = false := decide_eq_false (by omega)
        have : k = ws.length := by omega
        subst this
        have hbst : Hit.bestGo ws 0 taken out 0 = .inr best := by rw [← HGo.out, List.drop_length]; rfl
        have hAp : ∀ W, Below pb w W → pb ≤ W.heap.size → Calls Tryd.prog 73 #[.slice As ws.length cA, .int .u32 taken, .int .u32 out] W fun e w' => ∃ A n c, e = .returned (.slice A n c) ∧ n = (Hit.apart ws taken out).length ∧ Own0 w' W.heap.size 3 1 A n c (cellsV vN (Hit.apart ws taken out)) ∧ Below W.heap.size W w' :=
          fun W hW hWs => apart_any _ ws HWS.out hwl taken out (by omega) (by omega) W F (fun b hb => by have := hF b hb; omega) (HR.out.keep (Agree.below hW hF))
        have HAP := Lib.hid hAp
        have HBST := Lib.hid hbst
        have hBr := BA.out.trans (HB.out.mono (by omega))
        have hPr := PA.out.later HB.out
        have kr0 := hPr.blk.cell 0
        have kr1 := hPr.blk.cell 1
        have hltr := hPr.lt
        have HPr := Lib.hid hPr
        have HBr := Lib.hid hBr
        clear hAp hbst HGo hBr hPr
        go_upto_region 16 with (go_at_call 73; refine (HAP.out _ HBr.out (by omega)).mono ?_; rintro e w3 ⟨A3, n3, c3, rfl, hn3, hO3, hb3⟩; have N3 := Lib.hid hn3; have O3 := Lib.hid hO3; have B3 := Lib.hid hb3; clear hn3 hO3 hb3)
        have hn3 : n3 ≤ 1000 := by rw [N3.out]; exact Nat.le_trans (apartGo_len ws _ _ _ _) hwl
        have lp := Hit.pop_le taken
        have hPr3 := HPr.out.later B3.out
        have HP3 := Lib.hid hPr3
        have HB3 := Lib.hid (HBr.out.trans (B3.out.mono (by omega)))
        have l3 := hPr3.lt
        have k1 : ∀ q : Cls w3, q.w.cell? ⟨pb, 1, none⟩ = some (.int .i64 size) := fun q => (Bc q.b l3).trans (HP3.out.blk.cell 1)
        have hO1 : ∀ q : Cls w3, Calls Tryd.prog 34 #[.int .u32 (taken : Int)] q.w fun e w' => e = .returned (.int .i64 (Hit.pop taken : Nat)) ∧ ∃ r : Cls w3, w' = r.w := fun q => (ones_any taken (by omega) q.w).mono fun e w' ⟨q1, n, q2⟩ => ⟨q1, Cls.mk' (below_drewN q.b n), q2⟩
        have HO1 := Lib.hid hO1
        have hrow := hPr3.row
        have r1 := hrow.1
        have r2 := hrow.2.1
        have hsum : IntKind.i64.wrap ((n3 : Int) + ((Hit.pop taken : Nat) : Int)) = (n3 : Int) + ((Hit.pop taken : Nat) : Int) := IntWalk.i64_in _ (by omega)
        have g4 : (w3.heap.size : Nat) ≥ wr.heap.size := B3.out.size
        have hgr : g < wr.heap.size := HPr.out.row.2.1
        clear hO1 hPr3 kr0 kr1 hrow
        by_cases hcond : size ≤ (n3 : Int) + ((Hit.pop taken : Nat) : Int) ∨ best = 0
        · have hnode : Hit.nodeF ws size (d + 1) t.length taken out = [⟨0, 0, 0, 0, Hit.ints (Hit.apart ws taken out)⟩] := by
            unfold Hit.nodeF
            rw [HBST.out]
            simp only
            rw [if_pos (by rw [← N3.out]; rcases hcond with h | h; exact .inl (by omega); exact .inr h)]
            rfl
          have HN := Lib.hid hnode
          have hq : decide (size ≤ (n3 : Int) + ((Hit.pop taken : Nat) : Int)) = true ∨ (decide (size ≤ (n3 : Int) + ((Hit.pop taken : Nat) : Int)) = false ∧ ((best : Int) == 0) = true) := by
            by_cases h : size ≤ (n3 : Int) + ((Hit.pop taken : Nat) : Int)
            · exact .inl (decide_eq_true h)
            · exact .inr ⟨decide_eq_false h, by have := hcond.resolve_left h; simp [this]⟩
          clear hnode hcond
          generalize Hit.pop taken = pt at *
          rcases hq with hq1 | ⟨hq1, hq2⟩
          all_goals
            refine wp_region_class_lit (C := fun w' => ∃ q : Cls w3, w' = q.w) (by kernel_rfl) (by kernel_rfl) ⟨Cls.mk' (B0 w3).drew, rfl⟩ ?_
            repeat (any_goals (first | go_big_quiet_step ((go_at_call 34; with_reducible exact HO1.out _)) | quiet_step ((go_at_call 34; with_reducible exact HO1.out _))))
            refine wpQuiet_nil ?_
            rintro _ ⟨q, rfl⟩
            have hP5 := HP3.out.later q.b
            have hB5 := HB3.out.trans (q.b.mono (by omega))
            have k2 := hP5.blk.cell 2
            obtain ⟨u4, ku4⟩ := hP5.cell t.length (by simp) 4 (by omega)
            have fr4 := hP5.frozen (t.length * 5 + 4)
            have htI : (t.length : Int) < ((t.length + 1 : Nat) : Int) := by omega
            have htI2 : (t.length : Int) < (t.length : Int) + 1 := by omega
            have HP5 := Lib.hid hP5
            have HB5 := Lib.hid hB5
            have hO5 := O3.out.below q.b
            have HO5 := Lib.hid hO5
            have g5 := q.b.size
            clear hP5 hB5 k1 hO5
            generalize q.w = w5 at *
            go_wp2_with fail
            go_ret
            refine ⟨rfl, ⟨.slice (some ⟨g, 0, none⟩) (t.length + 1) cap, ?_⟩, HB5.out.setCell (by show pb ≤ g; omega) _⟩
            rw [HN.out]
            refine PT.leaf0 _ HP5.out ?_
            exact HO5.out.ints N3.out (by rw [← N3.out]; omega) fun b h1 h2 => ⟨by omega, h2, by omega⟩
        · have hb0 : best ≠ 0 := fun h => hcond (.inr h)
          have hc1 : decide (size ≤ (n3 : Int) + ((Hit.pop taken : Nat) : Int)) = false := decide_eq_false fun h => hcond (.inl h)
          have hc2 : ((best : Int) == 0) = false := by simp; exact hb0
          have hnode := Hit.nodeF_on (ws := ws) (size := size) (d := d) (at_ := t.length) HBST.out (by rw [← N3.out]; exact fun h => hcond (by rcases h with h | h; exact .inl (by omega); exact .inr h))
          obtain ⟨o1, o2, o3, o4⟩ := Hit.pick_ok HGD.out (by omega) HBST.out hb0
          have hlow := Hit.low_bit 32 best (by decide) hb0 hbb
          have hbit : Hit.bit (Hit.tz best) < 2 ^ n := Hit.bit_lt o2
          have htzb := Hit.tz_bit (k := Hit.tz best) (by omega)
          have hneg : -(best : Int) % 4294967296 = ((4294967296 - best : Nat) : Int) := by omega
          have hand := Hit.u32_and best (4294967296 - best) hbb (by omega)
          rw [hlow.1] at hand
          have hor1 := Hit.u32_or taken (Hit.bit (Hit.tz best)) (by omega) (by omega)
          have hor2 := Hit.u32_or out (Hit.bit (Hit.tz best)) (by omega) (by omega)
          have hb1 : Hit.bit (Hit.tz best) ≠ 0 := by unfold Hit.bit; exact Nat.ne_of_gt (Nat.two_pow_pos _)
          have hTZ : ∀ W, Below pb w W → Calls Tryd.prog 74 #[.int .u32 ((Hit.bit (Hit.tz best) : Nat) : Int)] W fun e w' => e = .returned (.int .i64 ((Hit.tz best : Nat) : Int)) ∧ W = w' := fun W hW => by
            have := tz32_any (Hit.bit (Hit.tz best)) hb1 (by omega) W (fun j hj => (hW.cell (p := ⟨0, j, none⟩) hpt).trans (HT.out j hj))
            rwa [htzb] at this
          have f1 := Hit.or_lt (k := n) htk hbit
          have f2 := Hit.or_lt (k := n) hot hbit
          have HTZ := Lib.hid hTZ
          have HN := Lib.hid hnode
          have HO3 := Lib.hid o3
          have HO4 := Lib.hid o4
          have F1 := Lib.hid f1
          have F2 := Lib.hid f2
          generalize 4294967296 - best = nbest at *
          generalize Hit.tz best = p at *
          generalize Hit.bit p = bp at *
          generalize hk1 : taken ||| bp = tk2 at *
          generalize hk2 : out ||| bp = ot2 at *
          generalize Hit.pop taken = pt at *
          clear hTZ hnode o1 o2 o3 o4 hlow htzb hb1 hcond hb0 f1 f2 hk1 hk2 hbit
          refine wp_region_class_lit (C := fun w' => ∃ q : Cls w3, w' = q.w) (by kernel_rfl) (by kernel_rfl) ⟨Cls.mk' (B0 w3).drew, rfl⟩ ?_
          repeat (any_goals (first | go_big_quiet_step ((go_at_call 34; with_reducible exact HO1.out _)) | quiet_step ((go_at_call 34; with_reducible exact HO1.out _))))
          refine wpQuiet_nil ?_
          rintro _ ⟨q, rfl⟩
          have hP5 := HP3.out.later q.b
          have hB5 := HB3.out.trans (q.b.mono (by omega))
          have k2 := hP5.blk.cell 2
          obtain ⟨u0, ku0⟩ := hP5.cell t.length (by simp) 0 (by omega)
          have fr0 := hP5.frozen (t.length * 5)
          have htI : (t.length : Int) < ((t.length + 1 : Nat) : Int) := by omega
          have htI2 : (t.length : Int) < (t.length : Int) + 1 := by omega
          have HP5 := Lib.hid hP5
          have HB5 := Lib.hid hB5
          have g5 := q.b.size
          have hTZ5 := Lib.hid (HTZ.out q.w.drew hB5.drew)
          rw [Nat.add_zero] at ku0
          clear hP5 hB5 k1 HP3 HB3 HPr HBr O3 B3 HO1
          generalize q.w = w5 at *
          go_upto_region 20 with fail
          clear hneg
          go_cut [] from 105 to 113 (fun wx => PT pb (.slice As ws.length cA) size wx (.slice (some ⟨g, 0, none⟩) (t.length + 1) cap) (t ++ [⟨p, 0, 0, 0, []⟩]) ∧ Below pb w wx)
          case first =>
            go_region_with (go_at_call 74; with_reducible refine (hTZ5.out.mono ?_); rintro e w' ⟨rfl, rfl⟩)
            all_goals (go_wp2_with fail; go_meet)
            all_goals exact ⟨(HP5.out.picked p).later (B0 _).drew, (HB5.out.setCell (by show pb ≤ g; omega) _).drew⟩
          case rest =>
            obtain ⟨hP6, hB6⟩ := hcut
            have hl6 : (t ++ [(⟨p, 0, 0, 0, []⟩ : Hit.TNode)]).length = t.length + 1 := by simp
            have low : ∀ W, Below pb w W → SlU .u32 F W (.slice As ws.length cA) ws ∧ Tab32 W := fun W hW => ⟨HR.out.keep (Agree.below hW hF), fun j hj => (hW.cell (p := ⟨0, j, none⟩) hpt).trans (HT.out j hj)⟩
            have hpd : 2 ^ (d + 1) = 2 ^ d + 2 ^ d := by rw [Nat.pow_succ]; omega
            have i1 := HIH.out tk2 out wc _ _ (by have := HO3.out; have := HFR.out; omega) F1.out hot (by rw [hl6]; omega) (low wc hB6).1 (low wc hB6).2 hP6
            have ylen := Hit.node_len ws size d (t.length + 1) tk2 out
            unfold NodeP at i1
            rw [hl6] at i1
            obtain ⟨ys, hys⟩ : ∃ ys, Hit.nodeF ws size d (t.length + 1) tk2 out = ys := ⟨_, rfl⟩
            have hnode := HN.out
            rw [hys] at i1 ylen hnode
            have HN2 := Lib.hid hnode
            have HB6 := Lib.hid hB6
            obtain ⟨y, hy⟩ : ∃ y, t.length + 1 = y := ⟨_, rfl⟩
            have I2 : Hid (∀ W v, Below pb w W → PT pb (.slice As ws.length cA) size W v ((t ++ [⟨p, 0, 0, 0, []⟩]) ++ ys) → Calls Tryd.prog 37 #[.pointer (some ⟨pb, 0, none⟩), .int .u32 taken, .int .u32 ot2] W fun e w' => e = .returned (.int .i64 ((y + ys.length : Nat) : Int)) ∧ (∃ v', PT pb (.slice As ws.length cA) size w' v' (((t ++ [⟨p, 0, 0, 0, []⟩]) ++ ys) ++ Hit.nodeF ws size d (y + ys.length) taken ot2)) ∧ Below pb W w') := by
              intro W v hW hPW
              have hl7 : ((t ++ [(⟨p, 0, 0, 0, []⟩ : Hit.TNode)]) ++ ys).length = y + ys.length := by simp; omega
              have := HIH.out taken ot2 W v _ (by have := HO4.out; have := HFR.out; omega) htk F2.out (by rw [hl7]; omega) (low W hW).1 (low W hW).2 hPW
              unfold NodeP at this
              rw [hl7] at this
              exact this
            rw [hy] at i1 HN2
            have I1 := Lib.hid i1
            have HY := Lib.hid hy
            obtain ⟨z, hz⟩ : ∃ z, y + ys.length = z := ⟨_, rfl⟩
            rw [hz] at I2 HN2
            have HZ := Lib.hid hz
            clear i1 hnode hl6 low hpd ylen hys hP6 hB6 hz hy HN HO3 HO4 HP5 HB5 HIH PA BA
            go_upto_region 23 with (first
              | (go_at_call 37; with_reducible refine (I1.out.mono ?_); rintro e w7 ⟨rfl, ⟨v7, hP7⟩, hB7⟩; have P7 := Lib.hid hP7; have B7 := Lib.hid (HB6.out.trans hB7); clear hP7 hB7)
              | (go_at_call 37; with_reducible refine ((I2.out _ _ B7.out P7.out).mono ?_); rintro e w8 ⟨rfl, ⟨v8, hP8⟩, hB8⟩; have P8 := Lib.hid hP8; have B8 := Lib.hid (B7.out.trans hB8); clear hP8 hB8))
            obtain ⟨g8, c8, rfl⟩ := P8.out.at_ (by simp; omega)
            obtain ⟨n8, hn8⟩ : ∃ n8, (((t ++ [(⟨p, 0, 0, 0, []⟩ : Hit.TNode)]) ++ ys) ++ Hit.nodeF ws size d z taken ot2).length = n8 := ⟨_, rfl⟩
            have hn8t : t.length < n8 := by rw [← hn8]; simp only [List.length_append, List.length_cons, List.length_nil]; omega
            have hP8 := P8.out
            rw [hn8] at hP8
            have k2 := hP8.blk.cell 2
            have hrow8 := hP8.row
            have r8 := hrow8.1
            obtain ⟨u1, ku1⟩ := hP8.cell t.length (by simp only [List.length_append, List.length_cons, List.length_nil]; omega) 1 (by omega)
            obtain ⟨u2, ku2⟩ := hP8.cell t.length (by simp only [List.length_append, List.length_cons, List.length_nil]; omega) 2 (by omega)
            have fr1 := hP8.frozen
            have htI8 : (t.length : Int) < (n8 : Int) := by omega
            rw [List.append_assoc, List.append_assoc, List.cons_append, List.nil_append] at hP8
            have HP8 := Lib.hid hP8
            have HN8 := Lib.hid hn8
            clear hP8 hrow8 P7 P8 hn8 htI htI2
            go_region
            all_goals
              go_wp2
              go_ret
              refine ⟨rfl, ⟨.slice (some ⟨g8, 0, none⟩) n8 c8, ?_⟩, ((B8.out.setCell (by show pb ≤ g8; omega) _).setCell (by show pb ≤ g8; omega) _).drew⟩
              rw [HN2.out]
              exact (HP8.out.kids _ _).later (B0 _).drew
end Go.Proofs.YthgjhfapnilfhaaDoor
