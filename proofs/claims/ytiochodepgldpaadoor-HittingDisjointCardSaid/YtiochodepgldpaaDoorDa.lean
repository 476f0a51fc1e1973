/- Walks over hitting: how many sets can be disjoint. -/
import Derived.Test.YtiochodepgldpaaDoorHU
import Derived.Test.YtiochodepgldpaaDoorMemo
import Derived.Test.YtiochodepgldpaaDoorBlocks
import Derived.Deep.CutRange
namespace Go.Proofs.YtiochodepgldpaaDoor
open Go Go.RowKit
open Go.Maps (Keyed)
section
variable {P : Program} {ops : Array Oper} {C : World → Prop} {Q : Act → Prop} {a : Act} {o : Oper} {rest : List Oper} {v : Value}
theorem wpQuiet_val (hgd : o.guard = none) (hrun : ∀ w, C w → (execOp a.eval o).run P w = .ok (.value v) w) (h : wpQuiet P ops C Q rest (a.put o.dst v)) : wpQuiet P ops C Q (o :: rest) a :=
  wpQuiet_step fun K hK => by
    rw [if_pos (by simp [Region.wanted, hgd])]
    exact ⟨v, fun w hC => by unfold Oper.quietAt; rw [hrun w hC]; exact ⟨rfl, rfl⟩, hK _ h⟩
theorem wpQuiet_load (t : TypeId) (x : Operand) (ho : o.op = .load t x) (hgd : o.guard = none) (ad : Addr) (hx : a.eval x = .pointer (some ad)) (hrun : ∀ w, C w → (loadVar t ad).run P w = .ok v w) (h : wpQuiet P ops C Q rest (a.put o.dst v)) : wpQuiet P ops C Q (o :: rest) a :=
  wpQuiet_val hgd (fun w hC => by
    unfold execOp
    simp only [ho, hx, Instr.loadAt, Instr.sureAddr, Sem.run_bind, Sem.run_pure, Result.andThen_ok, hrun w hC]) h
theorem wpQuiet_lookup (t : TypeId) (x ix : Operand) (c : Bool) (ho : o.op = .lookup t x ix c) (hgd : o.guard = none) (m key : Value) (hx : a.eval x = m) (hk : a.eval ix = key) (hrun : ∀ w, C w → (Instr.lookup t m key c).run P w = .ok v w) (h : wpQuiet P ops C Q rest (a.put o.dst v)) : wpQuiet P ops C Q (o :: rest) a :=
  wpQuiet_val hgd (fun w hC => by
    unfold execOp
    simp only [ho, hx, hk, Sem.run_bind, Sem.run_pure, Result.andThen_ok, hrun w hC]) h
end
/-- The key of what is kept: the first set that is still allowed, and the numbers that are used. -/
def keyV (a b : Nat) : Value := .agg #[.int .u32 (a : Int), .int .u32 (b : Int)]
theorem keyV_inj {a b c d : Nat} (h : keyV a b = keyV c d) : a = c ∧ b = d := by
  unfold keyV at h
  simp at h
  omega
theorem keyK : Keyed Tryd.prog 127 := Keyed.of_law (deep_law (m := 2) (by decide) (by kernel_rfl) (by kernel_rfl) (by kernel_rfl))
theorem wf_u32 {a : Nat} (h : a < 4294967296) : (Lit.int .u32 (a : Int)).wf = true := by
  have := wf_wrap .u32 (a : Int)
  rwa [IntKind.wrap_u32', Int.emod_eq_of_lt (by omega) (by omega)] at this
theorem keyV_key (a b : Nat) (ha : a < 4294967296) (hb : b < 4294967296) : ∃ kl, keyOf Tryd.prog 127 (keyV a b) = some kl := by
  have ht : Tryd.prog.underlying 127 = some (.array 2 83) := Tryd.underlying127
  have hu : Tryd.prog.underlying 83 = some (.int .u32) := Tryd.underlying83
  have hc : Tryd.prog.cellsOf 127 = 2 := by kernel_rfl
  have hcu : Tryd.prog.cellsOf 83 = 1 := by kernel_rfl
  have hk : Tryd.prog.keyType 127 = true := by kernel_rfl
  have h1 : 1 ≤ Tryd.prog.types.size := of_decide_eq_true (by kernel_rfl)
  obtain ⟨d, hd⟩ : ∃ d, Tryd.prog.types.size = d + 1 := ⟨Tryd.prog.types.size - 1, by omega⟩
  have wa := wf_u32 ha
  have wb := wf_u32 hb
  have hfm : (keyV a b).formed Tryd.prog 127 = true := by simp [keyV, Value.formed, ht, hc]
  have hl : Tryd.prog.keyLits (Tryd.prog.types.size + 1) 127 (keyV a b).cells.toList = some [.int .u32 (a : Int), .int .u32 (b : Int)] := by
    rw [hd]
    unfold Program.keyLits
    simp only [ht, keyV, Value.cells, hc, hcu]
    simp [List.range_succ, Program.keyLits, hu, wa, wb]
  refine ⟨.string (keyBytes [.int .u32 (a : Int), .int .u32 (b : Int)]), ?_⟩
  unfold keyOf
  rw [ht]
  simp only [hk, hfm, Bool.and_self, if_true, hl, Option.map_some]
/-- Every entry is right. -/
def Right (ws : List Nat) (l : List (Value × Value)) : Prop := ∀ p ∈ l, ∃ a b, a ≤ 100 ∧ b < 4294967296 ∧ p = (keyV a b, .int .i64 ((Hit.countF (ws.drop a) b : Nat) : Int))
def Kept (ws : List Nat) (mb : Nat) (w : World) : Prop := ∃ l, MapAt w mb l ∧ Right ws l
theorem Right.keys {ws : List Nat} {l : List (Value × Value)} (h : Right ws l) : ∀ p ∈ l, ∃ kl, keyOf Tryd.prog 127 p.1 = some kl := fun p hp => by
  obtain ⟨a, b, ha, hb, rfl⟩ := h p hp
  exact keyV_key a b (by omega) hb
theorem Kept.of_block {ws : List Nat} {mb : Nat} {w w' : World} (h : Kept ws mb w) (e : w'.heap[mb]? = w.heap[mb]?) : Kept ws mb w' := by
  obtain ⟨l, h1, h2⟩ := h
  exact ⟨l, h1.of_block e, h2⟩
theorem Kept.below {ws : List Nat} {mb : Nat} {w w' : World} (h : Kept ws mb w) (hb : Below w.heap.size w w') : Kept ws mb w' := by
  obtain ⟨l, h1, h2⟩ := h
  exact ⟨l, h1.below hb h1.lt, h2⟩
theorem Kept.lt {ws : List Nat} {mb : Nat} {w : World} (h : Kept ws mb w) : mb < w.heap.size := by
  obtain ⟨l, h1, _⟩ := h
  exact h1.lt
theorem Kept.ne {ws : List Nat} {mb g : Nat} {w : World} {t : TypeId} {cs : Array Value} (h : Kept ws mb w) (hk : Blk w g t cs) : g ≠ mb := by
  rintro rfl
  obtain ⟨l, ⟨es, c, hb, _⟩, _⟩ := h
  unfold Blk at hk
  rw [hb] at hk
  cases hk
theorem zeroI (w : World) : (zeroValue 3).run Tryd.prog w = .ok (.int .i64 0) w := by kernel_rfl
/-- A look-up: the count, or nothing. -/
theorem kept_look {ws : List Nat} {mb : Nat} {w : World} (h : Kept ws mb w) (a b : Nat) (ha : a ≤ 100) (hb : b < 4294967296) :
    (Instr.lookup 80 (.map (some mb)) (keyV a b) true).run Tryd.prog w = .ok (.tuple #[.int .i64 0, .bool false]) w ∨
    (Instr.lookup 80 (.map (some mb)) (keyV a b) true).run Tryd.prog w = .ok (.tuple #[.int .i64 ((Hit.countF (ws.drop a) b : Nat) : Int), .bool true]) w := by
  obtain ⟨l, h1, h2⟩ := h
  obtain ⟨kl, hkl⟩ := keyV_key a b (by omega) hb
  rcases run_lookup_at true keyK Tryd.underlying80 (zeroI w) h1 h2.keys hkl with ⟨q, _⟩ | ⟨v, hv, q⟩
  · exact .inl q
  · obtain ⟨a', b', _, _, e⟩ := h2 _ hv
    injection e with e1 e2
    obtain ⟨rfl, rfl⟩ := keyV_inj e1
    rw [e2] at q
    exact .inr q
/-- A store of what is right. -/
theorem kept_store {ws : List Nat} {mb : Nat} {w : World} (h : Kept ws mb w) (a b : Nat) (ha : a ≤ 100) (hb : b < 4294967296) :
    ∃ w', (Instr.mapUpdate 80 (.map (some mb)) (keyV a b) (.int .i64 ((Hit.countF (ws.drop a) b : Nat) : Int))).run Tryd.prog w = .ok () w' ∧ Kept ws mb w' ∧ w.grownBy w' (some mb) := by
  obtain ⟨l, h1, h2⟩ := h
  obtain ⟨kl, hkl⟩ := keyV_key a b (by omega) hb
  obtain ⟨w', l', q1, q2, q3, q4, _⟩ := run_update_at keyK Tryd.underlying80 h1 h2.keys (val := .int .i64 ((Hit.countF (ws.drop a) b : Nat) : Int)) hkl
  refine ⟨w', q1, ⟨l', q2, fun p hp => ?_⟩, q3⟩
  rcases q4 p hp with rfl | hp
  · exact ⟨a, b, ha, hb, rfl⟩
  · exact h2 p hp
/-- What a call of count leaves. -/
def CountP (ws : List Nat) (mb n : Nat) (w : World) (e : Ending) (w' : World) : Prop := e = .returned (.int .i64 (n : Int)) ∧ w.grownBy w' (some mb) ∧ Kept ws mb w'
theorem gb_trans {a b c : World} {mb : Nat} (h : a.grownBy b (some mb)) (k : b.grownBy c (some mb)) : a.grownBy c (some mb) :=
  ⟨k.os.trans h.os, k.tape.trans h.tape, k.output.trans h.output, Nat.le_trans h.size k.size, fun i hi hne => (k.block i (Nat.lt_of_lt_of_le hi h.size) hne).trans (h.block i hi hne)⟩
theorem gb_drew {a b : World} {row : Option Nat} (h : a.drew.grownBy b row) : a.grownBy b row := ⟨h.os, h.tape, h.output, h.size, h.block⟩
theorem grown_of_below' {a w : World} (h : Below a.heap.size a w) (mb : Nat) : a.grownBy w (some mb) := only_of_below h _
theorem countF_le (ws : List Nat) (used : Nat) : Hit.countF ws used ≤ ws.length := by
  induction ws generalizing used with
  | nil => exact Nat.le_refl 0
  | cons s r ih =>
    rw [Hit.countF_cons]
    have h1 := ih used
    have h2 := ih (used ||| s)
    split <;> simp <;> omega
set_option maxRecDepth 100000 in
set_option maxHeartbeats 4000000 in
theorem count_any' (pk mb : Nat) (vs : Value) (ws : List Nat) (hw : ∀ s ∈ ws, s < 4294967296) (hwl : ws.length ≤ 100) (F : Nat → Prop) :
    ∀ (d fr used : Nat) (w : World), ws.length - fr ≤ d → fr ≤ ws.length → used < 4294967296 → (∀ b, F b → b < w.heap.size ∧ b ≠ mb) → Blk w pk 82 #[vs, .map (some mb)] → SlU .u32 F w vs ws → Kept ws mb w →
      Calls Tryd.prog 36 #[.pointer (some ⟨pk, 0, none⟩), .int .i64 (fr : Nat), .int .u32 (used : Nat)] w (CountP ws mb (Hit.countF (ws.drop fr) used) w) := by
  intro d
  induction d with
  | zero =>
    intro fr used w hd hfr hu hF hB hr hK
    obtain rfl : fr = ws.length := by omega
    obtain ⟨As, cA, rfl, _⟩ := hr.open
    have k0 := hB.cell 0
    have HK := Lib.hid hK
    have he : (((ws.length : Nat) : Int) == (ws.length : Int)) = true := by simp
    rw [List.drop_length]
    clear hB hr hK hF hd
    go_enter Tryd.func36, Tryd.ntmps36
    go_wp2_with fail
    go_ret
    exact ⟨rfl, World.grownBy.refl w _, HK.out⟩
  | succ d ih =>
    intro fr used w hd hfr hu hF hB hr hK
    obtain ⟨As, cA, rfl, _, _, hat⟩ := hr.open
    by_cases hend : fr = ws.length
    · subst hend
      have k0 := hB.cell 0
      have HK := Lib.hid hK
      have he : (((ws.length : Nat) : Int) == (ws.length : Int)) = true := by simp
      rw [List.drop_length]
      clear hB hr hK hF hd hat ih
      go_enter Tryd.func36, Tryd.ntmps36
      go_wp2_with fail
      go_ret
      exact ⟨rfl, World.grownBy.refl w _, HK.out⟩
    · have hlt : fr < ws.length := by omega
      have he : ((fr : Int) == (ws.length : Int)) = false := by simp; omega
      have hfI : (fr : Int) < ws.length := by omega
      have hf100 : (fr : Int) ≤ 100 := by omega
      have HDD := Lib.hid hd
      have k0 := hB.cell 0
      have k1 := hB.cell 1
      have hpl := hB.lt
      have HB := Lib.hid hB
      have HR := Lib.hid hr
      have HKp := Lib.hid hK
      have HF := Lib.hid hF
      have HIH := Lib.hid ih
      have HAT := Lib.hid hat
      have HW := Lib.hid hw
      clear hB hr hK hF ih hat hw hd
      go_enter Tryd.func36, Tryd.ntmps36
      go_upto_region 4 with fail
      have hb1 := Ba (B0 w) (.cells #[.int .u32 (fr : Int), .int .u32 (used : Int)] 127)
      have hbk := Blk.new w 127 #[.int .u32 (fr : Int), .int .u32 (used : Int)]
      have hsz1 : w.heap.size < (w.alloc (.cells #[.int .u32 (fr : Int), .int .u32 (used : Int)] 127)).heap.size := by simp
      have hmb := HKp.out.lt
      have hpm := HKp.out.ne HB.out
      generalize (w.alloc (.cells #[.int .u32 (fr : Int), .int .u32 (used : Int)] 127)) = w1 at *
      obtain ⟨kb, hkb⟩ : ∃ kb, w.heap.size = kb := ⟨_, rfl⟩
      have hK1 := HKp.out.below hb1
      have hB1 := HB.out.below hb1 hpl
      have hR1 := HR.out.keep (Agree.below hb1 fun b hb => (HF.out b hb).1)
      have p0 := hB1.cell 0
      have p1 := hB1.cell 1
      have hld : (loadVar 127 ⟨w.heap.size, 0, none⟩).run Tryd.prog w1.drew = .ok (keyV fr used) w1.drew := run_loadVar_row w1.drew w.heap.size 127 127 _ (0, 0) (.array 2 83) hbk Tryd.underlying127 rfl (by kernel_rfl)
      have hF1 : ∀ b, F b → b < w1.heap.size ∧ b ≠ mb := fun b hb => ⟨by have := (HF.out b hb).1; omega, (HF.out b hb).2⟩
      have HB1 := Lib.hid hb1
      have HBK := Lib.hid hbk
      have HK1 := Lib.hid hK1
      have HBp := Lib.hid hB1
      have HR1 := Lib.hid hR1
      have HF1 := Lib.hid hF1
      have hlook := kept_look (w := w1.drew) (show Kept ws mb w1.drew from hK1) fr used (by omega) hu
      rw [hkb] at hld ⊢
      clear hb1 hbk hK1 hB1 hR1 hF1 k0 k1 HB HR HKp
      rcases hlook with hlk | hlk
      · refine wp_region_class_lit (C := fun w' => w' = w1.drew) (by kernel_rfl) (by kernel_rfl) rfl ?_
        repeat (any_goals (first | go_big_quiet_step (fail) | quiet_step (fail)))
        refine wpQuiet_load 127 _ rfl rfl ⟨kb, 0, none⟩ rfl (fun w' hw' => by rw [hw']; exact hld) ?_
        refine wpQuiet_lookup _ _ _ _ rfl rfl _ _ rfl rfl (fun w' hw' => by rw [hw']; exact hlk) ?_
        repeat (any_goals (first | go_big_quiet_step (fail) | quiet_step (fail)))
        refine wpQuiet_nil ?_
        rintro _ rfl
        have hmk : kb ≠ mb := by omega
        have i1 : Calls Tryd.prog 36 #[.pointer (some ⟨pk, 0, none⟩), .int .i64 ((fr : Int) + 1), .int .u32 (used : Nat)] w1.drew (CountP ws mb (Hit.countF (ws.drop (fr + 1)) used) w1.drew) := HIH.out (fr + 1) used w1.drew (by have := HDD.out; omega) (by omega) hu HF1.out HBp.out HR1.out HK1.out
        have I1 := Lib.hid i1
        have hdr : ws.drop fr = ws[fr] :: ws.drop (fr + 1) := List.drop_eq_getElem_cons hlt
        have hcf := Hit.countF_cons ws[fr] (ws.drop (fr + 1)) used
        rw [← hdr] at hcf
        have hsw := HW.out _ (List.getElem_mem hlt)
        obtain ⟨ad, rfl, hFa, hca⟩ := HAT.out fr hlt
        have hc1 := countF_le (ws.drop (fr + 1)) used
        have hc2 := countF_le (ws.drop (fr + 1)) (used ||| ws[fr])
        have hdl : (ws.drop (fr + 1)).length ≤ 100 := by rw [List.length_drop]; omega
        have hand := Hit.u32_and ws[fr] used hsw hu
        have hor := Hit.u32_or used ws[fr] hu hsw
        have hoz : used ||| ws[fr] < 4294967296 := Hit.or_lt (k := 32) hu hsw
        have hstep : ∀ W, CountP ws mb (Hit.countF (ws.drop (fr + 1)) used) w1.drew (.returned (.int .i64 ((Hit.countF (ws.drop (fr + 1)) used : Nat) : Int))) W → Calls Tryd.prog 36 #[.pointer (some ⟨pk, 0, none⟩), .int .i64 ((fr : Int) + 1), .int .u32 ((used ||| ws[fr] : Nat) : Int)] W (CountP ws mb (Hit.countF (ws.drop (fr + 1)) (used ||| ws[fr])) W) := fun W hW =>
          HIH.out (fr + 1) (used ||| ws[fr]) W (by have := HDD.out; omega) (by omega) hoz (fun b hb => ⟨Nat.lt_of_lt_of_le (HF1.out b hb).1 hW.2.1.size, (HF1.out b hb).2⟩) (HBp.out.drew.grown hW.2.1 (by intro e; injection e with e; exact hpm e)) ((show SlU .u32 F w1.drew _ ws from HR1.out).keep (Agree.grown hW.2.1 fun b hb => ⟨(HF1.out b hb).1, by intro e; injection e with e; exact (HF1.out b hb).2 e⟩)) hW.2.2
        have HST := Lib.hid hstep
        have hcW : ∀ W, w1.drew.grownBy W (some mb) → W.cell? (ad.add fr) = some (.int .u32 ((ws[fr] : Nat) : Int)) := fun W hW => by
          have hab : (ad.add fr).block = ad.block := block_of_add _ _
          rw [World.cell?_of_block (w := w1.drew) (hW.block (ad.add fr).block (by rw [hab]; exact (HF1.out _ hFa).1) (by rw [hab]; intro e; injection e with e; exact (HF1.out _ hFa).2 e))]
          exact (HB1.out.cell (p := ad.add fr) (by rw [hab]; exact (HF.out _ hFa).1)).trans hca
        have HCW := Lib.hid hcW
        have HCF := Lib.hid hcf
        generalize ws[fr] = s at *
        clear hld hlk p0 p1 hdr hcf i1 hstep hcW hca
        obtain ⟨c1, hcc1⟩ : ∃ c1, Hit.countF (ws.drop (fr + 1)) used = c1 := ⟨_, rfl⟩
        rw [hcc1] at I1 HST hc1
        go_upto_region 8 with (go_at_call 36; (with_reducible refine (I1.out.mono ?_)); rintro e w2 ⟨rfl, hg2, hk2⟩; have HP2 := Lib.hid (show CountP ws mb c1 w1.drew (.returned (.int .i64 (c1 : Int))) w2 from ⟨rfl, hg2, hk2⟩); have r0 := (HBp.out.drew.grown hg2 (by intro e; injection e with e; exact hpm e)).cell 0; have r1 := (HBp.out.drew.grown hg2 (by intro e; injection e with e; exact hpm e)).cell 1; have r2 := HCW.out w2 hg2; clear hg2 hk2)
        by_cases hz : s &&& used = 0
        case' neg =>
          have hzn : (((s &&& used : Nat) : Int) == 0) = false := by simp; exact hz
          have hcn : Hit.countF (ws.drop fr) used = c1 := by rw [HCF.out, if_neg hz, hcc1]
          have HCN := Lib.hid hcn
          have HPx := Lib.hid HP2.out.2
          obtain ⟨cnt, hcnt⟩ : ∃ cnt, c1 = cnt := ⟨_, rfl⟩
          subst hcnt
          generalize s &&& used = z at *
          clear hcn hz hor hoz hc2
          go_upto_region 10 with fail
          obtain ⟨wx, rfl⟩ : ∃ wx : World, wx = w2 := ⟨_, rfl⟩
        case' pos =>
          rw [hz] at hand
          obtain ⟨c2, hcc2⟩ : ∃ c2, Hit.countF (ws.drop (fr + 1)) (used ||| s) = c2 := ⟨_, rfl⟩
          have hcn : Hit.countF (ws.drop fr) used = max c1 (1 + c2) := by rw [HCF.out, if_pos hz, hcc1, hcc2]
          have HCN := Lib.hid hcn
          have i2 := HST.out w2 HP2.out
          rw [hcc2] at i2 hc2
          have I2 := Lib.hid i2
          have hmx : (if (c1 : Int) < 1 + (c2 : Int) then 1 + (c2 : Int) else (c1 : Int)) = ((max c1 (1 + c2) : Nat) : Int) := by split <;> omega
          have HMX := Lib.hid hmx
          clear hmx
          generalize used ||| s = us at *
          clear hcn hz i2
          go_upto_region 10 with (go_at_call 36; (with_reducible refine (I2.out.mono ?_)); rintro e w3 ⟨rfl, hg3, hk3⟩; have HPx := Lib.hid (show w1.drew.grownBy w3 (some mb) ∧ Kept ws mb w3 from ⟨gb_trans HP2.out.2.1 hg3, hk3⟩); clear hg3 hk3)
          rw [HMX.out]
          obtain ⟨wx, rfl⟩ : ∃ wx : World, wx = w3 := ⟨_, rfl⟩
          clear HMX r0 r1 r2
          generalize max c1 (1 + c2) = cnt at *
        all_goals
          have hGx := HPx.out.1
          have t1 := (HBp.out.drew.grown hGx (by intro e; injection e with e; exact hpm e)).cell 1
          have hbx := (HBK.out.drew.grown hGx (by intro e; injection e with e; omega))
          rw [hkb] at hbx
          have hldx : (loadVar 127 ⟨kb, 0, none⟩).run Tryd.prog wx.drew = .ok (keyV fr used) wx.drew := run_loadVar_row wx.drew kb 127 127 _ (0, 0) (.array 2 83) hbx Tryd.underlying127 rfl (by kernel_rfl)
          obtain ⟨w5, hup, hK5, hG5⟩ := kept_store (w := wx.drew) (show Kept ws mb wx.drew from HPx.out.2) fr used (by omega) hu
          rw [HCN.out] at hup
          have HGx := Lib.hid hGx
          have HG5 := Lib.hid hG5
          have HK5 := Lib.hid hK5
          clear hGx hG5 hK5 hbx hand
          refine region_blocks (by kernel_rfl) ?_
          refine from_quiet 6 (fun w' => w' = wx.drew) (by kernel_rfl) (by simp only [List.take_succ_cons, List.take_zero, List.drop_zero]; exact rfl) rfl ?_
          repeat (any_goals (first | go_big_quiet_step (fail) | quiet_step (fail)))
          refine wpQuiet_load 127 _ rfl rfl ⟨kb, 0, none⟩ rfl (fun w' hw' => by rw [hw']; exact hldx) ?_
          repeat (any_goals (first | go_big_quiet_step (fail) | quiet_step (fail)))
          refine wpQuiet_nil ?_
          (intro wz hwz; have hwz := hwz.symm; subst hwz)
          refine from_list 7 (by kernel_rfl) (by simp only [List.take_succ_cons, List.take_zero, List.drop_succ_cons, List.drop_zero]; exact rfl) ?_
          (intro Q' hQ' hX; clear hX)
          clear hldx t1
          go_wp2_with fail
          refine from_end rfl ?_
          clear hup
          go_wp2_with fail
          go_ret
          exact ⟨by rw [HCN.out]; rfl, gb_trans (grown_of_below' HB1.out.drew mb) (gb_trans HGx.out (gb_drew HG5.out)), HK5.out⟩
      · refine wp_region_class_lit (C := fun w' => w' = w1.drew) (by kernel_rfl) (by kernel_rfl) rfl ?_
        repeat (any_goals (first | go_big_quiet_step (fail) | quiet_step (fail)))
        refine wpQuiet_load 127 _ rfl rfl ⟨kb, 0, none⟩ rfl (fun w' hw' => by rw [hw']; exact hld) ?_
        refine wpQuiet_lookup _ _ _ _ rfl rfl _ _ rfl rfl (fun w' hw' => by rw [hw']; exact hlk) ?_
        repeat (any_goals (first | go_big_quiet_step (fail) | quiet_step (fail)))
        refine wpQuiet_nil ?_
        rintro _ rfl
        clear hld hlk p0 p1
        go_wp2_with fail
        go_ret
        exact ⟨rfl, grown_of_below' (HB1.out.drew) mb, HK1.out⟩
end Go.Proofs.YtiochodepgldpaaDoor
