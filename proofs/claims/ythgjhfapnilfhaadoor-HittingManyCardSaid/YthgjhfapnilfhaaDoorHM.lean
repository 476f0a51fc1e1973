/- Walks over hitting: Prove. Walks over the statements of hitting: the problem of a plan. Walks over the statements of hitting: the examples that each statement asks first. Words for what Reduce leaves, and for the first set that is missed. -/
import Derived.Test.YthgjhfapnilfhaaDoorHNb
import Derived.Deep.RegionHeld3
import Derived.Deep.RegionLaw
import Derived.Deep.DeepCutAuto
namespace Go.Proofs.YthgjhfapnilfhaaDoor
open Go Go.RowKit
/-- What Prove returns for a right problem. -/
def ProveR (n : Nat) (ws : List Nat) (size : Int) (w : World) (e : Ending) (w' : World) : Prop :=
  Below w.heap.size w w' ∧ (((size < 0 ∨ (n : Int) < size) ∧ e = .returned (.tuple #[.slice none 0 0, .int .i64 3])) ∨ ((0 ≤ size ∧ size ≤ n ∧ (Hit.pop (Hit.least ws n) : Int) < size) ∧ e = .returned (.tuple #[.slice none 0 0, .int .i64 18])) ∨
    ((0 ≤ size ∧ size ≤ n ∧ size ≤ (Hit.pop (Hit.least ws n) : Int)) ∧ ∃ pb vs A c, w.heap.size ≤ pb ∧ e = .returned (.tuple #[.slice A (Hit.nodeF ws size (n + 1) 0 0 0).length c, .int .i64 0]) ∧ PT pb vs size w' (.slice A (Hit.nodeF ws size (n + 1) 0 0 0).length c) (Hit.nodeF ws size (n + 1) 0 0 0)))
theorem free_le (n w : Nat) : Hit.free n w ≤ n := Nat.le_trans (List.length_filter_le _ _) (by simp)
set_option maxRecDepth 100000 in
set_option maxHeartbeats 2000000 in
theorem prove_any (n : Nat) (hn : n ≤ 20) (vs : Value) (ws : List Nat) (hg : Hit.Good ws n) (hwl : ws.length ≤ 100) (size : Int) (w : World) (F : Nat → Prop) (hF : ∀ b, F b → b < w.heap.size) (hr : SlII F w vs (setsOf ws)) (hT : Tab32 w) :
    Calls Tryd.prog 10 #[.agg #[.int .i64 n, vs], .int .i64 size] w (ProveR n ws size w) := by
  have hw := good_lt hg (by omega)
  have hC : ∀ W, Below w.heap.size w W → Calls Tryd.prog 33 #[.agg #[.int .i64 n, vs]] W fun e w' => e = .returned (.int .i64 0) ∧ Below W.heap.size W w' :=
    fun W hW => by
      have := check_any n vs (setsOf ws) W F (fun b hb => Nat.lt_of_lt_of_le (hF b hb) hW.size) (hr.keep (Agree.below hW hF))
      rw [show Hit.checkF n (setsOf ws) = 0 from Hit.checkF_of hn hwl hg] at this
      exact this
  have hL : ∀ W, Below w.heap.size w W → Calls Tryd.prog 35 #[.agg #[.int .i64 n, vs]] W fun e w' => e = .returned (.int .u32 (Hit.least ws n : Nat)) ∧ Below W.heap.size W w' :=
    fun W hW => least_any n hn vs ws hg (by omega) W F (fun b hb => Nat.lt_of_lt_of_le (hF b hb) hW.size) (hr.keep (Agree.below hW hF))
  have hW : ∀ W, Below w.heap.size w W → Calls Tryd.prog 36 #[.agg #[.int .i64 n, vs]] W fun e w' => ∃ A m c, e = .returned (.slice A m c) ∧ m = ws.length ∧ Own0 w' W.heap.size 95 1 A m c (cellsV (vU .u32) ws) ∧ Below W.heap.size W w' :=
    fun W hW => words_any n vs ws hw (by omega) W F (fun b hb => Nat.lt_of_lt_of_le (hF b hb) hW.size) (hr.keep (Agree.below hW hF))
  obtain ⟨As, cs, rfl, _⟩ := hr.open
  have hlt := least_lt hg (by omega)
  have hlt32 : Hit.least ws n < 4294967296 := hlt
  have htb : 0 < w.heap.size := World.block_lt_of_cell? _ _ (hT 0 (by decide))
  have hO1 := fun W => ones_any (Hit.least ws n) hlt32 W
  have lp := Hit.pop_le (Hit.least ws n)
  have HC := Lib.hid hC
  have HL := Lib.hid hL
  have HW := Lib.hid hW
  have HT := Lib.hid hT
  have HO1 := Lib.hid hO1
  have HG := Lib.hid hg
  clear hC hL hW hr hT hlt hlt32 hO1 hg hw
  unfold ProveR
  generalize Hit.least ws n = q at *
  generalize hpq : Hit.pop q = pq at *
  clear hpq
  go_enter Tryd.func10, Tryd.ntmps10
  go_wp2_with fail
  refine (HC.out _ (Ba (B0 w) _)).mono ?_
  rintro e w1 ⟨rfl, hb1⟩
  have c0 : w1.cell? ⟨w.heap.size, 0, none⟩ = some (.int .i64 n) := (Bc hb1 (by simp)).trans (by simp [go_sem])
  have c1 : w1.cell? ⟨w.heap.size, 1, none⟩ = some (.slice As (setsOf ws).length cs) := (Bc hb1 (by simp)).trans (by simp [go_sem])
  have s1 : w.heap.size < w1.heap.size := by have := hb1.size; simp at this; omega
  have HB := Lib.hid (Bt (Ba (B0 w) _) hb1)
  clear hb1
  by_cases hrg : size < 0 ∨ (n : Int) < size
  · have hq : decide (size < 0) = true ∨ (decide (size < 0) = false ∧ decide ((n : Int) < size) = true) := by
      simp only [decide_eq_true_eq, decide_eq_false_iff_not]; omega
    have HRG := Lib.hid hrg
    clear hrg
    rcases hq with hq | ⟨hq1, hq2⟩
    all_goals
      go_wp2_with fail
      go_ret2
      exact ⟨HB.out, .inl ⟨HRG.out, rfl⟩⟩
  · have hq1 : decide (size < 0) = false := decide_eq_false (by omega)
    have hq2 : decide ((n : Int) < size) = false := decide_eq_false (by omega)
    have hrg2 : 0 ≤ size ∧ size ≤ n := by omega
    clear hrg
    go_upto_region 6 with fail
    by_cases hlt : (pq : Int) < size
    · have hd : decide ((pq : Int) < size) = true := decide_eq_true hlt
      have HLT := Lib.hid hlt
      clear hlt
      go_wp2_with (first
        | (go_at_call 35; refine (HL.out _ HB.out).mono ?_; rintro e w2 ⟨rfl, hb2⟩; have HB2 := Lib.hid (Bt HB.out hb2); clear hb2)
        | (go_at_call 34; refine (HO1.out _).mono ?_; rintro e w' ⟨rfl, nq, rfl⟩; have HB3 := Lib.hid (below_drewN HB2.out nq)))
      go_ret2
      exact ⟨HB3.out, .inr (.inl ⟨⟨hrg2.1, hrg2.2, HLT.out⟩, rfl⟩)⟩
    · have hd : decide ((pq : Int) < size) = false := decide_eq_false hlt
      have HLT := Lib.hid hlt
      clear hlt
      go_upto_region 9 with (first
        | (go_at_call 35; refine (HL.out _ HB.out).mono ?_; rintro e w2 ⟨rfl, hb2⟩; have c02 := (Bc hb2 s1).trans c0; have c12 := (Bc hb2 s1).trans c1; have HB2 := Lib.hid (Bt HB.out hb2); clear hb2 c0 c1)
        | (go_at_call 34; refine (HO1.out _).mono ?_; rintro e w' ⟨rfl, nq, rfl⟩; have HB3 := Lib.hid (below_drewN HB2.out nq))
        | (go_at_call 36; refine (HW.out _ HB3.out).mono ?_; rintro e w4 ⟨A4, m4, c4, rfl, hm4, hO4, hb4⟩; have HB4 := Lib.hid (Bt HB3.out hb4); have HO4 := Lib.hid hO4; have HM4 := Lib.hid hm4; clear hb4 hO4 hm4))
      have hbk := Blk.new w4 100 #[.slice A4 m4 c4, .int .i64 size, .slice none 0 0]
      have hb5 := Ba (B0 w4) (.cells #[.slice A4 m4 c4, .int .i64 size, .slice none 0 0] 100)
      have hO5 := HO4.out.below hb5
      have hP5 : PT w4.heap.size (.slice A4 m4 c4) size (w4.alloc (.cells #[.slice A4 m4 c4, .int .i64 size, .slice none 0 0] 100)) (.slice none 0 0) [] := ⟨hbk, OwnL.nil⟩
      have hs4 := HB4.out.size
      have hcall : Calls Tryd.prog 37 #[.pointer (some ⟨w4.heap.size, 0, none⟩), .int .u32 0, .int .u32 0] (w4.alloc (.cells #[.slice A4 m4 c4, .int .i64 size, .slice none 0 0] 100)) (NodeP w4.heap.size (.slice A4 m4 c4) ws size (w4.alloc (.cells #[.slice A4 m4 c4, .int .i64 size, .slice none 0 0] 100)) [] (n + 1) 0 0) := node_any w4.heap.size (by omega) (.slice A4 m4 c4) ws n hn HG.out (by omega) size (by omega) (fun b => b < w4.heap.size) (fun _ h => h) (n + 1) 0 0 _ _ [] (by rw [Nat.zero_or]; have := free_le n 0; omega) (Nat.two_pow_pos n) (Nat.two_pow_pos n)
        (by have : 2 ^ (n + 1) ≤ 2 ^ 21 := Nat.pow_le_pow_right (by decide) (by omega)
            simp; omega) ((HO4.out.words HM4.out (by omega) fun b _ h => h).keep (Agree.below hb5 fun _ h => h)) ((HT.out.below HB4.out).below hb5) hP5
      have HCL := Lib.hid hcall
      clear hbk hO5 hP5 hcall
      go_wp2_with (go_at_call 37; (with_reducible refine (HCL.out.mono ?_)); rintro e w6 ⟨he6, ⟨v6, hP6⟩, hB6⟩; have he7 : e = .returned (.int .i64 0) := he6; subst he7; clear he6; have P6 := hP6; rw [List.nil_append] at P6; obtain ⟨A6, c6, rfl⟩ := P6.form; have k62 := P6.blk.cell 2; have HP6 := Lib.hid P6; have HB6 := Lib.hid hB6; clear hP6 hB6 P6)
      go_ret2
      refine ⟨HB4.out.trans (((B0 w4).alloc (Nat.le_refl _) _).trans HB6.out |>.mono hs4), .inr (.inr ⟨⟨hrg2.1, hrg2.2, by have := HLT.out; omega⟩, w4.heap.size, _, A6, c6, hs4, rfl, HP6.out⟩)⟩
end Go.Proofs.YthgjhfapnilfhaaDoor
namespace Go.Proofs.YthgjhfapnilfhaaDoor
open Go Go.RowKit
/-- A call as one step of a region that draws its order. -/
theorem step_call {P : Program} {ops : Array Oper} {o : Oper} {a : Act} {w : World} {K : Act → World → Prop} {Q : Exit → Act → World → Prop} {E : Prop} (hgd : o.guard = none) (g : Nat) (args : Array Operand) (tys : Array TypeId)
    (ho : o.op = .call { callee := .value (.func g), args := args, argTypes := tys }) (eg : ∀ vs w, (callFunc g vs).run P w = .ok (.enter g vs) w) (vals : Array Value) (hv : args.map a.eval = vals) {Post : Ending → World → Prop} (hc : Calls P g vals w Post)
    (h : ∀ e w', Post e w' → ∃ v, e = .returned v ∧ K (a.put o.dst v) w') : if Region.wanted o (yielded ops a.tmps) = true then Oper.wp P o a w K Q else E := by
  rw [if_pos (by simp [Region.wanted, hgd])]
  have hrun : (execOp a.eval o).run P w = .ok (.enter g vals) w := by
    unfold execOp
    simp only [ho, resolve, Sem.run_bind]
    simp [Deferred.ofValue, Act.eval, invoke, hv, eg, Result.andThen]
  unfold Oper.wp
  rw [hrun]
  refine hc.mono ?_
  rintro e w' hp
  obtain ⟨v, rfl, hk⟩ := h e w' hp
  exact hk
theorem step_call1 {P : Program} {ops : Array Oper} {o : Oper} {a : Act} {w : World} {K : Act → World → Prop} {Q : Exit → Act → World → Prop} {E : Prop} (hgd : o.guard = none) (g : Nat) (x1 : Operand) (tys : Array TypeId)
    (ho : o.op = .call { callee := .value (.func g), args := #[x1], argTypes := tys }) (eg : ∀ vs w, (callFunc g vs).run P w = .ok (.enter g vs) w) (v1 : Value) (h1 : a.eval x1 = v1) {Post : Ending → World → Prop} (hc : Calls P g #[v1] w Post)
    (h : ∀ e w', Post e w' → ∃ v, e = .returned v ∧ K (a.put o.dst v) w') : if Region.wanted o (yielded ops a.tmps) = true then Oper.wp P o a w K Q else E :=
  step_call hgd g #[x1] tys ho eg #[v1] (by simp [h1]) hc h
theorem step_call2 {P : Program} {ops : Array Oper} {o : Oper} {a : Act} {w : World} {K : Act → World → Prop} {Q : Exit → Act → World → Prop} {E : Prop} (hgd : o.guard = none) (g : Nat) (x1 x2 : Operand) (tys : Array TypeId)
    (ho : o.op = .call { callee := .value (.func g), args := #[x1, x2], argTypes := tys }) (eg : ∀ vs w, (callFunc g vs).run P w = .ok (.enter g vs) w) (v1 v2 : Value) (h1 : a.eval x1 = v1) (h2 : a.eval x2 = v2) {Post : Ending → World → Prop} (hc : Calls P g #[v1, v2] w Post)
    (h : ∀ e w', Post e w' → ∃ v, e = .returned v ∧ K (a.put o.dst v) w') : if Region.wanted o (yielded ops a.tmps) = true then Oper.wp P o a w K Q else E :=
  step_call hgd g #[x1, x2] tys ho eg #[v1, v2] (by simp [h1, h2]) hc h
namespace Hit
/-- The sets of a plan, as bits. -/
def planW (n : Nat) (sets : List Nat) : List Nat := ((sets.take 7).map fun s => s &&& (bit n - 1)).filter fun b => b != 0
theorem planW_good (n : Nat) (sets : List Nat) : Good (planW n sets) n := fun s hs => by
  unfold planW at hs
  rw [List.mem_filter, List.mem_map] at hs
  obtain ⟨⟨a, _, rfl⟩, h0⟩ := hs
  refine ⟨by simpa using h0, ?_⟩
  have : a &&& (bit n - 1) ≤ bit n - 1 := Nat.and_le_right
  have : 0 < bit n := Nat.two_pow_pos n
  unfold bit at *
  omega
theorem planW_len (n : Nat) (sets : List Nat) : (planW n sets).length ≤ 7 := by
  unfold planW
  refine Nat.le_trans (List.length_filter_le _ _) ?_
  simp
  omega
/-- The sets of the first i bytes. -/
def planTo (n : Nat) (sets : List Nat) (i : Nat) : List Nat := ((sets.take i).map fun s => s &&& (bit n - 1)).filter fun b => b != 0
theorem planTo_succ (n : Nat) (sets : List Nat) (i : Nat) (h : i < sets.length) : planTo n sets (i + 1) = planTo n sets i ++ (if sets[i] &&& (bit n - 1) = 0 then [] else [sets[i] &&& (bit n - 1)]) := by
  unfold planTo
  rw [List.take_succ_eq_append_getElem h, List.map_append, List.filter_append]
  congr 1
  by_cases e : sets[i] &&& (bit n - 1) = 0
  · simp [e]
  · simp [e]
theorem planTo_end (n : Nat) (sets : List Nat) (i : Nat) (h : i = sets.length ∨ i = 7) (h7 : i ≤ 7) : planTo n sets i = planW n sets := by
  unfold planTo planW
  rcases h with rfl | rfl
  · rw [List.take_of_length_le (Nat.le_refl _), List.take_of_length_le h7]
  · rfl
theorem planTo_len (n : Nat) (sets : List Nat) (i : Nat) : (planTo n sets i).length ≤ i := by
  unfold planTo
  refine Nat.le_trans (List.length_filter_le _ _) ?_
  simp
  omega
end Hit
theorem setsOf_append (a b : List Nat) : setsOf (a ++ b) = setsOf a ++ setsOf b := by simp [setsOf]
/-- The problem of a plan while it is made. -/
structure PM (pb : Nat) (n : Int) (w : World) (v : Value) (ls : List (List Int)) : Prop where
  blk : Blk w pb 30 #[.int .i64 n, v]
  own : OwnL (pb + 1) 37 1 (SlC (WF pb w v)) w v ls
theorem SlC.keep {F G : Nat → Prop} {w w' : World} {c : List Value} {x : List Int} (h : SlC F w c x) (ha : Agree F w w') (hF : ∀ b, F b → G b) : SlC G w' c x := by
  obtain ⟨vw, e, hs⟩ := h
  exact ⟨vw, e, (SlI.keep hs ha).mono hF⟩
section
variable {pb : Nat} {n : Int} {w w' : World} {v : Value} {ls : List (List Int)}
theorem PM.lt (h : PM pb n w v ls) : pb < w.heap.size := h.blk.lt
theorem PM.form (h : PM pb n w v ls) : ∃ A c, v = .slice A ls.length c := by
  obtain ⟨cs, _, _, h3⟩ := h.own
  exact own_form h3
theorem PM.later (h : PM pb n w v ls) (hb : Below w.heap.size w w') : PM pb n w' v ls := by
  refine ⟨h.blk.below hb h.lt, h.own.keep rfl (fun xs hx => ?_) fun c x hc => ?_⟩
  · exact hx.kept (row := none) ⟨hb.os, hb.tape, hb.output, hb.size, fun i hi _ => hb.block i hi⟩ (by cases hv : v.ownBlock <;> simp)
  · exact hc.keep (Agree.below hb fun b hF => hF.2.1) fun b ⟨q1, q2, q3⟩ => ⟨q1, Nat.lt_of_lt_of_le q2 hb.size, q3⟩
theorem PM.append {cs : List (List Value)} {w2 : World} {g cap : Nat} {u : Value} {l : List Int} (hk : Blk w pb 30 #[.int .i64 n, v]) (h1 : cs.length = ls.length) (h2 : ∀ i (h : i < ls.length), ∃ c, cs[i]? = some c ∧ c.length = 1 ∧ SlC (WF pb w v) w c ls[i])
    (h3 : w.ownsRow (pb + 1) 37 1 v ls.length cs.flatten) (hb : Below w.heap.size w w2) (hown : w'.ownsRow (pb + 1) 37 1 (.slice (some ⟨g, 0, none⟩) (ls.length + 1) cap) (ls.length + 1) (cs.flatten ++ [u]))
    (hgrow : w2.grownBy w' v.ownBlock) (hat : some g = v.ownBlock ∨ g = w2.heap.size) (hu : SlI (fun b => w.heap.size ≤ b ∧ b < w2.heap.size) w2 u l) :
    PM pb n (w'.setCell ⟨pb, 1, none⟩ (.slice (some ⟨g, 0, none⟩) (ls.length + 1) cap)) (.slice (some ⟨g, 0, none⟩) (ls.length + 1) cap) (ls ++ [l]) := by
  have hne : some pb ≠ v.ownBlock := fun e => by have := (h3.lt pb e.symm).1; omega
  have hsz : w2.heap.size ≤ w'.heap.size := hgrow.size
  have hs2 := hb.size
  have hpl : pb < w.heap.size := hk.lt
  have hF : ∀ b, pb < b → b < w2.heap.size → some b ≠ v.ownBlock → WF pb (w'.setCell ⟨pb, 1, none⟩ (.slice (some ⟨g, 0, none⟩) (ls.length + 1) cap)) (.slice (some ⟨g, 0, none⟩) (ls.length + 1) cap) b := fun b q1 q2 q3 => by
    refine ⟨q1, by rw [set_size]; omega, ?_⟩
    show some b ≠ some g
    rcases hat with e | e
    · rw [e]; exact q3
    · intro e2; injection e2; omega
  have hag : ∀ b, pb < b → b < w2.heap.size → some b ≠ v.ownBlock → (w'.setCell ⟨pb, 1, none⟩ (.slice (some ⟨g, 0, none⟩) (ls.length + 1) cap)).heap[b]? = w2.heap[b]? := fun b q1 q2 q3 => by
    rw [Below.heap_setCell _ _ _ _ (show b ≠ (⟨pb, 1, none⟩ : Addr).block by show b ≠ pb; omega), hgrow.block b q2 q3]
  refine ⟨?_, OwnL.snoc h1 h2 rfl ⟨u, rfl, ?_⟩ (fun c x hc => hc.keep (fun b ⟨q1, q2, q3⟩ => ?_) fun b ⟨q1, q2, q3⟩ => hF b q1 (by omega) q3) (ownsRow_setCell_below hown (by simp) _)⟩
  · have := ((hk.below hb hk.lt).grown hgrow hne).set_ 1 (.slice (some ⟨g, 0, none⟩) (ls.length + 1) cap)
    simpa using this
  · have hnb : ∀ b, w.heap.size ≤ b → some b ≠ v.ownBlock := fun b hb e => by have := (h3.lt b e.symm).2; omega
    exact (hu.keep (fun b ⟨q1, q2⟩ => hag b (by omega) q2 (hnb b q1))).mono fun b ⟨q1, q2⟩ => hF b (by omega) q2 (hnb b q1)
  · rw [hag b q1 (by omega) q3]; exact hb.block b q2
theorem PM.sl (h : PM pb n w v ls) (hl : ls.length ≤ 1000) : SlII (fun b => pb < b ∧ b < w.heap.size) w v ls := by
  refine (h.own.sl (F := fun b => pb < b ∧ b < w.heap.size) (by omega) fun b q1 q2 _ => ⟨by omega, q2⟩).monoR fun c x hc => ?_
  exact SlC.keep hc (Agree.refl _ _) fun b q => ⟨q.1, q.2.1⟩
end
theorem SlII.wider {F G : Nat → Prop} {w : World} {v : Value} {l : List (List Int)} (h : SlII F w v l) (hF : ∀ b, F b → G b) : SlII G w v l :=
  (Sl.mono h hF).monoR fun _ _ hc => SlC.keep hc (Agree.refl _ _) hF
theorem infoS : (Tryd.prog.info? 37).map (fun i => (i.zero, i.size, i.bytes)) = some (some (.slice none 0 0), 1, 24) := by kernel_rfl
theorem elemS : ElemN Tryd.prog 28 37 1 24 := ⟨Tryd.underlying28, by
  obtain ⟨i, hi, hz, hs, hb⟩ := info_parts infoS
  exact ⟨i, _, hi, hz, hs, hb, rfl⟩⟩
set_option maxRecDepth 100000 in
set_option maxHeartbeats 4000000 in
theorem make_any (N : Nat) (hN : N < 256) (vs : Value) (sets : List Nat) (hs : ∀ s ∈ sets, s < 256) (w : World) (F : Nat → Prop) (hF : ∀ b, F b → b < w.heap.size) (hr : SlU .u8 F w vs sets) :
    Calls Tryd.prog 9 #[.agg #[.int .u8 N, vs]] w fun e w' => ∃ A m c, e = .returned (.agg #[.int .i64 ((1 + N % 8 : Nat) : Int), .slice A m c]) ∧ m = (Hit.planW (1 + N % 8) sets).length ∧ SlII (fun b => w.heap.size ≤ b ∧ b < w'.heap.size) w' (.slice A m c) (setsOf (Hit.planW (1 + N % 8) sets)) ∧ Below w.heap.size w w' := by
  obtain ⟨As, cs, rfl, hlc, hll, hat⟩ := hr.open
  have HAT := Lib.hid hat
  have HS := Lib.hid hs
  clear hat hr hs
  have hcast : (1 : Int) + (N : Int) % 8 = ((1 + N % 8 : Nat) : Int) := by omega
  have hn8 : 1 + N % 8 ≤ 8 := by omega
  have hN2 : (N : Int) < 256 := by omega
  have HCA := Lib.hid hcast
  have HN8 := Lib.hid hn8
  clear hcast hn8
  go_enter Tryd.func9, Tryd.ntmps9
  go_upto_region 2 with fail
  rw [HCA.out]
  generalize hnn : 1 + N % 8 = n at *
  have hn8 := HN8.out
  have HNN := Lib.hid hnn
  clear hnn hN hN2 HCA HN8
  have hbk : Blk (((w.alloc (.cells #[.int .u8 N, .slice As sets.length cs] 24)).alloc (.cells #[.int .i64 0, .slice none 0 0] 30)).alloc (.cells #[.int .i64 n, .slice none 0 0] 30)) (w.heap.size + 1 + 1) 30 #[.int .i64 n, .slice none 0 0] := by
    have := Blk.new ((w.alloc (.cells #[.int .u8 N, .slice As sets.length cs] 24)).alloc (.cells #[.int .i64 0, .slice none 0 0] 30)) 30 #[.int .i64 n, .slice none 0 0]
    simpa using this
  have hbr : Blk (((w.alloc (.cells #[.int .u8 N, .slice As sets.length cs] 24)).alloc (.cells #[.int .i64 0, .slice none 0 0] 30)).alloc (.cells #[.int .i64 n, .slice none 0 0] 30)) (w.heap.size + 1) 30 #[.int .i64 0, .slice none 0 0] := by
    have := (Blk.new (w.alloc (.cells #[.int .u8 N, .slice As sets.length cs] 24)) 30 #[.int .i64 0, .slice none 0 0]).alloc (.cells #[.int .i64 n, .slice none 0 0] 30)
    simpa using this
  have hbx : (((w.alloc (.cells #[.int .u8 N, .slice As sets.length cs] 24)).alloc (.cells #[.int .i64 0, .slice none 0 0] 30)).alloc (.cells #[.int .i64 n, .slice none 0 0] 30)).cell? ⟨w.heap.size, 1, none⟩ = some (.slice As sets.length cs) := by simp [go_sem]
  have hb3 : Below w.heap.size w (((w.alloc (.cells #[.int .u8 N, .slice As sets.length cs] 24)).alloc (.cells #[.int .i64 0, .slice none 0 0] 30)).alloc (.cells #[.int .i64 n, .slice none 0 0] 30)) := Ba (Ba (Ba (B0 w) _) _) _
  generalize (((w.alloc (.cells #[.int .u8 N, .slice As sets.length cs] 24)).alloc (.cells #[.int .i64 0, .slice none 0 0] 30)).alloc (.cells #[.int .i64 n, .slice none 0 0] 30)) = w3 at *
  have HBR := Lib.hid hbr
  have HBX := Lib.hid hbx
  have HB3 := Lib.hid hb3
  have hP0 : PM (w.heap.size + 1 + 1) n w3 (.slice none 0 0) [] := ⟨hbk, OwnL.nil⟩
  have HP0 := Lib.hid hP0
  have hs3 := hbk.lt
  clear hbk hbr hbx hb3 hP0
  go_wp2_with fail
  go_loopg [4] 7 (fun gg s4 wr => ∃ i : Nat, i ≤ sets.length ∧ i ≤ 7 ∧ 7 - i ≤ gg ∧ s4 = .int .i64 i ∧ Aside (∃ v, PM (w.heap.size + 1 + 1) n wr v (setsOf (Hit.planTo n sets i))) ∧ Aside (Below (w.heap.size + 1 + 1) w3 wr))
  case atStart => exact ⟨0, by omega, by omega, by omega, rfl, ⟨_, HP0.out⟩, Below.refl _ _⟩
  case round =>
    obtain ⟨i, hi, hi7, hg, rfl, ⟨v, hP⟩, HB⟩ := hrel
    obtain ⟨A, c, rfl⟩ := hP.form
    rw [setsOf_length] at hP
    have kx := (HB.out.cell (p := ⟨w.heap.size, 1, none⟩) (by show w.heap.size < _; omega)).trans HBX.out
    have kp0 := hP.blk.cell 0
    have kp1 := hP.blk.cell 1
    have fp1 := hP.blk.frozen 1
    have hpl := hP.lt
    have hlen := Hit.planTo_len n sets i
    by_cases hlt : i < sets.length ∧ i < 7
    · obtain ⟨hlt, hi77⟩ := hlt
      have d1 : decide ((i : Int) < sets.length) = true := decide_eq_true (by omega)
      have d2 : decide ((i : Int) < 7) = true := decide_eq_true (by omega)
      have d3 : (i : Int) < sets.length := by omega
      obtain ⟨ad, rfl, hf, hc⟩ := HAT.out i hlt
      have hfl := hF _ hf
      have hc' := (HB.out.cell (p := ad.add i) (by rw [block_of_add]; omega)).trans ((HB3.out.cell (p := ad.add i) (by rw [block_of_add]; exact hfl)).trans hc)
      have hcl : ad.block < wr.heap.size := by omega
      have hsb := HS.out _ (List.getElem_mem hlt)
      have hstep := Hit.planTo_succ n sets i hlt
      have two := Hit.two_u64w n (by omega)
      have hbn : Hit.bit n ≤ 256 := Nat.pow_le_pow_right (n := 2) (by decide) hn8
      have hbp : 0 < Hit.bit n := Nat.two_pow_pos n
      have hsub : IntKind.u64.wrap (((Hit.bit n : Nat) : Int) - 1) = ((Hit.bit n - 1 : Nat) : Int) := by
        rw [IntKind.wrap_u64]; omega
      have hand := Hit.u64_and sets[i] (Hit.bit n - 1) (by omega) (by omega)
      have hzl : sets[i] &&& (Hit.bit n - 1) < 4294967296 := Hit.and_lt (k := 32) (by omega)
      generalize sets[i] &&& (Hit.bit n - 1) = z at *
      generalize Hit.bit n - 1 = bn1 at *
      generalize Hit.bit n = bn at *
      generalize sets[i] = s at *
      have hs2 : (s : Int) < 256 := by omega
      have n64 : (n : Int) % 18446744073709551616 = n := by omega
      have n64b : min n 64 = n := by omega
      have s64 : (s : Int) % 18446744073709551616 = s := by omega
      have kqx : ∀ q : Cls wr, q.w.cell? ⟨w.heap.size, 1, none⟩ = some (.slice (some ad) sets.length cs) := fun q => (Bc q.b (by omega)).trans kx
      have kqe : ∀ q : Cls wr, q.w.cell? (ad.add i) = some (.int .u8 s) := fun q => (q.b.cell (p := ad.add i) (by rw [block_of_add]; exact hcl)).trans hc'
      have kqn : ∀ q : Cls wr, q.w.cell? ⟨w.heap.size + 1 + 1, 0, none⟩ = some (.int .i64 n) := fun q => (Bc q.b hpl).trans kp0
      have HP := Lib.hid hP
      have HST := Lib.hid hstep
      clear hP hstep hc hc' kp0 kp1 fp1 hf
      go_upto_region 5 with fail
      refine wp_region_class_lit (C := fun w' => ∃ q : Cls wr, w' = q.w) (by kernel_rfl) (by kernel_rfl) ⟨Cls.mk' (B0 wr).drew, rfl⟩ ?_
      repeat (any_goals (first | go_big_quiet_step (fail) | quiet_step (fail)))
      refine wpQuiet_nil ?_
      rintro _ ⟨q, rfl⟩
      have hP5 := HP.out.later q.b
      have hB5 := HB.out.trans (q.b.mono (by omega))
      clear kqx kqe kqn kx
      generalize q.w = w5 at *
      by_cases hz : z = 0
      · subst hz
        have hst := HST.out
        rw [if_pos rfl, List.append_nil] at hst
        have HST2 := Lib.hid hst
        have HP5 := Lib.hid hP5
        have HB5 := Lib.hid hB5
        clear hst hP5 hB5 hand
        go_wp2_with fail
        go_roundg (7 - (i + 1))
        case measure => omega
        case rel => exact ⟨i + 1, by omega, by omega, by omega, by go_num, ⟨_, by rw [HST2.out]; exact HP5.out⟩, HB5.out⟩
      · have hz0 : ((z : Int) != 0) = true := by simp; exact hz
        have hst := HST.out
        rw [if_neg hz] at hst
        have HST2 := Lib.hid hst
        obtain ⟨cl, hc1, hc2, hc3⟩ := hP5.own
        rw [setsOf_length] at hc3
        have hkb := hP5.blk
        have k1 := hkb.cell 1
        have f1 := hkb.frozen 1
        have hl5 := hP5.lt
        have hMe := members_any z hzl w5.drew
        have hc3d : w5.drew.ownsRow (w.heap.size + 1 + 1 + 1) 37 1 (.slice A (Hit.planTo n sets i).length c) (Hit.planTo n sets i).length cl.flatten := hc3
        have HC3D := Lib.hid hc3d
        have hkbd : Blk w5.drew (w.heap.size + 1 + 1) 30 #[.int .i64 n, .slice A (Hit.planTo n sets i).length c] := hkb
        have HKBD := Lib.hid hkbd
        have HME := Lib.hid hMe
        have HKB := Lib.hid hkb
        have HC1 := Lib.hid hc1
        have HC2 := Lib.hid hc2
        have HC3 := Lib.hid hc3
        have HB5 := Lib.hid hB5
        have hlen2 : (Hit.planTo n sets i).length ≤ 7 := by omega
        have hb1 : w.heap.size + 1 + 1 + 1 ≤ w5.heap.size := by omega
        clear hP5 hst hc1 hc2 hc3 hkb hMe hz hB5 hand hc3d hkbd
        go_upto_region 7 with fail
        go_region_law (first
            | (refine step_call1 rfl 24 _ _ rfl (enters_of Tryd.func24 (by kernel_rfl) rfl) (.int .u64 (z : Int)) rfl HME.out ?_; rintro e w6 ⟨A6, m6, c6, rfl, hm6, hO6, hb6⟩; refine ⟨_, rfl, ?_⟩; have k6 := (Bc hb6 hl5).trans k1; have HM6 := Lib.hid hm6; have HO6 := Lib.hid hO6; have HB6 := Lib.hid hb6; have hs6 : w5.heap.size ≤ w6.heap.size := hb6.size; have hl6 : w.heap.size + 1 + 1 < w6.heap.size := Nat.lt_of_lt_of_le hl5 hs6; have HK6 := Lib.hid (HKBD.out.below hb6 hl5); clear hm6 hO6 hb6)
            | (refine step_appS elemS (by omega) rfl _ _ rfl (w.heap.size + 1 + 1 + 1) (.slice A (Hit.planTo n sets i).length c) (Hit.planTo n sets i).length cl.flatten rfl ?_ ⟨w6.heap.size, 0, none⟩ 1 [.slice A6 m6 c6] rfl rfl (Flds.new w6 _ _) (by simp [Value.oneCell']) (by omega) (by omega) (by simp; omega) ?_; (exact ((HC3D.out.kept (row := none) (only_of_below HB6.out none) (by cases hv : (Value.slice A (Hit.planTo n sets i).length c).ownBlock <;> simp)).alloc _)); intro g2 cap2 w7 hown7 hgrow7 hat7; have hk7 := (HK6.out.alloc _).grown hgrow7 (fun e => by have := (HC3.out.lt _ e.symm).1; omega); have k7 := hk7.cell 1; have f7 := hk7.frozen 1; have HO7 := Lib.hid hown7; have HG7 := Lib.hid hgrow7; have HA7 := Lib.hid hat7; clear hk7 hown7 hgrow7 hat7))
        all_goals
          have hP7 := PM.append (w := w5.drew) HKBD.out HC1.out HC2.out (by rw [setsOf_length]; exact HC3D.out) (Ba HB6.out (.cells #[.slice A6 m6 c6] 37)) (by rw [setsOf_length]; exact HO7.out) HG7.out HA7.out
            (((HO6.out.ints HM6.out (Nat.le_trans (Nat.le_trans (List.length_filter_le _ _) (by simp)) (by decide : 64 ≤ 1000000000)) (F := fun b => w5.drew.heap.size ≤ b ∧ b < w6.heap.size) fun b q1 q2 => ⟨q1, q2⟩).keep (Agree.below (Ba (B0 w6) _) fun b h => h.2)).mono fun b h => ⟨h.1, by have := h.2; simp; omega⟩)
          rw [setsOf_length] at hP7
          have hB7 : Below (w.heap.size + 1 + 1) w3 (w7.setCell ⟨w.heap.size + 1 + 1, 1, none⟩ (.slice (some ⟨g2, 0, none⟩) ((Hit.planTo n sets i).length + 1) cap2)) := ((HB5.out.drew.trans ((HB6.out.mono (show w.heap.size + 1 + 1 ≤ w5.drew.heap.size from Nat.le_of_lt hl5)).alloc (by omega) (.cells #[.slice A6 m6 c6] 37))).grown HG7.out (by simp; omega) (fun k hk => by have := (HC3.out.lt k hk).1; omega)).setCell (Nat.le_refl _) _
          have HP7 := Lib.hid hP7
          have HB7 := Lib.hid hB7
          clear hP7 hB7
          go_wp2_with fail
          go_roundg (7 - (i + 1))
          case measure => omega
          case rel => exact ⟨i + 1, by omega, by omega, by omega, by go_num, ⟨_, by rw [HST2.out, setsOf_append]; exact HP7.out⟩, HB7.out⟩
    · have hend : i = sets.length ∨ i = 7 := by omega
      have hw := Hit.planTo_end n sets i hend hi7
      have hq : (decide ((i : Int) < sets.length) = false ∧ decide (i < sets.length) = false ∧ sets.length ≤ i) ∨ ((decide (((7 : Nat) : Int) < sets.length) = true ∧ decide (7 < sets.length) = true ∧ 7 < sets.length ∧ (7 : Int) < sets.length) ∧ i = 7) := by
        simp only [decide_eq_true_eq, decide_eq_false_iff_not]; omega
      have kr := (HB.out.block (w.heap.size + 1) (by omega)).trans HBR.out
      have hbr : Blk wr (w.heap.size + 1) 30 #[.int .i64 0, .slice none 0 0] := kr
      have r0 := hbr.cell 0
      have r1 := hbr.cell 1
      have fr := hbr.frozen
      have hpw := Hit.planW_len n sets
      rw [hw] at hP kp1
      have HP := Lib.hid hP
      have HBr := Lib.hid hbr
      clear hlt hend hw hP kr hbr hlen
      rcases hq with ⟨hq1, hq2, hq3⟩ | ⟨⟨hq1, hq2, hq3, hq4⟩, rfl⟩
      all_goals
        go_wp2_with fail
        have hag : Agree (fun b => w.heap.size + 1 + 1 < b ∧ b < wr.heap.size) wr ((wr.setCell ⟨w.heap.size + 1, 0, none⟩ (.int .i64 n)).setCell ⟨w.heap.size + 1, 1, none⟩ (.slice A (Hit.planW n sets).length c)) := fun b hb => by
          rw [Below.heap_setCell _ _ _ b (show b ≠ w.heap.size + 1 by omega), Below.heap_setCell _ _ _ b (show b ≠ w.heap.size + 1 by omega)]
        have hsl := (((HP.out.sl (by rw [setsOf_length]; omega)).keep hag).wider (G := fun b => w.heap.size ≤ b ∧ b < ((wr.setCell ⟨w.heap.size + 1, 0, none⟩ (.int .i64 n)).setCell ⟨w.heap.size + 1, 1, none⟩ (.slice A (Hit.planW n sets).length c)).heap.size) fun b hb => ⟨by omega, by rw [set_size, set_size]; exact hb.2⟩)
        have hbl : Below w.heap.size w ((wr.setCell ⟨w.heap.size + 1, 0, none⟩ (.int .i64 n)).setCell ⟨w.heap.size + 1, 1, none⟩ (.slice A (Hit.planW n sets).length c)) := ((HB3.out.trans (HB.out.mono (by omega))).setCell (by show w.heap.size ≤ w.heap.size + 1; omega) _).setCell (by show w.heap.size ≤ w.heap.size + 1; omega) _
        have hz := (HBr.out.set_ 0 (.int .i64 n)).set_ 1 (.slice A (Hit.planW n sets).length c)
        have z0 := hz.cell 0
        have z1 := hz.cell 1
        generalize ((wr.setCell ⟨w.heap.size + 1, 0, none⟩ (.int .i64 n)).setCell ⟨w.heap.size + 1, 1, none⟩ (.slice A (Hit.planW n sets).length c)) = wz at *
        refine bodyPost_ret (v := .agg #[.int .i64 n, .slice A (Hit.planW n sets).length c]) ?_ rfl ?_
        · simp [results, Tryd.results9, go_sem, z0, z1]
        rw [HNN.out]
        exact ⟨A, _, c, rfl, rfl, hsl, hbl⟩
end Go.Proofs.YthgjhfapnilfhaaDoor
namespace Go.Proofs.YthgjhfapnilfhaaDoor
open Go Go.RowKit
theorem Sl.of_blk {α : Type} {F : Nat → Prop} {R : World → List Value → α → Prop} {w : World} {b : Nat} {t : TypeId} (l : List α) (cs : List Value) (h : Blk w b t cs.toArray) (hl : cs.length = l.length) (hm : l.length ≤ 1000) (hR : ∀ i (hi : i < l.length), R w [cs[i]'(by omega)] l[i]) (hF : F b) :
    Sl F 1 R w (.slice (some ⟨b, 0, none⟩) l.length l.length) l := by
  refine ⟨_, _, rfl, Nat.le_refl _, by omega, fun i hi => ⟨_, [cs[i]'(by omega)], rfl, hF, rfl, hR i hi, fun j u hu => ?_⟩⟩
  cases j with
  | zero =>
    simp at hu
    subst hu
    have := h.cell i
    have h2 : cs.toArray[i]? = some (cs[i]'(by omega)) := by simp [show i < cs.length by omega]
    rw [h2] at this
    have e : (((⟨b, 0, none⟩ : Addr).add (i * 1)).add 0) = ⟨b, i, none⟩ := by
      rw [add_of_add, Nat.mul_one, Nat.add_zero]
      unfold Addr.add
      by_cases h0 : i = 0 <;> simp [h0]
    rw [e]
    exact this
  | succ j => simp at hu
theorem PT.slt {pb : Nat} {vs : Value} {size : Int} {w : World} {v : Value} {t : List Hit.TNode} (h : PT pb vs size w v t) (hl : t.length ≤ 1000000) : SlT (fun b => pb < b ∧ b < w.heap.size) w v t := by
  refine (h.own.sl (F := fun b => pb < b ∧ b < w.heap.size) (by omega) fun b q1 q2 _ => ⟨by omega, q2⟩).monoR fun c x hc => ?_
  exact NodeC.keep hc (Agree.refl _ _) fun b q => ⟨q.1, q.2.1⟩
namespace Hit
theorem ex_sets : setsOf exWs = [[0, 1], [1, 2], [0, 2]] := by decide +kernel
theorem ex_good : Good exWs 3 := by
  unfold Good exWs
  decide
theorem ex_pop : pop (least exWs 3) = 2 := by decide +kernel
theorem ex_hit : hit exWs (word [0, 1, 2]) = true := by decide +kernel
theorem ex_red : members (reduce exWs (word [0, 1, 2]) [0, 1, 2]) = [1, 2] := by decide +kernel
theorem ex_cnt : cntTo exWs (2 ^ 3) = 4 := by decide +kernel
theorem ex_both : bothF 3 (setsOf exWs) (ints [0, 1, 2]) = 0 := by decide +kernel
theorem ex_tl : (nodeF exWs 2 4 0 0 0).length ≤ 1000 ∧ ∀ x ∈ nodeF exWs 2 4 0 0 0, x.weights.length ≤ 1000000 := by decide +kernel
end Hit
theorem lit2 {w : World} {x y : Int} : SlI (fun b => b < (w.alloc (.cells #[.int .i64 x, .int .i64 y] 3)).heap.size) (w.alloc (.cells #[.int .i64 x, .int .i64 y] 3)) (.slice (some ⟨w.heap.size, 0, none⟩) 2 2) [x, y] :=
  Sl.of_blk [x, y] [.int .i64 x, .int .i64 y] (Blk.new w 3 #[.int .i64 x, .int .i64 y]) rfl (by simp) (fun i hi => by
    match i, hi with
    | 0, _ => rfl
    | 1, _ => rfl) (by simp)
theorem lit3 {w : World} {x y z : Int} : SlI (fun b => b < (w.alloc (.cells #[.int .i64 x, .int .i64 y, .int .i64 z] 3)).heap.size) (w.alloc (.cells #[.int .i64 x, .int .i64 y, .int .i64 z] 3)) (.slice (some ⟨w.heap.size, 0, none⟩) 3 3) [x, y, z] :=
  Sl.of_blk [x, y, z] [.int .i64 x, .int .i64 y, .int .i64 z] (Blk.new w 3 #[.int .i64 x, .int .i64 y, .int .i64 z]) rfl (by simp) (fun i hi => by
    match i, hi with
    | 0, _ => rfl
    | 1, _ => rfl
    | 2, _ => rfl) (by simp)
theorem SlI.on {w w' : World} {v : Value} {l : List Int} (h : SlI (fun b => b < w.heap.size) w v l) (hb : Below w.heap.size w w') : SlI (fun b => b < w'.heap.size) w' v l :=
  (h.keep (Agree.below hb fun _ h => h)).mono fun _ h => Nat.lt_of_lt_of_le h hb.size
theorem SlT.on {w w' : World} {v : Value} {l : List Hit.TNode} (h : SlT (fun b => b < w.heap.size) w v l) (hb : Below w.heap.size w w') : SlT (fun b => b < w'.heap.size) w' v l :=
  (Sl.mono (h.keep (Agree.below hb fun _ h => h)) fun _ h => Nat.lt_of_lt_of_le h hb.size).monoR fun _ _ hc => NodeC.keep hc (Agree.refl _ _) fun _ h => Nat.lt_of_lt_of_le h hb.size
set_option maxRecDepth 100000 in
set_option maxHeartbeats 4000000 in
theorem known_any (w : World) (hT : Tab32 w) : Calls Tryd.prog 17 #[] w fun e w' => e = .returned (.bool true) ∧ Below w.heap.size w w' := by
  have HT := Lib.hid hT
  clear hT
  go_enter Tryd.func17, Tryd.ntmps17
  go_upto_region 2 with fail
  have b0 := Blk.new w 3 #[.int .i64 0, .int .i64 1]
  have b1 := Blk.new (w.alloc (.cells #[.int .i64 0, .int .i64 1] 3)) 3 #[.int .i64 1, .int .i64 2]
  have b2 := Blk.new ((w.alloc (.cells #[.int .i64 0, .int .i64 1] 3)).alloc (.cells #[.int .i64 1, .int .i64 2] 3)) 3 #[.int .i64 0, .int .i64 2]
  have b3 := Blk.new (((w.alloc (.cells #[.int .i64 0, .int .i64 1] 3)).alloc (.cells #[.int .i64 1, .int .i64 2] 3)).alloc (.cells #[.int .i64 0, .int .i64 2] 3)) 37 #[.slice (some ⟨w.heap.size, 0, none⟩) 2 2, .slice (some ⟨w.heap.size + 1, 0, none⟩) 2 2, .slice (some ⟨w.heap.size + 1 + 1, 0, none⟩) 2 2]
  have b4 := Blk.new ((((w.alloc (.cells #[.int .i64 0, .int .i64 1] 3)).alloc (.cells #[.int .i64 1, .int .i64 2] 3)).alloc (.cells #[.int .i64 0, .int .i64 2] 3)).alloc (.cells #[.slice (some ⟨w.heap.size, 0, none⟩) 2 2, .slice (some ⟨w.heap.size + 1, 0, none⟩) 2 2, .slice (some ⟨w.heap.size + 1 + 1, 0, none⟩) 2 2] 37)) 30 #[.int .i64 3, .slice (some ⟨w.heap.size + 1 + 1 + 1, 0, none⟩) 3 3]
  simp only [World.size_alloc] at b1 b2 b3 b4
  have d0 := (((b0.alloc (.cells #[.int .i64 1, .int .i64 2] 3)).alloc (.cells #[.int .i64 0, .int .i64 2] 3)).alloc (.cells #[.slice (some ⟨w.heap.size, 0, none⟩) 2 2, .slice (some ⟨w.heap.size + 1, 0, none⟩) 2 2, .slice (some ⟨w.heap.size + 1 + 1, 0, none⟩) 2 2] 37)).alloc (.cells #[.int .i64 3, .slice (some ⟨w.heap.size + 1 + 1 + 1, 0, none⟩) 3 3] 30)
  have d1 := ((b1.alloc (.cells #[.int .i64 0, .int .i64 2] 3)).alloc (.cells #[.slice (some ⟨w.heap.size, 0, none⟩) 2 2, .slice (some ⟨w.heap.size + 1, 0, none⟩) 2 2, .slice (some ⟨w.heap.size + 1 + 1, 0, none⟩) 2 2] 37)).alloc (.cells #[.int .i64 3, .slice (some ⟨w.heap.size + 1 + 1 + 1, 0, none⟩) 3 3] 30)
  have d2 := (b2.alloc (.cells #[.slice (some ⟨w.heap.size, 0, none⟩) 2 2, .slice (some ⟨w.heap.size + 1, 0, none⟩) 2 2, .slice (some ⟨w.heap.size + 1 + 1, 0, none⟩) 2 2] 37)).alloc (.cells #[.int .i64 3, .slice (some ⟨w.heap.size + 1 + 1 + 1, 0, none⟩) 3 3] 30)
  have d3 := b3.alloc (.cells #[.int .i64 3, .slice (some ⟨w.heap.size + 1 + 1 + 1, 0, none⟩) 3 3] 30)
  have hb5 := Ba (Ba (Ba (Ba (Ba (B0 w) (.cells #[.int .i64 0, .int .i64 1] 3)) (.cells #[.int .i64 1, .int .i64 2] 3)) (.cells #[.int .i64 0, .int .i64 2] 3)) (.cells #[.slice (some ⟨w.heap.size, 0, none⟩) 2 2, .slice (some ⟨w.heap.size + 1, 0, none⟩) 2 2, .slice (some ⟨w.heap.size + 1 + 1, 0, none⟩) 2 2] 37)) (.cells #[.int .i64 3, .slice (some ⟨w.heap.size + 1 + 1 + 1, 0, none⟩) 3 3] 30)
  clear b0 b1 b2 b3
  generalize ((((((w.alloc (.cells #[.int .i64 0, .int .i64 1] 3)).alloc (.cells #[.int .i64 1, .int .i64 2] 3)).alloc (.cells #[.int .i64 0, .int .i64 2] 3)).alloc (.cells #[.slice (some ⟨w.heap.size, 0, none⟩) 2 2, .slice (some ⟨w.heap.size + 1, 0, none⟩) 2 2, .slice (some ⟨w.heap.size + 1 + 1, 0, none⟩) 2 2] 37)).alloc (.cells #[.int .i64 3, .slice (some ⟨w.heap.size + 1 + 1 + 1, 0, none⟩) 3 3] 30)) : World) = w5 at *
  have hS : SlII (fun b => b < w5.heap.size) w5 (.slice (some ⟨w.heap.size + 1 + 1 + 1, 0, none⟩) 3 3) (setsOf Hit.exWs) := by
    rw [Hit.ex_sets]
    have two : ∀ b x y, Blk w5 b 3 #[.int .i64 x, .int .i64 y] → SlI (fun b => b < w5.heap.size) w5 (.slice (some ⟨b, 0, none⟩) 2 2) [x, y] := fun b x y h =>
      Sl.of_blk [x, y] [.int .i64 x, .int .i64 y] h rfl (by simp) (fun i hi => by
        match i, hi with
        | 0, _ => rfl
        | 1, _ => rfl) h.lt
    refine Sl.of_blk [[0, 1], [1, 2], [0, 2]] [.slice (some ⟨w.heap.size, 0, none⟩) 2 2, .slice (some ⟨w.heap.size + 1, 0, none⟩) 2 2, .slice (some ⟨w.heap.size + 1 + 1, 0, none⟩) 2 2] d3 rfl (by simp) (fun i hi => ?_) d3.lt
    match i, hi with
    | 0, _ => exact ⟨_, rfl, two _ _ _ d0⟩
    | 1, _ => exact ⟨_, rfl, two _ _ _ d1⟩
    | 2, _ => exact ⟨_, rfl, two _ _ _ d2⟩
  have k0 := b4.cell 0
  have k1 := b4.cell 1
  have l4 := b4.lt
  obtain ⟨pb, hpb⟩ : ∃ pb, w.heap.size + 1 + 1 + 1 + 1 = pb := ⟨_, rfl⟩
  obtain ⟨sb, hsb⟩ : ∃ sb, w.heap.size + 1 + 1 + 1 = sb := ⟨_, rfl⟩
  rw [hpb] at k0 k1 l4 ⊢
  rw [hsb] at k1 hS ⊢
  have hL : ∀ W, Below w5.heap.size w5 W → Calls Tryd.prog 18 #[.agg #[.int .i64 3, .slice (some ⟨sb, 0, none⟩) 3 3]] W fun e w' => ∃ A c, e = .returned (.tuple #[.slice A 2 c, .int .i64 0]) ∧ (SlI (fun b => b < w'.heap.size) w' (.slice A 2 c) [0, 1]) ∧ Below W.heap.size W w' := fun W hW => by
    refine (leastL_any 3 (by decide) _ Hit.exWs Hit.ex_good (by decide) W (fun b => b < w5.heap.size) (fun b hb => by have := hW.size; omega) (hS.keep (Agree.below hW fun _ h => h)) ((HT.out.below hb5).below hW)).mono ?_
    rw [Hit.ex_least]
    rintro e w' ⟨A, m, c, rfl, rfl, hO, hb⟩
    exact ⟨A, c, rfl, hO.ints rfl (by simp) fun _ _ h => h, hb⟩
  have hC : ∀ W, Below w5.heap.size w5 W → Calls Tryd.prog 19 #[.agg #[.int .i64 3, .slice (some ⟨sb, 0, none⟩) 3 3]] W fun e w' => e = .returned (.tuple #[.string ⟨#[52]⟩, .int .i64 0]) ∧ Below W.heap.size W w' := fun W hW =>
    count_any 3 (by decide) _ Hit.exWs Hit.ex_good (by decide) ⟨#[52]⟩ W (fun b => b < w5.heap.size) (fun b hb => by have := hW.size; omega) (hS.keep (Agree.below hW fun _ h => h)) (fun W2 => by rw [Hit.ex_cnt]; exact of4 W2)
  have hR : ∀ W vl, Below w5.heap.size w5 W → SlI (fun b => b < W.heap.size) W vl [0, 1, 2] → Calls Tryd.prog 27 #[.agg #[.int .i64 3, .slice (some ⟨sb, 0, none⟩) 3 3], vl] W fun e w' => ∃ A c, e = .returned (.tuple #[.slice A 2 c, .int .i64 0]) ∧ (SlI (fun b => b < w'.heap.size) w' (.slice A 2 c) [1, 2]) ∧ Below W.heap.size W w' := fun W vl hW hv => by
    refine (reduce_ok 3 _ vl Hit.exWs (by decide) (by decide) [0, 1, 2] (by decide) W (fun b => b < w5.heap.size) (fun b => b < W.heap.size) (fun b hb => by have := hW.size; omega) (fun _ h => h) (hS.keep (Agree.below hW fun _ h => h)) hv Hit.ex_both ((HT.out.below hb5).below hW)).mono ?_
    rw [Hit.ex_hit, Hit.ex_red]
    rintro e w' (⟨h, _⟩ | ⟨_, A, m, c, rfl, rfl, hO, hb⟩)
    · cases h
    · exact ⟨A, c, rfl, hO.ints rfl (by simp) fun _ _ h => h, hb⟩
  obtain ⟨t, ht⟩ : ∃ t, Hit.nodeF Hit.exWs 2 4 0 0 0 = t := ⟨_, rfl⟩
  have htl : 0 < t.length ∧ t.length ≤ 1000 ∧ ∀ x ∈ t, x.weights.length ≤ 1000000 := by
    rw [← ht]; exact ⟨Nat.pos_of_ne_zero Hit.ex_len, Hit.ex_tl.1, Hit.ex_tl.2⟩
  have htr : Hit.treeF Hit.exWs 3 2 t = true := by rw [← ht]; exact Hit.ex_tree
  have hPv : ∀ W, Below w5.heap.size w5 W → Calls Tryd.prog 10 #[.agg #[.int .i64 3, .slice (some ⟨sb, 0, none⟩) 3 3], .int .i64 2] W fun e w' => ∃ A c, e = .returned (.tuple #[.slice A t.length c, .int .i64 0]) ∧ SlT (fun b => b < w'.heap.size) w' (.slice A t.length c) t ∧ Below W.heap.size W w' := fun W hW => by
    refine (prove_any 3 (by decide) _ Hit.exWs Hit.ex_good (by decide) 2 W (fun b => b < w5.heap.size) (fun b hb => by have := hW.size; omega) (hS.keep (Agree.below hW fun _ h => h)) ((HT.out.below hb5).below hW)).mono ?_
    unfold ProveR
    rw [Hit.ex_pop, show 3 + 1 = 4 from rfl, ht]
    rintro e w' ⟨hb, ⟨h, _⟩ | ⟨h, _⟩ | ⟨_, pb', vs', A, c, _, rfl, hP⟩⟩
    · omega
    · omega
    · refine ⟨A, c, rfl, ?_, hb⟩
      have := hP.slt (by omega)
      exact (Sl.mono this fun b h => h.2).monoR fun cs x hc => NodeC.keep hc (Agree.refl _ _) fun b h => h.2
  have hTr : ∀ W v, Below w5.heap.size w5 W → SlT (fun b => b < W.heap.size) W v t → Calls Tryd.prog 49 #[.agg #[.int .i64 3, .slice (some ⟨sb, 0, none⟩) 3 3], .int .i64 2, v] W fun e w' => e = .returned (.bool true) ∧ Below W.heap.size W w' := fun W v hW hv => by
    have := treeR_any 3 (by decide) 2 _ v Hit.exWs (by decide) t htl.1 (by omega) htl.2.2 W (fun b => b < w5.heap.size) (fun b => b < W.heap.size) (fun b hb => by have := hW.size; omega) (fun _ h => h) (hS.keep (Agree.below hW fun _ h => h)) hv
    rw [htr] at this
    exact this
  have hSm : ∀ W va vb (l : List Int), SlI (fun b => b < W.heap.size) W va l → SlI (fun b => b < W.heap.size) W vb l → Calls Tryd.prog 22 #[va, vb] W fun e w' => e = .returned (.bool true) ∧ Below W.heap.size W w' := fun W va vb l ha hb => by
    have := same_any va vb l l W _ _ (fun _ h => h) (fun _ h => h) ha hb
    rwa [decide_eq_true rfl] at this
  have HL := Lib.hid hL
  have HC := Lib.hid hC
  have HR := Lib.hid hR
  have HPv := Lib.hid hPv
  have HTr := Lib.hid hTr
  have HSm := Lib.hid hSm
  have HB5 := Lib.hid hb5
  have htl0 := htl.1
  have htl1 := htl.2.1
  clear hL hC hR hPv hTr hSm hS htl htr ht d0 d1 d2 d3 b4 hb5 HT hpb hsb
  generalize t.length = tl at *
  go_upto_region 4 with (first
    | (go_at_call 18; refine (HL.out _ (B0 w5)).mono ?_; rintro e w6 ⟨A6, c6, rfl, hs6, hb6⟩; have S6 := Lib.hid hs6; have HB6 := Lib.hid hb6; have p60 := (Bc hb6 l4).trans k0; have p61 := (Bc hb6 l4).trans k1; clear hs6 hb6)
    | (go_at_call 19; refine (HC.out _ HB6.out).mono ?_; rintro e w7 ⟨rfl, hb7⟩; have S7 := Lib.hid (S6.out.on hb7); have HB7 := Lib.hid (Bt HB6.out hb7); have p70 := (Bc (Bt HB6.out hb7) l4).trans k0; have p71 := (Bc (Bt HB6.out hb7) l4).trans k1; have l7 := Nat.lt_of_lt_of_le l4 (Bt HB6.out hb7).size; clear hb7 p60 p61))
  clear k0 k1
  go_upto_region 6 with (first
    | (go_at_call 27; refine (HR.out _ _ (Ba HB7.out _) lit3).mono ?_; rintro e w8 ⟨A8, c8, rfl, hs8, hb8⟩; have S8 := Lib.hid (S7.out.on (Bt (Ba (B0 w7) _) hb8)); have R8 := Lib.hid hs8; have HB8 := Lib.hid (Bt (Ba HB7.out _) hb8); have p80 := (Bc (Bt (Ba (B0 w7) _) hb8) l7).trans p70; have p81 := (Bc (Bt (Ba (B0 w7) _) hb8) l7).trans p71; have l8 := Nat.lt_of_lt_of_le l7 (Bt (Ba (B0 w7) _) hb8).size; clear hs8 hb8)
    | (go_at_call 10; refine (HPv.out _ HB8.out).mono ?_; rintro e w9 ⟨A9, c9, rfl, hs9, hb9⟩; have S9 := Lib.hid (S8.out.on hb9); have R9 := Lib.hid (R8.out.on hb9); have T9 := Lib.hid hs9; have HB9 := Lib.hid (Bt HB8.out hb9); have p90 := (Bc hb9 l8).trans p80; have p91 := (Bc hb9 l8).trans p81; have l9 := Nat.lt_of_lt_of_le l8 hb9.size; clear hs9 hb9))
  clear p70 p71 p80 p81
  have d0 : decide (0 < tl) = true := decide_eq_true htl0
  have d1 : decide ((0 : Int) < (tl : Int)) = true := decide_eq_true (by omega)
  go_wp2_with (first
    | (go_at_call_of 22 (Value.slice A6 2 c6); refine (HSm.out _ _ _ [0, 1] (S9.out.on (Ba (B0 w9) _)) lit2).mono ?_; rintro e wA ⟨rfl, hbA⟩; have RA := Lib.hid (R9.out.on (Bt (Ba (B0 w9) _) hbA)); have TA := Lib.hid (T9.out.on (Bt (Ba (B0 w9) _) hbA)); have HBA := Lib.hid (Bt (Ba HB9.out _) hbA); have pA0 := (Bc (Bt (Ba (B0 w9) _) hbA) l9).trans p90; have pA1 := (Bc (Bt (Ba (B0 w9) _) hbA) l9).trans p91; have lA := Nat.lt_of_lt_of_le l9 (Bt (Ba (B0 w9) _) hbA).size; clear hbA p90 p91)
    | (go_at_call_of 22 (Value.slice A8 2 c8); refine (HSm.out _ _ _ [1, 2] (RA.out.on (Ba (B0 wA) _)) lit2).mono ?_; rintro e wB ⟨rfl, hbB⟩; have TB := Lib.hid (TA.out.on (Bt (Ba (B0 wA) _) hbB)); have HBB := Lib.hid (Bt (Ba HBA.out _) hbB); have pB0 := (Bc (Bt (Ba (B0 wA) _) hbB) lA).trans pA0; have pB1 := (Bc (Bt (Ba (B0 wA) _) hbB) lA).trans pA1; clear hbB pA0 pA1)
    | (go_at_call 49; refine (HTr.out _ _ HBB.out TB.out).mono ?_; rintro e wC ⟨rfl, hbC⟩; have HBC := Lib.hid (Bt HBB.out hbC); clear hbC))
  go_ret
  exact ⟨rfl, Bt HB5.out HBC.out⟩
end Go.Proofs.YthgjhfapnilfhaaDoor
namespace Go.Proofs.YthgjhfapnilfhaaDoor
open Go Go.RowKit
theorem bothF_plan {n : Nat} (hn : n ≤ 20) (sets : List Nat) (l : List Int) : bothF n (setsOf (Hit.planW n sets)) l = Hit.listF n l := by
  have : Hit.checkF n (setsOf (Hit.planW n sets)) = 0 := Hit.checkF_of hn (by have := Hit.planW_len n sets; omega) (Hit.planW_good n sets)
  unfold bothF
  rw [if_neg (by rw [this]; simp)]
theorem red_sub {n : Nat} (_hn : n ≤ 32) (ws : List Nat) (ns : List Nat) (h : ∀ x ∈ ns, x < n) : ∀ x ∈ Hit.members (Hit.reduce ws (Hit.word ns) ns), x < n :=
  Hit.members_lt (Hit.sub_lt (Hit.reduce_sub ws ns _) (Hit.word_lt h))
theorem red_list {n : Nat} (hn : n ≤ 32) (ws : List Nat) (ns : List Nat) (h : ∀ x ∈ ns, x < n) : Hit.listF n (Hit.ints (Hit.members (Hit.reduce ws (Hit.word ns) ns))) = 0 :=
  Hit.listF_of (Hit.inc_members _) (red_sub hn ws ns h)
theorem red_word {n : Nat} (hn : n ≤ 32) (ws : List Nat) (ns : List Nat) (h : ∀ x ∈ ns, x < n) : Hit.word (Hit.members (Hit.reduce ws (Hit.word ns) ns)) = Hit.reduce ws (Hit.word ns) ns :=
  Hit.word_members (Nat.lt_of_lt_of_le (Hit.sub_lt (Hit.reduce_sub ws ns _) (Hit.word_lt h)) (Nat.pow_le_pow_right (by decide) (by omega)))
theorem red_len (x : Nat) : (Hit.members x).length ≤ 1000000000 := Nat.le_trans (List.length_filter_le _ _) (by simp)
theorem missF_cases (ws : List Nat) (x : Nat) : (Hit.hit ws x = true ∧ missF ws x = -1) ∨ (Hit.hit ws x = false ∧ 0 ≤ missF ws x) := by
  cases h : Hit.hit ws x with
  | true =>
    refine .inl ⟨rfl, ?_⟩
    rw [missF_eq, if_pos ((Hit.miss_hit ws x).2 h)]
  | false =>
    refine .inr ⟨rfl, ?_⟩
    have := missF_neg ws x
    rw [h] at this
    have : ¬ missF ws x < 0 := fun q => by have := this.1 q; cases this
    omega
end Go.Proofs.YthgjhfapnilfhaaDoor
