/- Walks over the statements of hitting: the problem of a plan. -/
import Derived.Test.YtiochodepgldpaaDoorHNc
import Derived.Deep.RegionHeld3
import Derived.Deep.RegionLaw
import Derived.Deep.DeepCutAuto
namespace Go.Proofs.YtiochodepgldpaaDoor
open Go Go.RowKit
/-- A call as one step of a region that draws its order. -/
theorem step_call {P : Program} {ops : Array Oper} {o : Oper} {a : Act} {w : World} {K : Act → World → Prop} {Q : Exit → Act → World → Prop} {E : Prop} (hgd : o.guard = none) (g : Nat) (args : Array Operand) (tys : Array TypeId)
    (ho : o.op = .call { callee := .value (.func g), args := args, argTypes := tys }) (eg : ∀ vs w, (callFunc g vs).run P w = .ok (.enter g vs) w) (vals : Array Value) (hv : args.map a.eval = vals) {Post : Ending → World → Prop} (hc : Calls P g vals w Post)
    (h : ∀ e w', Post e w' → ∃ v, e = .returned v ∧ K (a.put o.dst v) w') : if Region.wanted o (yielded ops a.tmps) = true then Oper.wp P o a w K Q else E := by
  rw [if_pos (by simp [Region.wanted, hgd])]
  have hrun : (execOp a.eval o).run P w = .ok (.enter g vals) w := by
    unfold execOp
    simp only [ho, resolve, Sem.run_bind]
    simp [Deferred.ofValue, Act.eval, invoke, hv, eg, Result.andThen]
  unfold Oper.wp
  rw [hrun]
  refine hc.mono ?_
  rintro e w' hp
  obtain ⟨v, rfl, hk⟩ := h e w' hp
  exact hk
theorem step_call1 {P : Program} {ops : Array Oper} {o : Oper} {a : Act} {w : World} {K : Act → World → Prop} {Q : Exit → Act → World → Prop} {E : Prop} (hgd : o.guard = none) (g : Nat) (x1 : Operand) (tys : Array TypeId)
    (ho : o.op = .call { callee := .value (.func g), args := #[x1], argTypes := tys }) (eg : ∀ vs w, (callFunc g vs).run P w = .ok (.enter g vs) w) (v1 : Value) (h1 : a.eval x1 = v1) {Post : Ending → World → Prop} (hc : Calls P g #[v1] w Post)
    (h : ∀ e w', Post e w' → ∃ v, e = .returned v ∧ K (a.put o.dst v) w') : if Region.wanted o (yielded ops a.tmps) = true then Oper.wp P o a w K Q else E :=
  step_call hgd g #[x1] tys ho eg #[v1] (by simp [h1]) hc h
theorem step_call2 {P : Program} {ops : Array Oper} {o : Oper} {a : Act} {w : World} {K : Act → World → Prop} {Q : Exit → Act → World → Prop} {E : Prop} (hgd : o.guard = none) (g : Nat) (x1 x2 : Operand) (tys : Array TypeId)
    (ho : o.op = .call { callee := .value (.func g), args := #[x1, x2], argTypes := tys }) (eg : ∀ vs w, (callFunc g vs).run P w = .ok (.enter g vs) w) (v1 v2 : Value) (h1 : a.eval x1 = v1) (h2 : a.eval x2 = v2) {Post : Ending → World → Prop} (hc : Calls P g #[v1, v2] w Post)
    (h : ∀ e w', Post e w' → ∃ v, e = .returned v ∧ K (a.put o.dst v) w') : if Region.wanted o (yielded ops a.tmps) = true then Oper.wp P o a w K Q else E :=
  step_call hgd g #[x1, x2] tys ho eg #[v1, v2] (by simp [h1, h2]) hc h
namespace Hit
/-- The sets of a plan, as bits. -/
def planW (n : Nat) (sets : List Nat) : List Nat := ((sets.take 7).map fun s => s &&& (bit n - 1)).filter fun b => b != 0
theorem planW_good (n : Nat) (sets : List Nat) : Good (planW n sets) n := fun s hs => by
  unfold planW at hs
  rw [List.mem_filter, List.mem_map] at hs
  obtain ⟨⟨a, _, rfl⟩, h0⟩ := hs
  refine ⟨by simpa using h0, ?_⟩
  have : a &&& (bit n - 1) ≤ bit n - 1 := Nat.and_le_right
  have : 0 < bit n := Nat.two_pow_pos n
  unfold bit at *
  omega
theorem planW_len (n : Nat) (sets : List Nat) : (planW n sets).length ≤ 7 := by
  unfold planW
  refine Nat.le_trans (List.length_filter_le _ _) ?_
  simp
  omega
/-- The sets of the first i bytes. -/
def planTo (n : Nat) (sets : List Nat) (i : Nat) : List Nat := ((sets.take i).map fun s => s &&& (bit n - 1)).filter fun b => b != 0
theorem planTo_succ (n : Nat) (sets : List Nat) (i : Nat) (h : i < sets.length) : planTo n sets (i + 1) = planTo n sets i ++ (if sets[i] &&& (bit n - 1) = 0 then [] else [sets[i] &&& (bit n - 1)]) := by
  unfold planTo
  rw [List.take_succ_eq_append_getElem h, List.map_append, List.filter_append]
  congr 1
  by_cases e : sets[i] &&& (bit n - 1) = 0
  · simp [e]
  · simp [e]
theorem planTo_end (n : Nat) (sets : List Nat) (i : Nat) (h : i = sets.length ∨ i = 7) (h7 : i ≤ 7) : planTo n sets i = planW n sets := by
  unfold planTo planW
  rcases h with rfl | rfl
  · rw [List.take_of_length_le (Nat.le_refl _), List.take_of_length_le h7]
  · rfl
theorem planTo_len (n : Nat) (sets : List Nat) (i : Nat) : (planTo n sets i).length ≤ i := by
  unfold planTo
  refine Nat.le_trans (List.length_filter_le _ _) ?_
  simp
  omega
end Hit
theorem setsOf_append (a b : List Nat) : setsOf (a ++ b) = setsOf a ++ setsOf b := by simp [setsOf]
/-- The problem of a plan while it is made. -/
structure PM (pb : Nat) (n : Int) (w : World) (v : Value) (ls : List (List Int)) : Prop where
  blk : Blk w pb 28 #[.int .i64 n, v]
  own : OwnL (pb + 1) 30 1 (SlC (WF pb w v)) w v ls
theorem SlC.keep {F G : Nat → Prop} {w w' : World} {c : List Value} {x : List Int} (h : SlC F w c x) (ha : Agree F w w') (hF : ∀ b, F b → G b) : SlC G w' c x := by
  obtain ⟨vw, e, hs⟩ := h
  exact ⟨vw, e, (SlI.keep hs ha).mono hF⟩
section
variable {pb : Nat} {n : Int} {w w' : World} {v : Value} {ls : List (List Int)}
theorem PM.lt (h : PM pb n w v ls) : pb < w.heap.size := h.blk.lt
theorem PM.form (h : PM pb n w v ls) : ∃ A c, v = .slice A ls.length c := by
  obtain ⟨cs, _, _, h3⟩ := h.own
  exact own_form h3
theorem PM.later (h : PM pb n w v ls) (hb : Below w.heap.size w w') : PM pb n w' v ls := by
  refine ⟨h.blk.below hb h.lt, h.own.keep rfl (fun xs hx => ?_) fun c x hc => ?_⟩
  · exact hx.kept (row := none) ⟨hb.os, hb.tape, hb.output, hb.size, fun i hi _ => hb.block i hi⟩ (by cases hv : v.ownBlock <;> simp)
  · exact hc.keep (Agree.below hb fun b hF => hF.2.1) fun b ⟨q1, q2, q3⟩ => ⟨q1, Nat.lt_of_lt_of_le q2 hb.size, q3⟩
theorem PM.append {cs : List (List Value)} {w2 : World} {g cap : Nat} {u : Value} {l : List Int} (hk : Blk w pb 28 #[.int .i64 n, v]) (h1 : cs.length = ls.length) (h2 : ∀ i (h : i < ls.length), ∃ c, cs[i]? = some c ∧ c.length = 1 ∧ SlC (WF pb w v) w c ls[i])
    (h3 : w.ownsRow (pb + 1) 30 1 v ls.length cs.flatten) (hb : Below w.heap.size w w2) (hown : w'.ownsRow (pb + 1) 30 1 (.slice (some ⟨g, 0, none⟩) (ls.length + 1) cap) (ls.length + 1) (cs.flatten ++ [u]))
    (hgrow : w2.grownBy w' v.ownBlock) (hat : some g = v.ownBlock ∨ g = w2.heap.size) (hu : SlI (fun b => w.heap.size ≤ b ∧ b < w2.heap.size) w2 u l) :
    PM pb n (w'.setCell ⟨pb, 1, none⟩ (.slice (some ⟨g, 0, none⟩) (ls.length + 1) cap)) (.slice (some ⟨g, 0, none⟩) (ls.length + 1) cap) (ls ++ [l]) := by
  have hne : some pb ≠ v.ownBlock := fun e => by have := (h3.lt pb e.symm).1; omega
  have hsz : w2.heap.size ≤ w'.heap.size := hgrow.size
  have hs2 := hb.size
  have hpl : pb < w.heap.size := hk.lt
  have hF : ∀ b, pb < b → b < w2.heap.size → some b ≠ v.ownBlock → WF pb (w'.setCell ⟨pb, 1, none⟩ (.slice (some ⟨g, 0, none⟩) (ls.length + 1) cap)) (.slice (some ⟨g, 0, none⟩) (ls.length + 1) cap) b := fun b q1 q2 q3 => by
    refine ⟨q1, by rw [set_size]; omega, ?_⟩
    show some b ≠ some g
    rcases hat with e | e
    · rw [e]; exact q3
    · intro e2; injection e2; omega
  have hag : ∀ b, pb < b → b < w2.heap.size → some b ≠ v.ownBlock → (w'.setCell ⟨pb, 1, none⟩ (.slice (some ⟨g, 0, none⟩) (ls.length + 1) cap)).heap[b]? = w2.heap[b]? := fun b q1 q2 q3 => by
    rw [Below.heap_setCell _ _ _ _ (show b ≠ (⟨pb, 1, none⟩ : Addr).block by show b ≠ pb; omega), hgrow.block b q2 q3]
  refine ⟨?_, OwnL.snoc h1 h2 rfl ⟨u, rfl, ?_⟩ (fun c x hc => hc.keep (fun b ⟨q1, q2, q3⟩ => ?_) fun b ⟨q1, q2, q3⟩ => hF b q1 (by omega) q3) (ownsRow_setCell_below hown (by simp) _)⟩
  · have := ((hk.below hb hk.lt).grown hgrow hne).set_ 1 (.slice (some ⟨g, 0, none⟩) (ls.length + 1) cap)
    simpa using this
  · have hnb : ∀ b, w.heap.size ≤ b → some b ≠ v.ownBlock := fun b hb e => by have := (h3.lt b e.symm).2; omega
    exact (hu.keep (fun b ⟨q1, q2⟩ => hag b (by omega) q2 (hnb b q1))).mono fun b ⟨q1, q2⟩ => hF b (by omega) q2 (hnb b q1)
  · rw [hag b q1 (by omega) q3]; exact hb.block b q2
theorem PM.sl (h : PM pb n w v ls) (hl : ls.length ≤ 1000) : SlII (fun b => pb < b ∧ b < w.heap.size) w v ls := by
  refine (h.own.sl (F := fun b => pb < b ∧ b < w.heap.size) (by omega) fun b q1 q2 _ => ⟨by omega, q2⟩).monoR fun c x hc => ?_
  exact SlC.keep hc (Agree.refl _ _) fun b q => ⟨q.1, q.2.1⟩
end
theorem SlII.wider {F G : Nat → Prop} {w : World} {v : Value} {l : List (List Int)} (h : SlII F w v l) (hF : ∀ b, F b → G b) : SlII G w v l :=
  (Sl.mono h hF).monoR fun _ _ hc => SlC.keep hc (Agree.refl _ _) hF
theorem infoS : (Tryd.prog.info? 30).map (fun i => (i.zero, i.size, i.bytes)) = some (some (.slice none 0 0), 1, 24) := by kernel_rfl
theorem elemS : ElemN Tryd.prog 26 30 1 24 := ⟨Tryd.underlying26, by
  obtain ⟨i, hi, hz, hs, hb⟩ := info_parts infoS
  exact ⟨i, _, hi, hz, hs, hb, rfl⟩⟩
set_option maxRecDepth 100000 in
set_option maxHeartbeats 4000000 in
theorem make_any (N : Nat) (hN : N < 256) (vs : Value) (sets : List Nat) (hs : ∀ s ∈ sets, s < 256) (w : World) (F : Nat → Prop) (hF : ∀ b, F b → b < w.heap.size) (hr : SlU .u8 F w vs sets) :
    Calls Tryd.prog 12 #[.agg #[.int .u8 N, vs]] w fun e w' => ∃ A m c, e = .returned (.agg #[.int .i64 ((1 + N % 8 : Nat) : Int), .slice A m c]) ∧ m = (Hit.planW (1 + N % 8) sets).length ∧ SlII (fun b => w.heap.size ≤ b ∧ b < w'.heap.size) w' (.slice A m c) (setsOf (Hit.planW (1 + N % 8) sets)) ∧ Below w.heap.size w w' := by
  obtain ⟨As, cs, rfl, hlc, hll, hat⟩ := hr.open
  have HAT := Lib.hid hat
  have HS := Lib.hid hs
  clear hat hr hs
  have hcast : (1 : Int) + (N : Int) % 8 = ((1 + N % 8 : Nat) : Int) := by omega
  have hn8 : 1 + N % 8 ≤ 8 := by omega
  have hN2 : (N : Int) < 256 := by omega
  have HCA := Lib.hid hcast
  have HN8 := Lib.hid hn8
  clear hcast hn8
  go_enter Tryd.func12, Tryd.ntmps12
  go_upto_region 2 with fail
  rw [HCA.out]
  generalize hnn : 1 + N % 8 = n at *
  have hn8 := HN8.out
  have HNN := Lib.hid hnn
  clear hnn hN hN2 HCA HN8
  have hbk : Blk (((w.alloc (.cells #[.int .u8 N, .slice As sets.length cs] 24)).alloc (.cells #[.int .i64 0, .slice none 0 0] 28)).alloc (.cells #[.int .i64 n, .slice none 0 0] 28)) (w.heap.size + 1 + 1) 28 #[.int .i64 n, .slice none 0 0] := by
    have := Blk.new ((w.alloc (.cells #[.int .u8 N, .slice As sets.length cs] 24)).alloc (.cells #[.int .i64 0, .slice none 0 0] 28)) 28 #[.int .i64 n, .slice none 0 0]
    simpa using this
  have hbr : Blk (((w.alloc (.cells #[.int .u8 N, .slice As sets.length cs] 24)).alloc (.cells #[.int .i64 0, .slice none 0 0] 28)).alloc (.cells #[.int .i64 n, .slice none 0 0] 28)) (w.heap.size + 1) 28 #[.int .i64 0, .slice none 0 0] := by
    have := (Blk.new (w.alloc (.cells #[.int .u8 N, .slice As sets.length cs] 24)) 28 #[.int .i64 0, .slice none 0 0]).alloc (.cells #[.int .i64 n, .slice none 0 0] 28)
    simpa using this
  have hbx : (((w.alloc (.cells #[.int .u8 N, .slice As sets.length cs] 24)).alloc (.cells #[.int .i64 0, .slice none 0 0] 28)).alloc (.cells #[.int .i64 n, .slice none 0 0] 28)).cell? ⟨w.heap.size, 1, none⟩ = some (.slice As sets.length cs) := by simp [go_sem]
  have hb3 : Below w.heap.size w (((w.alloc (.cells #[.int .u8 N, .slice As sets.length cs] 24)).alloc (.cells #[.int .i64 0, .slice none 0 0] 28)).alloc (.cells #[.int .i64 n, .slice none 0 0] 28)) := Ba (Ba (Ba (B0 w) _) _) _
  generalize (((w.alloc (.cells #[.int .u8 N, .slice As sets.length cs] 24)).alloc (.cells #[.int .i64 0, .slice none 0 0] 28)).alloc (.cells #[.int .i64 n, .slice none 0 0] 28)) = w3 at *
  have HBR := Lib.hid hbr
  have HBX := Lib.hid hbx
  have HB3 := Lib.hid hb3
  have hP0 : PM (w.heap.size + 1 + 1) n w3 (.slice none 0 0) [] := ⟨hbk, OwnL.nil⟩
  have HP0 := Lib.hid hP0
  have hs3 := hbk.lt
  clear hbk hbr hbx hb3 hP0
  go_wp2_with fail
  go_loopg [4] 7 (fun gg s4 wr => ∃ i : Nat, i ≤ sets.length ∧ i ≤ 7 ∧ 7 - i ≤ gg ∧ s4 = .int .i64 i ∧ Aside (∃ v, PM (w.heap.size + 1 + 1) n wr v (setsOf (Hit.planTo n sets i))) ∧ Aside (Below (w.heap.size + 1 + 1) w3 wr))
  case atStart => exact ⟨0, by omega, by omega, by omega, rfl, ⟨_, HP0.out⟩, Below.refl _ _⟩
  case round =>
    obtain ⟨i, hi, hi7, hg, rfl, ⟨v, hP⟩, HB⟩ := hrel
    obtain ⟨A, c, rfl⟩ := hP.form
    rw [setsOf_length] at hP
    have kx := (HB.out.cell (p := ⟨w.heap.size, 1, none⟩) (by show w.heap.size < _; omega)).trans HBX.out
    have kp0 := hP.blk.cell 0
    have kp1 := hP.blk.cell 1
    have fp1 := hP.blk.frozen 1
    have hpl := hP.lt
    have hlen := Hit.planTo_len n sets i
    by_cases hlt : i < sets.length ∧ i < 7
    · obtain ⟨hlt, hi77⟩ := hlt
      have d1 : decide ((i : Int) < sets.length) = true := decide_eq_true (by omega)
      have d2 : decide ((i : Int) < 7) = true := decide_eq_true (by omega)
      have d3 : (i : Int) < sets.length := by omega
      obtain ⟨ad, rfl, hf, hc⟩ := HAT.out i hlt
      have hfl := hF _ hf
      have hc' := (HB.out.cell (p := ad.add i) (by rw [block_of_add]; omega)).trans ((HB3.out.cell (p := ad.add i) (by rw [block_of_add]; exact hfl)).trans hc)
      have hcl : ad.block < wr.heap.size := by omega
      have hsb := HS.out _ (List.getElem_mem hlt)
      have hstep := Hit.planTo_succ n sets i hlt
      have two := Hit.two_u64w n (by omega)
      have hbn : Hit.bit n ≤ 256 := Nat.pow_le_pow_right (n := 2) (by decide) hn8
      have hbp : 0 < Hit.bit n := Nat.two_pow_pos n
      have hsub : IntKind.u64.wrap (((Hit.bit n : Nat) : Int) - 1) = ((Hit.bit n - 1 : Nat) : Int) := by
        rw [IntKind.wrap_u64]; omega
      have hand := Hit.u64_and sets[i] (Hit.bit n - 1) (by omega) (by omega)
      have hzl : sets[i] &&& (Hit.bit n - 1) < 4294967296 := Hit.and_lt (k := 32) (by omega)
      generalize sets[i] &&& (Hit.bit n - 1) = z at *
      generalize Hit.bit n - 1 = bn1 at *
      generalize Hit.bit n = bn at *
      generalize sets[i] = s at *
      have hs2 : (s : Int) < 256 := by omega
      have n64 : (n : Int) % 18446744073709551616 = n := by omega
      have n64b : min n 64 = n := by omega
      have s64 : (s : Int) % 18446744073709551616 = s := by omega
      have kqx : ∀ q : Cls wr, q.w.cell? ⟨w.heap.size, 1, none⟩ = some (.slice (some ad) sets.length cs) := fun q => (Bc q.b (by omega)).trans kx
      have kqe : ∀ q : Cls wr, q.w.cell? (ad.add i) = some (.int .u8 s) := fun q => (q.b.cell (p := ad.add i) (by rw [block_of_add]; exact hcl)).trans hc'
      have kqn : ∀ q : Cls wr, q.w.cell? ⟨w.heap.size + 1 + 1, 0, none⟩ = some (.int .i64 n) := fun q => (Bc q.b hpl).trans kp0
      have HP := Lib.hid hP
      have HST := Lib.hid hstep
      clear hP hstep hc hc' kp0 kp1 fp1 hf
      go_upto_region 5 with fail
      refine wp_region_class_lit (C := fun w' => ∃ q : Cls wr, w' = q.w) (by kernel_rfl) (by kernel_rfl) ⟨Cls.mk' (B0 wr).drew, rfl⟩ ?_
      repeat (any_goals (first | go_big_quiet_step (fail) | quiet_step (fail)))
      refine wpQuiet_nil ?_
      rintro _ ⟨q, rfl⟩
      have hP5 := HP.out.later q.b
      have hB5 := HB.out.trans (q.b.mono (by omega))
      clear kqx kqe kqn kx
      generalize q.w = w5 at *
      by_cases hz : z = 0
      · subst hz
        have hst := HST.out
        rw [if_pos rfl, List.append_nil] at hst
        have HST2 := Lib.hid hst
        have HP5 := Lib.hid hP5
        have HB5 := Lib.hid hB5
        clear hst hP5 hB5 hand
        go_wp2_with fail
        go_roundg (7 - (i + 1))
        case measure => omega
        case rel => exact ⟨i + 1, by omega, by omega, by omega, by go_num, ⟨_, by rw [HST2.out]; exact HP5.out⟩, HB5.out⟩
      · have hz0 : ((z : Int) != 0) = true := by simp; exact hz
        have hst := HST.out
        rw [if_neg hz] at hst
        have HST2 := Lib.hid hst
        obtain ⟨cl, hc1, hc2, hc3⟩ := hP5.own
        rw [setsOf_length] at hc3
        have hkb := hP5.blk
        have k1 := hkb.cell 1
        have f1 := hkb.frozen 1
        have hl5 := hP5.lt
        have hMe := members_any z hzl w5.drew
        have hc3d : w5.drew.ownsRow (w.heap.size + 1 + 1 + 1) 30 1 (.slice A (Hit.planTo n sets i).length c) (Hit.planTo n sets i).length cl.flatten := hc3
        have HC3D := Lib.hid hc3d
        have hkbd : Blk w5.drew (w.heap.size + 1 + 1) 28 #[.int .i64 n, .slice A (Hit.planTo n sets i).length c] := hkb
        have HKBD := Lib.hid hkbd
        have HME := Lib.hid hMe
        have HKB := Lib.hid hkb
        have HC1 := Lib.hid hc1
        have HC2 := Lib.hid hc2
        have HC3 := Lib.hid hc3
        have HB5 := Lib.hid hB5
        have hlen2 : (Hit.planTo n sets i).length ≤ 7 := by omega
        have hb1 : w.heap.size + 1 + 1 + 1 ≤ w5.heap.size := by omega
        clear hP5 hst hc1 hc2 hc3 hkb hMe hz hB5 hand hc3d hkbd
        go_upto_region 7 with fail
        go_region_law (first
            | (refine step_call1 rfl 32 _ _ rfl (enters_of Tryd.func32 (by kernel_rfl) rfl) (.int .u64 (z : Int)) rfl HME.out ?_; rintro e w6 ⟨A6, m6, c6, rfl, hm6, hO6, hb6⟩; refine ⟨_, rfl, ?_⟩; have k6 := (Bc hb6 hl5).trans k1; have HM6 := Lib.hid hm6; have HO6 := Lib.hid hO6; have HB6 := Lib.hid hb6; have hs6 : w5.heap.size ≤ w6.heap.size := hb6.size; have hl6 : w.heap.size + 1 + 1 < w6.heap.size := Nat.lt_of_lt_of_le hl5 hs6; have HK6 := Lib.hid (HKBD.out.below hb6 hl5); clear hm6 hO6 hb6)
            | (refine step_appS elemS (by omega) rfl _ _ rfl (w.heap.size + 1 + 1 + 1) (.slice A (Hit.planTo n sets i).length c) (Hit.planTo n sets i).length cl.flatten rfl ?_ ⟨w6.heap.size, 0, none⟩ 1 [.slice A6 m6 c6] rfl rfl (Flds.new w6 _ _) (by simp [Value.oneCell']) (by omega) (by omega) (by simp; omega) ?_; (exact ((HC3D.out.kept (row := none) (only_of_below HB6.out none) (by cases hv : (Value.slice A (Hit.planTo n sets i).length c).ownBlock <;> simp)).alloc _)); intro g2 cap2 w7 hown7 hgrow7 hat7; have hk7 := (HK6.out.alloc _).grown hgrow7 (fun e => by have := (HC3.out.lt _ e.symm).1; omega); have k7 := hk7.cell 1; have f7 := hk7.frozen 1; have HO7 := Lib.hid hown7; have HG7 := Lib.hid hgrow7; have HA7 := Lib.hid hat7; clear hk7 hown7 hgrow7 hat7))
        all_goals
          have hP7 := PM.append (w := w5.drew) HKBD.out HC1.out HC2.out (by rw [setsOf_length]; exact HC3D.out) (Ba HB6.out (.cells #[.slice A6 m6 c6] 30)) (by rw [setsOf_length]; exact HO7.out) HG7.out HA7.out
            (((HO6.out.ints HM6.out (Nat.le_trans (Nat.le_trans (List.length_filter_le _ _) (by simp)) (by decide : 64 ≤ 1000000000)) (F := fun b => w5.drew.heap.size ≤ b ∧ b < w6.heap.size) fun b q1 q2 => ⟨q1, q2⟩).keep (Agree.below (Ba (B0 w6) _) fun b h => h.2)).mono fun b h => ⟨h.1, by have := h.2; simp; omega⟩)
          rw [setsOf_length] at hP7
          have hB7 : Below (w.heap.size + 1 + 1) w3 (w7.setCell ⟨w.heap.size + 1 + 1, 1, none⟩ (.slice (some ⟨g2, 0, none⟩) ((Hit.planTo n sets i).length + 1) cap2)) := ((HB5.out.drew.trans ((HB6.out.mono (show w.heap.size + 1 + 1 ≤ w5.drew.heap.size from Nat.le_of_lt hl5)).alloc (by omega) (.cells #[.slice A6 m6 c6] 30))).grown HG7.out (by simp; omega) (fun k hk => by have := (HC3.out.lt k hk).1; omega)).setCell (Nat.le_refl _) _
          have HP7 := Lib.hid hP7
          have HB7 := Lib.hid hB7
          clear hP7 hB7
          go_wp2_with fail
          go_roundg (7 - (i + 1))
          case measure => omega
          case rel => exact ⟨i + 1, by omega, by omega, by omega, by go_num, ⟨_, by rw [HST2.out, setsOf_append]; exact HP7.out⟩, HB7.out⟩
    · have hend : i = sets.length ∨ i = 7 := by omega
      have hw := Hit.planTo_end n sets i hend hi7
      have hq : (decide ((i : Int) < sets.length) = false ∧ decide (i < sets.length) = false ∧ sets.length ≤ i) ∨ ((decide (((7 : Nat) : Int) < sets.length) = true ∧ decide (7 < sets.length) = true ∧ 7 < sets.length ∧ (7 : Int) < sets.length) ∧ i = 7) := by
        simp only [decide_eq_true_eq, decide_eq_false_iff_not]; omega
      have kr := (HB.out.block (w.heap.size + 1) (by omega)).trans HBR.out
      have hbr : Blk wr (w.heap.size + 1) 28 #[.int .i64 0, .slice none 0 0] := kr
      have r0 := hbr.cell 0
      have r1 := hbr.cell 1
      have fr := hbr.frozen
      have hpw := Hit.planW_len n sets
      rw [hw] at hP kp1
      have HP := Lib.hid hP
      have HBr := Lib.hid hbr
      clear hlt hend hw hP kr hbr hlen
      rcases hq with ⟨hq1, hq2, hq3⟩ | ⟨⟨hq1, hq2, hq3, hq4⟩, rfl⟩
      all_goals
        go_wp2_with fail
        have hag : Agree (fun b => w.heap.size + 1 + 1 < b ∧ b < wr.heap.size) wr ((wr.setCell ⟨w.heap.size + 1, 0, none⟩ (.int .i64 n)).setCell ⟨w.heap.size + 1, 1, none⟩ (.slice A (Hit.planW n sets).length c)) := fun b hb => by
          rw [Below.heap_setCell _ _ _ b (show b ≠ w.heap.size + 1 by omega), Below.heap_setCell _ _ _ b (show b ≠ w.heap.size + 1 by omega)]
        have hsl := (((HP.out.sl (by rw [setsOf_length]; omega)).keep hag).wider (G := fun b => w.heap.size ≤ b ∧ b < ((wr.setCell ⟨w.heap.size + 1, 0, none⟩ (.int .i64 n)).setCell ⟨w.heap.size + 1, 1, none⟩ (.slice A (Hit.planW n sets).length c)).heap.size) fun b hb => ⟨by omega, by rw [set_size, set_size]; exact hb.2⟩)
        have hbl : Below w.heap.size w ((wr.setCell ⟨w.heap.size + 1, 0, none⟩ (.int .i64 n)).setCell ⟨w.heap.size + 1, 1, none⟩ (.slice A (Hit.planW n sets).length c)) := ((HB3.out.trans (HB.out.mono (by omega))).setCell (by show w.heap.size ≤ w.heap.size + 1; omega) _).setCell (by show w.heap.size ≤ w.heap.size + 1; omega) _
        have hz := (HBr.out.set_ 0 (.int .i64 n)).set_ 1 (.slice A (Hit.planW n sets).length c)
        have z0 := hz.cell 0
        have z1 := hz.cell 1
        generalize ((wr.setCell ⟨w.heap.size + 1, 0, none⟩ (.int .i64 n)).setCell ⟨w.heap.size + 1, 1, none⟩ (.slice A (Hit.planW n sets).length c)) = wz at *
        refine bodyPost_ret (v := .agg #[.int .i64 n, .slice A (Hit.planW n sets).length c]) ?_ rfl ?_
        · simp [results, Tryd.results12, go_sem, z0, z1]
        rw [HNN.out]
        exact ⟨A, _, c, rfl, rfl, hsl, hbl⟩
end Go.Proofs.YtiochodepgldpaaDoor
