/- Walks over noteset: the iterator over the notes of a set. Walks over noteset: the members of a set, collected. -/
import Derived.Test.YtnphdmiondccgaaDoorNc
import Derived.Test.YtnphdmiondccgaaDoorKa
import Derived.Test.YtnphdmiondccgaaDoorKd
namespace Go.Proofs.YtnphdmiondccgaaDoor
open Go Go.RowKit Go.Shelf
attribute [local go_sem] Oper.semAt_some
namespace Nt
/-- The notes of a set, in order. -/
def mem (x : Nat) : List Nat := Hit.members (lo x) ++ (Hit.members (hi x)).map (64 + ·)
def restF (x : Nat) : Nat → List Nat
  | 0 => mem x
  | 1 => (Hit.members (hi x)).map (64 + ·)
  | _ => []
theorem mem_len (x : Nat) : (mem x).length ≤ 128 := by
  have h1 : (Hit.members (lo x)).length ≤ 64 := Nat.le_trans (List.length_filter_le _ _) (by simp)
  have h2 : (Hit.members (hi x)).length ≤ 64 := Nat.le_trans (List.length_filter_le _ _) (by simp)
  unfold mem
  rw [List.length_append, List.length_map]
  omega
end Nt
set_option maxRecDepth 100000 in
set_option maxHeartbeats 2000000 in
theorem all1_in (n : Nat) (hn : 1 ≤ n) (l Bn n₀ : Nat) (hg : 0 < n₀) (x : Nat) (hx : x < 2 ^ 128) (J Jx : List (Fin 128) → World → Prop)
    (hY : ∀ pre (i : Fin 128) W, J pre W → pre.length < 128 → YieldAt Fence.wide (n - 1) Tryd.prog l #[.int .i64 (i.val : Int)] W fun e W' =>
      (e = .returned (.bool true) ∧ J (pre ++ [i]) W' ∧ Below n₀ W W') ∨ (e = .returned (.bool false) ∧ Jx (pre ++ [i]) W'))
    (W : World) (hT : Tab64 W) (hc0 : W.cell? ⟨Bn, 0, none⟩ = some (.int .u64 ((Nt.lo x : Nat) : Int))) (hc1 : W.cell? ⟨Bn, 1, none⟩ = some (.int .u64 ((Nt.hi x : Nat) : Int))) (h0 : J [] W) :
    CallsIn Fence.wide n Tryd.prog 82 #[.func (.yield l) #[] #[], .pointer (some ⟨Bn, 0, none⟩)] W fun e W' => (∃ v, e = .returned v) ∧
      ((∃ ys : List (Fin 128), ys.map Fin.val = Nt.mem x ∧ J ys W') ∨ (∃ pre : List (Fin 128), True ∧ Jx pre W')) := by
  have hml := Nt.mem_len x
  have hlo := Nt.lo_lt x
  have hhi := Nt.hi_lt hx
  have i0 : ∀ w, (Instr.index 157 (.agg #[.int .u64 ((Nt.lo x : Nat) : Int), .int .u64 ((Nt.hi x : Nat) : Int)]) (.int .i64 0)).run Tryd.prog w = .ok (.int .u64 ((Nt.lo x : Nat) : Int)) w := fun _ => by kernel_rfl
  have i1 : ∀ w, (Instr.index 157 (.agg #[.int .u64 ((Nt.lo x : Nat) : Int), .int .u64 ((Nt.hi x : Nat) : Int)]) (.int .i64 1)).run Tryd.prog w = .ok (.int .u64 ((Nt.hi x : Nat) : Int)) w := fun _ => by kernel_rfl
  refine callsIn_of_wp Tryd.func82 rfl trivial ?_ rfl
  simp only [Tryd.ntmps82, List.size_toArray, List.length_cons, List.length_nil, Nat.reduceAdd, Nat.reduceSub, Array.replicate_succ, Array.replicate_zero, List.push_toArray, List.append_toArray, List.nil_append, List.cons_append]
  gi_wp2
  gi_loopw [10] (fun p wr => ∃ (k : Nat) (pre : List (Fin 128)), k ≤ 2 ∧ p = .int .i64 k ∧ pre.map Fin.val ++ Nt.restF x k = Nt.mem x ∧ J pre wr ∧ Tab64 wr)
    (fun p wr => 2 - (intOf p).toNat)
  case atStart => exact ⟨0, [], by omega, rfl, rfl, h0, hT⟩
  case round =>
    obtain ⟨k, pre, hk, rfl, hm, hJs, hTr⟩ := hrel
    have h3 : k = 0 ∨ k = 1 ∨ k = 2 := by omega
    rcases h3 with rfl | rfl | rfl
    · rw [show ((0 : Nat) : Int) = 0 from rfl]
      obtain ⟨wo, rfl⟩ : ∃ wo : World, wo = wr := ⟨_, rfl⟩
      gi_wp2
      gi_loopw [4] (fun p wr => ∃ (pre : List (Fin 128)) (r : Nat), p = .int .u64 r ∧ r < 2 ^ 64 ∧ pre.map Fin.val ++ (Hit.members r ++ Nt.restF x 1) = Nt.mem x ∧ J pre wr ∧ Tab64 wr)
        (fun p wr => (intOf p).toNat)
      case atStart => exact ⟨pre, Nt.lo x, rfl, hlo, hm, hJs, hTr⟩
      case round =>
        clear hJs hTr hm
        obtain ⟨pre, r, rfl, hr, hm, hJs, hTr⟩ := hrel
        by_cases hr0 : r = 0
        · subst hr0
          have e : Hit.members 0 = [] := by decide
          have h0' : ((0 : Int) != 0) = false := rfl
          rw [e, List.nil_append] at hm
          gi_wp2
          go_roundw
          case rel => exact ⟨1, pre, by omega, rfl, hm, hJs, hTr⟩
          case measure => simp [intOf]
        · have h0' : ((r : Int) != 0) = true := by simp; omega
          have h1 : (1 : Int) ≤ r := by omega
          obtain ⟨hs, hlt⟩ := Hit.members_step 64 r (by decide) hr0 hr
          rw [← Hit.tz_ctz 64 r (by decide) hr0 hr] at hs
          have hq64 : Hit.tz r < 64 := Hit.members_lt hr _ (by rw [hs]; simp)
          have hand := Hit.u64_and r (r - 1) hr (by omega)
          rw [show ((r - 1 : Nat) : Int) = (r : Int) - 1 from by omega] at hand
          have hC := tz64_any r hr0 hr wr hTr
          have hpl : pre.length < 128 := by
            have := congrArg List.length hm
            rw [hs] at this
            simp at this
            omega
          obtain ⟨fn, tmps, assign, body, hy, hR⟩ := hY pre ⟨Hit.tz r, by omega⟩ wr hJs hpl
          dsimp only at hy
          gi_wp2_with (refine ⟨trivial, ?_⟩; refine (callsIn_wide.2 hC).mono ?_; rintro e w' ⟨rfl, rfl⟩)
          refine hR.mono ?_
          rintro e W3 (⟨rfl, hJ3, hk3⟩ | ⟨rfl, hJx3⟩)
          · gi_wp2
            go_roundw
            case rel => exact ⟨pre ++ [⟨Hit.tz r, by omega⟩], r &&& (r - 1), rfl, Nat.lt_of_le_of_lt Nat.and_le_left hr, by rw [← hm, hs]; simp, hJ3, hTr.onB hg hk3⟩
            case measure => simp [intOf]; omega
          · gi_wp2
            refine bodyPost_ret (results_none rfl _ _ _) rfl ?_
            exact ⟨⟨_, rfl⟩, .inr ⟨pre ++ [⟨Hit.tz r, by omega⟩], trivial, hJx3⟩⟩
    · rw [show ((1 : Nat) : Int) = 1 from rfl]
      obtain ⟨wo, rfl⟩ : ∃ wo : World, wo = wr := ⟨_, rfl⟩
      gi_wp2
      gi_loopw [4] (fun p wr => ∃ (pre : List (Fin 128)) (r : Nat), p = .int .u64 r ∧ r < 2 ^ 64 ∧ pre.map Fin.val ++ ((Hit.members r).map (64 + ·) ++ Nt.restF x 2) = Nt.mem x ∧ J pre wr ∧ Tab64 wr)
        (fun p wr => (intOf p).toNat)
      case atStart => exact ⟨pre, Nt.hi x, rfl, hhi, by rw [← hm]; simp [Nt.restF], hJs, hTr⟩
      case round =>
        clear hJs hTr hm
        obtain ⟨pre, r, rfl, hr, hm, hJs, hTr⟩ := hrel
        by_cases hr0 : r = 0
        · subst hr0
          have e : Hit.members 0 = [] := by decide
          have h0' : ((0 : Int) != 0) = false := rfl
          rw [e, List.map_nil, List.nil_append] at hm
          gi_wp2
          go_roundw
          case rel => exact ⟨2, pre, by omega, rfl, hm, hJs, hTr⟩
          case measure => simp [intOf]
        · have h0' : ((r : Int) != 0) = true := by simp; omega
          have h1 : (1 : Int) ≤ r := by omega
          obtain ⟨hs, hlt⟩ := Hit.members_step 64 r (by decide) hr0 hr
          rw [← Hit.tz_ctz 64 r (by decide) hr0 hr] at hs
          have hq64 : Hit.tz r < 64 := Hit.members_lt hr _ (by rw [hs]; simp)
          have hand := Hit.u64_and r (r - 1) hr (by omega)
          rw [show ((r - 1 : Nat) : Int) = (r : Int) - 1 from by omega] at hand
          have hC := tz64_any r hr0 hr wr hTr
          have hpl : pre.length < 128 := by
            have := congrArg List.length hm
            rw [hs] at this
            simp at this
            omega
          obtain ⟨fn, tmps, assign, body, hy, hR⟩ := hY pre ⟨64 + Hit.tz r, by omega⟩ wr hJs hpl
          dsimp only at hy
          rw [show ((64 + Hit.tz r : Nat) : Int) = 64 + (Hit.tz r : Int) from by omega] at hy
          gi_wp2_with (refine ⟨trivial, ?_⟩; refine (callsIn_wide.2 hC).mono ?_; rintro e w' ⟨rfl, rfl⟩)
          refine hR.mono ?_
          rintro e W3 (⟨rfl, hJ3, hk3⟩ | ⟨rfl, hJx3⟩)
          · gi_wp2
            go_roundw
            case rel => exact ⟨pre ++ [⟨64 + Hit.tz r, by omega⟩], r &&& (r - 1), rfl, Nat.lt_of_le_of_lt Nat.and_le_left hr, by rw [← hm, hs]; simp, hJ3, hTr.onB hg hk3⟩
            case measure => simp [intOf]; omega
          · gi_wp2
            refine bodyPost_ret (results_none rfl _ _ _) rfl ?_
            exact ⟨⟨_, rfl⟩, .inr ⟨pre ++ [⟨64 + Hit.tz r, by omega⟩], trivial, hJx3⟩⟩
    · rw [show ((2 : Nat) : Int) = 2 from rfl]
      gi_wp2
      go_end0
      exact ⟨⟨_, rfl⟩, .inl ⟨pre, by simpa [Nt.restF] using hm, hJs⟩⟩
end Go.Proofs.YtnphdmiondccgaaDoor
namespace Go.Proofs.YtnphdmiondccgaaDoor
open Go Go.RowKit Go.Shelf
attribute [local go_sem] Oper.semAt_some
theorem infoIn : (Tryd.prog.info? 3).map (fun i => (i.zero, i.size, i.bytes)) = some (some (.int .i64 0), 1, 8) := by kernel_rfl
theorem elemIn : ElemN Tryd.prog 32 3 1 8 := ⟨Tryd.underlying32, by
  obtain ⟨i, hi, hz, hs, hb⟩ := info_parts infoIn
  exact ⟨i, _, hi, hz, hs, hb, rfl⟩⟩
/-- The iterator that all hands back. -/
theorem all_stops (n : Nat) (hn : 1 ≤ n) (Bn n₀ : Nat) (hg : 0 < n₀) (x : Nat) (hx : x < 2 ^ 128) (w : World) (hBn : Bn < w.heap.size) (hT : Tab64 w) (hc0 : w.cell? ⟨Bn, 0, none⟩ = some (.int .u64 ((Nt.lo x : Nat) : Int))) (hc1 : w.cell? ⟨Bn, 1, none⟩ = some (.int .u64 ((Nt.hi x : Nat) : Int))) :
    SeqStopsK Fence.wide n Tryd.prog 82 #[.pointer (some ⟨Bn, 0, none⟩)] (fun i : Fin 128 => #[Value.int .i64 (i.val : Int)]) (Below n₀) (fun ys => ys.map Fin.val = Nt.mem x) (fun _ => True) 128 w := fun l J Jx W hW _ _ hY h0 =>
  (all1_in n hn l Bn n₀ hg x hx J Jx hY W (hT.below hW) ((hW.cell (p := ⟨Bn, 0, none⟩) hBn).trans hc0) ((hW.cell (p := ⟨Bn, 1, none⟩) hBn).trans hc1) h0).mono fun _ _ ⟨h1, h2⟩ => ⟨h1, h2⟩
/-- What lies between two rounds of AppendSeq. -/
def MI (sb n₀ : Nat) (w : World) (pre : List (Fin 128)) (W : World) : Prop := ∃ v, OwnL (sb + 1) 3 1 IntC W v (pre.map fun i => (i.val : Int)) ∧ Blk W sb 32 #[v] ∧ Below n₀ w W
theorem MI.turn {sb n₀ B : Nat} {w : World} (_hB : sb < B) (hn : n₀ ≤ B) (hw : n₀ ≤ w.heap.size) : OwnFrom B (fun pre : List (Fin 128) => MI sb n₀ w pre) := fun pre A W row hs hg hr => by
  have hr' : ∀ r, row = some r → ∃ o : Obj, A.heap[r]? = some o ∧ o.isCells = false := fun r e => (hr r e).2
  obtain ⟨v, hO, hS, hb⟩ := hs
  refine ⟨v, ?_, hS.grown hg (hS.not_turned hr'), hb.grown hg (Nat.le_trans hw hb.size) fun k e => Nat.le_trans hn (hr k e).1⟩
  exact hO.keep rfl (fun xs hx => hx.kept hg (by
    cases hv : v.ownBlock with
    | none => exact .inl rfl
    | some g =>
      refine .inr fun e => ?_
      obtain ⟨o, h1, h2⟩ := own_cells hx g hv
      obtain ⟨o', h3, h4⟩ := hr' g e.symm
      rw [h1] at h3
      injection h3 with h3
      subst h3
      rw [h2] at h4; cases h4)) fun _ _ h => h
set_option maxRecDepth 100000 in
set_option maxHeartbeats 2000000 in
theorem appendSeq_any (x : Nat) (hx : x < 2 ^ 128) (Bn : Nat) (w : World) (hT : Tab64 w) (hg : 0 < w.heap.size) (hBn : Bn < w.heap.size) (hc0 : w.cell? ⟨Bn, 0, none⟩ = some (.int .u64 ((Nt.lo x : Nat) : Int))) (hc1 : w.cell? ⟨Bn, 1, none⟩ = some (.int .u64 ((Nt.hi x : Nat) : Int))) :
    Calls Tryd.prog 81 #[.slice none 0 0, .func (.func 82) #[] #[.pointer (some ⟨Bn, 0, none⟩)]] w fun e w' => ∃ v, e = .returned v ∧ SlI (fun b => w.heap.size ≤ b ∧ b < w'.heap.size) w' v ((Nt.mem x).map fun i : Nat => (i : Int)) ∧ Below w.heap.size w w' := by
  refine (callsIn_wide (n := 8)).1 ?_
  refine callsIn_of_wp_marks Tryd.func81 rfl trivial ?_ rfl
  simp only [Tryd.ntmps81, List.size_toArray, List.length_cons, List.length_nil, Nat.reduceAdd, Nat.reduceSub, Array.replicate_succ, Array.replicate_zero, List.push_toArray, List.append_toArray, List.nil_append, List.cons_append]
  gi_wp2
  obtain ⟨sb, hsb⟩ : ∃ sb, w.heap.size = sb := ⟨_, rfl⟩
  obtain ⟨wL, hwL⟩ : ∃ wL : World, w.alloc (.cells #[.slice none 0 0] 32) = wL := ⟨_, rfl⟩
  have hszL : wL.heap.size = sb + 1 := by rw [← hwL]; simp [hsb]
  have hbL : Below w.heap.size w wL := by rw [← hwL]; exact Ba (B0 w) _
  have hS : Blk wL sb 32 #[.slice none 0 0] := by rw [← hwL, ← hsb]; exact Blk.new _ _ _
  have hMI : MI sb sb w ([] : List (Fin 128)) wL := ⟨_, OwnL.nil, hS, by rw [hsb] at hbL; exact hbL⟩
  rw [hwL, hsb]
  have hg' := hg
  rw [hsb] at hg' hBn
  refine wpIn_rangeFunc_ownG rfl (by omega) (gf := 82) (lb := #[.pointer (some ⟨Bn, 0, none⟩)]) rfl trivial (enters_of Tryd.func82 (by kernel_rfl) rfl)
    (all_stops 7 (by omega) Bn sb hg' x hx wL (by omega) (hT.below hbL) ((Bc hbL (by omega)).trans hc0) ((Bc hbL (by omega)).trans hc1)) belowK_t (belowK_b (by omega)) (Below.refl _ _) (fun _ => rfl)
    (fun pre W => MI sb sb w pre W)
    (fun _ _ _ => False) (MI.turn (by omega) (by omega) (by omega)) (fun _ _ _ _ _ hs _ _ => hs) hMI
    (fun i => { tmps := #[.slice none 0 0, .func (.func 82) #[] #[.pointer (some ⟨Bn, 0, none⟩)], .pointer (some ⟨sb, 0, none⟩), undef, .slice none 0 0, .int .i64 (i.val : Int), .func (.func 82) #[] #[.pointer (some ⟨Bn, 0, none⟩)], .int .i64 (i.val : Int), undef, undef, undef, undef, undef], defers := [] }) ?assign ?body ?done ?stop
  case assign =>
    intro l x W K hK
    gi_wp2
    exact hK
  case body =>
    rintro l pre i W ⟨v, hO, hSb, hB⟩ hlt
    have s0 := hSb.cell 0
    simp at s0
    obtain ⟨cs, q1, q2, q3⟩ := id hO
    have hml : (pre.map fun i : Fin 128 => (i.val : Int)).length ≤ 128 := by rw [List.length_map]; omega
    obtain ⟨m, hm9⟩ : ∃ m, (pre.map fun i : Fin 128 => (i.val : Int)).length = m := ⟨_, rfl⟩
    rw [hm9] at hml
    have hq := q3
    rw [hm9] at hq
    have hWs : sb + 1 ≤ W.heap.size := by have := hSb.lt; omega
    have HO := Lib.hid hO
    have HM9 := Lib.hid hm9
    clear hO hm9
    gi_wp2_with (gi_at_builtin; refine wpListIn_appS elemIn (by omega) rfl _ _ rfl (sb + 1) v m _ rfl (hq.alloc _) ⟨W.heap.size, 0, none⟩ 1 [.int .i64 (i.val : Int)] rfl rfl (Flds.new W _ _) (by simp [Value.oneCell']) (by omega) (by omega) (by simp; omega) ?_; rintro g cap w8 hown8 hg8 hgg; have hs8 := (hSb.alloc (.cells #[.int .i64 (i.val : Int)] 3)).grown hg8 (fun e => own_ne q3 hSb (by decide) e.symm); have m8 := hs8.cell 0; have f8 := hs8.frozen 0; simp only [List.getElem?_toArray, List.getElem?_cons_zero] at m8)
    have hgs := hg8.size
    simp at hgs
    have hown9 : OwnL (sb + 1) 3 1 IntC (w8.setCell ⟨sb, 0, none⟩ (.slice (some ⟨g, 0, none⟩) (m + 1) cap)) (.slice (some ⟨g, 0, none⟩) (m + 1) cap) ((pre ++ [i]).map fun i : Fin 128 => (i.val : Int)) := by
      rw [List.map_append]
      exact OwnL.snoc q1 q2 rfl rfl (fun _ _ h => h) (by rw [HM9.out]; exact ownsRow_setCell_below (a := ⟨sb, 0, none⟩) hown8 (by show sb < sb + 1; omega) _)
    have hvl : ∀ b, v.ownBlock = some b → sb + 1 ≤ b := fun b e => (HO.out.lt b e).1
    have hb9 : Below sb W (w8.setCell ⟨sb, 0, none⟩ (.slice (some ⟨g, 0, none⟩) (m + 1) cap)) := by
      have x1 := (Below.refl sb W).alloc (show sb ≤ W.heap.size by omega) (.cells #[.int .i64 (i.val : Int)] 3)
      have x2 := x1.grown hg8 (by simp; omega) (fun k e => by have := hvl k e; omega)
      exact x2.setCell (Nat.le_refl _) _
    exact ⟨(kf_below (Ba (B0 W) _)).trans ((kf_row hg8 (own_cells (hq.alloc _))).trans (kf_set _ _ _ _ (by rw [hszL]; show sb < sb + 1; omega))), hb9, _, hown9, hs8.set_ 0 _, hB.trans hb9⟩
  case done =>
    rintro D ys W hD hys ⟨v, hO, hSb, hB⟩ hK
    have s0 := hSb.cell 0
    simp at s0
    gi_wp2
    have hgr := grownBy_putObj' W D (.deferred none)
    refine ⟨by simp, .inl ⟨_, _, rfl, run_takeDeferred hK, ?_⟩⟩
    refine ⟨_, results_tmp rfl _ _ _, v, rfl, ?_, ?_⟩
    · have h1 := hO.keep (R' := IntC) rfl (fun xs hx => hx.kept hgr (by
        cases hv : v.ownBlock with
        | none => exact .inl rfl
        | some g =>
          refine .inr fun e => ?_
          injection e with e
          subst e
          obtain ⟨o, h1, h2⟩ := own_cells hx _ hv
          rw [hK] at h1
          injection h1 with h1
          subst h1
          cases h2)) fun _ _ h => h
      have e : (ys.map fun i : Fin 128 => (i.val : Int)) = (Nt.mem x).map fun i : Nat => (i : Int) := by rw [← hys, List.map_map]; rfl
      rw [e] at h1
      exact h1.sl (by have := Nt.mem_len x; rw [List.length_map]; omega) (fun b q1 q2 _ => ⟨by omega, q2⟩)
    · rw [hsb]
      exact hB.grown hgr (by have := hSb.lt; omega) (fun k e => by injection e with e; omega)
  case stop =>
    rintro D c pre W _ _ h _
    exact h.elim
theorem collect_any (x : Nat) (hx : x < 2 ^ 128) (Bn : Nat) (w : World) (hT : Tab64 w) (hg : 0 < w.heap.size) (hBn : Bn < w.heap.size) (hc0 : w.cell? ⟨Bn, 0, none⟩ = some (.int .u64 ((Nt.lo x : Nat) : Int))) (hc1 : w.cell? ⟨Bn, 1, none⟩ = some (.int .u64 ((Nt.hi x : Nat) : Int))) :
    Calls Tryd.prog 62 #[.func (.func 82) #[] #[.pointer (some ⟨Bn, 0, none⟩)]] w fun e w' => ∃ v, e = .returned v ∧ SlI (fun b => w.heap.size ≤ b ∧ b < w'.heap.size) w' v ((Nt.mem x).map fun i : Nat => (i : Int)) ∧ Below w.heap.size w w' := by
  have HAP := Lib.hid (appendSeq_any x hx Bn w hT hg hBn hc0 hc1)
  clear hT hc0 hc1
  go_enter Tryd.func62, Tryd.ntmps62
  go_wp2_with (go_at_call 81; (with_reducible refine (HAP.out.mono ?_)); rintro e w2 ⟨v, rfl, hs, hb⟩; have HS := Lib.hid hs; have HB := Lib.hid hb; clear hs hb)
  go_ret
  exact ⟨v, rfl, HS.out, HB.out⟩
theorem all_any (x : Nat) (w : World) : Calls Tryd.prog 63 #[ntV x] w fun e w' => e = .returned (.func (.func 82) #[] #[.pointer (some ⟨w.heap.size, 0, none⟩)]) ∧ w' = w.alloc (.cells #[.int .u64 ((Nt.lo x : Nat) : Int), .int .u64 ((Nt.hi x : Nat) : Int)] 87) := by
  unfold ntV
  generalize Nt.lo x = a at *
  generalize Nt.hi x = b at *
  go_enter Tryd.func63, Tryd.ntmps63
  go_wp2
  go_ret
  exact ⟨rfl, rfl⟩
/-- Collect(all(s)). -/
theorem members_any (x : Nat) (hx : x < 2 ^ 128) (w : World) (hT : Tab64 w) (hg : 0 < w.heap.size) :
    Calls Tryd.prog 25 #[ntV x] w fun e w' => ∃ v, e = .returned v ∧ SlI (fun b => w.heap.size ≤ b ∧ b < w'.heap.size) w' v ((Nt.mem x).map fun i : Nat => (i : Int)) ∧ Below w.heap.size w w' := by
  have hAL := fun W => all_any x W
  have hCO := fun Bn W (hb : Below w.heap.size w W) => collect_any x hx Bn W (hT.below hb) (Nat.lt_of_lt_of_le hg hb.size)
  unfold ntV at *
  obtain ⟨l, hl⟩ : ∃ l, ((Nt.mem x).map fun i : Nat => (i : Int)) = l := ⟨_, rfl⟩
  rw [hl] at hCO ⊢
  clear hl
  generalize Nt.lo x = a at *
  generalize Nt.hi x = b at *
  have HAL := Lib.hid hAL
  have HCO := Lib.hid hCO
  clear hAL hCO hT
  go_enter Tryd.func25, Tryd.ntmps25
  obtain ⟨W3, hW3⟩ : ∃ W3 : World, (w.alloc (.cells #[.int .u64 (a : Int), .int .u64 (b : Int)] 87)).alloc (.cells #[.int .u64 (a : Int), .int .u64 (b : Int)] 87) = W3 := ⟨_, rfl⟩
  have hB3 : Below w.heap.size w W3 := by rw [← hW3]; exact Ba (Ba (B0 w) _) _
  have hC3 := HCO.out (w.heap.size + 1) W3 hB3 (by rw [← hW3]; simp) (by rw [← hW3]; simp [go_sem]) (by rw [← hW3]; simp [go_sem])
  have HC3 := Lib.hid hC3
  have HB3 := Lib.hid hB3
  have HW3 := Lib.hid hW3
  clear hC3 hB3 hW3
  go_wp2_with (first
    | (go_at_call 63; (with_reducible refine ((HAL.out _).mono ?_)); rintro e w2 ⟨rfl, rfl⟩; rw [HW3.out]; simp only [World.size_alloc])
    | (go_at_call 62; (with_reducible refine (HC3.out.mono ?_)); rintro e w4 ⟨v, rfl, hs, hb⟩; have HS := Lib.hid hs; have HB := Lib.hid (Bt HB3.out hb); clear hs hb))
  go_ret
  exact ⟨v, rfl, Sl.mono HS.out fun b q => ⟨Nat.le_trans HB3.out.size q.1, q.2⟩, HB.out⟩
end Go.Proofs.YtnphdmiondccgaaDoor
