/- Walks over coupler: Idle. -/
import Derived.Test.YtnkjhppjjklgfaaDoorVd
import Derived.Test.YtnkjhppjjklgfaaDoorNe
import Derived.RangeFuncNested
namespace Go.Proofs.YtnkjhppjjklgfaaDoor
open Go Go.RowKit Go.Shelf
attribute [local go_sem] Oper.semAt_some
namespace Cou
/-- Does a coupler take some contact anywhere? -/
def takesB (a : Ac) (i : Nat) : Bool := (ctsF 0 a.divs).any fun c => (stepF a i c).isSome
end Cou
set_option maxRecDepth 100000 in
set_option maxHeartbeats 1000000 in
theorem idle1_any (a : Cou.Ac) (hok : Cou.Ok a) (vd vc : Value) (i : Nat) (hi : i < a.cps.length) (c : Cou.Ct) (hc : CtS c) (B tb : Nat) (w : World) (F : Nat → Prop) (hA : ActB w B F vd vc a) (hti : Blk w tb 3 #[.int .i64 (i : Int)]) :
    Calls Tryd.prog 47 (#[ctV c] ++ #[.pointer (some ⟨B, 0, none⟩), .pointer (some ⟨tb, 0, none⟩)]) w fun e w' => e = .returned (.bool (Cou.stepF a i c).isSome) ∧ Below w.heap.size w w' := by
  obtain ⟨c1, c2⟩ := c
  have hFF := hA.act.inW
  obtain ⟨w1, hw1⟩ : ∃ w1 : World, w.alloc (.cells #[.int .i64 c1, .int .i64 c2] 28) = w1 := ⟨_, rfl⟩
  obtain ⟨bx, hbx⟩ : ∃ bx, w.heap.size = bx := ⟨_, rfl⟩
  have C1 : Blk w1 bx 28 #[.int .i64 c1, .int .i64 c2] := by rw [← hw1, ← hbx]; exact Blk.new _ _ _
  have B1 : Below w.heap.size w w1 := by rw [← hw1]; exact Ba (B0 w) _
  have hst := step_any a hok vd vc i hi (c1, c2) (by have := hc; unfold CtS at this; dsimp only at this ⊢; omega) a.drawn w1 F (hA.act.onB hFF B1)
  have A1 := hA.blk.below B1 hA.blk.lt
  have T1 := hti.below B1 hti.lt
  have x0 := A1.cell 0
  have x1 := A1.cell 1
  have x2 := A1.cell 2
  have y0 := C1.cell 0
  have y1 := C1.cell 1
  have z0 := T1.cell 0
  simp only [List.getElem?_toArray, List.getElem?_cons_zero, List.getElem?_cons_succ] at x0 x1 x2 y0 y1 z0
  have HB1 := Lib.hid B1
  have HW1 := Lib.hid hw1
  have HBX := Lib.hid hbx
  obtain ⟨Ad, cd, rfl, _, _⟩ := id hA.act.dv.open
  obtain ⟨Ac, cc, rfl, _, _⟩ := id hA.act.cp.open
  clear hA hti C1 B1 hw1 hbx A1 T1
  show Calls _ _ #[.agg #[.int .i64 c1, .int .i64 c2], .pointer (some ⟨B, 0, none⟩), .pointer (some ⟨tb, 0, none⟩)] _ _
  cases hs : Cou.stepF a i (c1, c2) with
  | none =>
    rw [hs] at hst
    simp only [stepV] at hst
    have HST := Lib.hid hst
    clear hs hst
    go_enter Tryd.func47, Tryd.ntmps47
    go_upto_region 1 with fail
    rw [HW1.out, HBX.out]
    go_wp2_with (go_at_call 40; (with_reducible refine (HST.out.mono ?_)); rintro e w3 ⟨rfl, hb3⟩; have HB3 := Lib.hid hb3; clear hb3)
    go_ret
    exact ⟨rfl, Bt HB1.out (Ba HB3.out _)⟩
  | some t =>
    rw [hs] at hst
    simp only [stepV] at hst
    have HST := Lib.hid hst
    clear hs hst
    go_enter Tryd.func47, Tryd.ntmps47
    go_upto_region 1 with fail
    rw [HW1.out, HBX.out]
    go_wp2_with (go_at_call 40; (with_reducible refine (HST.out.mono ?_)); rintro e w3 ⟨rfl, hb3⟩; have HB3 := Lib.hid hb3; clear hb3)
    go_ret
    exact ⟨rfl, Bt HB1.out (Ba HB3.out _)⟩
/-- What lies between two rounds of Idle. -/
def II (a : Cou.Ac) (ob n₀ : Nat) (w : World) {m : Nat} (pre : List (Fin m)) (W : World) : Prop := ∃ v, OwnL (ob + 2) 3 1 IntC W v ((pre.filter fun i => !Cou.takesB a i.val).map fun i => (i.val : Int)) ∧ Blk W ob 53 #[v] ∧ Below n₀ w W
theorem II.turn {a : Cou.Ac} {ob n₀ B : Nat} {w : World} {m : Nat} (_hB : ob < B) (hn : n₀ ≤ B) (hw : n₀ ≤ w.heap.size) : OwnFrom B (fun pre : List (Fin m) => II a ob n₀ w pre) := fun pre A W row hs hg hr => by
  have hr' : ∀ r, row = some r → ∃ o : Obj, A.heap[r]? = some o ∧ o.isCells = false := fun r e => (hr r e).2
  obtain ⟨v, hO, hS, hb⟩ := hs
  refine ⟨v, ?_, hS.grown hg (hS.not_turned hr'), hb.grown hg (Nat.le_trans hw hb.size) fun k e => Nat.le_trans hn (hr k e).1⟩
  exact hO.keep rfl (fun xs hx => hx.kept hg (by
    cases hv : v.ownBlock with
    | none => exact .inl rfl
    | some g =>
      refine .inr fun e => ?_
      obtain ⟨o, h1, h2⟩ := own_cells hx g hv
      obtain ⟨o', h3, h4⟩ := hr' g e.symm
      rw [h1] at h3
      injection h3 with h3
      subst h3
      rw [h2] at h4; cases h4)) fun _ _ h => h
theorem OWNB {base : Nat} {W W' : World} {v : Value} {l : List Int} (h : OwnL base 3 1 IntC W v l) (hb : Below W.heap.size W W') : OwnL base 3 1 IntC W' v l :=
  h.keep rfl (fun _ hx => hx.kept (row := none) (only_of_below hb _) (by cases hv : v.ownBlock <;> simp)) fun _ _ hr => hr
set_option maxRecDepth 100000 in
set_option maxHeartbeats 4000000 in
theorem Idle_ok (a : Cou.Ac) (hr : Cou.rightF a = 0) (vd vc : Value) (hdr : a.drawn < 2 ^ 64) (w : World) (F : Nat → Prop) (hA : AcAt F w vd vc a) (hT : Tab64 w) (_hg : 0 < w.heap.size) :
    Calls Tryd.prog 21 #[.agg #[vd, vc, .int .u64 a.drawn]] w fun e w' => ∃ v, e = .returned (.tuple #[v, .int .i64 0]) ∧ SlI (fun b => w.heap.size ≤ b ∧ b < w'.heap.size) w' v (((Hit.members a.drawn).filter fun i => !Cou.takesB a i).map fun i : Nat => (i : Int)) ∧ Below w.heap.size w w' := by
  have hok := Cou.right_ok hr
  have hFF := hA.inW
  obtain ⟨Ad, cd, hvd, _⟩ := id hA.dv.open
  obtain ⟨Ac, cc, hvc, _⟩ := id hA.cp.open
  refine (callsIn_wide (n := 8)).1 ?_
  refine callsIn_of_wp_marks Tryd.func21 rfl trivial ?_ rfl
  simp only [Tryd.ntmps21, List.size_toArray, List.length_cons, List.length_nil, Nat.reduceAdd, Nat.reduceSub, Array.replicate_succ, Array.replicate_zero, List.push_toArray, List.append_toArray, List.nil_append, List.cons_append]
  obtain ⟨w1, hw1⟩ : ∃ w1 : World, w.alloc (.cells #[vd, vc, .int .u64 a.drawn] 34) = w1 := ⟨_, rfl⟩
  obtain ⟨B, hBB⟩ : ∃ B, w.heap.size = B := ⟨_, rfl⟩
  have AB : Blk w1 B 34 #[vd, vc, .int .u64 a.drawn] := by rw [← hw1, ← hBB]; exact Blk.new _ _ _
  have B1 : Below w.heap.size w w1 := by rw [← hw1]; exact Ba (B0 w) _
  have HRT := right_any a vd vc hdr w1 F (hA.onB hFF B1)
  rw [hr] at HRT
  have x0 := AB.cell 0
  have x1 := AB.cell 1
  have x2 := AB.cell 2
  simp only [List.getElem?_toArray, List.getElem?_cons_zero, List.getElem?_cons_succ] at x0 x1 x2
  subst hvd; subst hvc
  gi_wp2
  refine ⟨trivial, ?_⟩
  refine (callsIn_wide.2 HRT).mono ?_
  rintro e w2 ⟨rfl, hb2⟩
  have A2 := AB.below hb2 AB.lt
  have y0 := A2.cell 0
  have y1 := A2.cell 1
  have y2 := A2.cell 2
  simp only [List.getElem?_toArray, List.getElem?_cons_zero, List.getElem?_cons_succ] at y0 y1 y2
  have B2 := Bt B1 hb2
  have HCN := contacts_any a hok _ _ w2 F (hA.onB hFF B2)
  gi_wp2
  refine ⟨trivial, ?_⟩
  refine (callsIn_wide.2 HCN).mono ?_
  rintro e w3 ⟨vl, rfl, hsl, hb3⟩
  have B3 := Bt B2 hb3
  have A3 := A2.below hb3 A2.lt
  have hs3 := hsl.bnd2
  obtain ⟨cb, hcb⟩ : ∃ cb, w3.heap.size = cb := ⟨_, rfl⟩
  obtain ⟨w5, hw5⟩ : ∃ w5 : World, (w3.alloc (.cells #[vl] 36)).alloc (.cells #[.slice none 0 0] 53) = w5 := ⟨_, rfl⟩
  have hb5 : Below w3.heap.size w3 w5 := by rw [← hw5]; exact Ba (Ba (B0 w3) _) _
  have hsz5 : w5.heap.size = cb + 2 := by rw [← hw5]; simp [hcb]
  have C5 : Blk w5 cb 36 #[vl] := by rw [← hw5, ← hcb]; exact (Blk.new w3 _ _).alloc _
  have S5 : Blk w5 (cb + 1) 53 #[.slice none 0 0] := by
    have := Blk.new (w3.alloc (.cells #[vl] 36)) 53 #[.slice none 0 0]
    rw [hw5] at this
    simpa [hcb] using this
  have B5 := Bt B3 hb5
  have A5 := A3.below hb5 A3.lt
  have u0 := A5.cell 0
  have u1 := A5.cell 1
  have u2 := A5.cell 2
  simp only [List.getElem?_toArray, List.getElem?_cons_zero, List.getElem?_cons_succ] at u0 u1 u2
  obtain ⟨Al, cl, rfl, _⟩ := id hs3.open
  gi_wp2
  refine ⟨trivial, ?_⟩
  refine (callsIn_wide.2 (drawn_any (.slice Ad a.divs.length cd) (.slice Ac a.cps.length cc) a.drawn ⟨_, _, _, rfl⟩ ⟨_, _, _, rfl⟩ _)).mono ?_
  rintro e w6 ⟨rfl, rfl⟩
  rw [hsz5]
  obtain ⟨wL, hwL⟩ : ∃ wL : World, w5.alloc (.cells #[.slice Ad a.divs.length cd, .slice Ac a.cps.length cc, .int .u64 a.drawn] 34) = wL := ⟨_, rfl⟩
  have hszL : wL.heap.size = cb + 3 := by rw [← hwL]; simp [hsz5]
  have hbL : Below w5.heap.size w5 wL := by rw [← hwL]; exact Ba (B0 w5) _
  have BL := Bt B5 hbL
  have hcN : wL.cell? ⟨cb + 2, 2, none⟩ = some (.int .u64 a.drawn) := by rw [← hwL, ← hsz5]; simp [go_sem]
  have CL := C5.below hbL C5.lt
  have SL := S5.below hbL S5.lt
  have AL := A5.below hbL A5.lt
  have hlB := A3.lt
  rw [hcb] at hlB
  have hcs : w.heap.size ≤ cb := by rw [← hcb]; exact B3.size
  rw [hwL]
  gi_wp2
  have hslL : SlCt (fun b => b < cb) wL (.slice Al (Cou.ctsF 0 a.divs).length cl) (Cou.ctsF 0 a.divs) := by
    have h1 : SlCt (fun b => b < cb) w3 (.slice Al (Cou.ctsF 0 a.divs).length cl) (Cou.ctsF 0 a.divs) := by rw [← hcb]; exact hs3
    exact Sl.keep h1 (Agree.below (Bt hb5 hbL) fun b h => by rw [hcb]; exact h) fun _ _ h => h
  have hII : II a (cb + 1) (cb + 1) wL ([] : List (Fin a.cps.length)) wL := ⟨_, OwnL.nil, SL, (B0 wL).mono (by omega)⟩
  refine wpIn_rangeFunc_ownH rfl (by omega) (gf := 65) (lb := #[.pointer (some ⟨cb + 2, 0, none⟩)]) rfl trivial (enters_of Tryd.func65 (by kernel_rfl) rfl)
    (drawn_stops 7 (by omega) a.cps.length (by have := hok.nc; omega) (cb + 2) (cb + 1) (by omega) a.drawn hok.drawn wL (by omega) (hT.below BL) hcN) belowK_t (belowK_b (by omega)) (Below.refl _ _) (fun _ => rfl)
    (fun pre W => II a (cb + 1) (cb + 1) wL pre W)
    (fun _ _ _ => False) (II.turn (by omega) (by omega) (by omega)) (fun _ _ _ _ _ hs _ _ => hs) hII
    (fun i a' W => ∃ tb, cb + 3 ≤ tb ∧ Blk W tb 3 #[.int .i64 (i.val : Int)] ∧ a' = { tmps := #[.agg #[.slice Ad a.divs.length cd, .slice Ac a.cps.length cc, .int .u64 a.drawn], .pointer (some ⟨B, 0, none⟩), .slice none 0 0, .int .i64 0, .int .i64 0, .pointer (some ⟨cb, 0, none⟩), .pointer (some ⟨cb + 1, 0, none⟩), .pointer (some ⟨tb, 0, none⟩), .agg #[.slice Ad a.divs.length cd, .slice Ac a.cps.length cc, .int .u64 a.drawn], .int .i64 0, .int .i64 0, .bool false, undef, .agg #[.slice Ad a.divs.length cd, .slice Ac a.cps.length cc, .int .u64 a.drawn], .slice Al (Cou.ctsF 0 a.divs).length cl, .agg #[.slice Ad a.divs.length cd, .slice Ac a.cps.length cc, .int .u64 a.drawn], .func (.func 65) #[] #[.pointer (some ⟨cb + 2, 0, none⟩)], .int .i64 (i.val : Int), undef, undef, undef, undef, undef, undef, undef, undef, undef], defers := [] })
    (fun i a' _ A W row ⟨tb, q1, q2, q3⟩ hg hr => ⟨tb, q1, q2.grown hg (q2.not_turned fun r e => (hr r e).2), q3⟩) ?assign ?body ?done ?stop
  case assign =>
    intro l pre x W K hi hK
    obtain ⟨v, hO, hSb, hB⟩ := hi
    have hWs : cb + 3 ≤ W.heap.size := by have := hB.size; omega
    gi_wp2
    have hb9 := Ba (B0 W) (.cells #[.int .i64 (x.val : Int)] 3)
    exact hK _ _ (kf_below hb9) (hb9.mono (by omega)) ⟨v, hO.alloc _ fun _ _ h => h, hSb.alloc _, hB.trans (hb9.mono (by omega))⟩ ⟨W.heap.size, hWs, Blk.new W _ _, rfl⟩
  case body =>
    rintro l pre i a' W _ _ ⟨v, hO, hSb, hB⟩ ⟨tb, htb, T1, rfl⟩ hlt
    have hWs : cb + 3 ≤ W.heap.size := by have := hB.size; omega
    have hCF : Calls Tryd.prog 46 #[.slice Al (Cou.ctsF 0 a.divs).length cl, .func (.func 47) #[] #[.pointer (some ⟨B, 0, none⟩), .pointer (some ⟨tb, 0, none⟩)]] W fun e w' => e = .returned (.bool (Cou.takesB a i.val)) ∧ Below W.heap.size W w' := by
      refine containsf_ct (fun c => (Cou.stepF a i.val c).isSome) _ (Cou.ctsF 0 a.divs) _ _ (enters_of Tryd.func47 (by kernel_rfl) rfl) W (fun b => b < cb) (fun b h => by omega) (Sl.keep hslL (Agree.below hB fun b h => by omega) fun _ _ h => h) fun V x hx hV => ?_
      have hV2 : Below (cb + 1) wL V := hB.trans (hV.mono (by omega))
      have hV3 : Below w.heap.size w V := BL.trans (hV2.mono (by omega))
      exact idle1_any a hok _ _ i.val i.isLt x (inA_small hok (Cou.ctsF_inA.1 hx)) B tb V F ⟨AL.below hV2 (by omega), hA.onB hFF hV3, hT.below hV3⟩ (T1.below hV T1.lt)
    have s0 := hSb.cell 0
    have c0 := (CL.below hB (by omega)).cell 0
    have t0 := T1.cell 0
    simp only [List.getElem?_toArray, List.getElem?_cons_zero] at s0 c0 t0
    cases htk : Cou.takesB a i.val with
    | true =>
      rw [htk] at hCF
      gi_wp2_with (refine ⟨trivial, ?_⟩; refine (CallsIn.inRound l (callsIn_wide.2 hCF)).mono ?_; rintro e W3 ⟨rfl, hb3⟩)
      refine ⟨kf_below hb3, hb3.mono (by omega), v, ?_, hSb.below hb3 hSb.lt, hB.trans (hb3.mono (by omega))⟩
      rw [List.filter_append, List.filter_cons_of_neg (by rw [htk]; decide), List.filter_nil, List.append_nil]
      exact OWNB hO hb3
    | false =>
      rw [htk] at hCF
      obtain ⟨m, hm9⟩ : ∃ m, ((pre.filter fun i => !Cou.takesB a i.val).map fun i => (i.val : Int)).length = m := ⟨_, rfl⟩
      have hml : m ≤ 64 := by
        have h1 := List.length_filter_le (fun i : Fin a.cps.length => !Cou.takesB a i.val) pre
        rw [List.length_map] at hm9
        omega
      have HM9 := Lib.hid hm9
      have HO := Lib.hid hO
      clear hm9 hO
      gi_wp2_with (first
        | (refine ⟨trivial, ?_⟩; refine (CallsIn.inRound l (callsIn_wide.2 hCF)).mono ?_; rintro e W3 ⟨rfl, hb3⟩; have hS3 := hSb.below hb3 hSb.lt; have s3 := hS3.cell 0; have t3 := (T1.below hb3 T1.lt).cell 0; simp only [List.getElem?_toArray, List.getElem?_cons_zero] at s3 t3; have hO3 := OWNB HO.out hb3; have HO3 := Lib.hid hO3; obtain ⟨cs, q1, q2, q3⟩ := hO3; rw [HM9.out] at q3)
        | (gi_at_builtin; refine wpListIn_appS elemIn (by omega) rfl _ _ rfl (cb + 1 + 2) v m _ rfl (q3.alloc _) ⟨W3.heap.size, 0, none⟩ 1 [.int .i64 (i.val : Int)] rfl rfl (Flds.new W3 _ _) (by simp [Value.oneCell']) (by omega) (by omega) (by have := hb3.size; simp; omega) ?_; rintro g cap w8 hown8 hg8 hgg; have hs8 := (hS3.alloc (.cells #[.int .i64 (i.val : Int)] 3)).grown hg8 (fun e => own_ne q3 hS3 (by decide) e.symm); have m8 := hs8.cell 0; have f8 := hs8.frozen 0; simp only [List.getElem?_toArray, List.getElem?_cons_zero] at m8))
      have hgs := hg8.size
      simp at hgs
      have hown9 : OwnL (cb + 1 + 2) 3 1 IntC (w8.setCell ⟨cb + 1, 0, none⟩ (.slice (some ⟨g, 0, none⟩) (m + 1) cap)) (.slice (some ⟨g, 0, none⟩) (m + 1) cap) (((pre ++ [i]).filter fun i => !Cou.takesB a i.val).map fun i : Fin a.cps.length => (i.val : Int)) := by
        rw [List.filter_append, List.filter_cons_of_pos (by rw [htk]; rfl), List.filter_nil, List.map_append]
        exact OwnL.snoc q1 q2 rfl rfl (fun _ _ h => h) (by rw [HM9.out]; exact ownsRow_setCell_below (a := ⟨cb + 1, 0, none⟩) hown8 (by show cb + 1 < cb + 1 + 2; omega) _)
      have hvl : ∀ b, v.ownBlock = some b → cb + 1 + 2 ≤ b := fun b e => (HO.out.lt b e).1
      have hb9 : Below (cb + 1) W3 (w8.setCell ⟨cb + 1, 0, none⟩ (.slice (some ⟨g, 0, none⟩) (m + 1) cap)) := by
        have h3 := hb3.size
        have x1 := (Below.refl (cb + 1) W3).alloc (show cb + 1 ≤ W3.heap.size by omega) (.cells #[.int .i64 (i.val : Int)] 3)
        have x2 := x1.grown hg8 (by simp; omega) (fun k e => by have := hvl k e; omega)
        exact x2.setCell (Nat.le_refl _) _
      have hb8 : Below (cb + 1) W (w8.setCell ⟨cb + 1, 0, none⟩ (.slice (some ⟨g, 0, none⟩) (m + 1) cap)) := (hb3.mono (by omega)).trans hb9
      exact ⟨(kf_below hb3).trans ((kf_below (Ba (B0 W3) _)).trans ((kf_row hg8 (own_cells (q3.alloc _))).trans (kf_set _ _ _ _ (by rw [hszL]; show cb + 1 < cb + 3; omega)))), hb8, _, hown9, hs8.set_ 0 _, hB.trans hb8⟩
  case done =>
    rintro D ys W hD hys ⟨v, hO, hSb, hB⟩ hK
    have s0 := hSb.cell 0
    simp only [List.getElem?_toArray, List.getElem?_cons_zero] at s0
    gi_wp2
    have hgr := grownBy_putObj' W D (.deferred none)
    refine ⟨by simp, .inl ⟨_, _, rfl, run_takeDeferred hK, ?_⟩⟩
    refine ⟨_, results_tmp2 rfl _ _ _, v, rfl, ?_, ?_⟩
    · have h1 := hO.keep (R' := IntC) rfl (fun xs hx => hx.kept hgr (by
        cases hv : v.ownBlock with
        | none => exact .inl rfl
        | some g =>
          refine .inr fun e => ?_
          injection e with e
          subst e
          obtain ⟨o, h1, h2⟩ := own_cells hx _ hv
          rw [hK] at h1
          injection h1 with h1
          subst h1
          cases h2)) fun _ _ h => h
      have e : ((ys.filter fun i : Fin a.cps.length => !Cou.takesB a i.val).map fun i : Fin a.cps.length => (i.val : Int)) = ((Hit.members a.drawn).filter fun i => !Cou.takesB a i).map fun i : Nat => (i : Int) := by
        rw [← hys, List.filter_map, List.map_map]; rfl
      rw [e] at h1
      refine h1.sl ?_ (fun b q1 q2 _ => ⟨by omega, q2⟩)
      rw [List.length_map]
      have h2 := List.length_filter_le (fun i : Nat => !Cou.takesB a i) (Hit.members a.drawn)
      have h3 : (Hit.members a.drawn).length ≤ 64 := Nat.le_trans (List.length_filter_le _ _) (by simp)
      omega
    · exact (BL.trans (hB.mono (by omega))).grown hgr (by have := hSb.lt; omega) (fun k e => by injection e with e; omega)
  case stop =>
    rintro D c pre W _ _ h _
    exact h.elim
end Go.Proofs.YtnkjhppjjklgfaaDoor
