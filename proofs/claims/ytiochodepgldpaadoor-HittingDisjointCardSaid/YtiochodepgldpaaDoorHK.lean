/- Walks over the statements of hitting: the examples that each statement asks first. -/
import Derived.Test.YtiochodepgldpaaDoorHM
namespace Go.Proofs.YtiochodepgldpaaDoor
open Go Go.RowKit
theorem Sl.of_blk {α : Type} {F : Nat → Prop} {R : World → List Value → α → Prop} {w : World} {b : Nat} {t : TypeId} (l : List α) (cs : List Value) (h : Blk w b t cs.toArray) (hl : cs.length = l.length) (hm : l.length ≤ 1000) (hR : ∀ i (hi : i < l.length), R w [cs[i]'(by omega)] l[i]) (hF : F b) :
    Sl F 1 R w (.slice (some ⟨b, 0, none⟩) l.length l.length) l := by
  refine ⟨_, _, rfl, Nat.le_refl _, by omega, fun i hi => ⟨_, [cs[i]'(by omega)], rfl, hF, rfl, hR i hi, fun j u hu => ?_⟩⟩
  cases j with
  | zero =>
    simp at hu
    subst hu
    have := h.cell i
    have h2 : cs.toArray[i]? = some (cs[i]'(by omega)) := by simp [show i < cs.length by omega]
    rw [h2] at this
    have e : (((⟨b, 0, none⟩ : Addr).add (i * 1)).add 0) = ⟨b, i, none⟩ := by
      rw [add_of_add, Nat.mul_one, Nat.add_zero]
      unfold Addr.add
      by_cases h0 : i = 0 <;> simp [h0]
    rw [e]
    exact this
  | succ j => simp at hu
theorem PT.slt {pb : Nat} {vs : Value} {size : Int} {w : World} {v : Value} {t : List Hit.TNode} (h : PT pb vs size w v t) (hl : t.length ≤ 1000000) : SlT (fun b => pb < b ∧ b < w.heap.size) w v t := by
  refine (h.own.sl (F := fun b => pb < b ∧ b < w.heap.size) (by omega) fun b q1 q2 _ => ⟨by omega, q2⟩).monoR fun c x hc => ?_
  exact NodeC.keep hc (Agree.refl _ _) fun b q => ⟨q.1, q.2.1⟩
namespace Hit
theorem ex_sets : setsOf exWs = [[0, 1], [1, 2], [0, 2]] := by decide +kernel
theorem ex_good : Good exWs 3 := by
  unfold Good exWs
  decide
theorem ex_pop : pop (least exWs 3) = 2 := by decide +kernel
theorem ex_hit : hit exWs (word [0, 1, 2]) = true := by decide +kernel
theorem ex_red : members (reduce exWs (word [0, 1, 2]) [0, 1, 2]) = [1, 2] := by decide +kernel
theorem ex_cnt : cntTo exWs (2 ^ 3) = 4 := by decide +kernel
theorem ex_both : bothF 3 (setsOf exWs) (ints [0, 1, 2]) = 0 := by decide +kernel
theorem ex_tl : (nodeF exWs 2 4 0 0 0).length ≤ 1000 ∧ ∀ x ∈ nodeF exWs 2 4 0 0 0, x.weights.length ≤ 1000000 := by decide +kernel
end Hit
theorem lit2 {w : World} {x y : Int} : SlI (fun b => b < (w.alloc (.cells #[.int .i64 x, .int .i64 y] 3)).heap.size) (w.alloc (.cells #[.int .i64 x, .int .i64 y] 3)) (.slice (some ⟨w.heap.size, 0, none⟩) 2 2) [x, y] :=
  Sl.of_blk [x, y] [.int .i64 x, .int .i64 y] (Blk.new w 3 #[.int .i64 x, .int .i64 y]) rfl (by simp) (fun i hi => by
    match i, hi with
    | 0, _ => rfl
    | 1, _ => rfl) (by simp)
theorem lit3 {w : World} {x y z : Int} : SlI (fun b => b < (w.alloc (.cells #[.int .i64 x, .int .i64 y, .int .i64 z] 3)).heap.size) (w.alloc (.cells #[.int .i64 x, .int .i64 y, .int .i64 z] 3)) (.slice (some ⟨w.heap.size, 0, none⟩) 3 3) [x, y, z] :=
  Sl.of_blk [x, y, z] [.int .i64 x, .int .i64 y, .int .i64 z] (Blk.new w 3 #[.int .i64 x, .int .i64 y, .int .i64 z]) rfl (by simp) (fun i hi => by
    match i, hi with
    | 0, _ => rfl
    | 1, _ => rfl
    | 2, _ => rfl) (by simp)
theorem SlI.on {w w' : World} {v : Value} {l : List Int} (h : SlI (fun b => b < w.heap.size) w v l) (hb : Below w.heap.size w w') : SlI (fun b => b < w'.heap.size) w' v l :=
  (h.keep (Agree.below hb fun _ h => h)).mono fun _ h => Nat.lt_of_lt_of_le h hb.size
theorem SlT.on {w w' : World} {v : Value} {l : List Hit.TNode} (h : SlT (fun b => b < w.heap.size) w v l) (hb : Below w.heap.size w w') : SlT (fun b => b < w'.heap.size) w' v l :=
  (Sl.mono (h.keep (Agree.below hb fun _ h => h)) fun _ h => Nat.lt_of_lt_of_le h hb.size).monoR fun _ _ hc => NodeC.keep hc (Agree.refl _ _) fun _ h => Nat.lt_of_lt_of_le h hb.size
set_option maxRecDepth 100000 in
set_option maxHeartbeats 4000000 in
theorem known_any (w : World) (hT : Tab32 w) : Calls Tryd.prog 11 #[] w fun e w' => e = .returned (.bool true) ∧ Below w.heap.size w w' := by
  have HT := Lib.hid hT
  clear hT
  go_enter Tryd.func11, Tryd.ntmps11
  go_upto_region 2 with fail
  have b0 := Blk.new w 3 #[.int .i64 0, .int .i64 1]
  have b1 := Blk.new (w.alloc (.cells #[.int .i64 0, .int .i64 1] 3)) 3 #[.int .i64 1, .int .i64 2]
  have b2 := Blk.new ((w.alloc (.cells #[.int .i64 0, .int .i64 1] 3)).alloc (.cells #[.int .i64 1, .int .i64 2] 3)) 3 #[.int .i64 0, .int .i64 2]
  have b3 := Blk.new (((w.alloc (.cells #[.int .i64 0, .int .i64 1] 3)).alloc (.cells #[.int .i64 1, .int .i64 2] 3)).alloc (.cells #[.int .i64 0, .int .i64 2] 3)) 30 #[.slice (some ⟨w.heap.size, 0, none⟩) 2 2, .slice (some ⟨w.heap.size + 1, 0, none⟩) 2 2, .slice (some ⟨w.heap.size + 1 + 1, 0, none⟩) 2 2]
  have b4 := Blk.new ((((w.alloc (.cells #[.int .i64 0, .int .i64 1] 3)).alloc (.cells #[.int .i64 1, .int .i64 2] 3)).alloc (.cells #[.int .i64 0, .int .i64 2] 3)).alloc (.cells #[.slice (some ⟨w.heap.size, 0, none⟩) 2 2, .slice (some ⟨w.heap.size + 1, 0, none⟩) 2 2, .slice (some ⟨w.heap.size + 1 + 1, 0, none⟩) 2 2] 30)) 28 #[.int .i64 3, .slice (some ⟨w.heap.size + 1 + 1 + 1, 0, none⟩) 3 3]
  simp only [World.size_alloc] at b1 b2 b3 b4
  have d0 := (((b0.alloc (.cells #[.int .i64 1, .int .i64 2] 3)).alloc (.cells #[.int .i64 0, .int .i64 2] 3)).alloc (.cells #[.slice (some ⟨w.heap.size, 0, none⟩) 2 2, .slice (some ⟨w.heap.size + 1, 0, none⟩) 2 2, .slice (some ⟨w.heap.size + 1 + 1, 0, none⟩) 2 2] 30)).alloc (.cells #[.int .i64 3, .slice (some ⟨w.heap.size + 1 + 1 + 1, 0, none⟩) 3 3] 28)
  have d1 := ((b1.alloc (.cells #[.int .i64 0, .int .i64 2] 3)).alloc (.cells #[.slice (some ⟨w.heap.size, 0, none⟩) 2 2, .slice (some ⟨w.heap.size + 1, 0, none⟩) 2 2, .slice (some ⟨w.heap.size + 1 + 1, 0, none⟩) 2 2] 30)).alloc (.cells #[.int .i64 3, .slice (some ⟨w.heap.size + 1 + 1 + 1, 0, none⟩) 3 3] 28)
  have d2 := (b2.alloc (.cells #[.slice (some ⟨w.heap.size, 0, none⟩) 2 2, .slice (some ⟨w.heap.size + 1, 0, none⟩) 2 2, .slice (some ⟨w.heap.size + 1 + 1, 0, none⟩) 2 2] 30)).alloc (.cells #[.int .i64 3, .slice (some ⟨w.heap.size + 1 + 1 + 1, 0, none⟩) 3 3] 28)
  have d3 := b3.alloc (.cells #[.int .i64 3, .slice (some ⟨w.heap.size + 1 + 1 + 1, 0, none⟩) 3 3] 28)
  have hb5 := Ba (Ba (Ba (Ba (Ba (B0 w) (.cells #[.int .i64 0, .int .i64 1] 3)) (.cells #[.int .i64 1, .int .i64 2] 3)) (.cells #[.int .i64 0, .int .i64 2] 3)) (.cells #[.slice (some ⟨w.heap.size, 0, none⟩) 2 2, .slice (some ⟨w.heap.size + 1, 0, none⟩) 2 2, .slice (some ⟨w.heap.size + 1 + 1, 0, none⟩) 2 2] 30)) (.cells #[.int .i64 3, .slice (some ⟨w.heap.size + 1 + 1 + 1, 0, none⟩) 3 3] 28)
  clear b0 b1 b2 b3
  generalize ((((((w.alloc (.cells #[.int .i64 0, .int .i64 1] 3)).alloc (.cells #[.int .i64 1, .int .i64 2] 3)).alloc (.cells #[.int .i64 0, .int .i64 2] 3)).alloc (.cells #[.slice (some ⟨w.heap.size, 0, none⟩) 2 2, .slice (some ⟨w.heap.size + 1, 0, none⟩) 2 2, .slice (some ⟨w.heap.size + 1 + 1, 0, none⟩) 2 2] 30)).alloc (.cells #[.int .i64 3, .slice (some ⟨w.heap.size + 1 + 1 + 1, 0, none⟩) 3 3] 28)) : World) = w5 at *
  have hS : SlII (fun b => b < w5.heap.size) w5 (.slice (some ⟨w.heap.size + 1 + 1 + 1, 0, none⟩) 3 3) (setsOf Hit.exWs) := by
    rw [Hit.ex_sets]
    have two : ∀ b x y, Blk w5 b 3 #[.int .i64 x, .int .i64 y] → SlI (fun b => b < w5.heap.size) w5 (.slice (some ⟨b, 0, none⟩) 2 2) [x, y] := fun b x y h =>
      Sl.of_blk [x, y] [.int .i64 x, .int .i64 y] h rfl (by simp) (fun i hi => by
        match i, hi with
        | 0, _ => rfl
        | 1, _ => rfl) h.lt
    refine Sl.of_blk [[0, 1], [1, 2], [0, 2]] [.slice (some ⟨w.heap.size, 0, none⟩) 2 2, .slice (some ⟨w.heap.size + 1, 0, none⟩) 2 2, .slice (some ⟨w.heap.size + 1 + 1, 0, none⟩) 2 2] d3 rfl (by simp) (fun i hi => ?_) d3.lt
    match i, hi with
    | 0, _ => exact ⟨_, rfl, two _ _ _ d0⟩
    | 1, _ => exact ⟨_, rfl, two _ _ _ d1⟩
    | 2, _ => exact ⟨_, rfl, two _ _ _ d2⟩
  have k0 := b4.cell 0
  have k1 := b4.cell 1
  have l4 := b4.lt
  obtain ⟨pb, hpb⟩ : ∃ pb, w.heap.size + 1 + 1 + 1 + 1 = pb := ⟨_, rfl⟩
  obtain ⟨sb, hsb⟩ : ∃ sb, w.heap.size + 1 + 1 + 1 = sb := ⟨_, rfl⟩
  rw [hpb] at k0 k1 l4 ⊢
  rw [hsb] at k1 hS ⊢
  have hL : ∀ W, Below w5.heap.size w5 W → Calls Tryd.prog 14 #[.agg #[.int .i64 3, .slice (some ⟨sb, 0, none⟩) 3 3]] W fun e w' => ∃ A c, e = .returned (.tuple #[.slice A 2 c, .int .i64 0]) ∧ (SlI (fun b => b < w'.heap.size) w' (.slice A 2 c) [0, 1]) ∧ Below W.heap.size W w' := fun W hW => by
    refine (leastL_any 3 (by decide) _ Hit.exWs Hit.ex_good (by decide) W (fun b => b < w5.heap.size) (fun b hb => by have := hW.size; omega) (hS.keep (Agree.below hW fun _ h => h)) ((HT.out.below hb5).below hW)).mono ?_
    rw [Hit.ex_least]
    rintro e w' ⟨A, m, c, rfl, rfl, hO, hb⟩
    exact ⟨A, c, rfl, hO.ints rfl (by simp) fun _ _ h => h, hb⟩
  have hC : ∀ W, Below w5.heap.size w5 W → Calls Tryd.prog 24 #[.agg #[.int .i64 3, .slice (some ⟨sb, 0, none⟩) 3 3]] W fun e w' => e = .returned (.tuple #[.string ⟨#[52]⟩, .int .i64 0]) ∧ Below W.heap.size W w' := fun W hW =>
    count_any 3 (by decide) _ Hit.exWs Hit.ex_good (by decide) ⟨#[52]⟩ W (fun b => b < w5.heap.size) (fun b hb => by have := hW.size; omega) (hS.keep (Agree.below hW fun _ h => h)) (fun W2 => by rw [Hit.ex_cnt]; exact of4 W2)
  have hR : ∀ W vl, Below w5.heap.size w5 W → SlI (fun b => b < W.heap.size) W vl [0, 1, 2] → Calls Tryd.prog 31 #[.agg #[.int .i64 3, .slice (some ⟨sb, 0, none⟩) 3 3], vl] W fun e w' => ∃ A c, e = .returned (.tuple #[.slice A 2 c, .int .i64 0]) ∧ (SlI (fun b => b < w'.heap.size) w' (.slice A 2 c) [1, 2]) ∧ Below W.heap.size W w' := fun W vl hW hv => by
    refine (reduce_ok 3 _ vl Hit.exWs (by decide) (by decide) [0, 1, 2] (by decide) W (fun b => b < w5.heap.size) (fun b => b < W.heap.size) (fun b hb => by have := hW.size; omega) (fun _ h => h) (hS.keep (Agree.below hW fun _ h => h)) hv Hit.ex_both ((HT.out.below hb5).below hW)).mono ?_
    rw [Hit.ex_hit, Hit.ex_red]
    rintro e w' (⟨h, _⟩ | ⟨_, A, m, c, rfl, rfl, hO, hb⟩)
    · cases h
    · exact ⟨A, c, rfl, hO.ints rfl (by simp) fun _ _ h => h, hb⟩
  obtain ⟨t, ht⟩ : ∃ t, Hit.nodeF Hit.exWs 2 4 0 0 0 = t := ⟨_, rfl⟩
  have htl : 0 < t.length ∧ t.length ≤ 1000 ∧ ∀ x ∈ t, x.weights.length ≤ 1000000 := by
    rw [← ht]; exact ⟨Nat.pos_of_ne_zero Hit.ex_len, Hit.ex_tl.1, Hit.ex_tl.2⟩
  have htr : Hit.treeF Hit.exWs 3 2 t = true := by rw [← ht]; exact Hit.ex_tree
  have hPv : ∀ W, Below w5.heap.size w5 W → Calls Tryd.prog 18 #[.agg #[.int .i64 3, .slice (some ⟨sb, 0, none⟩) 3 3], .int .i64 2] W fun e w' => ∃ A c, e = .returned (.tuple #[.slice A t.length c, .int .i64 0]) ∧ SlT (fun b => b < w'.heap.size) w' (.slice A t.length c) t ∧ Below W.heap.size W w' := fun W hW => by
    refine (prove_any 3 (by decide) _ Hit.exWs Hit.ex_good (by decide) 2 W (fun b => b < w5.heap.size) (fun b hb => by have := hW.size; omega) (hS.keep (Agree.below hW fun _ h => h)) ((HT.out.below hb5).below hW)).mono ?_
    unfold ProveR
    rw [Hit.ex_pop, show 3 + 1 = 4 from rfl, ht]
    rintro e w' ⟨hb, ⟨h, _⟩ | ⟨h, _⟩ | ⟨_, pb', vs', A, c, _, rfl, hP⟩⟩
    · omega
    · omega
    · refine ⟨A, c, rfl, ?_, hb⟩
      have := hP.slt (by omega)
      exact (Sl.mono this fun b h => h.2).monoR fun cs x hc => NodeC.keep hc (Agree.refl _ _) fun b h => h.2
  have hTr : ∀ W v, Below w5.heap.size w5 W → SlT (fun b => b < W.heap.size) W v t → Calls Tryd.prog 22 #[.agg #[.int .i64 3, .slice (some ⟨sb, 0, none⟩) 3 3], .int .i64 2, v] W fun e w' => e = .returned (.bool true) ∧ Below W.heap.size W w' := fun W v hW hv => by
    have := treeR_any 3 (by decide) 2 _ v Hit.exWs (by decide) t htl.1 (by omega) htl.2.2 W (fun b => b < w5.heap.size) (fun b => b < W.heap.size) (fun b hb => by have := hW.size; omega) (fun _ h => h) (hS.keep (Agree.below hW fun _ h => h)) hv
    rw [htr] at this
    exact this
  have hSm : ∀ W va vb (l : List Int), SlI (fun b => b < W.heap.size) W va l → SlI (fun b => b < W.heap.size) W vb l → Calls Tryd.prog 15 #[va, vb] W fun e w' => e = .returned (.bool true) ∧ Below W.heap.size W w' := fun W va vb l ha hb => by
    have := same_any va vb l l W _ _ (fun _ h => h) (fun _ h => h) ha hb
    rwa [decide_eq_true rfl] at this
  have HL := Lib.hid hL
  have HC := Lib.hid hC
  have HR := Lib.hid hR
  have HPv := Lib.hid hPv
  have HTr := Lib.hid hTr
  have HSm := Lib.hid hSm
  have HB5 := Lib.hid hb5
  have htl0 := htl.1
  have htl1 := htl.2.1
  clear hL hC hR hPv hTr hSm hS htl htr ht d0 d1 d2 d3 b4 hb5 HT hpb hsb
  generalize t.length = tl at *
  go_upto_region 4 with (first
    | (go_at_call 14; refine (HL.out _ (B0 w5)).mono ?_; rintro e w6 ⟨A6, c6, rfl, hs6, hb6⟩; have S6 := Lib.hid hs6; have HB6 := Lib.hid hb6; have p60 := (Bc hb6 l4).trans k0; have p61 := (Bc hb6 l4).trans k1; clear hs6 hb6)
    | (go_at_call 24; refine (HC.out _ HB6.out).mono ?_; rintro e w7 ⟨rfl, hb7⟩; have S7 := Lib.hid (S6.out.on hb7); have HB7 := Lib.hid (Bt HB6.out hb7); have p70 := (Bc (Bt HB6.out hb7) l4).trans k0; have p71 := (Bc (Bt HB6.out hb7) l4).trans k1; have l7 := Nat.lt_of_lt_of_le l4 (Bt HB6.out hb7).size; clear hb7 p60 p61))
  clear k0 k1
  go_upto_region 6 with (first
    | (go_at_call 31; refine (HR.out _ _ (Ba HB7.out _) lit3).mono ?_; rintro e w8 ⟨A8, c8, rfl, hs8, hb8⟩; have S8 := Lib.hid (S7.out.on (Bt (Ba (B0 w7) _) hb8)); have R8 := Lib.hid hs8; have HB8 := Lib.hid (Bt (Ba HB7.out _) hb8); have p80 := (Bc (Bt (Ba (B0 w7) _) hb8) l7).trans p70; have p81 := (Bc (Bt (Ba (B0 w7) _) hb8) l7).trans p71; have l8 := Nat.lt_of_lt_of_le l7 (Bt (Ba (B0 w7) _) hb8).size; clear hs8 hb8)
    | (go_at_call 18; refine (HPv.out _ HB8.out).mono ?_; rintro e w9 ⟨A9, c9, rfl, hs9, hb9⟩; have S9 := Lib.hid (S8.out.on hb9); have R9 := Lib.hid (R8.out.on hb9); have T9 := Lib.hid hs9; have HB9 := Lib.hid (Bt HB8.out hb9); have p90 := (Bc hb9 l8).trans p80; have p91 := (Bc hb9 l8).trans p81; have l9 := Nat.lt_of_lt_of_le l8 hb9.size; clear hs9 hb9))
  clear p70 p71 p80 p81
  have d0 : decide (0 < tl) = true := decide_eq_true htl0
  have d1 : decide ((0 : Int) < (tl : Int)) = true := decide_eq_true (by omega)
  go_wp2_with (first
    | (go_at_call_of 15 (Value.slice A6 2 c6); refine (HSm.out _ _ _ [0, 1] (S9.out.on (Ba (B0 w9) _)) lit2).mono ?_; rintro e wA ⟨rfl, hbA⟩; have RA := Lib.hid (R9.out.on (Bt (Ba (B0 w9) _) hbA)); have TA := Lib.hid (T9.out.on (Bt (Ba (B0 w9) _) hbA)); have HBA := Lib.hid (Bt (Ba HB9.out _) hbA); have pA0 := (Bc (Bt (Ba (B0 w9) _) hbA) l9).trans p90; have pA1 := (Bc (Bt (Ba (B0 w9) _) hbA) l9).trans p91; have lA := Nat.lt_of_lt_of_le l9 (Bt (Ba (B0 w9) _) hbA).size; clear hbA p90 p91)
    | (go_at_call_of 15 (Value.slice A8 2 c8); refine (HSm.out _ _ _ [1, 2] (RA.out.on (Ba (B0 wA) _)) lit2).mono ?_; rintro e wB ⟨rfl, hbB⟩; have TB := Lib.hid (TA.out.on (Bt (Ba (B0 wA) _) hbB)); have HBB := Lib.hid (Bt (Ba HBA.out _) hbB); have pB0 := (Bc (Bt (Ba (B0 wA) _) hbB) lA).trans pA0; have pB1 := (Bc (Bt (Ba (B0 wA) _) hbB) lA).trans pA1; clear hbB pA0 pA1)
    | (go_at_call 22; refine (HTr.out _ _ HBB.out TB.out).mono ?_; rintro e wC ⟨rfl, hbC⟩; have HBC := Lib.hid (Bt HBB.out hbC); clear hbC))
  go_ret
  exact ⟨rfl, Bt HB5.out HBC.out⟩
end Go.Proofs.YtiochodepgldpaaDoor
