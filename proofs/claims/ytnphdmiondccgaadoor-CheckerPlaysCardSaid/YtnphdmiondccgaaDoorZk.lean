/- Walks over span: divisions, two. -/
import Derived.Test.YtnphdmiondccgaaDoorZj
import Derived.RangeFuncFrom
namespace Go.Proofs.YtnphdmiondccgaaDoor
open Go Go.RowKit Go.Shelf
attribute [local go_sem] Oper.semAt_some
open Pop
theorem twoF_false {hn hs : Int} {l : List Int} (h : divF hn hs l = []) : twoF hn hs l = false := by
  unfold divF at h
  unfold twoF
  rw [List.any_eq_false]
  exact fun x hx => List.filter_eq_nil_iff.1 h x hx
theorem twoF_true {hn hs : Int} {l : List Int} (h : divF hn hs l ≠ []) : twoF hn hs l = true := by
  cases e : twoF hn hs l with
  | true => rfl
  | false =>
    refine absurd ?_ h
    unfold divF
    unfold twoF at e
    rw [List.any_eq_false] at e
    exact List.filter_eq_nil_iff.2 e
set_option maxRecDepth 100000 in
theorem divisions_any (hn hs fn fs : Int) (v : Value) (hv : ∃ A n c, v = .slice A n c) (w : World) : Calls Tryd.prog 66 #[plV hn hs fn fs, v] w fun e w' => e = .returned (.func (.func 83) #[] #[.pointer (some ⟨w.heap.size + 1, 0, none⟩), .pointer (some ⟨w.heap.size, 0, none⟩)]) ∧
    w' = (w.alloc (.cells #[.int .i64 hn, .int .i64 hs, .int .i64 fn, .int .i64 fs] 43)).alloc (.cells #[v] 32) := by
  obtain ⟨A, n, c, rfl⟩ := hv
  unfold plV
  go_enter Tryd.func66, Tryd.ntmps66
  go_wp2
  go_ret
  exact ⟨by simp, rfl⟩
theorem div_stops (hn hs fn fs : Int) (l : List Int) (hsm : Sm l) (v : Value) (F0 : Nat → Prop) (n : Nat) (hn1 : 1 ≤ n) (B1 B2 n₀ : Nat) (w : World) (hB1 : B1 < n₀) (hB2 : B2 < n₀) (hF0 : ∀ b, F0 b → b < n₀) (hn0 : n₀ ≤ w.heap.size) (hv : SlI F0 w v l) (hc1 : w.cell? ⟨B1, 0, none⟩ = some v)
    (hc2 : ∀ i u, (#[Value.int .i64 hn, .int .i64 hs, .int .i64 fn, .int .i64 fs])[i]? = some u → w.cell? ⟨B2, i, none⟩ = some u) :
    SeqStopsK Fence.wide n Tryd.prog 83 #[.pointer (some ⟨B1, 0, none⟩), .pointer (some ⟨B2, 0, none⟩)] (fun k : Nat => #[Value.int .i64 (k : Int)]) (Below n₀) (fun ys => ys = divF hn hs l) (fun pre => pre <+: divF hn hs l) 1000000000000000 w :=
  fun yl J Jx W hW hJ _ hY h0 =>
  (div1_in hn hs fn fs l hsm v F0 n hn1 yl B1 B2 n₀ J Jx (fun pre W1 W2 hb _ hj => hJ pre W1 W2 none hj (only_of_below hb none) (fun _ e => by cases e)) hY W hB1 hB2 hF0 (Nat.le_trans hn0 hW.size)
    (hv.keep (Agree.below hW fun b h => Nat.lt_of_lt_of_le (hF0 b h) hn0)) ((hW.cell (p := ⟨B1, 0, none⟩) (by show B1 < _; omega)).trans hc1) (fun i u h => (hW.cell (p := ⟨B2, i, none⟩) (by show B2 < _; omega)).trans (hc2 i u h)) h0).mono fun _ _ ⟨h1, h2⟩ => ⟨h1, h2⟩
set_option maxRecDepth 100000 in
set_option maxHeartbeats 2000000 in
theorem two_any (hn hs fn fs : Int) (F : Nat → Prop) (v : Value) (l : List Int) (w : World) (hF : ∀ b, F b → b < w.heap.size) (h : SlI F w v l) (hsm : Sm l) : Calls Tryd.prog 27 #[plV hn hs fn fs, v] w fun e w' => e = .returned (.bool (twoF hn hs l)) ∧ Below w.heap.size w w' := by
  obtain ⟨A, c, rfl, hc, hlen, -⟩ := h.open
  obtain ⟨m, hm⟩ : ∃ m, l.length = m := ⟨_, rfl⟩
  rw [hm] at h ⊢
  have HDV := Lib.hid (fun W => divisions_any hn hs fn fs (.slice A m c) ⟨_, _, _, rfl⟩ W)
  unfold plV at *
  refine (callsIn_wide (n := 8)).1 ?_
  refine callsIn_of_wp_marks Tryd.func27 rfl trivial ?_ rfl
  simp only [Tryd.ntmps27, List.size_toArray, List.length_cons, List.length_nil, Nat.reduceAdd, Nat.reduceSub, Array.replicate_succ, Array.replicate_zero, List.push_toArray, List.append_toArray, List.nil_append, List.cons_append]
  gi_wp2_with (refine ⟨trivial, ?_⟩; refine (callsIn_wide.2 (HDV.out _)).mono ?_; rintro e w' ⟨rfl, rfl⟩)
  obtain ⟨W3, hW3⟩ : ∃ W3 : World, (((w.alloc (.cells #[.int .i64 hn, .int .i64 hs, .int .i64 fn, .int .i64 fs] 43)).alloc (.cells #[.bool false] 4)).alloc (.cells #[.int .i64 hn, .int .i64 hs, .int .i64 fn, .int .i64 fs] 43)).alloc (.cells #[.slice A m c] 32) = W3 := ⟨_, rfl⟩
  obtain ⟨sb, hsb⟩ : ∃ sb, w.heap.size = sb := ⟨_, rfl⟩
  have hB0 : Below w.heap.size w W3 := by rw [← hW3]; exact Ba (Ba (Ba (Ba (B0 w) _) _) _) _
  have hS3 : W3.heap.size = sb + 4 := by rw [← hW3, ← hsb]; simp [World.size_alloc]
  have K1 : Blk W3 (sb + 1) 4 #[.bool false] := by
    have h := (((Blk.new (w.alloc (.cells #[.int .i64 hn, .int .i64 hs, .int .i64 fn, .int .i64 fs] 43)) 4 #[.bool false]).alloc (.cells #[.int .i64 hn, .int .i64 hs, .int .i64 fn, .int .i64 fs] 43)).alloc (.cells #[.slice A m c] 32))
    rw [World.size_alloc, hW3, hsb] at h
    exact h
  have K2 : Blk W3 (sb + 1 + 1) 43 #[.int .i64 hn, .int .i64 hs, .int .i64 fn, .int .i64 fs] := by
    have h := (Blk.new ((w.alloc (.cells #[.int .i64 hn, .int .i64 hs, .int .i64 fn, .int .i64 fs] 43)).alloc (.cells #[.bool false] 4)) 43 #[.int .i64 hn, .int .i64 hs, .int .i64 fn, .int .i64 fs]).alloc (.cells #[.slice A m c] 32)
    rw [World.size_alloc, World.size_alloc, hW3, hsb] at h
    exact h
  have K3 : Blk W3 (sb + 1 + 1 + 1) 32 #[.slice A m c] := by
    have h := Blk.new (((w.alloc (.cells #[.int .i64 hn, .int .i64 hs, .int .i64 fn, .int .i64 fs] 43)).alloc (.cells #[.bool false] 4)).alloc (.cells #[.int .i64 hn, .int .i64 hs, .int .i64 fn, .int .i64 fs] 43)) 32 #[.slice A m c]
    rw [World.size_alloc, World.size_alloc, World.size_alloc, hW3, hsb] at h
    exact h
  rw [hW3, hsb]
  have c1 := K1.cell 0
  have f1 := K1.frozen 0
  have c3 := K3.cell 0
  simp only [List.getElem?_toArray, List.getElem?_cons_zero] at c1 c3
  rw [hsb] at hB0 hF
  have hkeep : SlI F W3 (.slice A m c) l := h.keep (Agree.below hB0 hF)
  have hw0 : sb ≤ w.heap.size := Nat.le_of_eq hsb.symm
  refine wpIn_rangeFunc_ownF rfl (by omega) (gf := 83) (lb := #[.pointer (some ⟨sb + 1 + 1 + 1, 0, none⟩), .pointer (some ⟨sb + 1 + 1, 0, none⟩)]) rfl trivial (enters_of Tryd.func83 (by kernel_rfl) rfl)
    (div_stops hn hs fn fs l hsm (.slice A m c) F 7 (by omega) (sb + 1 + 1 + 1) (sb + 1 + 1) (sb + 4) W3 (by omega) (by omega) (fun b q => Nat.lt_of_lt_of_le (hF b q) (by omega)) (by omega) hkeep c3 (fun i u hu => (K2.cell i).trans hu)) belowK_t (belowK_b (by omega)) (Below.refl _ _) (fun _ => rfl)
    (fun pre W => (pre = [] ∧ W.cell? ⟨sb + 1, 0, none⟩ = some (.bool false) ∧ W.frozen? ⟨sb + 1, 0, none⟩ = false) ∧ Below sb w W)
    (fun c pre W => (c = .ret ∧ pre ≠ [] ∧ W.cell? ⟨sb + 1, 0, none⟩ = some (.bool true)) ∧ Below sb w W)
    (OwnFrom.and (Own.from (fun s A B row hs hg hr => ⟨hs.1, cell_kept hs.2.1 hg hr, (frozen_kept hs.2.1 hg hr).trans hs.2.2⟩) _) (ownFrom_below (by omega) (by omega)))
    (fun c => OwnFrom.and (Own.from (fun s A B row hs hg hr => ⟨hs.1, hs.2.1, cell_kept hs.2.2 hg hr⟩) _) (ownFrom_below (by omega) (by omega)))
    ⟨⟨rfl, c1, f1⟩, hB0⟩
    (fun k => { tmps := #[.agg #[.int .i64 hn, .int .i64 hs, .int .i64 fn, .int .i64 fs], .slice A m c, .pointer (some ⟨sb, 0, none⟩), undef, .pointer (some ⟨sb + 1, 0, none⟩), .agg #[.int .i64 hn, .int .i64 hs, .int .i64 fn, .int .i64 fs], .slice A m c, .func (.func 83) #[] #[.pointer (some ⟨sb + 1 + 1 + 1, 0, none⟩), .pointer (some ⟨sb + 1 + 1, 0, none⟩)], .int .i64 (k : Int)], defers := [] }) ?assign ?body ?done ?stop
  case assign =>
    intro l x W K hK
    gi_wp2
    simpa using hK
  case body =>
    rintro yl pre x W ⟨⟨hp, hcr, hfr⟩, hB⟩ _
    gi_wp2
    exact ⟨KeepsOthers.setCell _ _ _, ⟨rfl, by simp, World.cell?_setCell_same' _ _ _ (by rw [hcr]; rfl)⟩, hB.setCell (p := ⟨sb + 1, 0, none⟩) (by show sb ≤ sb + 1; omega) _⟩
  case done =>
    rintro D ys W hD rfl ⟨⟨hne, hcr, hfr⟩, hB⟩ hK
    gi_wp2
    have hK' := (KeepsOthers.setCell W ⟨sb + 1, 0, none⟩ (.bool false)).same D _ hK rfl
    refine ⟨by simp, .inl ⟨_, _, rfl, run_takeDeferred hK', ?_⟩⟩
    have hc5 := cell_kept (World.cell?_setCell_same' W ⟨sb + 1, 0, none⟩ (.bool false) (by rw [hcr]; rfl)) (grownBy_putObj' _ D (.deferred none)) (fun r e => by cases e; exact ⟨_, hK', rfl⟩)
    refine ⟨.bool false, ?_, by rw [twoF_false hne], by rw [hsb]; exact (hB.setCell (p := ⟨sb + 1, 0, none⟩) (by show sb ≤ sb + 1; omega) _).trans (belowK_b (w := w) hw0 _ D _ _ (by omega) hK' rfl rfl)⟩
    simp [results, Tryd.f27, go_sem, hc5]
  case stop =>
    rintro D c pre W hD hpre ⟨⟨rfl, hin, hcr⟩, hB⟩ hK
    gi_wp2
    refine ⟨by simp, .inl ⟨_, _, rfl, run_takeDeferred hK, ?_⟩⟩
    have hc5 := cell_kept hcr (grownBy_putObj' _ D (.deferred none)) (fun r e => by cases e; exact ⟨_, hK, rfl⟩)
    refine ⟨.bool true, ?_, by rw [twoF_true fun e => hin (List.prefix_nil.1 (e ▸ hpre))], by rw [hsb]; exact hB.trans (belowK_b (w := w) hw0 W D _ _ (by omega) hK rfl rfl)⟩
    simp [results, Tryd.f27, go_sem, hc5]
end Go.Proofs.YtnphdmiondccgaaDoor
