/- Walks over the statements of checker: hits; words for a copy of a proof tree that is changed. -/
import Derived.Test.YthgjhfapnilfhaaDoorCh
import Derived.Test.YthgjhfapnilfhaaDoorVd
import Derived.Test.YthgjhfapnilfhaaDoorRegion
namespace Go.Proofs.YthgjhfapnilfhaaDoor
open Go Go.RowKit
theorem Prob.count {n m c : Nat} {A : Option Addr} {ws : List Nat} {B : Nat} {w : World} (h : Prob n (.slice A m c) ws B w) : m = ws.length := by
  obtain ⟨A', c', hv, _⟩ := h.sets.open
  injection hv with _ e _
  rw [e, setsOf_length]
theorem Prob.hitsC {n m c : Nat} {A : Option Addr} {ws : List Nat} {B : Nat} {w : World} (h : Prob n (.slice A m c) ws B w) (size : Int) (At : Option Addr) (ct : Nat) (t : List Hit.TNode) (htl : t.length ≤ 1000000) (hll : ∀ x ∈ t, x.weights.length ≤ 1000000) (ht : SlT (fun b => b < w.heap.size) w (.slice At t.length ct) t) :
    Calls Tryd.prog 11 #[.agg #[.int .i64 n, .slice A m c, .int .i64 size, .slice At t.length ct]] w fun e w' => e = .returned (.bool (decide (Hit.verifyF ws n size t = 0))) ∧ Below w.heap.size w w' := by
  have hc := h.count
  subst hc
  exact hitsC_any n h.le A c At ct ws h.good h.len size t htl hll w (fun b => b < B) (fun b => b < w.heap.size) h.inW (fun _ h => h) h.sets ht
set_option maxRecDepth 100000 in
set_option maxHeartbeats 4000000 in
theorem hitsL_any (n m c : Nat) (A : Option Addr) (ws : List Nat) (B : Nat) (size : Int) (At : Option Addr) (ct : Nat) (t : List Hit.TNode) (htl : t.length ≤ 1000000) (hll : ∀ x ∈ t, x.weights.length ≤ 1000000) (w : World) (h : Prob n (.slice A m c) ws B w) (ht : SlT (fun b => b < w.heap.size) w (.slice At t.length ct) t) :
    Calls Tryd.prog 12 #[.agg #[.int .i64 n, .slice A m c], .int .i64 size, .slice At t.length ct] w fun e w' => e = .returned (.bool true) ∧ Below w.heap.size w w' := by
  have hon : ∀ W, Below w.heap.size w W → SlT (fun b => b < W.heap.size) W (.slice At t.length ct) t := fun W hW => (ht.keep (Agree.below hW fun _ h => h)).wider fun b hb => Nat.lt_of_lt_of_le hb hW.size
  have hH := fun W (hW : Below w.heap.size w W) => (h.on hW).hitsC size At ct t htl hll (hon W hW)
  have hV := fun W (hW : Below w.heap.size w W) => (h.on hW).verifyC size (.slice At t.length ct) t htl hll (hon W hW)
  have HH := Lib.hid hH
  have HV := Lib.hid hV
  clear hH hV hon ht h hll
  have hq : (decide (Hit.verifyF ws n size t = 0) = true ∧ (Hit.verifyF ws n size t == 0) = true) ∨ (decide (Hit.verifyF ws n size t = 0) = false ∧ (Hit.verifyF ws n size t == 0) = false) := by
    by_cases h : Hit.verifyF ws n size t = 0
    · exact .inl ⟨decide_eq_true h, by rw [h]; rfl⟩
    · exact .inr ⟨decide_eq_false h, by simpa using h⟩
  generalize Hit.verifyF ws n size t = vf at *
  rcases hq with ⟨q1, q2⟩ | ⟨q1, q2⟩
  all_goals
    rw [q1] at HH
    clear q1
    go_enter Tryd.func12, Tryd.ntmps12
    go_upto_region 1 with fail
    have hb1 := Ba (B0 w) (.cells #[.int .i64 n, .slice A m c] 30)
    have c0 : (w.alloc (.cells #[.int .i64 n, .slice A m c] 30)).cell? ⟨w.heap.size, 0, none⟩ = some (.int .i64 n) := by simp [go_sem]
    have c1 : (w.alloc (.cells #[.int .i64 n, .slice A m c] 30)).cell? ⟨w.heap.size, 1, none⟩ = some (.slice A m c) := by simp [go_sem]
    have hs1 : w.heap.size < (w.alloc (.cells #[.int .i64 n, .slice A m c] 30)).heap.size := by simp
    generalize (w.alloc (.cells #[.int .i64 n, .slice A m c] 30)) = w1 at *
    have HB1 := Lib.hid hb1
    clear hb1
    go_region_held3 (fun w' => Below w1.heap.size w1 w' ∧ w'.cell? ⟨w.heap.size, 0, none⟩ = some (.int .i64 n) ∧ w'.cell? ⟨w.heap.size, 1, none⟩ = some (.slice A m c))
      (first | exact ⟨(B0 _).drew, c0, c1⟩ | exact ⟨hbn, (Bc hbn hs1).trans c0, (Bc hbn hs1).trans c1⟩)
      (first
        | (go_at_call 11; refine (HH.out _ (Bt HB1.out (B0 w1).drew)).mono ?_; rintro e w4 ⟨rfl, hb4⟩; have hbn := Bt (B0 w1).drew hb4)
        | (go_at_call 29; refine (HV.out _ (Bt HB1.out hbn)).mono ?_; rintro e w5 ⟨rfl, hb5⟩; have hbn := Bt hbn hb5))
    go_wp2_with fail
    go_ret
    exact ⟨rfl, Bt HB1.out hbn⟩
/-- Where the weights of a copy of a tree lie. -/
def UF (g : Nat) (w : World) : Nat → Prop := fun b => b < w.heap.size ∧ b ≠ g
/-- A copy of a tree: a row of the call's own. -/
def UT (base g cap : Nat) (w : World) (t : List Hit.TNode) : Prop := OwnL base 39 5 (NodeC (UF g w)) w (.slice (some ⟨g, 0, none⟩) t.length cap) t
section
variable {base g cap : Nat} {w w' : World} {t : List Hit.TNode}
theorem UT.row (h : UT base g cap w t) : base ≤ g ∧ g < w.heap.size := by
  obtain ⟨cs, _, _, h3⟩ := h
  exact h3.lt g rfl
theorem UT.cap_ (h : UT base g cap w t) : t.length ≤ cap := by
  obtain ⟨cs, _, _, h3⟩ := h
  rcases h3.2 with ⟨hv, _⟩ | ⟨g', cap', cur, hv, _, _, hc, _⟩
  · injection hv with e1 _ _; cases e1
  · injection hv with _ _ e
    rw [e]; exact hc
theorem UT.frozen (h : UT base g cap w t) (j : Nat) : w.frozen? ⟨g, j, none⟩ = false := by
  obtain ⟨cs, _, _, h3⟩ := h
  exact h3.frozenAt j
theorem UT.slt (h : UT base g cap w t) (hl : t.length ≤ 1000000) : SlT (fun b => b < w.heap.size) w (.slice (some ⟨g, 0, none⟩) t.length cap) t := by
  obtain ⟨cs, h1, h2, h3⟩ := h
  exact Sl.of_own (F := fun b => b < w.heap.size) h3 rfl (by omega) rfl h1 (fun i hi => by
    obtain ⟨c, q1, q2, q3⟩ := h2 i hi
    exact ⟨c, q1, q2, q3.keep (Agree.refl _ _) fun b hb => hb.1⟩) fun b _ q _ => q
theorem UT.read (h : UT base g cap w t) (k : Nat) (hk : k < t.length) (hl : t.length ≤ 1000000) : ∃ A c, w.cell? ⟨g, k * 5, none⟩ = some (.int .i64 t[k].pick) ∧ w.cell? ⟨g, k * 5 + 1, none⟩ = some (.int .i64 t[k].yes) ∧ w.cell? ⟨g, k * 5 + 2, none⟩ = some (.int .i64 t[k].no) ∧ w.cell? ⟨g, k * 5 + 4, none⟩ = some (.slice A t[k].weights.length c) ∧
      SlI (UF g w) w (.slice A t[k].weights.length c) t[k].weights := by
  obtain ⟨cs, h1, h2, h3⟩ := h
  have hs := Sl.of_own (F := fun _ => True) h3 rfl (by omega) rfl h1 h2 fun _ _ _ _ => trivial
  obtain ⟨A', c', hv, _, _, hat⟩ := hs
  injection hv with e1 e2 e3
  obtain ⟨ad, x, hA, _, _, hn, hf⟩ := hat k hk
  rw [← e1] at hA
  injection hA with hA
  subst hA
  obtain ⟨vw, rfl, hw⟩ := hn
  obtain ⟨A, c, rfl, _⟩ := id hw.open
  rw [add_zero_off] at hf
  exact ⟨A, c, hf.f0 rfl, hf.f1 rfl, hf.f2 rfl, hf.f4 rfl, hw⟩
theorem UT.put (h : UT base g cap w t) (i : Nat) (hi : i < t.length) (j : Nat) (hj : j < 5) (u : Value) (x' : Hit.TNode)
    (hx : ∀ c, c.length = 5 → NodeC (UF g w) w c t[i] → NodeC (UF g w) w (c.set j u) x') : UT base g cap (w.setCell ⟨g, i * 5 + j, none⟩ u) (t.set i x') := by
  obtain ⟨cs, h1, h2, h3⟩ := h
  have hst := (h3.stored (i * 5 + j) u).1
  have hlen : ∀ c ∈ cs, c.length = 5 := fun c hc => by
    obtain ⟨k, hk, rfl⟩ := List.getElem_of_mem hc
    obtain ⟨c', q1, q2, _⟩ := h2 k (by omega)
    rw [List.getElem?_eq_getElem hk] at q1
    injection q1 with q1
    rw [q1]; exact q2
  rw [flat_set 5 cs hlen i j (by omega) hj u] at hst
  have hag : Agree (UF g w) w (w.setCell ⟨g, i * 5 + j, none⟩ u) := Agree.setCell u fun b hb => hb.2
  have hmo : ∀ b, UF g w b → UF g (w.setCell ⟨g, i * 5 + j, none⟩ u) b := fun b ⟨q1, q2⟩ => ⟨by rw [set_size]; exact q1, q2⟩
  refine ⟨cs.set i ((cs.getD i []).set j u), by simp [h1], fun k hk => ?_, by rw [List.length_set]; exact hst⟩
  rw [List.length_set] at hk
  obtain ⟨c, q1, q2, q3⟩ := h2 k hk
  by_cases e : k = i
  · subst e
    refine ⟨c.set j u, ?_, by rw [List.length_set]; exact q2, ?_⟩
    · rw [List.getElem?_set_self (by omega), List.getD_eq_getElem?_getD, q1]; rfl
    · rw [List.getElem_set_self]
      exact (hx c q2 q3).keep hag hmo
  · refine ⟨c, by rw [List.getElem?_set_ne (Ne.symm e)]; exact q1, q2, ?_⟩
    rw [List.getElem_set_ne (Ne.symm e)]
    exact q3.keep hag hmo
theorem UT.later (h : UT base g cap w t) (hb : Below w.heap.size w w') : UT base g cap w' t := by
  obtain ⟨cs, h1, h2, h3⟩ := h
  have hg := (h3.lt g rfl).2
  exact ⟨cs, h1, fun i hi => by
    obtain ⟨c, q1, q2, q3⟩ := h2 i hi
    exact ⟨c, q1, q2, q3.keep (Agree.below hb fun b hb => hb.1) fun b hb' => ⟨Nat.lt_of_lt_of_le hb'.1 hb.size, hb'.2⟩⟩, h3.kept (row := none) (only_of_below hb none) (.inr (by simp [Value.ownBlock]))⟩
theorem UT.slip {w3 : World} (h : UT base g cap w t) (hl : t.length ≤ 1000) (hw : ∀ x ∈ t, x.weights.length ≤ 1000) (hb : Below w3.heap.size w3 w) : SlipP w3 (.slice (some ⟨g, 0, none⟩) t.length cap) w :=
  ⟨t, _, cap, rfl, hl, hw, h.slt (by omega), hb⟩
theorem UT.set_ {w3 : World} (h : UT base g cap w t) (hl : t.length ≤ 1000) (hw : ∀ x ∈ t, x.weights.length ≤ 101) (hb : Below w3.heap.size w3 w) (hg : w3.heap.size ≤ g) (k : Nat) (hk : k < t.length) (j : Nat) (hj : j < 5) (u : Value) (x' : Hit.TNode)
    (hx : ∀ c, c.length = 5 → NodeC (UF g w) w c t[k] → NodeC (UF g w) w (c.set j u) x') (hxw : x'.weights.length ≤ 1000) : SlipP w3 (.slice (some ⟨g, 0, none⟩) t.length cap) (w.setCell ⟨g, k * 5 + j, none⟩ u) := by
  have h2 := h.put k hk j hj u x' hx
  have := h2.slip (w3 := w3) (by simpa using hl) (mem_set_w (fun y hy => by have := hw y hy; omega) hxw) (Bs hb u hg)
  rwa [List.length_set] at this
end
/-- The copy of a tree. -/
theorem UT.of_copy {w w' : World} {A' : Option Addr} {c' : Nat} {t : List Hit.TNode} (h0 : 0 < t.length) {cs : List (List Value)} (h1 : cs.length = t.length) (h2 : ∀ i (h : i < t.length), ∃ c, cs[i]? = some c ∧ c.length = 5 ∧ NodeC (fun b => b < w.heap.size) w c t[i])
    (hb : Below w.heap.size w w') (hO : Own0 w' w.heap.size 39 5 A' t.length c' cs.flatten) : ∃ g, A' = some ⟨g, 0, none⟩ ∧ UT w.heap.size g c' w' t := by
  rcases hO with ⟨e, _⟩ | ⟨_, hO⟩
  · omega
  · obtain ⟨g, cap, hv, hg, _⟩ := hO.form h0
    injection hv with e1 _ e3
    subst e1; subst e3
    refine ⟨g, rfl, cs, h1, fun i hi => ?_, hO⟩
    obtain ⟨c, q1, q2, q3⟩ := h2 i hi
    exact ⟨c, q1, q2, q3.keep (Agree.below hb fun b hb => hb) fun b hb' => ⟨Nat.lt_of_lt_of_le hb' hb.size, by omega⟩⟩
/-- A tree of one leaf without weights. -/
theorem Hit.tree_leaf (ws : List Nat) (n : Nat) (size : Int) (h : 0 < size) : Hit.verifyF ws n size [⟨0, 0, 0, 0, []⟩] ≠ 0 := by
  have h1 : Hit.treeF ws n size [⟨0, 0, 0, 0, []⟩] = false := by
    rw [← Hit.verify_same ws n size _ (by simp)]
    have : Hit.rightF ws n size [⟨0, 0, 0, 0, []⟩] 1 0 0 0 [false] = none := by
      rw [Hit.rightF_leaf (by rfl) ⟨rfl, rfl⟩]
      have : Hit.leafP ws size [] 0 0 = false := by
        unfold Hit.leafP Hit.leafGo
        rw [Hit.pop_zero]
        exact decide_eq_false (by simp; omega)
      show (if Hit.leafP ws size [] 0 0 = true then _ else _) = _
      rw [this]; rfl
    show (Hit.rightF ws n size [⟨0, 0, 0, 0, []⟩] 1 0 0 0 [false]).isSome = false
    rw [this]; rfl
  unfold Hit.verifyF
  rw [h1]
  split
  · decide
  · simp
theorem slt_leaf (W : World) : SlT (fun b => b < (W.alloc (.cells #[.int .i64 0, .int .i64 0, .int .i64 0, .int .i64 0, .slice none 0 0] 39)).heap.size) (W.alloc (.cells #[.int .i64 0, .int .i64 0, .int .i64 0, .int .i64 0, .slice none 0 0] 39)) (.slice (some ⟨W.heap.size, 0, none⟩) 1 1) [⟨0, 0, 0, 0, []⟩] := by
  refine ⟨_, 1, rfl, by simp, by simp, fun i hi => ?_⟩
  obtain rfl : i = 0 := by simp at hi; omega
  refine ⟨_, [.int .i64 0, .int .i64 0, .int .i64 0, .int .i64 0, .slice none 0 0], rfl, by simp, rfl, ⟨.slice none 0 0, rfl, Sl.nil_⟩, ?_⟩
  have := Flds.new W [.int .i64 0, .int .i64 0, .int .i64 0, .int .i64 0, .slice none 0 0] 39
  simpa [Addr.add] using this
end Go.Proofs.YthgjhfapnilfhaaDoor
