/- Words for the prover: its block, its tree as a row of its own, and what a store or an append leaves of it. -/
import Derived.Test.YtnpdoejjebgcpaaHZ
namespace Go.Proofs.Ytnpdoejjebgcpaa
open Go Go.RowKit
/-- Where the weights of the prover's nodes lie. -/
def WF (pb : Nat) (w : World) (v : Value) : Nat → Prop := fun b => pb < b ∧ b < w.heap.size ∧ some b ≠ v.ownBlock
/-- The prover's block, and its tree. -/
structure PT (pb : Nat) (vs : Value) (size : Int) (w : World) (v : Value) (t : List Hit.TNode) : Prop where
  blk : Blk w pb 109 #[vs, .int .i64 size, v]
  own : OwnL (pb + 1) 42 5 (NodeC (WF pb w v)) w v t
theorem NodeC.keep {F G : Nat → Prop} {w w' : World} {c : List Value} {x : Hit.TNode} (h : NodeC F w c x) (ha : Agree F w w') (hF : ∀ b, F b → G b) : NodeC G w' c x := by
  obtain ⟨vw, e, hs⟩ := h
  exact ⟨vw, e, (SlI.keep hs ha).mono hF⟩
theorem own_form {w : World} {base : Nat} {e : TypeId} {k n : Nat} {v : Value} {xs : List Value} (h : w.ownsRow base e k v n xs) : ∃ A c, v = .slice A n c := by
  obtain ⟨_, h2⟩ := h
  rcases h2 with ⟨rfl, rfl⟩ | ⟨g, cap, cur, rfl, _⟩
  · exact ⟨none, 0, rfl⟩
  · exact ⟨_, _, rfl⟩
theorem own_count {w : World} {base : Nat} {e : TypeId} {k n m c : Nat} {A : Option Addr} {xs : List Value} (h : w.ownsRow base e k (.slice A m c) n xs) : m = n := by
  obtain ⟨_, h2⟩ := h
  rcases h2 with ⟨hv, rfl⟩ | ⟨g, cap, cur, hv, _⟩
  · injection hv
  · injection hv
theorem set_size (w : World) (p : Addr) (u : Value) : (w.setCell p u).heap.size = w.heap.size := by simp [World.setCell]
theorem flat_set (k : Nat) : ∀ (L : List (List Value)), (∀ c ∈ L, c.length = k) → ∀ (i j : Nat), i < L.length → j < k → ∀ (u : Value), L.flatten.set (i * k + j) u = (L.set i ((L.getD i []).set j u)).flatten := by
  intro L
  induction L with
  | nil => intro _ i j h; simp at h
  | cons x L ih =>
    intro hall i j hi hj u
    have hx : x.length = k := hall x (by simp)
    cases i with
    | zero =>
      simp only [List.flatten_cons, Nat.zero_mul, Nat.zero_add, List.set_cons_zero, List.getD_cons_zero]
      rw [List.set_append_left _ _ (by omega)]
    | succ i =>
      have := ih (fun c hc => hall c (List.mem_cons_of_mem _ hc)) i j (by simpa using hi) hj u
      simp only [List.flatten_cons, List.set_cons_succ, List.getD_cons_succ, ← this]
      rw [List.set_append_right _ _ (by rw [hx, Nat.succ_mul]; omega), hx, Nat.succ_mul]
      congr 2
      omega
section
variable {pb : Nat} {vs : Value} {size : Int} {w w' : World} {v : Value} {t : List Hit.TNode}
theorem PT.lt (h : PT pb vs size w v t) : pb < w.heap.size := h.blk.lt
theorem PT.form (h : PT pb vs size w v t) : ∃ A c, v = .slice A t.length c := by
  obtain ⟨cs, _, _, h3⟩ := h.own
  exact own_form h3
theorem PT.later (h : PT pb vs size w v t) (hb : Below w.heap.size w w') : PT pb vs size w' v t := by
  refine ⟨h.blk.below hb h.lt, h.own.keep rfl (fun xs hx => ?_) fun c x hc => ?_⟩
  · exact hx.kept (row := none) ⟨hb.os, hb.tape, hb.output, hb.size, fun i hi _ => hb.block i hi⟩ (by cases hv : v.ownBlock <;> simp)
  · exact hc.keep (Agree.below hb fun b hF => hF.2.1) fun b ⟨q1, q2, q3⟩ => ⟨q1, Nat.lt_of_lt_of_le q2 hb.size, q3⟩
theorem PT.append {cs : List (List Value)} {g cap : Nat} {o : Obj} (hk : Blk w pb 109 #[vs, .int .i64 size, v]) (h1 : cs.length = t.length) (h2 : ∀ i (h : i < t.length), ∃ c, cs[i]? = some c ∧ c.length = 5 ∧ NodeC (WF pb w v) w c t[i])
    (h3 : w.ownsRow (pb + 1) 42 5 v t.length cs.flatten) (hown : w'.ownsRow (pb + 1) 42 5 (.slice (some ⟨g, 0, none⟩) (t.length + 1) cap) (t.length + 1) (cs.flatten ++ [.int .i64 0, .int .i64 0, .int .i64 0, .int .i64 0, .slice none 0 0]))
    (hgrow : (w.alloc o).grownBy w' v.ownBlock) (hat : some g = v.ownBlock ∨ g = (w.alloc o).heap.size) :
    PT pb vs size (w'.setCell ⟨pb, 2, none⟩ (.slice (some ⟨g, 0, none⟩) (t.length + 1) cap)) (.slice (some ⟨g, 0, none⟩) (t.length + 1) cap) (t ++ [⟨0, 0, 0, 0, []⟩]) := by
  have hne : some pb ≠ v.ownBlock := fun e => by have := (h3.lt pb e.symm).1; omega
  have hsz : w.heap.size < w'.heap.size := by have := hgrow.size; simp at this; omega
  refine ⟨?_, OwnL.snoc h1 h2 rfl ⟨.slice none 0 0, rfl, Sl.nil_⟩ (fun c x hc => hc.keep (fun b ⟨q1, q2, q3⟩ => ?_) fun b ⟨q1, q2, q3⟩ => ⟨q1, by rw [set_size]; omega, ?_⟩) (ownsRow_setCell_below hown (by simp) _)⟩
  · have := ((hk.alloc o).grown hgrow hne).set_ 2 (.slice (some ⟨g, 0, none⟩) (t.length + 1) cap)
    simpa using this
  · rw [Below.heap_setCell _ _ _ _ (show b ≠ (⟨pb, 2, none⟩ : Addr).block by show b ≠ pb; omega), hgrow.block b (by simp; omega) q3, Below.heap_alloc w o b q2]
  · show some b ≠ some g
    rcases hat with e | e
    · rw [e]; exact q3
    · simp at e; intro e2; injection e2; omega
theorem PT.put {g n cap : Nat} (h : PT pb vs size w (.slice (some ⟨g, 0, none⟩) n cap) t) (i : Nat) (hi : i < t.length) (j : Nat) (hj : j < 5) (u : Value) (x' : Hit.TNode)
    (hx : ∀ c, c.length = 5 → NodeC (WF pb w (.slice (some ⟨g, 0, none⟩) n cap)) w c t[i] → NodeC (WF pb w (.slice (some ⟨g, 0, none⟩) n cap)) w (c.set j u) x') :
    PT pb vs size (w.setCell ⟨g, i * 5 + j, none⟩ u) (.slice (some ⟨g, 0, none⟩) n cap) (t.set i x') := by
  obtain ⟨cs, h1, h2, h3⟩ := h.own
  obtain rfl := own_count h3
  have hg : pb + 1 ≤ g := (h3.lt g rfl).1
  have hst := (h3.stored (i * 5 + j) u).1
  have hlen : ∀ c ∈ cs, c.length = 5 := fun c hc => by
    obtain ⟨k, hk, rfl⟩ := List.getElem_of_mem hc
    obtain ⟨c', q1, q2, _⟩ := h2 k (by omega)
    rw [List.getElem?_eq_getElem hk] at q1
    injection q1 with q1
    rw [q1]; exact q2
  rw [flat_set 5 cs hlen i j (by omega) hj u] at hst
  have hag : Agree (WF pb w (.slice (some ⟨g, 0, none⟩) t.length cap)) w (w.setCell ⟨g, i * 5 + j, none⟩ u) := Agree.setCell u fun b ⟨_, _, q3⟩ e => q3 (by rw [e]; rfl)
  have hmo : ∀ b, WF pb w (.slice (some ⟨g, 0, none⟩) t.length cap) b → WF pb (w.setCell ⟨g, i * 5 + j, none⟩ u) (.slice (some ⟨g, 0, none⟩) t.length cap) b := fun b ⟨q1, q2, q3⟩ => ⟨q1, by rw [set_size]; exact q2, q3⟩
  refine ⟨h.blk.far (by show pb ≠ g; omega) u, cs.set i ((cs.getD i []).set j u), by simp [h1], fun k hk => ?_, by rw [List.length_set]; exact hst⟩
  rw [List.length_set] at hk
  obtain ⟨c, q1, q2, q3⟩ := h2 k hk
  by_cases e : k = i
  · subst e
    refine ⟨c.set j u, ?_, by rw [List.length_set]; exact q2, ?_⟩
    · rw [List.getElem?_set_self (by omega), List.getD_eq_getElem?_getD, q1]; rfl
    · rw [List.getElem_set_self]
      exact (hx c q2 q3).keep hag hmo
  · refine ⟨c, by rw [List.getElem?_set_ne (Ne.symm e)]; exact q1, q2, ?_⟩
    rw [List.getElem_set_ne (Ne.symm e)]
    exact q3.keep hag hmo
theorem PT.cell {g n cap : Nat} (h : PT pb vs size w (.slice (some ⟨g, 0, none⟩) n cap) t) (i : Nat) (hi : i < t.length) (j : Nat) (hj : j < 5) : ∃ u, w.cell? ⟨g, i * 5 + j, none⟩ = some u := by
  obtain ⟨cs, h1, h2, h3⟩ := h.own
  obtain rfl := own_count h3
  have hl : i * 5 + j < cs.flatten.length := by rw [h3.1]; omega
  exact ⟨cs.flatten[i * 5 + j], by rw [h3.cellAt _ (by omega)]; exact List.getElem?_eq_getElem hl⟩
theorem PT.frozen {g n cap : Nat} (h : PT pb vs size w (.slice (some ⟨g, 0, none⟩) n cap) t) (j : Nat) : w.frozen? ⟨g, j, none⟩ = false := by
  obtain ⟨cs, h1, h2, h3⟩ := h.own
  obtain rfl := own_count h3
  exact h3.frozenAt j
theorem PT.row {g n cap : Nat} (h : PT pb vs size w (.slice (some ⟨g, 0, none⟩) n cap) t) : pb < g ∧ g < w.heap.size ∧ n = t.length := by
  obtain ⟨cs, h1, h2, h3⟩ := h.own
  have := h3.lt g rfl
  exact ⟨this.1, this.2, own_count h3⟩
theorem PT.at_ (h : PT pb vs size w v t) (hn : 0 < t.length) : ∃ g cap, v = .slice (some ⟨g, 0, none⟩) t.length cap := by
  obtain ⟨cs, h1, h2, h3⟩ := h.own
  obtain ⟨g, cap, hv, _⟩ := h3.form hn
  exact ⟨g, cap, hv⟩
theorem NodeC.pick {F : Nat → Prop} {c : List Value} {x : Hit.TNode} (z : Int) (h : NodeC F w c x) : NodeC F w (c.set 0 (.int .i64 z)) ⟨z, x.yes, x.no, x.bound, x.weights⟩ := by
  obtain ⟨vw, rfl, hs⟩ := h
  exact ⟨vw, rfl, hs⟩
theorem NodeC.yes {F : Nat → Prop} {c : List Value} {x : Hit.TNode} (z : Int) (h : NodeC F w c x) : NodeC F w (c.set 1 (.int .i64 z)) ⟨x.pick, z, x.no, x.bound, x.weights⟩ := by
  obtain ⟨vw, rfl, hs⟩ := h
  exact ⟨vw, rfl, hs⟩
theorem NodeC.no {F : Nat → Prop} {c : List Value} {x : Hit.TNode} (z : Int) (h : NodeC F w c x) : NodeC F w (c.set 2 (.int .i64 z)) ⟨x.pick, x.yes, z, x.bound, x.weights⟩ := by
  obtain ⟨vw, rfl, hs⟩ := h
  exact ⟨vw, rfl, hs⟩
theorem NodeC.weights {F : Nat → Prop} {c : List Value} {x : Hit.TNode} {u : Value} {l : List Int} (hu : SlI F w u l) (h : NodeC F w c x) : NodeC F w (c.set 4 u) ⟨x.pick, x.yes, x.no, x.bound, l⟩ := by
  obtain ⟨vw, rfl, hs⟩ := h
  exact ⟨u, rfl, hu⟩
end
end Go.Proofs.Ytnpdoejjebgcpaa
