/- Words for a proof tree that is changed. -/
import Derived.Test.YtnpdoejjebgcpaaPa
import Derived.Deep.CutBlock
import Derived.Deep.CutRange
import Derived.BigRegion
namespace Go.Proofs.Ytnpdoejjebgcpaa
open Go Go.RowKit
theorem add_zero_off (g i : Nat) : (⟨g, 0, none⟩ : Addr).add i = ⟨g, i, none⟩ := by
  unfold Addr.add
  by_cases h : i = 0 <;> simp [h]
/-- The cells of a node of the prover's tree. -/
theorem PT.read {pb g cap n : Nat} {vs : Value} {size : Int} {w : World} {t : List Hit.TNode} (h : PT pb vs size w (.slice (some ⟨g, 0, none⟩) n cap) t) (k : Nat) (hk : k < t.length) (hl : t.length ≤ 1000000) :
    ∃ A c, w.cell? ⟨g, k * 5, none⟩ = some (.int .i64 t[k].pick) ∧ w.cell? ⟨g, k * 5 + 1, none⟩ = some (.int .i64 t[k].yes) ∧ w.cell? ⟨g, k * 5 + 2, none⟩ = some (.int .i64 t[k].no) ∧ w.cell? ⟨g, k * 5 + 4, none⟩ = some (.slice A t[k].weights.length c) ∧
      SlI (WF pb w (.slice (some ⟨g, 0, none⟩) n cap)) w (.slice A t[k].weights.length c) t[k].weights := by
  obtain ⟨cs, h1, h2, h3⟩ := h.own
  obtain rfl := own_count h3
  have hs := Sl.of_own (F := fun _ => True) h3 rfl (by omega) rfl h1 h2 fun _ _ _ _ => trivial
  obtain ⟨A', c', hv, _, _, hat⟩ := hs
  injection hv with e1 e2 e3
  obtain ⟨ad, x, hA, _, _, hn, hf⟩ := hat k hk
  rw [← e1] at hA
  injection hA with hA
  subst hA
  obtain ⟨vw, rfl, hw⟩ := hn
  obtain ⟨A, c, rfl, _⟩ := id hw.open
  rw [add_zero_off] at hf
  exact ⟨A, c, hf.f0 rfl, hf.f1 rfl, hf.f2 rfl, hf.f4 rfl, hw⟩
/-- A list of ints, as cells. -/
theorem SlI.reads {F : Nat → Prop} {w : World} {A : Option Addr} {n c B : Nat} {l : List Int} (h : SlI F w (.slice A n c) l) (hF : ∀ b, F b → b < B) : Reads w B 1 A n (cellsV vI l) := by
  obtain ⟨cs, h1, h2, h3⟩ := Sl.cells h hF
  have : cs.flatten = cellsV vI l := by
    rw [cellsV_flat]
    congr 1
    apply List.ext_getElem?
    intro i
    rcases Nat.lt_or_ge i l.length with hi | hi
    · obtain ⟨x, q1, _, q2⟩ := h2 i hi
      rw [q1, List.getElem?_map, List.getElem?_eq_getElem hi]
      show some x = some _
      rw [q2]; rfl
    · rw [List.getElem?_eq_none (by omega), List.getElem?_eq_none (by simpa using hi)]
  rw [← this]; exact h3
/-- The tree as the change has left it. -/
def SlipP (w3 : World) (s10 : Value) (wx : World) : Prop :=
  ∃ (t : List Hit.TNode) (A : Option Addr) (c : Nat), s10 = .slice A t.length c ∧ t.length ≤ 1000 ∧ (∀ x ∈ t, x.weights.length ≤ 1000) ∧ SlT (fun b => b < wx.heap.size) wx (.slice A t.length c) t ∧ Below w3.heap.size w3 wx
theorem SlT.wider {F G : Nat → Prop} {w : World} {v : Value} {t : List Hit.TNode} (h : SlT F w v t) (hF : ∀ b, F b → G b) : SlT G w v t :=
  (Sl.mono h hF).monoR fun _ _ hc => NodeC.keep hc (Agree.refl _ _) hF
theorem slip_of {pb g cap n : Nat} {vs : Value} {size : Int} {w3 w : World} {t : List Hit.TNode} (h : PT pb vs size w (.slice (some ⟨g, 0, none⟩) n cap) t) (hl : t.length ≤ 1000) (hw : ∀ x ∈ t, x.weights.length ≤ 1000) (hb : Below w3.heap.size w3 w) : SlipP w3 (.slice (some ⟨g, 0, none⟩) n cap) w := by
  obtain ⟨_, _, hn⟩ := h.row
  subst hn
  exact ⟨t, _, cap, rfl, hl, hw, (h.slt (by omega)).wider fun b h => h.2, hb⟩
theorem SlT.take {F : Nat → Prop} {w : World} {A : Option Addr} {n c : Nat} {t : List Hit.TNode} (h : SlT F w (.slice A n c) t) (k : Nat) (hk : k ≤ t.length) : SlT F w (.slice A k c) (t.take k) := by
  obtain ⟨A', c', hv, hc, hl, hat⟩ := h
  injection hv with e1 _ e3
  subst e1; subst e3
  have hlen : (t.take k).length = k := by simp; omega
  refine ⟨A, c, by rw [hlen], by omega, by omega, fun i hi => ?_⟩
  obtain ⟨ad, cs, q1, q2, q3, q4, q5⟩ := hat i (by omega)
  refine ⟨ad, cs, q1, q2, q3, ?_, q5⟩
  rw [List.getElem_take]; exact q4
theorem mem_set_w {t : List Hit.TNode} {k B : Nat} {x : Hit.TNode} (h : ∀ y ∈ t, y.weights.length ≤ B) (hx : x.weights.length ≤ B) : ∀ y ∈ t.set k x, y.weights.length ≤ B := fun y hy => by
  rcases List.mem_or_eq_of_mem_set hy with h1 | rfl
  · exact h y h1
  · exact hx
theorem SlipP.drew {w3 wx : World} {s : Value} (h : SlipP w3 s wx) : SlipP w3 s wx.drew := by
  obtain ⟨t, A, c, h1, h2, h3, h4, h5⟩ := h
  exact ⟨t, A, c, h1, h2, h3, h4, h5.drew⟩
theorem slip_set {pb g cap n : Nat} {vs : Value} {size : Int} {w3 w : World} {t : List Hit.TNode} (h : PT pb vs size w (.slice (some ⟨g, 0, none⟩) n cap) t) (hl : t.length ≤ 1000) (hw : ∀ x ∈ t, x.weights.length ≤ 101) (hb : Below w3.heap.size w3 w) (hg : w3.heap.size ≤ g) (k : Nat) (hk : k < t.length) (j : Nat) (hj : j < 5) (u : Value) (x' : Hit.TNode)
    (hx : ∀ c, c.length = 5 → NodeC (WF pb w (.slice (some ⟨g, 0, none⟩) n cap)) w c t[k] → NodeC (WF pb w (.slice (some ⟨g, 0, none⟩) n cap)) w (c.set j u) x') (hxw : x'.weights.length ≤ 1000) : SlipP w3 (.slice (some ⟨g, 0, none⟩) n cap) (w.setCell ⟨g, k * 5 + j, none⟩ u) :=
  slip_of (h.put k hk j hj u x' hx) (by simpa using hl) (mem_set_w (fun y hy => by have := hw y hy; omega) hxw) (Bs hb u hg)
theorem SlI.tail {F : Nat → Prop} {w : World} {A : Option Addr} {n c : Nat} {l : List Int} (h : SlI F w (.slice A n c) l) (_hc : c ≠ 1) (h0 : 0 < n) : SlI F w (.slice (A.map fun a => a.add 1) (n - 1) (c - 1)) (l.drop 1) := by
  obtain ⟨A', c', hv, h1, h2, hat⟩ := h
  injection hv with e1 e2 e3
  subst e1 e2 e3
  refine ⟨_, _, by rw [List.length_drop], by rw [List.length_drop]; omega, by rw [List.length_drop]; omega, fun i hi => ?_⟩
  rw [List.length_drop] at hi
  obtain ⟨ad, cs, rfl, q2, q3, q4, q5⟩ := hat (i + 1) (by omega)
  refine ⟨ad.add 1, cs, rfl, by rw [block_of_add]; exact q2, q3, ?_, ?_⟩
  · rw [List.getElem_drop]
    have e : 1 + i = i + 1 := by omega
    simp only [e]; exact q4
  · rw [add_of_add, show 1 + i * 1 = (i + 1) * 1 from by omega]; exact q5
theorem SlI.tail1 {F : Nat → Prop} {w : World} {A : Option Addr} {n c : Nat} {l : List Int} (h : SlI F w (.slice A n c) l) (hc : c = 1) (h0 : 0 < n) : SlI F w (.slice A (n - 1) (c - 1)) (l.drop 1) := by
  obtain ⟨A', c', hv, h1, h2, _⟩ := h
  injection hv with e1 e2 e3
  subst e1 e2 e3
  refine ⟨_, _, by rw [List.length_drop], by rw [List.length_drop]; omega, by rw [List.length_drop]; omega, fun i hi => ?_⟩
  rw [List.length_drop] at hi
  omega
/-- A tree whose node k has other weights. -/
theorem slip_row {pb g cap : Nat} {vs : Value} {size : Int} {w3 w5 w : World} {t : List Hit.TNode} (_h : PT pb vs size w5 (.slice (some ⟨g, 0, none⟩) t.length cap) t) (hl : t.length ≤ 1000) (hw : ∀ x ∈ t, x.weights.length ≤ 101) (k : Nat) (hk : k < t.length) {A : Option Addr} {n c : Nat} {l : List Int} (hll : l.length ≤ 1000) (cs : List (List Value))
    (h1 : cs.length = t.length) (h2 : ∀ i (h : i < t.length), ∃ c, cs[i]? = some c ∧ c.length = 5 ∧ NodeC (WF pb w5 (.slice (some ⟨g, 0, none⟩) t.length cap)) w5 c t[i])
    (hrow : w.ownsRow (pb + 1) 42 5 (.slice (some ⟨g, 0, none⟩) t.length cap) t.length (cs.flatten.set (k * 5 + 4) (.slice A n c))) (hag : Agree (WF pb w5 (.slice (some ⟨g, 0, none⟩) t.length cap)) w5 w) (hsz : w5.heap.size ≤ w.heap.size)
    (hu : SlI (fun b => b < w.heap.size) w (.slice A n c) l) (hb : Below w3.heap.size w3 w) : SlipP w3 (.slice (some ⟨g, 0, none⟩) t.length cap) w := by
  have hlen : ∀ c ∈ cs, c.length = 5 := fun c hc => by
    obtain ⟨i, hi, rfl⟩ := List.getElem_of_mem hc
    obtain ⟨c', q1, q2, _⟩ := h2 i (by omega)
    rw [List.getElem?_eq_getElem hi] at q1
    injection q1 with q1
    rw [q1]; exact q2
  rw [flat_set 5 cs hlen k 4 (by omega) (by omega)] at hrow
  refine ⟨t.set k ⟨t[k].pick, t[k].yes, t[k].no, t[k].bound, l⟩, _, cap, by rw [List.length_set], by simpa using hl, mem_set_w (fun y hy => by have := hw y hy; omega) hll, ?_, hb⟩
  rw [List.length_set]
  refine Sl.of_own (l := t.set k ⟨t[k].pick, t[k].yes, t[k].no, t[k].bound, l⟩) hrow (by simp) (by simp; omega) rfl (by simp [h1]) (fun i hi => ?_) fun b q1 q2 _ => q2
  rw [List.length_set] at hi
  obtain ⟨c0, q1, q2, q3⟩ := h2 i hi
  by_cases e : i = k
  · subst e
    refine ⟨c0.set 4 (.slice A n c), by rw [List.getElem?_set_self (by omega), List.getD_eq_getElem?_getD, q1]; rfl, by simpa using q2, ?_⟩
    rw [List.getElem_set_self]
    obtain ⟨vw, rfl, _⟩ := q3
    exact ⟨_, rfl, hu⟩
  · refine ⟨c0, by rw [List.getElem?_set_ne (Ne.symm e)]; exact q1, q2, ?_⟩
    rw [List.getElem_set_ne (Ne.symm e)]
    exact q3.keep hag fun b hb => by have := hb.2.1; omega
section
variable {P : Program} {w : World} {ops : Array Oper} {o : Oper} {a : Act} {Q : Exit → Act → World → Prop}
theorem step_app0 {K : Act → World → Prop} {E' : Prop} {t e : TypeId} {bytes : Nat} (E : ElemN P t e 1 bytes) (hgd : o.guard = none) (s x : Operand) (ho : o.op = .call { callee := .builtin .append, args := #[s, x], argTypes := #[t, t] })
    {base : Nat} {A : Option Addr} {n c : Nat} {xs : List Value} (hown : Own0 w base e 1 A n c xs) (hs : a.eval s = .slice A n c) (b : Nat) (u : Value) (hx : a.eval x = .slice (some ⟨b, 0, none⟩) 1 1) (hc : w.cell? ⟨b, 0, none⟩ = some u) (h1 : u.oneCell' = true)
    (hn : n + 1 ≤ 1000000000) (hb : bytes ≤ 1000) (hbase : base ≤ w.heap.size)
    (h : ∀ A' c' w', Own0 w' base e 1 A' (n + 1) c' (xs ++ [u]) → ((n = 0 ∧ Below w.heap.size w w') ∨ (0 < n ∧ w.grownBy w' (Value.slice A n c).ownBlock)) → K (a.put o.dst (.slice A' (n + 1) c')) w') :
    if Region.wanted o (yielded ops a.tmps) = true then Oper.wp P o a w K Q else E' := by
  rw [if_pos (by simp [Region.wanted, hgd])]
  obtain ⟨A', c', w', hrun, h2, h3⟩ := run_app0 (w := w) E o.type hown b u hc h1 hn hb hbase
  unfold Oper.wp execOp
  simp only [ho, resolve, invoke, builtin, Sem.run_bind, Sem.run_pure, Result.andThen_ok, List.map_toArray, List.map_cons, List.map_nil, hs, hx, hrun]
  exact h A' c' w' h2 h3
/-- What an append to a slice of the call's own leaves of a block that is not its own. -/
theorem app0_block {w w' : World} {base n c g : Nat} {A : Option Addr} {e : TypeId} {xs : List Value} (hown : Own0 w base e 1 A n c xs) (h : (n = 0 ∧ Below w.heap.size w w') ∨ (0 < n ∧ w.grownBy w' (Value.slice A n c).ownBlock)) (hg : g < base) (hgw : g < w.heap.size) : w'.heap[g]? = w.heap[g]? := by
  rcases h with ⟨_, h⟩ | ⟨h0, h⟩
  · exact h.block g hgw
  · refine h.block g hgw fun e => ?_
    rcases hown with ⟨h1, _⟩ | ⟨_, hown⟩
    · omega
    · have := (hown.lt g e.symm).1
      omega
end
theorem frozen_of_block {w w' : World} {g : Nat} (h : w'.heap[g]? = w.heap[g]?) (i : Nat) : w'.frozen? ⟨g, i, none⟩ = w.frozen? ⟨g, i, none⟩ := by simp [World.frozen?, h]
theorem cell_of_block {w w' : World} {g : Nat} (h : w'.heap[g]? = w.heap[g]?) (i : Nat) : w'.cell? ⟨g, i, none⟩ = w.cell? ⟨g, i, none⟩ := World.cell?_of_block (w := w) h
theorem slip_app {pb g cap n c6 c8 k : Nat} {vs : Value} {size : Int} {w3 w5 w7 w8 : World} {t : List Hit.TNode} (h : PT pb vs size w5 (.slice (some ⟨g, 0, none⟩) t.length cap) t) (hl : t.length ≤ 1000) (hw : ∀ x ∈ t, x.weights.length ≤ 101) (hk : k < t.length) (cs : List (List Value)) {u6 : Value}
    (h1 : cs.length = t.length) (h2 : ∀ i (h : i < t.length), ∃ c, cs[i]? = some c ∧ c.length = 5 ∧ NodeC (WF pb w5 (.slice (some ⟨g, 0, none⟩) t.length cap)) w5 c t[i])
    (hrow : w7.ownsRow (pb + 1) 42 5 (.slice (some ⟨g, 0, none⟩) t.length cap) t.length (cs.flatten.set (k * 5 + 4) u6)) (hag : Agree (WF pb w5 (.slice (some ⟨g, 0, none⟩) t.length cap)) w5 w7) (hsz : w5.heap.size + 1 ≤ w7.heap.size) (hg : g < w5.heap.size) (hg3 : w3.heap.size ≤ g) (hb : Below w3.heap.size w3 w7)
    {o : Obj} {A6 A8 : Option Addr} {l : List Int} {z : Int} (hO : Own0 (w7.alloc o).drew (w5.heap.size + 1) 3 1 A6 n c6 (cellsV vI l)) (hn : n = l.length) (hll : l.length ≤ 101)
    (q1 : Own0 w8 (w5.heap.size + 1) 3 1 A8 (n + 1) c8 (cellsV vI l ++ [.int .i64 z])) (q2 : (n = 0 ∧ Below (w7.alloc o).drew.heap.size (w7.alloc o).drew w8) ∨ (0 < n ∧ (w7.alloc o).drew.grownBy w8 (Value.slice A6 n c6).ownBlock)) :
    SlipP w3 (.slice (some ⟨g, 0, none⟩) t.length cap) (w8.setCell ⟨g, k * 5 + 4, none⟩ (.slice A8 (n + 1) c8)) := by
  have hs8 : w7.heap.size ≤ w8.heap.size := by
    have := q_size q2
    have h0 : w7.heap.size ≤ (w7.alloc o).drew.heap.size := by show _ ≤ (w7.alloc o).heap.size; simp
    omega
  have hrow8 : w8.ownsRow (pb + 1) 42 5 (.slice (some ⟨g, 0, none⟩) t.length cap) t.length (cs.flatten.set (k * 5 + 4) u6) := by
    have h0 : (w7.alloc o).drew.ownsRow (pb + 1) 42 5 (.slice (some ⟨g, 0, none⟩) t.length cap) t.length (cs.flatten.set (k * 5 + 4) u6) := hrow.alloc o
    rcases q2 with ⟨_, q2⟩ | ⟨h0n, q2⟩
    · exact h0.kept (row := none) (only_of_below q2 none) (.inr (by simp [Value.ownBlock]))
    · refine h0.kept q2 (.inr fun e => ?_)
      rcases hO with ⟨e1, _⟩ | ⟨_, hO⟩
      · omega
      · have := (hO.lt g e.symm).1
        omega
  have hrow9 := (hrow8.stored (k * 5 + 4) (.slice A8 (n + 1) c8)).1
  rw [List.set_set] at hrow9
  have hblk : ∀ b, b < w5.heap.size → w8.heap[b]? = w7.heap[b]? := fun b hb5 =>
    (app0_block hO q2 (g := b) (by omega) (by show b < (w7.alloc o).heap.size; simp; omega)).trans (Below.heap_alloc w7 o b (by omega))
  have hag9 : Agree (WF pb w5 (.slice (some ⟨g, 0, none⟩) t.length cap)) w5 (w8.setCell ⟨g, k * 5 + 4, none⟩ (.slice A8 (n + 1) c8)) := fun b hbw => by
    have hbg : b ≠ g := fun e => hbw.2.2 (by rw [e]; rfl)
    rw [Below.heap_setCell w8 _ _ b hbg, hblk b hbw.2.1]
    exact hag b hbw
  have hb8 : Below w3.heap.size w3 w8 := Bg0 (Ba hb o).drew hO (by omega) q2
  have hcv : cellsV vI l ++ [.int .i64 z] = cellsV vI (l ++ [z]) := by rw [cellsV_snoc]; rfl
  rw [hcv] at q1
  have hu : SlI (fun b => w5.heap.size + 1 ≤ b ∧ b < w8.heap.size) w8 (.slice A8 (n + 1) c8) (l ++ [z]) := q1.sl (by rw [hn]; simp) (by simp; omega) (fun _ _ => rfl) fun b q1 q2 => ⟨q1, q2⟩
  have hu9 : SlI (fun b => b < (w8.setCell ⟨g, k * 5 + 4, none⟩ (.slice A8 (n + 1) c8)).heap.size) (w8.setCell ⟨g, k * 5 + 4, none⟩ (.slice A8 (n + 1) c8)) (.slice A8 (n + 1) c8) (l ++ [z]) :=
    (hu.keep (Agree.setCell _ fun b hb => by show b ≠ g; omega)).mono fun b hb => by rw [set_size]; exact hb.2
  exact slip_row h hl hw k hk (by simp; omega) cs h1 h2 hrow9 hag9 (by rw [set_size]; omega) hu9 (Bs hb8 _ hg3)
end Go.Proofs.Ytnpdoejjebgcpaa
