/- Rows that are copies: 'append([]T{}, x...)', in blocks of their own. -/
import Derived.Test.YtnfpjcjlapljjaaGreatDoorDk
namespace Go.Proofs.YtnfpjcjlapljjaaGreatDoor
open Go Go.RowKit Go.Shelf
open Org
section
variable {α : Type} {base : Nat} {e t : TypeId} {k : Nat} {R : (Nat → Prop) → World → List Value → α → Prop} {G : Nat → Prop} {w w' : World} {v : Value} {l : List α}
/-- A copy of a row: the elements' further blocks are those of G, which lie before the row's. -/
def CopyF (base : Nat) (e : TypeId) (k : Nat) (R : (Nat → Prop) → World → List Value → α → Prop) (G : Nat → Prop) (w : World) (v : Value) (l : List α) : Prop :=
  (0 < l.length → ∀ c, G c → v.ownBlock ≠ some c) ∧ ∃ A c, ∃ cs : List (List Value), v = .slice A l.length c ∧ l.length ≤ c ∧ l.length ≤ 140737488355328 ∧ cs.length = l.length ∧ (∀ i (hi : i < l.length), ∃ x, cs[i]? = some x ∧ x.length = k ∧ R G w x l[i]) ∧ Own0 w base e k A l.length c cs.flatten
theorem CopyF.below (hR : RelF R) (h : CopyF base e k R G w v l) (hGw : ∀ c, G c → c < w.heap.size) (hb : Below w.heap.size w w') : CopyF base e k R G w' v l := by
  obtain ⟨hG, A, c, cs, e1, e2, e3, e4, e5, e6⟩ := h
  refine ⟨hG, A, c, cs, e1, e2, e3, e4, fun i hi => ?_, e6.below hb⟩
  obtain ⟨x, q1, q2, q3⟩ := e5 i hi
  exact ⟨x, q1, q2, hR.keep q3 (Agree.below hb hGw)⟩
/-- A store into a block that lies before the row, and apart from the further blocks. -/
theorem CopyF.far (hR : RelF R) (h : CopyF base e k R G w v l) {p : Addr} (hp : p.block < base) (hg : ∀ c, G c → c ≠ p.block) (u : Value) : CopyF base e k R G (w.setCell p u) v l := by
  obtain ⟨hG, A, c, cs, e1, e2, e3, e4, e5, e6⟩ := h
  refine ⟨hG, A, c, cs, e1, e2, e3, e4, fun i hi => ?_, ?_⟩
  · obtain ⟨x, q1, q2, q3⟩ := e5 i hi
    exact ⟨x, q1, q2, hR.keep q3 (Agree.setCell _ hg)⟩
  · rcases e6 with h | ⟨h0, h⟩
    · exact .inl h
    · refine .inr ⟨h0, h.kept (row := some p.block) ⟨rfl, rfl, rfl, by simp [World.setCell], fun i hi hr => Below.heap_setCell _ _ _ i (fun e => hr (by rw [e]))⟩ (.inr fun e => by have := (h.lt _ e).1; omega)⟩
theorem CopyF.sl (hR : RelF R) (h : CopyF base e k R G w v l) (hbw : base ≤ w.heap.size) : Sl (fun c => G c ∨ (base ≤ c ∧ c < w.heap.size)) k (R fun c => G c ∨ (base ≤ c ∧ c < w.heap.size)) w v l := by
  obtain ⟨hG, A, c, cs, rfl, e2, e3, e4, e5, e6⟩ := h
  rcases e6 with ⟨h0, -, -⟩ | ⟨h0, h⟩
  · exact ⟨A, c, rfl, e2, e3, fun i hi => absurd hi (by omega)⟩
  · have hs := Sl.of_own (R := R G) (l := l) (F := fun c => base ≤ c ∧ c < w.heap.size) h rfl e3 rfl e4 e5 (fun b h1 h2 _ => ⟨h1, h2⟩)
    exact (Sl.mono hs fun _ h => .inr h).monoR fun _ _ q => hR.mono q fun _ h => .inl h
end
section
variable {α : Type} {P : Program} {ops : Array Oper} {rest : List Oper} {o : Oper} {a : Act} {Q : Exit → Act → World → Prop} {t e : TypeId} {k bytes : Nat} {R : (Nat → Prop) → World → List Value → α → Prop} {F : Nat → Prop} {w : World} {v : Value} {l : List α}
/-- 'append([]T{}, x...)'. -/
theorem wpList_copyF (E : ElemN P t e k bytes) (hk : 0 < k) (hgd : o.guard = none) (s x : Operand) (ho : o.op = .call { callee := .builtin .append, args := #[s, x], argTypes := #[t, t] })
    (A0 : Option Addr) (hs : a.eval s = .slice A0 0 0) (hx : a.eval x = v) (hR : RelF R) (hl : Sl F k (R F) w v l) (hF : ∀ c, F c → c < w.heap.size) (h1 : ∀ cs y, R F w cs y → ∀ u ∈ cs, u.oneCell' = true) (hm : l.length ≤ 1000000000) (hb : bytes ≤ 1000)
    (h : ∀ A' c' w', Below w.heap.size w w' → CopyF w.heap.size e k R F w' (.slice A' l.length c') l → wpList P ops Q rest (a.put o.dst (.slice A' l.length c')) w') : wpList P ops Q (o :: rest) a w := by
  obtain ⟨A, c, rfl, hc, hl9, -⟩ := Sl.openF hl
  obtain ⟨cs, q1, q2, q3⟩ := Sl.cells hl hF
  refine wpList_copy E hk hgd s x ho A0 hs w.heap.size A l.length c cs.flatten hx q3 (fun u hu => ?_) hm hb fun A' c' w' hb' ho' => h A' c' w' hb' ?_
  · obtain ⟨y, hy, huy⟩ := List.mem_flatten.1 hu
    obtain ⟨i, hi, rfl⟩ := List.getElem_of_mem hy
    obtain ⟨z, z1, z2, z3⟩ := q2 i (by rw [← q1]; exact hi)
    rw [List.getElem?_eq_getElem hi] at z1
    injection z1 with z1
    exact h1 _ _ (z1 ▸ z3) u huy
  · refine ⟨fun hpos c hc q => by
      rcases ho' with ⟨h0, -, -⟩ | ⟨-, ho2⟩
      · omega
      · have := (ho2.lt c q).1; have := hF c hc; omega, A', c', cs, rfl, ?_, hl9, q1, fun i hi => ?_, ho'⟩
    · rcases ho' with ⟨h0, -, -⟩ | ⟨-, ho2⟩
      · omega
      · rcases ho2.2 with ⟨h, h0⟩ | ⟨g, cap, cur, h, -, -, h4, -⟩
        · injection h with _ _ h; omega
        · injection h with _ _ h; omega
    · obtain ⟨z, z1, z2, z3⟩ := q2 i hi
      exact ⟨z, z1, z2, hR.keep z3 (Agree.below hb' hF)⟩
end
theorem flatten_getO {k : Nat} : ∀ {cs : List (List Value)} {i j : Nat} (_ : ∀ c ∈ cs, c.length = k) (hi : i < cs.length) (_ : j < k), cs.flatten[i * k + j]? = cs[i][j]?
  | [], _, _, _, hi, _ => absurd hi (by simp)
  | c :: r, 0, j, h, _, hj => by
    have := h c (by simp)
    simp only [List.flatten_cons, List.getElem_cons_zero, Nat.zero_mul, Nat.zero_add]
    rw [List.getElem?_append_left (by omega)]
  | c :: r, i + 1, j, h, hi, hj => by
    have hc := h c (by simp)
    have ih := flatten_getO (cs := r) (i := i) (j := j) (fun x hx => h x (by simp [hx])) (by simpa using hi) hj
    simp only [List.flatten_cons, List.getElem_cons_succ]
    rw [List.getElem?_append_right (by rw [hc, Nat.add_mul]; omega), show (i + 1) * k + j - c.length = i * k + j by rw [hc, Nat.add_mul]; omega, ih]
theorem flatten_set {k : Nat} {u : Value} : ∀ {cs : List (List Value)} {i j : Nat} (_ : ∀ c ∈ cs, c.length = k) (hi : i < cs.length) (_ : j < k), cs.flatten.set (i * k + j) u = (cs.set i (cs[i].set j u)).flatten
  | [], _, _, _, hi, _ => absurd hi (by simp)
  | c :: r, 0, j, h, _, hj => by
    have := h c (by simp)
    simp only [List.flatten_cons, List.getElem_cons_zero, List.set_cons_zero, Nat.zero_mul, Nat.zero_add]
    rw [List.set_append_left _ _ (by omega)]
  | c :: r, i + 1, j, h, hi, hj => by
    have hc := h c (by simp)
    have ih := flatten_set (u := u) (cs := r) (i := i) (j := j) (fun x hx => h x (by simp [hx])) (by simpa using hi) hj
    simp only [List.flatten_cons, List.getElem_cons_succ, List.set_cons_succ]
    rw [List.set_append_right _ _ (by rw [hc, Nat.add_mul]; omega), show (i + 1) * k + j - c.length = i * k + j by rw [hc, Nat.add_mul]; omega, ih]
section
variable {α : Type} {base : Nat} {e : TypeId} {k : Nat} {R : (Nat → Prop) → World → List Value → α → Prop} {G : Nat → Prop} {w : World} {v : Value} {l : List α}
/-- An element of a copy: where it lies, and a store into one of its cells. -/
theorem CopyF.store (hR : RelF R) (h : CopyF base e k R G w v l) (i : Nat) (hi : i < l.length) : ∃ g c cur x, v = .slice (some ⟨g, 0, none⟩) l.length c ∧ base ≤ g ∧ Blk w g e cur ∧ x.length = k ∧ R G w x l[i] ∧ (∀ j u, x[j]? = some u → w.cell? ⟨g, i * k + j, none⟩ = some u) ∧
    ∀ j u y, j < k → R G (w.setCell ⟨g, i * k + j, none⟩ u) (x.set j u) y → CopyF base e k R G (w.setCell ⟨g, i * k + j, none⟩ u) v (l.set i y) := by
  obtain ⟨hG, A, c, cs, rfl, e2, e3, e4, e5, e6⟩ := h
  rcases e6 with ⟨h0, -⟩ | ⟨h0, hlen, h1⟩
  · omega
  rcases h1 with ⟨-, h⟩ | ⟨g, cap, cur, h, hbg, hh, hnc, hcm, hsz, htk⟩
  · omega
  injection h with ha hb hc
  subst ha hc
  obtain ⟨x, hx, hxl, hxr⟩ := e5 i hi
  have hall : ∀ c ∈ cs, c.length = k := fun c hc => by
    obtain ⟨m, hm, rfl⟩ := List.getElem_of_mem hc
    obtain ⟨z, z1, z2, -⟩ := e5 m (by omega)
    rw [List.getElem?_eq_getElem hm] at z1
    injection z1 with z1
    rw [z1]; exact z2
  have hic : i < cs.length := by omega
  have hxi : cs[i] = x := by
    rw [List.getElem?_eq_getElem hic] at hx
    injection hx
  have hcell : ∀ j u, x[j]? = some u → cur[i * k + j]? = some u := fun j u hu => by
    have hj : j < k := by rw [← hxl]; exact (List.getElem?_eq_some_iff.1 hu).1
    have hlt : i * k + j < l.length * k := by
      have : (i + 1) * k ≤ l.length * k := Nat.mul_le_mul_right k hi
      rw [Nat.add_mul] at this; omega
    have h2 : cs.flatten[i * k + j]? = some u := by rw [flatten_getO hall hic hj, hxi]; exact hu
    rw [← htk, List.getElem?_take, if_pos hlt] at h2
    simpa using h2
  refine ⟨g, c, cur, x, rfl, hbg, hh, hxl, hxr, fun j u hu => (Blk.cell (t := e) hh _).trans (hcell j u hu), fun j u y hj hy => ?_⟩
  refine ⟨fun _ => hG h0, some ⟨g, 0, none⟩, c, cs.set i (x.set j u), by rw [List.length_set], by rw [List.length_set]; exact e2, by rw [List.length_set]; exact e3, by rw [List.length_set, List.length_set]; exact e4, fun m hm => ?_, .inr ⟨by rw [List.length_set]; exact h0, ?_⟩⟩
  · rw [List.length_set] at hm
    by_cases hmi : i = m
    · subst hmi
      exact ⟨x.set j u, by rw [List.getElem?_set_self hic], by rw [List.length_set]; exact hxl, by rw [List.getElem_set_self]; exact hy⟩
    · obtain ⟨z, z1, z2, z3⟩ := e5 m hm
      exact ⟨z, by rw [List.getElem?_set_ne hmi]; exact z1, z2, by rw [List.getElem_set_ne hmi]; exact hR.keep z3 (Agree.setCell _ fun c hc e => hG h0 c hc (by show some g = some c; rw [show c = g from e]))⟩
  · rw [List.length_set]
    refine ⟨?_, .inr ⟨g, c, cur.setIfInBounds (i * k + j) u, rfl, hbg, Blk.set_ (t := e) hh (i * k + j) u, hnc, hcm, by rw [Array.size_setIfInBounds]; exact hsz, ?_⟩⟩
    · rw [← hxi, ← flatten_set hall hic hj, List.length_set]
      exact hlen
    · rw [Array.toList_setIfInBounds, List.take_set, htk, flatten_set hall hic hj, hxi]
end
section
variable {α : Type} {P : Program} {ops : Array Oper} {rest : List Oper} {o : Oper} {a : Act} {Q : Exit → Act → World → Prop} {t e : TypeId} {k bytes base : Nat} {R : (Nat → Prop) → World → List Value → α → Prop} {G : Nat → Prop} {w : World} {v : Value} {l : List α}
theorem run_appK (E : ElemN P t e k bytes) (hk : 0 < k) (ty : TypeId) {A : Option Addr} {n c : Nat} {xs : List Value} (hown : Own0 w base e k A n c xs) (ad : Addr) (c1 : Nat) (news : List Value) (hl : news.length = k) (hf : Flds w ad news) (h1 : ∀ u ∈ news, u.oneCell' = true)
    (hn : n + 1 ≤ 1000000000) (hb : bytes ≤ 1000) (hbase : base ≤ w.heap.size) :
    ∃ A' c' w', (Builtin.append_ #[t, t] ty #[.slice A n c, .slice (some ad) 1 c1]).run P w = .ok (.slice A' (n + 1) c') w' ∧ Own0 w' base e k A' (n + 1) c' (xs ++ news) ∧
      ((n = 0 ∧ Below w.heap.size w w') ∨ (0 < n ∧ w.grownBy w' (Value.slice A n c).ownBlock)) := by
  rcases hown with ⟨rfl, rfl, rfl⟩ | ⟨h0, hown⟩
  · obtain ⟨A', c', w', hrun, h2, h3⟩ := run_copy (w := w) E hk ty A (ad.block + 1) (some ad) 1 c1 news ⟨by rw [hl, Nat.one_mul], fun _ => ⟨_, rfl, Nat.lt_succ_self _, hf⟩⟩ h1 (by omega) hb
    exact ⟨A', c', w', hrun, h3.more hbase, .inl ⟨rfl, h2⟩⟩
  · obtain ⟨ht, i, z, hi, hz, hsz, hby, hzs⟩ := E
    have hmb : (n + 1) * bytes ≤ 1000000000 * 1000 := Nat.mul_le_mul hn hb
    obtain ⟨v', w', hrun, h2, h3, _, _⟩ := run_append_own_at (P := P) w base t ty e i z k bytes ht hi hz hsz hby hzs hk (.slice A n c) n xs hown ad 1 c1 news (by rw [hl, Nat.one_mul]) hf h1
      (by unfold maxLen; omega) (by omega) hbase
    obtain ⟨g, cap, rfl⟩ := own_lit h2
    exact ⟨_, _, w', hrun, .inr ⟨by omega, h2⟩, .inr ⟨h0, h3⟩⟩
/-- 'row = append(row, y)', the row a copy. -/
theorem wpList_appC (E : ElemN P t e k bytes) (hk : 0 < k) (hgd : o.guard = none) (s x : Operand) (ho : o.op = .call { callee := .builtin .append, args := #[s, x], argTypes := #[t, t] })
    (hR : RelF R) (hs : a.eval s = v) (hown : CopyF base e k R G w v l) (ad : Addr) (c1 : Nat) (news : List Value) (hx : a.eval x = .slice (some ad) 1 c1) (hl : news.length = k) (hf : Flds w ad news) (h1 : ∀ u ∈ news, u.oneCell' = true)
    (hn : l.length + 1 ≤ 1000000000) (hb : bytes ≤ 1000) (hbase : base ≤ w.heap.size) (hGb : ∀ c, G c → c < base) (y : α) (hy : ∀ w', R G w' news y)
    (h : ∀ A' c' w', CopyF base e k R G w' (.slice A' (l.length + 1) c') (l ++ [y]) → (∀ B : World, B.heap.size ≤ base → Below B.heap.size B w → Below B.heap.size B w') → (∀ g T cs, Blk w g T cs → T ≠ e → Blk w' g T cs) → Agree G w w' → w.heap.size ≤ w'.heap.size → wpList P ops Q rest (a.put o.dst (.slice A' (l.length + 1) c')) w') : wpList P ops Q (o :: rest) a w := by
  obtain ⟨hG, A, c, cs, rfl, e2, e3, e4, e5, e6⟩ := hown
  obtain ⟨A', c', w', hrun, h2, h3⟩ := run_appK E hk o.type e6 ad c1 news hl hf h1 hn hb hbase
  have hlt : ∀ b, (Value.slice A l.length c).ownBlock = some b → 0 < l.length → base ≤ b := fun b hb h0 => by
    rcases e6 with ⟨h, -, -⟩ | ⟨-, h⟩
    · omega
    · exact (h.lt b hb).1
  have hag : Agree G w w' := by
    rcases h3 with ⟨-, h3⟩ | ⟨h0, h3⟩
    · exact Agree.below h3 fun b hb => Nat.lt_of_lt_of_le (hGb b hb) hbase
    · exact Agree.grown h3 fun b hb => ⟨Nat.lt_of_lt_of_le (hGb b hb) hbase, fun q => by have := hlt b q.symm h0; have := hGb b hb; omega⟩
  refine wpList_plain hgd fun _ hK => ?_
  unfold Oper.wp execOp
  simp only [ho, resolve, invoke, builtin, Sem.run_bind, Sem.run_pure, Result.andThen_ok, List.map_toArray, List.map_cons, List.map_nil, hs, hx, hrun]
  refine hK _ _ (h A' c' w' ⟨fun _ b hb q => by
      rcases h2 with ⟨hz, -, -⟩ | ⟨-, h2o⟩
      · omega
      · have := (h2o.lt b q).1; have := hGb b hb; omega, A', c', cs ++ [news], by rw [List.length_append]; rfl, ?_, by rw [List.length_append]; show l.length + 1 ≤ _; omega, by rw [List.length_append, List.length_append, e4]; rfl, fun i hi => ?_, by rw [List.length_append, List.flatten_append]; show Own0 w' base e k A' (l.length + 1) c' (cs.flatten ++ [news].flatten); rw [show [news].flatten = news by simp]; exact h2⟩ (fun B hB hw => ?_) (fun g T ds hg hT => ?_) hag ?_)
  · rw [List.length_append]
    show l.length + 1 ≤ c'
    rcases h2 with ⟨h, -, -⟩ | ⟨-, h⟩
    · omega
    · rcases h.2 with ⟨-, q⟩ | ⟨g, cap, cur, q, -, -, h4, -⟩
      · omega
      · injection q with _ _ q; omega
  · rcases Nat.lt_or_ge i l.length with hlt' | hge
    · obtain ⟨x', q1, q2, q3⟩ := e5 i hlt'
      exact ⟨x', by rw [List.getElem?_append_left (by omega)]; exact q1, q2, by rw [List.getElem_append_left hlt']; exact hR.keep q3 hag⟩
    · have hii : i = l.length := by simp at hi; omega
      subst hii
      exact ⟨news, by rw [← e4, List.getElem?_concat_length], hl, by simpa using hy w'⟩
  · rcases h3 with ⟨-, h3⟩ | ⟨h0, h3⟩
    · exact Bt hw h3
    · exact hw.grown h3 hw.size fun b q => Nat.le_trans hB (hlt b q h0)
  · rcases h3 with ⟨-, h3⟩ | ⟨h0, h3⟩
    · exact hg.below h3 hg.lt
    · refine hg.grown h3 fun q => ?_
      rcases e6 with ⟨h, -, -⟩ | ⟨-, h⟩
      · omega
      · exact own_blk_ne h hg (fun q' => hT q'.symm) q.symm
  · rcases h3 with ⟨-, h3⟩ | ⟨h0, h3⟩
    · exact h3.size
    · exact h3.size
end
/-- Further blocks more. -/
theorem CopyF.moreG {α : Type} {base : Nat} {e : TypeId} {k : Nat} {R : (Nat → Prop) → World → List Value → α → Prop} {G G' : Nat → Prop} {w : World} {v : Value} {l : List α} (hR : RelF R) (h : CopyF base e k R G w v l) (hg : ∀ c, G c → G' c) (hg' : 0 < l.length → ∀ c, G' c → v.ownBlock ≠ some c) : CopyF base e k R G' w v l := by
  obtain ⟨-, A, c, cs, e1, e2, e3, e4, e5, e6⟩ := h
  refine ⟨hg', A, c, cs, e1, e2, e3, e4, fun i hi => ?_, e6⟩
  obtain ⟨x, q1, q2, q3⟩ := e5 i hi
  exact ⟨x, q1, q2, hR.mono q3 hg⟩
theorem CopyF.put1 {α : Type} {base : Nat} {e : TypeId} {k : Nat} {R : (Nat → Prop) → World → List Value → α → Prop} {G : Nat → Prop} {w : World} {g n c : Nat} {l : List α} (hR : RelF R) (h : CopyF base e k R G w (.slice (some ⟨g, 0, none⟩) n c) l) (i : Nat) (hi : i < l.length) (j : Nat) (hj : j < k) (u : Value) (y : α)
    (hy : ∀ x, x.length = k → R G w x l[i] → R G (w.setCell ⟨g, i * k + j, none⟩ u) (x.set j u) y) : CopyF base e k R G (w.setCell ⟨g, i * k + j, none⟩ u) (.slice (some ⟨g, 0, none⟩) n c) (l.set i y) := by
  obtain ⟨g', c', cur, x, e1, -, -, hxl, hxr, -, hset⟩ := CopyF.store hR h i hi
  injection e1 with e1 e2 e3
  injection e1 with e1
  injection e1 with e1
  subst e1
  exact hset j u y hj (hy x hxl hxr)
/-- The five cells of a division, stored into a copied row. -/
theorem CopyF.putDv {base : Nat} {e : TypeId} {G : Nat → Prop} {w : World} {v : Value} {l : List Dvs} (h : CopyF base e 5 DvsC G w v l) (i : Nat) (hi : i < l.length) (y : Dvs) (vt : Value) (hvt : Sl G 4 (StpC G) w vt y.stops) :
    ∃ g c cur, v = .slice (some ⟨g, 0, none⟩) l.length c ∧ base ≤ g ∧ Blk w g e cur ∧ (∀ j, j < 5 → ∃ u, w.cell? ⟨g, i * 5 + j, none⟩ = some u) ∧
      CopyF base e 5 DvsC G (((((w.setCell ⟨g, i * 5 + 0, none⟩ (.string y.name)).setCell ⟨g, i * 5 + 1, none⟩ (.bool y.ped)).setCell ⟨g, i * 5 + 2, none⟩ (.int .i64 y.lo)).setCell ⟨g, i * 5 + 3, none⟩ (.int .i64 y.hi)).setCell ⟨g, i * 5 + 4, none⟩ vt) v (l.set i y) := by
  obtain ⟨g, c, cur, x, rfl, hg, hk, hxl, ⟨v0, rfl, hs0⟩, hc, hset⟩ := CopyF.store relDvs h i hi
  have hpos : 0 < l.length := by omega
  have hG := fun (l' : List Dvs) (w' : World) (h' : CopyF base e 5 DvsC G w' (.slice (some ⟨g, 0, none⟩) l.length c) l') (h0 : 0 < l'.length) => h'.1 h0
  have hfar : ∀ (w' : World) (p : Nat) (u : Value), Agree G w' (w'.setCell ⟨g, p, none⟩ u) := fun w' p u => Agree.setCell u fun b hb e => h.1 hpos b hb (by show some g = some b; rw [show b = g from e])
  refine ⟨g, c, cur, rfl, hg, hk, fun j hj => ?_, ?_⟩
  · have hj5 : j = 0 ∨ j = 1 ∨ j = 2 ∨ j = 3 ∨ j = 4 := by omega
    rcases hj5 with rfl | rfl | rfl | rfl | rfl
    · exact ⟨_, hc 0 _ rfl⟩
    · exact ⟨_, hc 1 _ rfl⟩
    · exact ⟨_, hc 2 _ rfl⟩
    · exact ⟨_, hc 3 _ rfl⟩
    · exact ⟨_, hc 4 _ rfl⟩
  · have p0 := CopyF.put1 relDvs h i hi 0 (by decide) (.string y.name) ⟨y.name, l[i].ped, l[i].lo, l[i].hi, l[i].stops⟩ fun x' _ hx => by
      obtain ⟨v1, rfl, hs⟩ := hx
      exact ⟨v1, rfl, Sl.keepF relStp hs (hfar _ _ _)⟩
    have hi1 : i < (l.set i ⟨y.name, l[i].ped, l[i].lo, l[i].hi, l[i].stops⟩).length := by rw [List.length_set]; exact hi
    have p1 := CopyF.put1 relDvs p0 i hi1 1 (by decide) (.bool y.ped) ⟨y.name, y.ped, l[i].lo, l[i].hi, l[i].stops⟩ fun x' _ hx => by
      rw [List.getElem_set_self] at hx
      obtain ⟨v1, rfl, hs⟩ := hx
      exact ⟨v1, rfl, Sl.keepF relStp hs (hfar _ _ _)⟩
    rw [List.set_set] at p1
    have hi2 : i < (l.set i ⟨y.name, y.ped, l[i].lo, l[i].hi, l[i].stops⟩).length := by rw [List.length_set]; exact hi
    have p2 := CopyF.put1 relDvs p1 i hi2 2 (by decide) (.int .i64 y.lo) ⟨y.name, y.ped, y.lo, l[i].hi, l[i].stops⟩ fun x' _ hx => by
      rw [List.getElem_set_self] at hx
      obtain ⟨v1, rfl, hs⟩ := hx
      exact ⟨v1, rfl, Sl.keepF relStp hs (hfar _ _ _)⟩
    rw [List.set_set] at p2
    have hi3 : i < (l.set i ⟨y.name, y.ped, y.lo, l[i].hi, l[i].stops⟩).length := by rw [List.length_set]; exact hi
    have p3 := CopyF.put1 relDvs p2 i hi3 3 (by decide) (.int .i64 y.hi) ⟨y.name, y.ped, y.lo, y.hi, l[i].stops⟩ fun x' _ hx => by
      rw [List.getElem_set_self] at hx
      obtain ⟨v1, rfl, hs⟩ := hx
      exact ⟨v1, rfl, Sl.keepF relStp hs (hfar _ _ _)⟩
    rw [List.set_set] at p3
    have hi4 : i < (l.set i ⟨y.name, y.ped, y.lo, y.hi, l[i].stops⟩).length := by rw [List.length_set]; exact hi
    have p4 := CopyF.put1 relDvs p3 i hi4 4 (by decide) vt y fun x' _ hx => by
      rw [List.getElem_set_self] at hx
      obtain ⟨v1, rfl, hs⟩ := hx
      exact ⟨vt, rfl, Sl.keepF relStp hvt (((((hfar _ _ _).trans (hfar _ _ _)).trans (hfar _ _ _)).trans (hfar _ _ _)).trans (hfar _ _ _))⟩
    rw [List.set_set] at p4
    exact p4
end Go.Proofs.YtnfpjcjlapljjaaGreatDoor
