/- Copies: 'append([]T{}, xs...)', program-free. -/
import Derived.Test.YtiochodepgldpaaDoorApp
namespace Go.Proofs.YtiochodepgldpaaDoor
open Go Go.RowKit

theorem loadCells_zero (a : Addr) : loadCellsFrom a 0 0 #[] = pure #[] := rfl
theorem storeCells_nil (a : Addr) : storeCells a [] = pure () := rfl
section
variable {P : Program} {w : World}
theorem run_append_base0 (A0 : Option Addr) (t ty e : TypeId) (i : TypeInfo) (ht : P.underlying t = some (.slice e)) (hi : P.info? e = some i) (A : Option Addr) (m c : Nat) (hm : 0 < m) (hb : m * i.bytes ≤ 140737488355328) :
    (Builtin.append_ #[t, t] ty #[.slice A0 0 0, .slice A m c]).run P w = (Builtin.append_ #[t, t] ty #[.slice none 0 0, .slice A m c]).run P w := by
  cases A0 with
  | none => rfl
  | some a =>
    have h0 : m ≠ 0 := by omega
    have hn : Builtin.nextslicecap m 0 = m := by unfold Builtin.nextslicecap; rw [if_pos (by omega)]
    have h1 : ¬ 281474976710656 < m * i.bytes := by omega
    simp [Builtin.append_, run_underlying ht, sizeOf, typeInfo, hi, Builtin.lenOf, Builtin.firstCells, h0, hn, h1, loadCells, loadCells_zero]
theorem run_append_zero (A0 : Option Addr) (t ty e : TypeId) (i : TypeInfo) (ht : P.underlying t = some (.slice e)) (hi : P.info? e = some i) (A : Option Addr) (c : Nat) :
    (Builtin.append_ #[t, t] ty #[.slice A0 0 0, .slice A 0 c]).run P w = .ok (.slice A0 0 0) w := by
  cases A0 <;> cases A <;> simp [Builtin.append_, run_underlying ht, sizeOf, typeInfo, hi, Builtin.lenOf, Builtin.firstCells, loadCells, loadCells_zero, storeCells_nil]

/-- A slice of the call's own: empty and without capacity, or a row. -/
def Own0 (w : World) (base : Nat) (e : TypeId) (k : Nat) (A : Option Addr) (n c : Nat) (xs : List Value) : Prop := (n = 0 ∧ c = 0 ∧ xs = []) ∨ (0 < n ∧ w.ownsRow base e k (.slice A n c) n xs)
theorem Own0.kept {w w' : World} {base : Nat} {e : TypeId} {k : Nat} {A : Option Addr} {n c : Nat} {xs : List Value} {row : Option Nat} (h : Own0 w base e k A n c xs) (hg : w.grownBy w' row) (hne : (Value.slice A n c).ownBlock = none ∨ (Value.slice A n c).ownBlock ≠ row) : Own0 w' base e k A n c xs := by
  rcases h with h | ⟨h0, h⟩
  · exact .inl h
  · exact .inr ⟨h0, h.kept hg hne⟩
theorem Own0.below {w w' : World} {base : Nat} {e : TypeId} {k : Nat} {A : Option Addr} {n c : Nat} {xs : List Value} (hb : Below w.heap.size w w') (h : Own0 w base e k A n c xs) : Own0 w' base e k A n c xs :=
  h.kept (row := none) ⟨hb.os, hb.tape, hb.output, hb.size, fun i hi _ => hb.block i hi⟩ (by cases hv : (Value.slice A n c).ownBlock <;> simp)
theorem Own0.alloc {w : World} {base : Nat} {e : TypeId} {k : Nat} {A : Option Addr} {n c : Nat} {xs : List Value} (h : Own0 w base e k A n c xs) (o : Obj) : Own0 (w.alloc o) base e k A n c xs := h.below (Ba (B0 w) o)
theorem Own0.drewN {w : World} {base : Nat} {e : TypeId} {k : Nat} {A : Option Addr} {n c : Nat} {xs : List Value} (h : Own0 w base e k A n c xs) (q : Nat) : Own0 (w.drewN q) base e k A n c xs := h
theorem Own0.drew {w : World} {base : Nat} {e : TypeId} {k : Nat} {A : Option Addr} {n c : Nat} {xs : List Value} (h : Own0 w base e k A n c xs) : Own0 w.drew base e k A n c xs := h
theorem own_more {w : World} {base base' : Nat} {e : TypeId} {k n : Nat} {v : Value} {xs : List Value} (h : w.ownsRow base e k v n xs) (hb : base' ≤ base) : w.ownsRow base' e k v n xs := by
  obtain ⟨h1, h2⟩ := h
  refine ⟨h1, ?_⟩
  rcases h2 with h2 | ⟨g, cap, cur, hv, hg, r⟩
  · exact .inl h2
  · exact .inr ⟨g, cap, cur, hv, by omega, r⟩
theorem Own0.more {w : World} {base base' : Nat} {e : TypeId} {k : Nat} {A : Option Addr} {n c : Nat} {xs : List Value} (h : Own0 w base e k A n c xs) (hb : base' ≤ base) : Own0 w base' e k A n c xs := by
  rcases h with h | ⟨h0, h⟩
  · exact .inl h
  · exact .inr ⟨h0, own_more h hb⟩
/-- A store into a block of another type. -/
theorem Own0.far {w : World} {base : Nat} {e t : TypeId} {k g : Nat} {A : Option Addr} {n c : Nat} {xs : List Value} {cs : Array Value} (hB : Blk w g t cs) (ht : e ≠ t) (h : Own0 w base e k A n c xs) (j : Nat) (u : Value) : Own0 (w.setCell ⟨g, j, none⟩ u) base e k A n c xs := by
  rcases h with h | ⟨h0, h⟩
  · exact .inl h
  · have hne := own_blk_ne h hB ht
    refine .inr ⟨h0, h.kept (row := some g) ⟨rfl, rfl, rfl, by simp [World.setCell], fun i hi hr => ?_⟩ (.inr hne)⟩
    exact Below.heap_setCell w _ u i (fun e => hr (by rw [e]))

/-- The copy of m elements lies in a block of its own. -/
theorem run_copy {t e : TypeId} {k bytes : Nat} (E : ElemN P t e k bytes) (hk : 0 < k) (ty : TypeId) (A0 : Option Addr) (B : Nat) (A : Option Addr) (m c : Nat) (news : List Value) (hr : Reads w B k A m news) (h1 : ∀ u ∈ news, u.oneCell' = true)
    (hm : m ≤ 1000000000) (hb : bytes ≤ 1000) :
    ∃ A' c' w', (Builtin.append_ #[t, t] ty #[.slice A0 0 0, .slice A m c]).run P w = .ok (.slice A' m c') w' ∧ Below w.heap.size w w' ∧ Own0 w' w.heap.size e k A' m c' news := by
  obtain ⟨ht, i, z, hi, hz, hsz, hby, hzs⟩ := E
  have hmb : m * bytes ≤ 1000000000 * 1000 := Nat.mul_le_mul hm hb
  rcases Nat.eq_zero_or_pos m with rfl | h0
  · exact ⟨A0, 0, w, run_append_zero A0 t ty e i ht hi A c, Below.refl _ _, .inl ⟨rfl, rfl, List.eq_nil_of_length_eq_zero (by simpa using hr.1)⟩⟩
  · obtain ⟨ad, rfl, _, hc⟩ := hr.2 h0
    obtain ⟨v', w', hrun, h2, h3, _, _⟩ := run_append_own_at (P := P) w w.heap.size t ty e i z k bytes ht hi hz hsz hby hzs hk (.slice none 0 0) 0 [] (World.ownsRow_nil _ _ _ _) ad m c news hr.1 hc h1
      (by unfold maxLen; omega) (by rw [Nat.zero_add]; omega) (Nat.le_refl _)
    rw [Nat.zero_add, List.nil_append] at h2
    have hv : ∃ A' c', v' = .slice A' m c' := by
      rcases h2.2 with ⟨rfl, _⟩ | ⟨g, cap, cur, rfl, _⟩
      · have := h2.1
        rcases h2.2 with ⟨_, h⟩ | ⟨g, cap, cur, h, _⟩
        · have hl := hr.1; rw [h] at hl; simp at hl; have := Nat.mul_pos h0 hk; omega
        · cases h
      · exact ⟨_, _, rfl⟩
    obtain ⟨A', c', rfl⟩ := hv
    refine ⟨A', c', w', (run_append_base0 A0 t ty e i ht hi (some ad) m c h0 (by rw [hby]; omega)).trans hrun, ?_, .inr ⟨h0, h2⟩⟩
    exact (Below.refl _ _).grown h3 (Nat.le_refl _) (fun b h => by simp [Value.ownBlock] at h)

variable {ops : Array Oper} {rest : List Oper} {o : Oper} {a : Act} {Q : Exit → Act → World → Prop}
theorem wp_copy {K : Act → World → Prop} {t e : TypeId} {k bytes : Nat} (E : ElemN P t e k bytes) (hk : 0 < k) (s x : Operand) (ho : o.op = .call { callee := .builtin .append, args := #[s, x], argTypes := #[t, t] })
    (A0 : Option Addr) (hs : a.eval s = .slice A0 0 0) (B : Nat) (A : Option Addr) (m c : Nat) (news : List Value) (hx : a.eval x = .slice A m c) (hr : Reads w B k A m news) (h1 : ∀ u ∈ news, u.oneCell' = true)
    (hm : m ≤ 1000000000) (hb : bytes ≤ 1000)
    (h : ∀ A' c' w', Below w.heap.size w w' → Own0 w' w.heap.size e k A' m c' news → K (a.put o.dst (.slice A' m c')) w') : o.wp P a w K Q := by
  obtain ⟨A', c', w', hrun, h2, h3⟩ := run_copy (w := w) E hk o.type A0 B A m c news hr h1 hm hb
  unfold Oper.wp execOp
  simp only [ho, resolve, invoke, builtin, Sem.run_bind, Sem.run_pure, Result.andThen_ok, List.map_toArray, List.map_cons, List.map_nil, hs, hx, hrun]
  exact h A' c' w' h2 h3
theorem step_copy {K : Act → World → Prop} {E' : Prop} {t e : TypeId} {k bytes : Nat} (E : ElemN P t e k bytes) (hk : 0 < k) (hgd : o.guard = none) (s x : Operand) (ho : o.op = .call { callee := .builtin .append, args := #[s, x], argTypes := #[t, t] })
    (A0 : Option Addr) (hs : a.eval s = .slice A0 0 0) (B : Nat) (A : Option Addr) (m c : Nat) (news : List Value) (hx : a.eval x = .slice A m c) (hr : Reads w B k A m news) (h1 : ∀ u ∈ news, u.oneCell' = true)
    (hm : m ≤ 1000000000) (hb : bytes ≤ 1000)
    (h : ∀ A' c' w', Below w.heap.size w w' → Own0 w' w.heap.size e k A' m c' news → K (a.put o.dst (.slice A' m c')) w') :
    if Region.wanted o (yielded ops a.tmps) = true then Oper.wp P o a w K Q else E' := by
  rw [if_pos (by simp [Region.wanted, hgd])]
  exact wp_copy E hk s x ho A0 hs B A m c news hx hr h1 hm hb h
theorem wpList_copy {t e : TypeId} {k bytes : Nat} (E : ElemN P t e k bytes) (hk : 0 < k) (hgd : o.guard = none) (s x : Operand) (ho : o.op = .call { callee := .builtin .append, args := #[s, x], argTypes := #[t, t] })
    (A0 : Option Addr) (hs : a.eval s = .slice A0 0 0) (B : Nat) (A : Option Addr) (m c : Nat) (news : List Value) (hx : a.eval x = .slice A m c) (hr : Reads w B k A m news) (h1 : ∀ u ∈ news, u.oneCell' = true)
    (hm : m ≤ 1000000000) (hb : bytes ≤ 1000)
    (h : ∀ A' c' w', Below w.heap.size w w' → Own0 w' w.heap.size e k A' m c' news → wpList P ops Q rest (a.put o.dst (.slice A' m c')) w') : wpList P ops Q (o :: rest) a w :=
  wpList_plain hgd fun _ hK => wp_copy E hk s x ho A0 hs B A m c news hx hr h1 hm hb fun A' c' w' q1 q2 => hK _ _ (h A' c' w' q1 q2)
/-- 'xs = append(xs, y)', xs a slice of the call's own. -/
theorem run_app0 {t e : TypeId} {bytes : Nat} (E : ElemN P t e 1 bytes) (ty : TypeId) {base : Nat} {A : Option Addr} {n c : Nat} {xs : List Value} (hown : Own0 w base e 1 A n c xs) (b : Nat) (u : Value) (hc : w.cell? ⟨b, 0, none⟩ = some u) (h1 : u.oneCell' = true)
    (hn : n + 1 ≤ 1000000000) (hb : bytes ≤ 1000) (hbase : base ≤ w.heap.size) :
    ∃ A' c' w', (Builtin.append_ #[t, t] ty #[.slice A n c, .slice (some ⟨b, 0, none⟩) 1 1]).run P w = .ok (.slice A' (n + 1) c') w' ∧ Own0 w' base e 1 A' (n + 1) c' (xs ++ [u]) ∧
      ((n = 0 ∧ Below w.heap.size w w') ∨ (0 < n ∧ w.grownBy w' (Value.slice A n c).ownBlock)) := by
  rcases hown with ⟨rfl, rfl, rfl⟩ | ⟨h0, hown⟩
  · obtain ⟨A', c', w', hrun, h2, h3⟩ := run_copy (w := w) E (by omega) ty A (b + 1) (some ⟨b, 0, none⟩) 1 1 [u] ⟨rfl, fun _ => ⟨_, rfl, Nat.lt_succ_self _, Flds.one hc⟩⟩ (by simpa using h1) (by omega) hb
    exact ⟨A', c', w', hrun, h3.more hbase, .inl ⟨rfl, h2⟩⟩
  · obtain ⟨ht, i, z, hi, hz, hsz, hby, hzs⟩ := E
    have hmb : (n + 1) * bytes ≤ 1000000000 * 1000 := Nat.mul_le_mul hn hb
    obtain ⟨v', w', hrun, h2, h3, _, _⟩ := run_append_own_at (P := P) w base t ty e i z 1 bytes ht hi hz hsz hby hzs (by omega) (.slice A n c) n xs hown ⟨b, 0, none⟩ 1 1 [u] rfl (Flds.one hc) (by simpa using h1)
      (by unfold maxLen; omega) (by omega) hbase
    obtain ⟨g, cap, rfl⟩ := own_lit h2
    exact ⟨_, _, w', hrun, .inr ⟨by omega, h2⟩, .inr ⟨h0, h3⟩⟩
theorem wpList_app0 {t e : TypeId} {bytes : Nat} (E : ElemN P t e 1 bytes) (hgd : o.guard = none) (s x : Operand) (ho : o.op = .call { callee := .builtin .append, args := #[s, x], argTypes := #[t, t] })
    {base : Nat} {A : Option Addr} {n c : Nat} {xs : List Value} (hown : Own0 w base e 1 A n c xs) (hs : a.eval s = .slice A n c) (b : Nat) (u : Value) (hx : a.eval x = .slice (some ⟨b, 0, none⟩) 1 1) (hc : w.cell? ⟨b, 0, none⟩ = some u) (h1 : u.oneCell' = true)
    (hn : n + 1 ≤ 1000000000) (hb : bytes ≤ 1000) (hbase : base ≤ w.heap.size)
    (h : ∀ A' c' w', Own0 w' base e 1 A' (n + 1) c' (xs ++ [u]) → ((n = 0 ∧ Below w.heap.size w w') ∨ (0 < n ∧ w.grownBy w' (Value.slice A n c).ownBlock)) → wpList P ops Q rest (a.put o.dst (.slice A' (n + 1) c')) w') : wpList P ops Q (o :: rest) a w :=
  wpList_plain hgd fun K hK => by
    obtain ⟨A', c', w', hrun, h2, h3⟩ := run_app0 (w := w) E o.type hown b u hc h1 hn hb hbase
    unfold Oper.wp execOp
    simp only [ho, resolve, invoke, builtin, Sem.run_bind, Sem.run_pure, Result.andThen_ok, List.map_toArray, List.map_cons, List.map_nil, hs, hx, hrun]
    exact hK _ _ (h A' c' w' h2 h3)
end

/-- A slice that reads as a list, as the cells it holds. -/
theorem Sl.cells {α : Type} {F : Nat → Prop} {k : Nat} {R : World → List Value → α → Prop} {w : World} {A : Option Addr} {n c B : Nat} {l : List α} (h : Sl F k R w (.slice A n c) l) (hF : ∀ b, F b → b < B) :
    ∃ cs : List (List Value), cs.length = l.length ∧ (∀ i (hi : i < l.length), ∃ x, cs[i]? = some x ∧ x.length = k ∧ R w x l[i]) ∧ Reads w B k A n cs.flatten := by
  obtain ⟨A', c', hv, hc, hl, hi⟩ := h
  injection hv with e1 e2 e3
  subst e1 e2 e3
  have hex : ∀ i, ∃ cs : List Value, ∀ (hi : i < l.length), ∃ ad, A = some ad ∧ F ad.block ∧ cs.length = k ∧ R w cs l[i] ∧ Flds w (ad.add (i * k)) cs := fun i => by
    by_cases hil : i < l.length
    · obtain ⟨ad, cs, r⟩ := hi i hil
      exact ⟨cs, fun _ => ⟨ad, r⟩⟩
    · exact ⟨[], fun h => absurd h hil⟩
  obtain ⟨f, hf⟩ := Classical.axiomOfChoice hex
  refine ⟨(List.range l.length).map f, by simp, fun i hi => ?_, ?_, fun hn => ?_⟩
  · obtain ⟨ad, _, _, h1, h2, _⟩ := hf i hi
    exact ⟨f i, by simp [hi], h1, h2⟩
  · have : ∀ n, n ≤ l.length → ((List.range n).map f).flatten.length = n * k := by
      intro n
      induction n with
      | zero => intro _; simp
      | succ n ih =>
        intro hn
        obtain ⟨ad, _, _, h1, _⟩ := hf n (by omega)
        rw [List.range_succ, List.map_append, List.flatten_append, List.length_append, ih (by omega)]
        simp [h1, Nat.succ_mul]
    exact this _ (Nat.le_refl _)
  · obtain ⟨ad, hA, hFa, _⟩ := hf 0 hn
    refine ⟨ad, hA, hF _ hFa, ?_⟩
    have : ∀ n, n ≤ l.length → ∀ j u, ((List.range n).map f).flatten[j]? = some u → w.cell? (ad.add j) = some u := by
      intro n
      induction n with
      | zero => intro _ j u h; simp at h
      | succ n ih =>
        intro hn j u h
        have hlen : ((List.range n).map f).flatten.length = n * k := by
          have : ∀ n, n ≤ l.length → ((List.range n).map f).flatten.length = n * k := by
            intro n
            induction n with
            | zero => intro _; simp
            | succ n ih =>
              intro hn
              obtain ⟨ad, _, _, h1, _⟩ := hf n (by omega)
              rw [List.range_succ, List.map_append, List.flatten_append, List.length_append, ih (by omega)]
              simp [h1, Nat.succ_mul]
          exact this n (by omega)
        rw [List.range_succ, List.map_append, List.flatten_append] at h
        rcases Nat.lt_or_ge j (n * k) with hlt | hge
        · rw [List.getElem?_append_left (by omega)] at h
          exact ih (by omega) j u h
        · rw [List.getElem?_append_right (by omega), hlen] at h
          obtain ⟨ad', hA', _, h1, _, h3⟩ := hf n (by omega)
          rw [hA] at hA'
          injection hA' with hA'
          subst hA'
          have := h3 (j - n * k) u (by simpa using h)
          rw [add_of_add] at this
          rwa [show n * k + (j - n * k) = j from by omega] at this
    exact this _ (Nat.le_refl _)
end Go.Proofs.YtiochodepgldpaaDoor
