/- Appends of one element to a row of the call's own, program-free. -/
import Derived.Test.YtiochodepgldpaaDoorMem
namespace Go.Proofs.YtiochodepgldpaaDoor
open Go Go.RowKit

/-- An element type of one cell. -/
structure Elem1 (P : Program) (t e : TypeId) (bytes : Nat) : Prop where
  ht : P.underlying t = some (.slice e)
  hi : ∃ i z, P.info? e = some i ∧ i.zero = some z ∧ i.size = 1 ∧ i.bytes = bytes ∧ z.cells.size = 1
/-- An element type of k cells. -/
structure ElemN (P : Program) (t e : TypeId) (k bytes : Nat) : Prop where
  ht : P.underlying t = some (.slice e)
  hi : ∃ i z, P.info? e = some i ∧ i.zero = some z ∧ i.size = k ∧ i.bytes = bytes ∧ z.cells.size = k

section
variable {P : Program} {w : World} {ops : Array Oper} {rest : List Oper} {o : Oper} {a : Act} {Q : Exit → Act → World → Prop}

/-- 'out = append(out, y)', y's cells at a new block: the row has one element more. -/
theorem wpList_app {t e : TypeId} {k bytes : Nat} (E : ElemN P t e k bytes) (hk : 0 < k) (hgd : o.guard = none) (s x : Operand) (ho : o.op = .call { callee := .builtin .append, args := #[s, x], argTypes := #[t, t] })
    (base : Nat) (v : Value) (n : Nat) (xs : List Value) (hs : a.eval s = v) (hown : w.ownsRow base e k v n xs) (ad : Addr) (c : Nat) (news : List Value) (hx : a.eval x = .slice (some ad) 1 c)
    (hl : news.length = k) (hnews : Flds w ad news) (h1 : ∀ u ∈ news, u.oneCell' = true) (hn : n + 1 ≤ 1000000000) (hb : bytes ≤ 1000) (hbase : base ≤ w.heap.size)
    (h : ∀ v' w', w'.ownsRow base e k v' (n + 1) (xs ++ news) → w.grownBy w' v.ownBlock → (v'.ownBlock = v.ownBlock ∨ v'.ownBlock = some w.heap.size) → wpList P ops Q rest (a.put o.dst v') w') : wpList P ops Q (o :: rest) a w := by
  obtain ⟨ht, i, z, hi, hz, hsz, hby, hzs⟩ := E
  refine wpList_plain hgd fun K hK => ?_
  obtain ⟨v', w', hrun, h2, h3, _, h5⟩ := run_append_own_at (P := P) w base t o.type e i z k bytes ht hi hz hsz hby hzs hk v n xs hown ad 1 c news (by omega) hnews h1
    (by unfold maxLen; omega) (by have : (n + 1) * bytes ≤ 1000000000 * 1000 := Nat.mul_le_mul hn hb
                                  omega) hbase
  unfold Oper.wp execOp
  simp only [ho, resolve, invoke, builtin, Sem.run_bind, Sem.run_pure, Result.andThen_ok, List.map_toArray, List.map_cons, List.map_nil, hs, hx, hrun]
  exact hK _ _ (h v' w' h2 h3 h5)

theorem step_app {K : Act → World → Prop} {E' : Prop} {t e : TypeId} {k bytes : Nat} (E : ElemN P t e k bytes) (hk : 0 < k) (hgd : o.guard = none) (s x : Operand) (ho : o.op = .call { callee := .builtin .append, args := #[s, x], argTypes := #[t, t] })
    (base : Nat) (v : Value) (n : Nat) (xs : List Value) (hs : a.eval s = v) (hown : w.ownsRow base e k v n xs) (ad : Addr) (c : Nat) (news : List Value) (hx : a.eval x = .slice (some ad) 1 c)
    (hl : news.length = k) (hnews : Flds w ad news) (h1 : ∀ u ∈ news, u.oneCell' = true) (hn : n + 1 ≤ 1000000000) (hb : bytes ≤ 1000) (hbase : base ≤ w.heap.size)
    (h : ∀ v' w', w'.ownsRow base e k v' (n + 1) (xs ++ news) → w.grownBy w' v.ownBlock → (v'.ownBlock = v.ownBlock ∨ v'.ownBlock = some w.heap.size) → K (a.put o.dst v') w') :
    if Region.wanted o (yielded ops a.tmps) = true then Oper.wp P o a w K Q else E' := by
  obtain ⟨ht, i, z, hi, hz, hsz, hby, hzs⟩ := E
  rw [if_pos (by simp [Region.wanted, hgd])]
  obtain ⟨v', w', hrun, h2, h3, _, h5⟩ := run_append_own_at (P := P) w base t o.type e i z k bytes ht hi hz hsz hby hzs hk v n xs hown ad 1 c news (by omega) hnews h1
    (by unfold maxLen; omega) (by have : (n + 1) * bytes ≤ 1000000000 * 1000 := Nat.mul_le_mul hn hb
                                  omega) hbase
  unfold Oper.wp execOp
  simp only [ho, resolve, invoke, builtin, Sem.run_bind, Sem.run_pure, Result.andThen_ok, List.map_toArray, List.map_cons, List.map_nil, hs, hx, hrun]
  exact h v' w' h2 h3 h5

theorem Flds.one {w : World} {b : Nat} {u : Value} (h : w.cell? ⟨b, 0, none⟩ = some u) : Flds w ⟨b, 0, none⟩ [u] := fun j x hx => by
  cases j with
  | zero => simp at hx; subst hx; simpa [Addr.add] using h
  | succ j => simp at hx

/-- The same, the new slice written out. -/
theorem own_lit {w : World} {base : Nat} {e : TypeId} {k n : Nat} {v : Value} {xs : List Value} (h : w.ownsRow base e k v (n + 1) xs) : ∃ g cap, v = .slice (some ⟨g, 0, none⟩) (n + 1) cap := by
  obtain ⟨g, cap, hv, _⟩ := h.form (by omega)
  exact ⟨g, cap, hv⟩
theorem wpList_appS {t e : TypeId} {k bytes : Nat} (E : ElemN P t e k bytes) (hk : 0 < k) (hgd : o.guard = none) (s x : Operand) (ho : o.op = .call { callee := .builtin .append, args := #[s, x], argTypes := #[t, t] })
    (base : Nat) (v : Value) (n : Nat) (xs : List Value) (hs : a.eval s = v) (hown : w.ownsRow base e k v n xs) (ad : Addr) (c : Nat) (news : List Value) (hx : a.eval x = .slice (some ad) 1 c)
    (hl : news.length = k) (hnews : Flds w ad news) (h1 : ∀ u ∈ news, u.oneCell' = true) (hn : n + 1 ≤ 1000000000) (hb : bytes ≤ 1000) (hbase : base ≤ w.heap.size)
    (h : ∀ g cap w', w'.ownsRow base e k (.slice (some ⟨g, 0, none⟩) (n + 1) cap) (n + 1) (xs ++ news) → w.grownBy w' v.ownBlock → (some g = v.ownBlock ∨ g = w.heap.size) → wpList P ops Q rest (a.put o.dst (.slice (some ⟨g, 0, none⟩) (n + 1) cap)) w') : wpList P ops Q (o :: rest) a w :=
  wpList_app E hk hgd s x ho base v n xs hs hown ad c news hx hl hnews h1 hn hb hbase fun v' w' q1 q2 q3 => by
    obtain ⟨g, cap, rfl⟩ := own_lit q1
    exact h g cap w' q1 q2 (by simpa [Value.ownBlock] using q3)
theorem step_appS {K : Act → World → Prop} {E' : Prop} {t e : TypeId} {k bytes : Nat} (E : ElemN P t e k bytes) (hk : 0 < k) (hgd : o.guard = none) (s x : Operand) (ho : o.op = .call { callee := .builtin .append, args := #[s, x], argTypes := #[t, t] })
    (base : Nat) (v : Value) (n : Nat) (xs : List Value) (hs : a.eval s = v) (hown : w.ownsRow base e k v n xs) (ad : Addr) (c : Nat) (news : List Value) (hx : a.eval x = .slice (some ad) 1 c)
    (hl : news.length = k) (hnews : Flds w ad news) (h1 : ∀ u ∈ news, u.oneCell' = true) (hn : n + 1 ≤ 1000000000) (hb : bytes ≤ 1000) (hbase : base ≤ w.heap.size)
    (h : ∀ g cap w', w'.ownsRow base e k (.slice (some ⟨g, 0, none⟩) (n + 1) cap) (n + 1) (xs ++ news) → w.grownBy w' v.ownBlock → (some g = v.ownBlock ∨ g = w.heap.size) → K (a.put o.dst (.slice (some ⟨g, 0, none⟩) (n + 1) cap)) w') :
    if Region.wanted o (yielded ops a.tmps) = true then Oper.wp P o a w K Q else E' :=
  step_app E hk hgd s x ho base v n xs hs hown ad c news hx hl hnews h1 hn hb hbase fun v' w' q1 q2 q3 => by
    obtain ⟨g, cap, rfl⟩ := own_lit q1
    exact h g cap w' q1 q2 (by simpa [Value.ownBlock] using q3)

theorem Flds.of_list {w : World} {b : Nat} {us : List Value} (h : ∀ j (hj : j < us.length), w.cell? ⟨b, j, none⟩ = some us[j]) : Flds w ⟨b, 0, none⟩ us := fun j x hx => by
  obtain ⟨hj, rfl⟩ := List.getElem?_eq_some_iff.1 hx
  have : (⟨b, 0, none⟩ : Addr).add j = ⟨b, j, none⟩ := by unfold Addr.add; split <;> simp_all
  rw [this]; exact h j hj
/-- The cells of a block just made. -/
theorem Flds.new (w : World) (us : List Value) (e : TypeId) : Flds (w.alloc (.cells us.toArray e)) ⟨w.heap.size, 0, none⟩ us := Flds.of_list fun j hj => by
  rw [(Blk.new w e us.toArray).cell j]; simp [hj]
/-- The same for an element of one cell. -/
theorem wpList_app1 {t e : TypeId} {bytes : Nat} (E : ElemN P t e 1 bytes) (hgd : o.guard = none) (s x : Operand) (ho : o.op = .call { callee := .builtin .append, args := #[s, x], argTypes := #[t, t] })
    (base : Nat) (v : Value) (n : Nat) (xs : List Value) (hs : a.eval s = v) (hown : w.ownsRow base e 1 v n xs) (b : Nat) (u : Value) (hx : a.eval x = .slice (some ⟨b, 0, none⟩) 1 1)
    (hc : w.cell? ⟨b, 0, none⟩ = some u) (h1 : u.oneCell' = true) (hn : n + 1 ≤ 1000000000) (hb : bytes ≤ 1000) (hbase : base ≤ w.heap.size)
    (h : ∀ v' w', w'.ownsRow base e 1 v' (n + 1) (xs ++ [u]) → w.grownBy w' v.ownBlock → (v'.ownBlock = v.ownBlock ∨ v'.ownBlock = some w.heap.size) → wpList P ops Q rest (a.put o.dst v') w') : wpList P ops Q (o :: rest) a w :=
  wpList_app E (by omega) hgd s x ho base v n xs hs hown ⟨b, 0, none⟩ 1 [u] hx rfl (Flds.one hc) (by simpa using h1) hn hb hbase h
end

theorem Bg {a b c : World} {base : Nat} {e : TypeId} {k n : Nat} {v : Value} {xs : List Value} (h : Below a.heap.size a b) (hown : b.ownsRow base e k v n xs) (hbase : a.heap.size ≤ base) (hg : b.grownBy c v.ownBlock) : Below a.heap.size a c :=
  h.grown hg h.size fun k hk => Nat.le_trans hbase (hown.lt k hk).1

/-- A row of the call's own whose elements read as a list. -/
def OwnL {α : Type} (base : Nat) (e : TypeId) (k : Nat) (R : World → List Value → α → Prop) (w : World) (v : Value) (l : List α) : Prop :=
  ∃ cs : List (List Value), cs.length = l.length ∧ (∀ i (h : i < l.length), ∃ c, cs[i]? = some c ∧ c.length = k ∧ R w c l[i]) ∧ w.ownsRow base e k v l.length cs.flatten
section
variable {α : Type} {base : Nat} {e : TypeId} {k : Nat} {R R' : World → List Value → α → Prop} {w w' : World} {v v' : Value} {l : List α}
theorem OwnL.nil : OwnL base e k R w (.slice none 0 0) ([] : List α) := ⟨[], rfl, fun i h => absurd h (by simp), World.ownsRow_nil _ _ _ _⟩
theorem OwnL.keep (h : OwnL base e k R w v l) (_ : w.ownsRow base e k v l.length = w.ownsRow base e k v l.length) (hw : ∀ xs, w.ownsRow base e k v l.length xs → w'.ownsRow base e k v l.length xs) (hR : ∀ c x, R w c x → R' w' c x) : OwnL base e k R' w' v l := by
  obtain ⟨cs, h1, h2, h3⟩ := h
  exact ⟨cs, h1, fun i hi => by obtain ⟨c, a, b, d⟩ := h2 i hi; exact ⟨c, a, b, hR _ _ d⟩, hw _ h3⟩
theorem OwnL.alloc (h : OwnL base e k R w v l) (o : Obj) (hR : ∀ c x, R w c x → R' (w.alloc o) c x) : OwnL base e k R' (w.alloc o) v l := h.keep rfl (fun _ h => h.alloc o) hR
theorem OwnL.snoc {cs : List (List Value)} {c : List Value} {x : α} (h1 : cs.length = l.length) (h2 : ∀ i (h : i < l.length), ∃ c, cs[i]? = some c ∧ c.length = k ∧ R w c l[i]) (hc : c.length = k)
    (hx : R' w' c x) (hR : ∀ c x, R w c x → R' w' c x) (h3 : w'.ownsRow base e k v' (l.length + 1) (cs.flatten ++ c)) : OwnL base e k R' w' v' (l ++ [x]) := by
  refine ⟨cs ++ [c], by simp [h1], fun i hi => ?_, by simpa using h3⟩
  rcases Nat.lt_or_ge i l.length with hlt | hge
  · obtain ⟨d, a, b, r⟩ := h2 i hlt
    refine ⟨d, by rw [List.getElem?_append_left (by omega)]; exact a, b, ?_⟩
    rw [List.getElem_append_left hlt]; exact hR _ _ r
  · have : i = l.length := by simp at hi; omega
    subst this
    refine ⟨c, by rw [← h1, List.getElem?_concat_length], hc, ?_⟩
    simpa using hx
theorem OwnL.sl {F : Nat → Prop} (h : OwnL base e k R w v l) (hl : l.length ≤ 140737488355328) (hF : ∀ b, base ≤ b → b < w.heap.size → v.ownBlock = some b → F b) : Sl F k R w v l := by
  obtain ⟨cs, h1, h2, h3⟩ := h
  exact Sl.of_own h3 rfl hl rfl h1 h2 hF
theorem OwnL.lt (h : OwnL base e k R w v l) : ∀ b, v.ownBlock = some b → base ≤ b ∧ b < w.heap.size := by
  obtain ⟨cs, h1, h2, h3⟩ := h
  exact h3.lt
end

/-- A made row of zeros. -/
theorem madeCells_one (z : Value) (n : Nat) : madeCells #[z] n = (List.replicate n z).toArray := by
  unfold madeCells
  apply Array.ext
  · simp
  · intro i h1 h2
    simp [Nat.mod_one]

/-- 'make([]T, n)', T of one cell. -/
theorem run_make1 {P : Program} {t e : TypeId} {z : Value} {bytes : Nat} (ht : P.underlying t = some (.slice e)) (hinfo : (P.info? e).map (fun i => (i.zero, i.size, i.bytes)) = some (some z, 1, bytes)) (hz : z.cells = #[z])
    (cs : Array Value) (n : Nat) (hcs : cs = (List.replicate n z).toArray) (hn : n ≤ 1000000000) (hb : bytes ≤ 1000) (W : World) :
    (Instr.makeSlice t (.int .i64 (n : Int)) (.int .i64 (n : Int))).run P W = .ok (.slice (some ⟨W.heap.size, 0, none⟩) n n) (W.alloc (.cells cs e)) := by
  obtain ⟨i, hi, h1, h2, h3⟩ := info_parts hinfo
  have := run_make_rowN t e i z ht hi h1 .i64 .i64 n n (Nat.le_refl _) (by rw [h3]; have : bytes * n ≤ 1000 * 1000000000 := Nat.mul_le_mul hb hn
                                                                           omega) (by omega) W
  rw [this, hz, h2, Nat.mul_one, madeCells_one, ← hcs]
end Go.Proofs.YtiochodepgldpaaDoor
