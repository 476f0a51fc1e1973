/- Walks over coupler: the map of seen contacts; a row of contacts; an append within a round. -/
import Derived.Test.YtnkjhppjjklgfaaDoorKb
import Derived.DeepKeys3
import Derived.Maps.AppendAt
namespace Go.Proofs.YtnkjhppjjklgfaaDoor
open Go Go.RowKit
open Go.Maps (Keyed)
/-- A contact as a value. -/
def ctV (c : Cou.Ct) : Value := .agg #[.int .i64 c.1, .int .i64 c.2]
def CtC (_ : World) (cs : List Value) (c : Cou.Ct) : Prop := cs = [.int .i64 c.1, .int .i64 c.2]
abbrev SlCt (F : Nat → Prop) (w : World) (v : Value) (l : List Cou.Ct) : Prop := Sl F 2 CtC w v l
theorem ctV_inj {a b : Cou.Ct} (h : ctV a = ctV b) : a = b := by
  unfold ctV at h
  simp at h
  exact Prod.ext h.1 h.2
theorem keyKC : Keyed Tryd.prog 28 := Keyed.of_law (deep_law (m := 2) (by decide) (by kernel_rfl) (by kernel_rfl) (by kernel_rfl))
/-- Small numbers. -/
def CtS (c : Cou.Ct) : Prop := -1000 ≤ c.1 ∧ c.1 ≤ 1000 ∧ -1000 ≤ c.2 ∧ c.2 ≤ 1000
theorem wf_i64 {a : Int} (h : -1000 ≤ a ∧ a ≤ 1000) : (Lit.int .i64 a).wf = true := by
  have := wf_wrap .i64 a
  rwa [show IntKind.i64.wrap a = a by simp [IntKind.wrap, IntKind.bits, IntKind.signed]; omega] at this
theorem ctV_key {c : Cou.Ct} (hc : CtS c) : ∃ kl, keyOf Tryd.prog 28 (ctV c) = some kl := by
  have ht := Tryd.underlying28
  have hu : Tryd.prog.underlying 3 = some (.int .i64) := Tryd.underlying3
  have hc2 : Tryd.prog.cellsOf 28 = 2 := by kernel_rfl
  have hcu : Tryd.prog.cellsOf 3 = 1 := by kernel_rfl
  have hk : Tryd.prog.keyType 28 = true := by kernel_rfl
  have h1 : 1 ≤ Tryd.prog.types.size := of_decide_eq_true (by kernel_rfl)
  obtain ⟨d, hd⟩ : ∃ d, Tryd.prog.types.size = d + 1 := ⟨Tryd.prog.types.size - 1, by omega⟩
  have wa := wf_i64 ⟨hc.1, hc.2.1⟩
  have wb := wf_i64 hc.2.2
  have hfm : (ctV c).formed Tryd.prog 28 = true := by simp [ctV, Value.formed, ht, hc2]
  have hl : Tryd.prog.keyLits (Tryd.prog.types.size + 1) 28 (ctV c).cells.toList = some [.int .i64 c.1, .int .i64 c.2] := by
    rw [hd]
    unfold Program.keyLits
    simp only [ht, ctV, Value.cells, hc2]
    simp [Program.keyLits, hu, hcu, wa, wb]
  refine ⟨.string (keyBytes [.int .i64 c.1, .int .i64 c.2]), ?_⟩
  unfold keyOf
  rw [ht]
  simp only [hk, hfm, Bool.and_self, if_true, hl, Option.map_some]
/-- The map of the contacts that have been seen. -/
def SeenC (l : List Cou.Ct) (mb : Nat) (w : World) : Prop := ∃ es, MapAt w mb es ∧ (∀ p ∈ es, ∃ c ∈ l, p = (ctV c, .bool true)) ∧ ∀ c ∈ l, (ctV c, .bool true) ∈ es
theorem zeroBo (w : World) : (zeroValue 4).run Tryd.prog w = .ok (.bool false) w := by kernel_rfl
theorem seenC_look {l : List Cou.Ct} {mb : Nat} {w : World} (h : SeenC l mb w) (hl : ∀ c ∈ l, CtS c) (c : Cou.Ct) (hc : CtS c) :
    (Instr.lookup 119 (.map (some mb)) (ctV c) false).run Tryd.prog w = .ok (.bool (decide (c ∈ l))) w := by
  obtain ⟨es, h1, h2, h3⟩ := h
  have hk : ∀ p ∈ es, ∃ kl, keyOf Tryd.prog 28 p.1 = some kl := fun p hp => by
    obtain ⟨j, hj, rfl⟩ := h2 p hp
    exact ctV_key (hl j hj)
  obtain ⟨kl, hkl⟩ := ctV_key hc
  rcases run_lookup_at false keyKC Tryd.underlying119 (zeroBo w) h1 hk hkl with ⟨q, q2⟩ | ⟨v, hv, q⟩
  · have : decide (c ∈ l) = false := by
      rw [decide_eq_false_iff_not]
      intro hm
      exact absurd rfl (q2 _ (h3 c hm))
    rw [this]; exact q
  · obtain ⟨j, hj, e⟩ := h2 _ hv
    have e1 : c = j := ctV_inj (congrArg Prod.fst e)
    have e2 : v = .bool true := congrArg Prod.snd e
    subst e1
    rw [e2] at q
    rw [decide_eq_true hj]; exact q
theorem seenC_store {l : List Cou.Ct} {mb : Nat} {w : World} (h : SeenC l mb w) (hl : ∀ c ∈ l, CtS c) (c : Cou.Ct) (hc : CtS c) :
    ∃ w', (Instr.mapUpdate 119 (.map (some mb)) (ctV c) (.bool true)).run Tryd.prog w = .ok () w' ∧ SeenC (l ++ [c]) mb w' ∧ w.grownBy w' (some mb) := by
  obtain ⟨es, h1, h2, h3⟩ := h
  have hk : ∀ p ∈ es, ∃ kl, keyOf Tryd.prog 28 p.1 = some kl := fun p hp => by
    obtain ⟨j, hj, rfl⟩ := h2 p hp
    exact ctV_key (hl j hj)
  obtain ⟨kl, hkl⟩ := ctV_key hc
  obtain ⟨w', es', q1, q2, q3, q4, q5, q6⟩ := run_update_at keyKC Tryd.underlying119 h1 hk (val := .bool true) hkl
  refine ⟨w', q1, ⟨es', q2, fun p hp => ?_, fun j hj => ?_⟩, q3⟩
  · rcases q4 p hp with rfl | hp
    · exact ⟨c, by simp, rfl⟩
    · obtain ⟨j, hj, rfl⟩ := h2 p hp
      exact ⟨j, by simp [hj], rfl⟩
  · rcases List.mem_append.1 hj with hj | hj
    · obtain ⟨v, hv⟩ := q6 _ (h3 j hj)
      rcases q4 _ hv with e | hp
      · have e2 : v = .bool true := congrArg Prod.snd e
        rw [e2] at hv
        exact hv
      · obtain ⟨j', _, e⟩ := h2 _ hp
        have e2 : v = .bool true := congrArg Prod.snd e
        rw [e2] at hv
        exact hv
    · simp only [List.mem_singleton] at hj
      subst hj
      exact q5
theorem SeenC.lt {l : List Cou.Ct} {mb : Nat} {w : World} (h : SeenC l mb w) : mb < w.heap.size := by
  obtain ⟨es, h1, _⟩ := h
  exact h1.lt
theorem SeenC.of_block {l : List Cou.Ct} {mb : Nat} {w w' : World} (h : SeenC l mb w) (e : w'.heap[mb]? = w.heap[mb]?) : SeenC l mb w' := by
  obtain ⟨es, h1, h2⟩ := h
  exact ⟨es, h1.of_block e, h2⟩
theorem infoCt : (Tryd.prog.info? 28).map (fun i => (i.zero, i.size, i.bytes)) = some (some (.agg #[.int .i64 0, .int .i64 0]), 2, 16) := by kernel_rfl
theorem elemCt : ElemN Tryd.prog 36 28 2 16 := ⟨Tryd.underlying36, by
  obtain ⟨i, hi, hz, hs, hb⟩ := info_parts infoCt
  exact ⟨i, _, hi, hz, hs, hb, rfl⟩⟩
section
variable {F : Fence} {m : Nat} {P : Program} {ops : Array Oper} {rest : List Oper} {o : Oper} {a : Act} {Q : Exit → Act → World → Prop} {w : World}
/-- An append to a row of one's own, within a fence. -/
theorem wpListIn_appS {t e : TypeId} {k bytes : Nat} (E : ElemN P t e k bytes) (hk : 0 < k) (hgd : o.guard = none) (s x : Operand) (ho : o.op = .call { callee := .builtin .append, args := #[s, x], argTypes := #[t, t] })
    (base : Nat) (v : Value) (n : Nat) (xs : List Value) (hs : a.eval s = v) (hown : w.ownsRow base e k v n xs) (ad : Addr) (c : Nat) (news : List Value) (hx : a.eval x = .slice (some ad) 1 c)
    (hl : news.length = k) (hnews : Flds w ad news) (h1 : ∀ u ∈ news, u.oneCell' = true) (hn : n + 1 ≤ 1000000000) (hb : bytes ≤ 1000) (hbase : base ≤ w.heap.size)
    (h : ∀ g cap w', w'.ownsRow base e k (.slice (some ⟨g, 0, none⟩) (n + 1) cap) (n + 1) (xs ++ news) → w.grownBy w' v.ownBlock → (some g = v.ownBlock ∨ g = w.heap.size) → wpListIn F m P ops Q rest (a.put o.dst (.slice (some ⟨g, 0, none⟩) (n + 1) cap)) w') : wpListIn F m P ops Q (o :: rest) a w := by
  refine wpListIn_plain hgd fun K hK' => ?_
  obtain ⟨ht, i, z, hi, hz, hsz, hby, hzs⟩ := E
  obtain ⟨v', w', hrun, h2, h3, _, h5⟩ := run_append_own_at (P := P) w base t o.type e i z k bytes ht hi hz hsz hby hzs hk v n xs hown ad 1 c news (by omega) hnews h1
    (by unfold maxLen; omega) (by have : (n + 1) * bytes ≤ 1000000000 * 1000 := Nat.mul_le_mul hn hb
                                  omega) hbase
  obtain ⟨g, cap, rfl⟩ := own_lit h2
  unfold Oper.wpIn
  refine ⟨?_, ?_⟩
  · simp [Oper.about, ho, resolve, Target.leads, Sem.run_pure]
  · rw [Oper.semAt_plain F _ _ (by rw [ho]; intro c hc'; cases hc')]
    simp [execOp, ho, resolve, invoke, builtin, hs, hx, hrun, Result.andThen]
    exact hK' _ _ (h g cap w' h2 h3 (by simpa [Value.ownBlock] using h5))
end
/-- The state of the closure 'take': the action's box, the queue's box, the map, its box; the queue. -/
structure QSt (ab qb mb sb base : Nat) (vd vc : Value) (dr : Nat) (v : Value) (Q : List Cou.Ct) (w : World) : Prop where
  act : Blk w ab 34 #[vd, vc, .int .u64 dr]
  seen : Blk w sb 119 #[.map (some mb)]
  que : Blk w qb 36 #[v]
  own : OwnL base 28 2 CtC w v Q
  map : SeenC Q mb w
  big : base ≤ w.heap.size
/-- The blocks lie in order. -/
structure QOrd (ab qb mb sb base : Nat) : Prop where
  aq : ab < qb
  qm : qb < mb
  ms : mb < sb
  sb_ : sb < base
section
variable {ab qb mb sb base : Nat} {vd vc : Value} {dr : Nat} {v : Value} {Q : List Cou.Ct} {w w' : World}
theorem QSt.keep (h : QSt ab qb mb sb base vd vc dr v Q w) (hb : Below w.heap.size w w') : QSt ab qb mb sb base vd vc dr v Q w' :=
  ⟨h.act.below hb h.act.lt, h.seen.below hb h.seen.lt, h.que.below hb h.que.lt, h.own.keep rfl (fun _ hx => hx.kept (row := none) (only_of_below hb _) (by cases hv : v.ownBlock <;> simp)) fun _ _ hr => hr, h.map.of_block (hb.block _ h.map.lt), Nat.le_trans h.big hb.size⟩
theorem Blk.not_turned {b : Nat} {t : TypeId} {cs : Array Value} {row : Option Nat} (h : Blk w b t cs) (hr : ∀ r, row = some r → ∃ o : Obj, w.heap[r]? = some o ∧ o.isCells = false) : some b ≠ row := fun e => by
  obtain ⟨o, ho, hc⟩ := hr b e.symm
  have h2 : w.heap[b]? = some (.cells cs t (0, 0)) := h
  rw [h2] at ho
  injection ho with ho
  subst ho
  cases hc
/-- A turn of a block that is no cells, and lies beyond the map. -/
theorem QSt.turn {row : Option Nat} (h : QSt ab qb mb sb base vd vc dr v Q w) (hg : w.grownBy w' row) (hr : ∀ r, row = some r → mb < r ∧ ∃ o : Obj, w.heap[r]? = some o ∧ o.isCells = false) : QSt ab qb mb sb base vd vc dr v Q w' := by
  have hr' : ∀ r, row = some r → ∃ o : Obj, w.heap[r]? = some o ∧ o.isCells = false := fun r e => (hr r e).2
  refine ⟨h.act.grown hg (h.act.not_turned hr'), h.seen.grown hg (h.seen.not_turned hr'), h.que.grown hg (h.que.not_turned hr'), h.own.keep rfl (fun xs hx => hx.kept hg ?_) fun _ _ hr => hr, h.map.of_block (hg.block _ h.map.lt fun e => ?_), Nat.le_trans h.big hg.size⟩
  · cases hv : v.ownBlock with
    | none => exact .inl rfl
    | some g =>
      refine .inr fun e => ?_
      rcases hx.2 with ⟨q, _⟩ | ⟨g', cap, cur, hv2, _, hh, _⟩
      · rw [q] at hv; cases hv
      · rw [hv2] at hv
        injection hv with hv
        subst hv
        obtain ⟨o, ho, hc⟩ := hr' _ e.symm
        rw [hh] at ho
        injection ho with ho
        subst ho
        cases hc
  · have := (hr mb e.symm).1; omega
end
end Go.Proofs.YtnkjhppjjklgfaaDoor
