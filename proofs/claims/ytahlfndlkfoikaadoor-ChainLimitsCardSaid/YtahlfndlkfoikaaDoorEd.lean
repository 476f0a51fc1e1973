/- Words for chains in memory: rows of links and of chains whose parts lie in blocks of ints and contacts; an append to a full slice. -/
import Derived.Test.YtahlfndlkfoikaaDoorEp
import Derived.Test.YtahlfndlkfoikaaDoorKa
import Derived.Test.YtahlfndlkfoikaaDoorKy
namespace Go.Proofs.YtahlfndlkfoikaaDoor
open Go Go.RowKit
section
variable {P : Program} {w : World}
/-- 'append(x[:n:n], y)': the row has a block of its own. -/
theorem run_append_full {t e : TypeId} {k bytes : Nat} (E : ElemN P t e k bytes) (hk : 0 < k) (ty : TypeId) (A : Option Addr) (n B : Nat) (xs : List Value) (hr : Reads w B k A n xs) (g : Nat) (news : List Value) (hl : news.length = k) (hnews : Flds w ⟨g, 0, none⟩ news) (h1 : ∀ u ∈ news, u.oneCell' = true)
    (hn : n + 1 ≤ 1000000000) (hb : bytes ≤ 1000) :
    ∃ c' w', (Builtin.append_ #[t, t] ty #[.slice A n n, .slice (some ⟨g, 0, none⟩) 1 1]).run P w = .ok (.slice (some ⟨w.heap.size, 0, none⟩) (n + 1) c') w' ∧ Below w.heap.size w w' ∧ w'.ownsRow w.heap.size e k (.slice (some ⟨w.heap.size, 0, none⟩) (n + 1) c') (n + 1) (xs ++ news) := by
  obtain ⟨ht, i, z, hi, hz, hsz, hby, hzs⟩ := E
  have hmb : (n + 1) * bytes ≤ 1000000000 * 1000 := Nat.mul_le_mul hn hb
  cases A with
  | none =>
    have hn0 : n = 0 := by
      rcases Nat.eq_zero_or_pos n with h | h
      · exact h
      · obtain ⟨ad, h, _⟩ := hr.2 h; cases h
    subst hn0
    have hxs : xs = [] := List.eq_nil_of_length_eq_zero (by simpa using hr.1)
    subst hxs
    obtain ⟨v', w', hrun, h2, h3, _, h5⟩ := run_append_own_at (P := P) w w.heap.size t ty e i z k bytes ht hi hz hsz hby hzs hk (.slice none 0 0) 0 [] (World.ownsRow_nil _ _ _ _) ⟨g, 0, none⟩ 1 1 news (by omega) hnews h1
      (by unfold maxLen; omega) (by omega) (Nat.le_refl _)
    obtain ⟨g', cap, rfl⟩ := own_lit h2
    have hg : g' = w.heap.size := by
      rcases h5 with h5 | h5
      · simp [Value.ownBlock] at h5
      · simpa [Value.ownBlock] using h5
    subst hg
    exact ⟨cap, w', hrun, (Below.refl _ _).grown h3 (Nat.le_refl _) (fun b h => by simp [Value.ownBlock] at h), h2⟩
  | some b =>
    have holds : ∀ j u, xs[j]? = some u → w.cell? (b.add j) = some u := by
      rcases Nat.eq_zero_or_pos n with h | h
      · subst h
        have hxs : xs = [] := List.eq_nil_of_length_eq_zero (by simpa using hr.1)
        subst hxs
        intro j u hu; simp at hu
      · obtain ⟨ad, h, _, hc⟩ := hr.2 h
        injection h with h
        subst h
        exact hc
    subst hsz
    subst hby
    have hrun := run_append_grow (P := P) w t ty e i z ht hi hz b n n xs hr.1 holds ⟨g, 0, none⟩ 1 1 news (by omega) hnews (by omega) (by omega) (growslice_fits (by omega) (by omega))
    refine ⟨_, _, hrun, (B0 w).drew.alloc (by simp) _, ⟨by rw [List.length_append, hr.1, hl, Nat.succ_mul], .inr ⟨w.heap.size, _, _, rfl, Nat.le_refl _, heap_alloc_new w.drew _, grownCap_ge w (n + 1) n e, grownCap_le_maxLen w (n + 1) n e (by unfold maxLen; omega), ?_, ?_⟩⟩⟩
    · have hge := grownCap_ge w (n + 1) n e
      simp only [Array.size_append, List.size_toArray, size_zeroCells, hzs, hr.1, hl]
      rw [← Nat.succ_mul, ← Nat.add_mul]
      congr 1
      omega
    · simp only [Array.toList_append, List.append_assoc]
      rw [← List.append_assoc, show (n + 1) * i.size = (xs ++ news).length by rw [List.length_append, hr.1, hl, Nat.succ_mul]]
      exact List.take_left
end
/-- A block of ints or of contacts. -/
def IsC (w : World) (b : Nat) : Prop := ∃ cs, Blk w b 3 cs ∨ Blk w b 36 cs
section
variable {w w' : World} {b : Nat} {row : Option Nat}
theorem IsC.lt (h : IsC w b) : b < w.heap.size := by
  obtain ⟨cs, h | h⟩ := h
  · exact h.lt
  · exact h.lt
theorem IsC.grown (h : IsC w b) (hg : w.grownBy w' row) (hr : some b ≠ row) : IsC w' b := by
  obtain ⟨cs, h | h⟩ := h
  · exact ⟨cs, .inl (h.grown hg hr)⟩
  · exact ⟨cs, .inr (h.grown hg hr)⟩
theorem IsC.below (h : IsC w b) (hb : Below w.heap.size w w') : IsC w' b := h.grown (only_of_below hb none) (by simp)
end
/-- The cells of a link; of a chain. -/
def LinkC (w : World) (cs : List Value) (x : Cha.Lk) : Prop := ∃ u v, cs = [u, v] ∧ SlI (IsC w) w u x.1 ∧ SlCt (IsC w) w v x.2
def ChC (w : World) (cs : List Value) (x : Cha.Ch) : Prop := ∃ u, cs = [u, .int .i64 x.2.1, .int .i64 x.2.2] ∧ SlI (IsC w) w u x.1
section
variable {w w' : World} {row : Option Nat}
theorem LinkC.grown {cs : List Value} {x : Cha.Lk} (h : LinkC w cs x) (hg : w.grownBy w' row) (hr : ∀ b, IsC w b → some b ≠ row) : LinkC w' cs x := by
  obtain ⟨u, v, e, h1, h2⟩ := h
  have hA : Agree (IsC w) w w' := Agree.grown hg fun b hb => ⟨hb.lt, hr b hb⟩
  exact ⟨u, v, e, (SlI.keep h1 hA).mono fun b hb => hb.grown hg (hr b hb), (SlCt.keep h2 hA).mono fun b hb => hb.grown hg (hr b hb)⟩
theorem LinkC.below {cs : List Value} {x : Cha.Lk} (h : LinkC w cs x) (hb : Below w.heap.size w w') : LinkC w' cs x := h.grown (only_of_below hb none) (by simp)
theorem ChC.grown {cs : List Value} {x : Cha.Ch} (h : ChC w cs x) (hg : w.grownBy w' row) (hr : ∀ b, IsC w b → some b ≠ row) : ChC w' cs x := by
  obtain ⟨u, e, h1⟩ := h
  have hA : Agree (IsC w) w w' := Agree.grown hg fun b hb => ⟨hb.lt, hr b hb⟩
  exact ⟨u, e, (SlI.keep h1 hA).mono fun b hb => hb.grown hg (hr b hb)⟩
theorem ChC.below {cs : List Value} {x : Cha.Ch} (h : ChC w cs x) (hb : Below w.heap.size w w') : ChC w' cs x := h.grown (only_of_below hb none) (by simp)
/-- A row of another type is no such block. -/
theorem isC_own {base : Nat} {e : TypeId} {k n : Nat} {v : Value} {xs : List Value} (h : w.ownsRow base e k v n xs) (h1 : e ≠ 3) (h2 : e ≠ 36) : ∀ b, IsC w b → some b ≠ v.ownBlock := by
  rintro b ⟨cs, hb | hb⟩ he
  · exact own_blk_ne h hb h1 he.symm
  · exact own_blk_ne h hb h2 he.symm
theorem isC_of_own {base : Nat} {e : TypeId} {k n : Nat} {g m c : Nat} {xs : List Value} (h : w.ownsRow base e k (.slice (some ⟨g, 0, none⟩) m c) n xs) (he : e = 3 ∨ e = 36) : IsC w g := by
  rcases h.2 with ⟨q, _⟩ | ⟨g', cap, cur, q, _, hh, _⟩
  · cases q
  · injection q with q
    injection q with q
    injection q with q
    subst q
    rcases he with rfl | rfl
    · exact ⟨cur, .inl hh⟩
    · exact ⟨cur, .inr hh⟩
end
/-- A row of links, of chains. -/
abbrev OwnLk (base : Nat) (w : World) (v : Value) (q : List Cha.Lk) : Prop := OwnL base 109 2 LinkC w v q
abbrev OwnCh (base : Nat) (w : World) (v : Value) (q : List Cha.Ch) : Prop := OwnL base 56 3 ChC w v q
section
variable {w w' : World} {base : Nat} {v : Value}
theorem OwnLk.below {q : List Cha.Lk} (h : OwnLk base w v q) (hb : Below w.heap.size w w') : OwnLk base w' v q :=
  OwnL.keep h rfl (fun _ hx => hx.kept (row := none) (only_of_below hb none) (by cases hv : v.ownBlock <;> simp)) fun _ _ hr => hr.below hb
theorem OwnCh.below {q : List Cha.Ch} (h : OwnCh base w v q) (hb : Below w.heap.size w w') : OwnCh base w' v q :=
  OwnL.keep h rfl (fun _ hx => hx.kept (row := none) (only_of_below hb none) (by cases hv : v.ownBlock <;> simp)) fun _ _ hr => hr.below hb
end
theorem OwnLk.more {base base' : Nat} {w : World} {v : Value} {q : List Cha.Lk} (h : OwnLk base w v q) (hb : base' ≤ base) : OwnLk base' w v q := by
  obtain ⟨cs, h1, h2, h3⟩ := h
  exact ⟨cs, h1, h2, own_more h3 hb⟩
theorem OwnCh.more {base base' : Nat} {w : World} {v : Value} {q : List Cha.Ch} (h : OwnCh base w v q) (hb : base' ≤ base) : OwnCh base' w v q := by
  obtain ⟨cs, h1, h2, h3⟩ := h
  exact ⟨cs, h1, h2, own_more h3 hb⟩
theorem infoLk : (Tryd.prog.info? 109).map (fun i => (i.zero, i.size, i.bytes)) = some (some (.agg #[.slice none 0 0, .slice none 0 0]), 2, 48) := by kernel_rfl
theorem elemLk : ElemN Tryd.prog 105 109 2 48 := ⟨Tryd.underlying105, by
  obtain ⟨i, hi, hz, hs, hb⟩ := info_parts infoLk
  exact ⟨i, _, hi, hz, hs, hb, rfl⟩⟩
theorem infoCh : (Tryd.prog.info? 56).map (fun i => (i.zero, i.size, i.bytes)) = some (some (.agg #[.slice none 0 0, .int .i64 0, .int .i64 0]), 3, 40) := by kernel_rfl
theorem elemCh : ElemN Tryd.prog 67 56 3 40 := ⟨Tryd.underlying67, by
  obtain ⟨i, hi, hz, hs, hb⟩ := info_parts infoCh
  exact ⟨i, _, hi, hz, hs, hb, rfl⟩⟩
theorem infoIn : (Tryd.prog.info? 3).map (fun i => (i.zero, i.size, i.bytes)) = some (some (.int .i64 0), 1, 8) := by kernel_rfl
theorem elemIn : ElemN Tryd.prog 27 3 1 8 := ⟨Tryd.underlying27, by
  obtain ⟨i, hi, hz, hs, hb⟩ := info_parts infoIn
  exact ⟨i, _, hi, hz, hs, hb, rfl⟩⟩
/-- The cells of ints, of contacts. -/
def inCs (l : List Int) : List Value := l.map (Value.int .i64)
def ctCsL : List Cou.Ct → List Value
  | [] => []
  | c :: l => .int .i64 c.1 :: .int .i64 c.2 :: ctCsL l
theorem ctCsL_app : ∀ (l m : List Cou.Ct), ctCsL (l ++ m) = ctCsL l ++ ctCsL m
  | [], _ => rfl
  | c :: l, m => by simp [ctCsL, ctCsL_app l m]
theorem flat_in : ∀ (cs : List (List Value)) (l : List Int), cs.length = l.length → (∀ i (hi : i < l.length), ∃ x, cs[i]? = some x ∧ x = [.int .i64 l[i]]) → cs.flatten = inCs l
  | [], [], _, _ => rfl
  | [], _ :: _, h, _ => by cases h
  | _ :: _, [], h, _ => by cases h
  | c :: cs, x :: l, h, hr => by
    obtain ⟨y, h1, h2⟩ := hr 0 (by simp)
    injection h1 with h1
    subst h1
    have := flat_in cs l (by simpa using h) fun i hi => by
      obtain ⟨y, q1, q2⟩ := hr (i + 1) (by simpa using hi)
      exact ⟨y, by simpa using q1, by simpa using q2⟩
    simp [List.flatten_cons, this, h2, inCs]
theorem flat_ct : ∀ (cs : List (List Value)) (l : List Cou.Ct), cs.length = l.length → (∀ i (hi : i < l.length), ∃ x, cs[i]? = some x ∧ x = [.int .i64 l[i].1, .int .i64 l[i].2]) → cs.flatten = ctCsL l
  | [], [], _, _ => rfl
  | [], _ :: _, h, _ => by cases h
  | _ :: _, [], h, _ => by cases h
  | c :: cs, x :: l, h, hr => by
    obtain ⟨y, h1, h2⟩ := hr 0 (by simp)
    injection h1 with h1
    subst h1
    have := flat_ct cs l (by simpa using h) fun i hi => by
      obtain ⟨y, q1, q2⟩ := hr (i + 1) (by simpa using hi)
      exact ⟨y, by simpa using q1, by simpa using q2⟩
    simp [List.flatten_cons, this, h2, ctCsL]
theorem SlI.reads {F : Nat → Prop} {w : World} {A : Option Addr} {n c B : Nat} {l : List Int} (h : SlI F w (.slice A n c) l) (hF : ∀ b, F b → b < B) : Reads w B 1 A n (inCs l) := by
  obtain ⟨cs, h1, h2, h3⟩ := Sl.cells h hF
  rwa [flat_in cs l h1 fun i hi => by obtain ⟨x, q1, _, q3⟩ := h2 i hi; exact ⟨x, q1, q3⟩] at h3
theorem SlCt.reads {F : Nat → Prop} {w : World} {A : Option Addr} {n c B : Nat} {l : List Cou.Ct} (h : SlCt F w (.slice A n c) l) (hF : ∀ b, F b → b < B) : Reads w B 2 A n (ctCsL l) := by
  obtain ⟨cs, h1, h2, h3⟩ := Sl.cells h hF
  rwa [flat_ct cs l h1 fun i hi => by obtain ⟨x, q1, _, q3⟩ := h2 i hi; exact ⟨x, q1, q3⟩] at h3
/-- A row of one's own that has the cells of ints, of contacts, reads as these. -/
theorem slI_own {w : World} {base : Nat} {v : Value} {l : List Int} (h : w.ownsRow base 3 1 v l.length (inCs l)) (hl : l.length ≤ 140737488355328) : SlI (IsC w) w v l := by
  refine Sl.of_own (cs := l.map fun x => [.int .i64 x]) h rfl hl ?_ (by simp) (fun i hi => ⟨[.int .i64 l[i]], by simp [hi], rfl, rfl⟩) fun b _ _ hv => ?_
  · clear h hl
    induction l with
    | nil => rfl
    | cons x l ih => simpa [inCs] using ih
  · rcases h.2 with ⟨q, _⟩ | ⟨g, cap, cur, q, _, hh, _⟩
    · rw [q] at hv; simp [Value.ownBlock] at hv
    · rw [q] at hv
      have : g = b := by simpa [Value.ownBlock] using hv
      subst this
      exact ⟨cur, .inl hh⟩
theorem slCt_own {w : World} {base : Nat} {v : Value} {l : List Cou.Ct} (h : w.ownsRow base 36 2 v l.length (ctCsL l)) (hl : l.length ≤ 140737488355328) : SlCt (IsC w) w v l := by
  refine Sl.of_own (cs := l.map fun x => [.int .i64 x.1, .int .i64 x.2]) h rfl hl ?_ (by simp) (fun i hi => ⟨[.int .i64 l[i].1, .int .i64 l[i].2], by simp [hi], rfl, rfl⟩) fun b _ _ hv => ?_
  · clear h hl
    induction l with
    | nil => rfl
    | cons x l ih => simpa [ctCsL] using ih
  · rcases h.2 with ⟨q, _⟩ | ⟨g, cap, cur, q, _, hh, _⟩
    · rw [q] at hv; simp [Value.ownBlock] at hv
    · rw [q] at hv
      have : g = b := by simpa [Value.ownBlock] using hv
      subst this
      exact ⟨cur, .inr hh⟩
theorem AcAt.all {F : Nat → Prop} {w : World} {vd vc : Value} {a : Cou.Ac} (h : AcAt F w vd vc a) : AcAt (fun b => b < w.heap.size) w vd vc a := ⟨fun _ h => h, h.dv.mono h.inW, h.cp.mono h.inW⟩
theorem own_bel {base : Nat} {w w' : World} {v : Value} {l : List Cou.Ct} (h : OwnL base 36 2 CtC w v l) (hb : Below w.heap.size w w') : OwnL base 36 2 CtC w' v l :=
  OwnL.keep h rfl (fun _ hx => hx.kept (row := none) (only_of_below hb none) (by cases hv : v.ownBlock <;> simp)) fun _ _ hr => hr
theorem own_far {base : Nat} {w : World} {v : Value} {l : List Cou.Ct} (h : OwnL base 36 2 CtC w v l) {p : Addr} {u : Value} (hp : p.block < base) : OwnL base 36 2 CtC (w.setCell p u) v l := by
  have hlt := h.lt
  refine OwnL.keep h rfl (fun _ hx => hx.kept (row := some p.block) (only_setCell (World.grownBy.refl w _) (.inl rfl) u) ?_) fun _ _ hr => hr
  cases hv : v.ownBlock with
  | none => exact .inl rfl
  | some b =>
    refine .inr fun e => ?_
    have := (hlt b hv).1
    injection e with e
    omega
/-- A row of one contact. -/
theorem slCt_one (W : World) (c : Cou.Ct) : SlCt (fun b => b < (W.alloc (.cells #[.int .i64 c.1, .int .i64 c.2] 36)).heap.size) (W.alloc (.cells #[.int .i64 c.1, .int .i64 c.2] 36)) (.slice (some ⟨W.heap.size, 0, none⟩) 1 1) [c] := by
  refine ⟨some ⟨W.heap.size, 0, none⟩, 1, rfl, by simp, by simp, fun i hi => ?_⟩
  have hi0 : i = 0 := by simpa using hi
  subst hi0
  exact ⟨⟨W.heap.size, 0, none⟩, [.int .i64 c.1, .int .i64 c.2], rfl, by simp, rfl, rfl, by simpa [Addr.add] using Flds.new W [.int .i64 c.1, .int .i64 c.2] 36⟩
theorem SlCt.bnd3 {F : Nat → Prop} {w : World} {v : Value} {l : List Cou.Ct} (h : SlCt F w v l) : SlCt (fun b => b < w.heap.size) w v l := by
  obtain ⟨A, c, hv, hc, hl, hat⟩ := h
  refine ⟨A, c, hv, hc, hl, fun i hi => ?_⟩
  obtain ⟨ad, cs, e, hf, hk, hr, hfl⟩ := hat i hi
  refine ⟨ad, cs, e, ?_, hk, hr, hfl⟩
  have := World.block_lt_of_cell? _ _ (hfl 0 (cs[0]'(by omega)) (List.getElem?_eq_getElem _))
  rwa [block_of_add, block_of_add] at this
end Go.Proofs.YtahlfndlkfoikaaDoor
