/- Plain: couplers without Through; a coupler's flag struck in memory. -/
import Derived.Test.YtnkjhppjjklgfaaDoorSe
namespace Go.Proofs.YtnkjhppjjklgfaaDoor
open Go Go.RowKit Go.Shelf
theorem flatten_set {k : Nat} : ∀ {cs : List (List Value)} {i j : Nat} (_ : ∀ c ∈ cs, c.length = k) (hi : i < cs.length) (_ : j < k) (u : Value), cs.flatten.set (i * k + j) u = (cs.set i (cs[i].set j u)).flatten
  | [], _, _, _, hi, _, _ => absurd hi (by simp)
  | c :: r, 0, j, h, _, hj, u => by
    have := h c (by simp)
    simp only [List.flatten_cons, List.set_cons_zero, List.getElem_cons_zero, Nat.zero_mul, Nat.zero_add]
    rw [List.set_append_left _ _ (by omega)]
  | c :: r, i + 1, j, h, hi, hj, u => by
    have hc := h c (by simp)
    have ih := flatten_set (cs := r) (i := i) (j := j) (fun x hx => h x (by simp [hx])) (by simpa using hi) hj u
    simp only [List.flatten_cons, List.set_cons_succ, List.getElem_cons_succ]
    rw [List.set_append_right _ _ (by rw [hc, Nat.add_mul]; omega), show (i + 1) * k + j - c.length = i * k + j by rw [hc, Nat.add_mul]; omega, ih]
theorem own_set {w : World} {base : Nat} {e : TypeId} {size n : Nat} {v : Value} {xs : List Value} (h : w.ownsRow base e size v n xs) {g : Nat} (hg : v.ownBlock = some g) {p : Nat} (hp : p < n * size) (u : Value) :
    (w.setCell ⟨g, p, none⟩ u).ownsRow base e size v n (xs.set p u) ∧ w.frozen? ⟨g, p, none⟩ = false ∧ w.cell? ⟨g, p, none⟩ = xs[p]? := by
  rcases h.2 with ⟨rfl, _⟩ | ⟨g', cap, cur, rfl, hb, hh, h1, h2, h3, h4⟩
  · simp [Value.ownBlock] at hg
  · simp only [Value.ownBlock, Option.some.injEq] at hg
    subst hg
    have B : Blk w g' e cur := hh
    refine ⟨⟨by simpa using h.1, .inr ⟨g', cap, cur.setIfInBounds p u, rfl, hb, B.set_ p u, h1, h2, by simpa using h3, ?_⟩⟩, B.frozen p, ?_⟩
    · rw [Array.toList_setIfInBounds, List.take_set, h4]
    · rw [B.cell p, ← h4, List.getElem?_take, if_pos hp, Array.getElem?_toList]
namespace Cou
def offC (x : Cpl) : Cpl := { x with thru := false }
def offL (l : List Cpl) (i : Nat) : List Cpl := (l.take i).map offC ++ l.drop i
/-- An action whose first couplers are without Through. -/
def offA (a : Ac) (i : Nat) : Ac := { a with cps := offL a.cps i }
theorem offL_len (l : List Cpl) (i : Nat) : (offL l i).length = l.length := by
  unfold offL
  rw [List.length_append, List.length_map, List.length_take, List.length_drop]
  omega
theorem offL_zero (l : List Cpl) : offL l 0 = l := by simp [offL]
theorem offL_all (l : List Cpl) : offL l l.length = l.map offC := by simp [offL]
theorem offL_get {l : List Cpl} {i : Nat} (h : i < l.length) : (offL l i)[i]'(by rw [offL_len]; exact h) = l[i] := by
  simp only [offL]
  rw [List.getElem_append_right (by rw [List.length_map, List.length_take]; omega)]
  simp only [List.length_map, List.length_take, List.getElem_drop]
  congr 1
  omega
theorem offL_step {l : List Cpl} {i : Nat} (h : i < l.length) : offL l (i + 1) = (offL l i).set i (offC ((offL l i)[i]'(by rw [offL_len]; exact h))) := by
  rw [offL_get h]
  unfold offL
  have hl : ((l.take i).map offC).length = i := by rw [List.length_map, List.length_take]; omega
  rw [List.set_append_right _ _ (by omega), hl, Nat.sub_self, List.drop_eq_getElem_cons h, List.set_cons_zero, List.take_add_one, List.getElem?_eq_getElem h, List.map_append, List.append_assoc]
  rfl
theorem oneF_off (nd : Nat) (l : List Cpl) (i : Nat) (x : Cpl) : oneF nd (l.map offC) i (offC x) = oneF nd l i x := by
  unfold oneF
  rw [← List.map_take, List.any_map]
  rfl
theorem goF_off (nd : Nat) (l : List Cpl) : ∀ d, goF nd (l.map offC) d = goF nd l d
  | 0 => rfl
  | d + 1 => by
    rw [goF, goF, List.length_map, List.getElem?_map]
    cases l[l.length - (d + 1)]? with
    | none => rfl
    | some x =>
      simp only [Option.map_some]
      rw [oneF_off, goF_off nd l d]
theorem rightF_off (a : Ac) : rightF (offA a a.cps.length) = rightF a := by
  have e : (offA a a.cps.length).cps = a.cps.map offC := offL_all _
  have h : checkF a.divs (a.cps.map offC) = checkF a.divs a.cps := by
    unfold checkF
    rw [List.length_map, goF_off]
  unfold rightF
  rw [e, List.length_map]
  show (if checkF a.divs (a.cps.map offC) = 0 then (if a.drawn >>> a.cps.length = 0 then 0 else 3) else checkF a.divs (a.cps.map offC)) = _
  rw [h]
theorem stepF_off (a : Ac) (i : Nat) (c : Ct) : stepF (offA a a.cps.length) i c = stepF a i c := by
  unfold stepF
  rw [show (offA a a.cps.length).cps = a.cps.map offC from offL_all _, List.getElem?_map]
  cases a.cps[i]? with
  | none => rfl
  | some x => rfl
theorem thruF_off (a : Ac) (i : Nat) : thruF (offA a a.cps.length) i = false := by
  unfold thruF
  rw [show (offA a a.cps.length).cps = a.cps.map offC from offL_all _, List.getElem?_map]
  cases a.cps[i]? with
  | none => rfl
  | some x => rfl
/-- How many of the first couplers are drawn. -/
def cntF (d k : Nat) : Nat := ((List.range k).filter fun i => d.testBit i).length
theorem cntF_succ (d k : Nat) : cntF d (k + 1) = cntF d k + if d.testBit k = true then 1 else 0 := by
  unfold cntF
  rw [List.range_succ, List.filter_append, List.length_append]
  by_cases h : d.testBit k = true
  · simp [h]
  · simp [h]
theorem cntF_le (d k : Nat) : cntF d k ≤ k := by
  unfold cntF
  exact Nat.le_trans (List.length_filter_le _ _) (by simp)
theorem erase_len (t0 : Ct) (l : List Ct) : l.length ≤ (l.erase t0).length + 1 := by
  by_cases hm : t0 ∈ l
  · rw [List.length_erase_of_mem hm]; omega
  · rw [List.erase_of_not_mem hm]; omega
/-- What lies in the image of a list is not longer. -/
theorem short_img {f : Nat → Option Ct} : ∀ (S : List Nat) (l : List Ct), l.Nodup → (∀ t ∈ l, ∃ i ∈ S, f i = some t) → l.length ≤ S.length
  | [], [], _, _ => Nat.le_refl _
  | [], t :: _, _, h => by obtain ⟨i, hi, _⟩ := h t (by simp); simp at hi
  | i :: S, l, hd, h => by
    cases hf : f i with
    | none =>
      refine Nat.le_trans (short_img (f := f) S l hd fun t ht => ?_) (by simp)
      obtain ⟨j, hj, e⟩ := h t ht
      rcases List.mem_cons.1 hj with rfl | hj
      · rw [hf] at e; cases e
      · exact ⟨j, hj, e⟩
    | some t0 =>
      have ih := short_img (f := f) S (l.erase t0) (hd.erase t0) fun t ht => by
        obtain ⟨j, hj, e⟩ := h t (List.mem_of_mem_erase ht)
        rcases List.mem_cons.1 hj with rfl | hj
        · rw [hf] at e
          injection e with e
          subst e
          exact absurd ht (List.Nodup.not_mem_erase hd)
        · exact ⟨j, hj, e⟩
      have := erase_len t0 l
      simp only [List.length_cons]
      omega
theorem reach_short {a : Ac} {c : Ct} {l : List Ct} (hs : Srt l) (h : ∀ t ∈ l, Hop (offA a a.cps.length) [c] t) : l.length ≤ cntF a.drawn a.cps.length := by
  refine short_img (f := fun i => stepF a i c) _ l hs.nodup fun t ht => ?_
  cases h t ht with
  | first h1 h2 h3 =>
    rename_i p i
    simp only [List.mem_singleton] at h1
    subst h1
    rw [stepF_off] at h3
    refine ⟨i, ?_, h3⟩
    rw [List.mem_filter, List.mem_range]
    refine ⟨?_, h2⟩
    rcases Nat.lt_or_ge i a.cps.length with q | q
    · exact q
    · unfold stepF at h3
      rw [List.getElem?_eq_none q] at h3
      cases h3
  | more _ _ h3 _ =>
    rw [thruF_off] at h3
    cases h3
end Cou
theorem OwnL.off {base : Nat} {w : World} {v : Value} {l : List Cou.Cpl} (h : OwnL base 72 5 CplC w v l) {i : Nat} (hi : i < l.length) :
    ∃ g cap, v = .slice (some ⟨g, 0, none⟩) l.length cap ∧ base ≤ g ∧ g < w.heap.size ∧ w.frozen? ⟨g, i * 5 + 4, none⟩ = false ∧ (∃ b, w.cell? ⟨g, i * 5 + 4, none⟩ = some (.bool b)) ∧ OwnL base 72 5 CplC (w.setCell ⟨g, i * 5 + 4, none⟩ (.bool false)) v (l.set i (Cou.offC l[i])) := by
  obtain ⟨cs, h1, h2, h3⟩ := h
  obtain ⟨g, cap, hv, hb, hlt⟩ := h3.form (by omega)
  have hob : v.ownBlock = some g := by rw [hv]; rfl
  obtain ⟨q1, q2, q3⟩ := own_set h3 hob (p := i * 5 + 4) (by omega) (.bool false)
  have hic : i < cs.length := by omega
  have hall : ∀ c ∈ cs, c.length = 5 := fun c hc => by
    obtain ⟨j, hj, rfl⟩ := List.getElem_of_mem hc
    obtain ⟨c', e, hl, _⟩ := h2 j (by omega)
    rw [List.getElem?_eq_getElem hj] at e
    injection e with e
    subst e
    exact hl
  obtain ⟨c, e, hl, hr⟩ := h2 i hi
  have hci : cs[i] = c := by
    rw [List.getElem?_eq_getElem hic] at e
    injection e
  unfold CplC at hr
  have hset := flatten_set (k := 5) hall hic (by decide : 4 < 5) (.bool false)
  have hget : cs.flatten[i * 5 + 4]? = some (.bool l[i].thru) := by
    have : ∀ {cs : List (List Value)} {i : Nat} (_ : ∀ c ∈ cs, c.length = 5) (hi : i < cs.length), cs.flatten[i * 5 + 4]? = cs[i][4]? := by
      intro cs
      induction cs with
      | nil => intro i _ hi; simp at hi
      | cons d r ih =>
        intro i h hi
        have hd := h d (by simp)
        cases i with
        | zero =>
          simp only [List.flatten_cons, List.getElem_cons_zero, Nat.zero_mul, Nat.zero_add]
          rw [List.getElem?_append_left (by omega)]
        | succ i =>
          simp only [List.flatten_cons, List.getElem_cons_succ]
          rw [List.getElem?_append_right (by omega), hd, show (i + 1) * 5 + 4 - 5 = i * 5 + 4 by omega]
          exact ih (fun x hx => h x (by simp [hx])) (by simpa using hi)
    rw [this hall hic, hci, hr]
    rfl
  refine ⟨g, cap, hv, hb, hlt, q2, ⟨l[i].thru, q3.trans hget⟩, cs.set i (cs[i].set 4 (.bool false)), by simpa using h1, fun j hj => ?_, ?_⟩
  · rw [List.length_set] at hj
    by_cases ej : i = j
    · subst ej
      refine ⟨_, List.getElem?_set_self hic, by rw [hci, List.length_set]; exact hl, ?_⟩
      rw [List.getElem_set_self, hci, hr]
      rfl
    · obtain ⟨c', e', hl', hr'⟩ := h2 j hj
      refine ⟨c', by rw [List.getElem?_set_ne ej]; exact e', hl', ?_⟩
      rw [List.getElem_set_ne ej]
      exact hr'
  · rw [← hset, List.length_set]
    exact q1
/-- An action in memory of the call's own. -/
structure AcO (B : Nat) (w : World) (vd vc : Value) (a : Cou.Ac) : Prop where
  dv : OwnL B 58 2 CmpC w vd a.divs
  cp : OwnL B 72 5 CplC w vc a.cps
theorem AcO.below {B : Nat} {w w' : World} {vd vc : Value} {a : Cou.Ac} (h : AcO B w vd vc a) (hb : Below w.heap.size w w') : AcO B w' vd vc a :=
  ⟨h.dv.keep rfl (fun xs hx => hx.kept (row := none) (only_of_below hb none) (by cases hv : vd.ownBlock <;> simp)) (fun _ _ h => h), h.cp.keep rfl (fun xs hx => hx.kept (row := none) (only_of_below hb none) (by cases hv : vc.ownBlock <;> simp)) (fun _ _ h => h)⟩
theorem AcO.at_ {B : Nat} {w : World} {vd vc : Value} {a : Cou.Ac} (h : AcO B w vd vc a) (h1 : a.divs.length ≤ 1000) (h2 : a.cps.length ≤ 1000) : AcAt (fun b => B ≤ b ∧ b < w.heap.size) w vd vc a :=
  ⟨fun _ h => h.2, h.dv.sl (by omega) fun _ q1 q2 _ => ⟨q1, q2⟩, h.cp.sl (by omega) fun _ q1 q2 _ => ⟨q1, q2⟩⟩
theorem own_blk {w : World} {base : Nat} {e : TypeId} {size n : Nat} {v : Value} {xs : List Value} (h : w.ownsRow base e size v n xs) {g : Nat} (hg : v.ownBlock = some g) : ∃ cs, Blk w g e cs := by
  rcases h.2 with ⟨rfl, _⟩ | ⟨g', cap, cur, rfl, hb, hh, _⟩
  · simp [Value.ownBlock] at hg
  · simp only [Value.ownBlock, Option.some.injEq] at hg
    subst hg
    exact ⟨cur, hh⟩
theorem AcO.off {B : Nat} {w : World} {vd vc : Value} {a : Cou.Ac} {i : Nat} (h : AcO B w vd vc (Cou.offA a i)) (hi : i < a.cps.length) :
    ∃ g cap, vc = .slice (some ⟨g, 0, none⟩) a.cps.length cap ∧ B ≤ g ∧ g < w.heap.size ∧ w.frozen? ⟨g, i * 5 + 4, none⟩ = false ∧ (∃ b, w.cell? ⟨g, i * 5 + 4, none⟩ = some (.bool b)) ∧ (∃ cs, Blk w g 72 cs) ∧ AcO B (w.setCell ⟨g, i * 5 + 4, none⟩ (.bool false)) vd vc (Cou.offA a (i + 1)) := by
  have hil : i < (Cou.offA a i).cps.length := by
    show i < (Cou.offL a.cps i).length
    rw [Cou.offL_len]; exact hi
  obtain ⟨g, cap, hv, hb, hlt, hf, hc, hO⟩ := h.cp.off hil
  have hob : vc.ownBlock = some g := by rw [hv]; rfl
  have hlen : (Cou.offA a i).cps.length = a.cps.length := Cou.offL_len _ _
  rw [hlen] at hv
  obtain ⟨cs2, hB2⟩ : ∃ cs, Blk w g 72 cs := by
    obtain ⟨cs, _, _, h3⟩ := h.cp
    exact own_blk h3 hob
  refine ⟨g, cap, hv, hb, hlt, hf, hc, ⟨cs2, hB2⟩, ⟨?_, ?_⟩⟩
  · show OwnL B _ 2 CmpC _ vd a.divs
    refine h.dv.keep rfl (fun xs hx => hx.kept (only_setCell (g := g) (only_of_below (B0 w) (some g)) (.inl rfl) _) ?_) (fun _ _ h => h)
    exact .inr (own_blk_ne hx hB2 (by decide))
  · show OwnL B _ 5 CplC _ vc (Cou.offL a.cps (i + 1))
    rw [Cou.offL_step hi]
    exact hO
end Go.Proofs.YtnkjhppjjklgfaaDoor
