/- Plain: rows of ints of the call's own in a made slice; what sounds. -/
import Derived.Test.YtnkjhppjjklgfaaDoorSb
namespace Go.Proofs.YtnkjhppjjklgfaaDoor
open Go Go.RowKit Go.Shelf
/-- A made slice of slices whose rows are the call's own, apart from each other. -/
structure RowsAt (g base : Nat) (N : Nat → Prop) (L : List (List Int)) (w : World) : Prop where
  ex : ∃ vs : List Value, vs.length = L.length ∧ Blk w g 53 vs.toArray ∧ (∀ i (h : i < L.length), ∃ v, vs[i]? = some v ∧ OwnL base 3 1 IntC w v L[i]) ∧
    ∀ (i j : Nat) (u v : Value) (b : Nat), i ≠ j → vs[i]? = some u → vs[j]? = some v → u.ownBlock = some b → v.ownBlock ≠ some b
  lt : g < base
  size : base ≤ w.heap.size
  named : ∀ d v b, w.cell? ⟨g, d, none⟩ = some v → v.ownBlock = some b → N b
theorem RowsAt.start (w : World) (n : Nat) : RowsAt w.heap.size (w.heap.size + 1) (fun _ => True) (List.replicate n []) (w.alloc (.cells (List.replicate n (.slice none 0 0)).toArray 53)) := by
  refine ⟨⟨List.replicate n (.slice none 0 0), by simp, Blk.new _ _ _, fun i hi => ?_, fun i j u v b _ hu hv hb => ?_⟩, by omega, by simp, fun _ _ _ _ _ => trivial⟩
  · rw [List.length_replicate] at hi
    refine ⟨.slice none 0 0, by rw [List.getElem?_replicate, if_pos hi], ?_⟩
    rw [List.getElem_replicate]
    exact OwnL.nil
  · have := List.mem_of_getElem? hu
    rw [List.mem_replicate] at this
    rw [this.2] at hb
    simp [Value.ownBlock] at hb
theorem RowsAt.keep {g base : Nat} {N : Nat → Prop} {L : List (List Int)} {w w' : World} (h : RowsAt g base N L w) (hb : Below w.heap.size w w') : RowsAt g base N L w' := by
  obtain ⟨⟨vs, h1, h2, h3, h4⟩, h5, h6, h7⟩ := h
  refine ⟨⟨vs, h1, h2.below hb h2.lt, fun i hi => ?_, h4⟩, h5, Nat.le_trans h6 hb.size, fun d v b hc => h7 d v b (by rw [← hc]; exact (hb.cell (p := ⟨g, d, none⟩) h2.lt).symm)⟩
  obtain ⟨v, q1, q2⟩ := h3 i hi
  exact ⟨v, q1, q2.keep rfl (fun xs hx => hx.kept (row := none) (only_of_below hb none) (by cases hv : v.ownBlock <;> simp)) (fun _ _ h => h)⟩
theorem RowsAt.weak {g base : Nat} {N N' : Nat → Prop} {L : List (List Int)} {w : World} (h : RowsAt g base N L w) (hN : ∀ b, b < w.heap.size → N' b) : RowsAt g base N' L w := by
  obtain ⟨⟨vs, h1, h2, h3, h4⟩, h5, h6, h7⟩ := h
  refine ⟨⟨vs, h1, h2, h3, h4⟩, h5, h6, fun d v b hc hb => hN b ?_⟩
  have hv := (h2.cell d).symm.trans hc
  rw [List.getElem?_toArray] at hv
  have hd : d < L.length := by rw [← h1]; exact (List.getElem?_eq_some_iff.1 hv).1
  obtain ⟨u, q1, q2⟩ := h3 d hd
  rw [hv] at q1
  injection q1 with q1
  subst q1
  exact (q2.lt b hb).2
theorem RowsAt.row {g base : Nat} {N : Nat → Prop} {L : List (List Int)} {w : World} (h : RowsAt g base N L w) {d : Nat} (hd : d < L.length) : ∃ v, w.cell? ⟨g, d, none⟩ = some v ∧ OwnL base 3 1 IntC w v L[d] := by
  obtain ⟨⟨vs, h1, h2, h3, h4⟩, h5, h6, h7⟩ := h
  obtain ⟨v, q1, q2⟩ := h3 d hd
  exact ⟨v, (h2.cell d).trans (by rw [List.getElem?_toArray]; exact q1), q2⟩
theorem RowsAt.put {g base : Nat} {N : Nat → Prop} {L : List (List Int)} {w w' : World} (h : RowsAt g base N L w) {d : Nat} (hd : d < L.length) {v v' : Value} {l' : List Int} (hc : w.cell? ⟨g, d, none⟩ = some v) (hg : w.grownBy w' v.ownBlock) (hO : OwnL base 3 1 IntC w' v' l') (hb : v'.ownBlock = v.ownBlock ∨ v'.ownBlock = some w.heap.size) (hN : N w.heap.size) :
    RowsAt g base N (L.set d l') (w'.setCell ⟨g, d, none⟩ v') := by
  obtain ⟨⟨vs, h1, h2, h3, h4⟩, h5, h6, h7⟩ := h
  have hvd : vs[d]? = some v := by
    have := h2.cell d
    rw [hc, List.getElem?_toArray] at this
    exact this.symm
  have hdv : d < vs.length := by omega
  have hown : ∀ b, v.ownBlock = some b → base ≤ b := fun b e => by
    obtain ⟨u, q1, q2⟩ := h3 d hd
    rw [hvd] at q1
    injection q1 with q1
    subst q1
    exact (q2.lt b e).1
  have hB2 : Blk (w'.setCell ⟨g, d, none⟩ v') g 53 (vs.set d v').toArray := by
    have := (h2.grown hg (fun e => by have := hown g e.symm; omega)).set_ d v'
    simpa using this
  refine ⟨⟨vs.set d v', by simpa using h1, hB2, fun i hi => ?_, fun i j u x b hij hu hx hub hxb => ?_⟩, h5, ?_, fun e u b hu hub => ?_⟩
  · rw [List.length_set] at hi
    by_cases e : d = i
    · subst e
      refine ⟨v', List.getElem?_set_self hdv, ?_⟩
      rw [List.getElem_set_self]
      exact hO.keep rfl (fun xs hx => ownsRow_setCell_below (a := ⟨g, d, none⟩) hx h5 _) (fun _ _ h => h)
    · obtain ⟨u, q1, q2⟩ := h3 i hi
      refine ⟨u, by rw [List.getElem?_set_ne e]; exact q1, ?_⟩
      rw [List.getElem_set_ne e]
      refine (q2.keep (R' := IntC) rfl (fun xs hx => hx.kept hg ?_) (fun _ _ h => h)).keep rfl (fun xs hx => ownsRow_setCell_below (a := ⟨g, d, none⟩) hx h5 _) (fun _ _ h => h)
      cases hv : u.ownBlock with
      | none => exact .inl rfl
      | some b =>
        refine .inr fun e2 => ?_
        exact h4 i d u v b (fun q => e q.symm) q1 hvd hv e2.symm
  · have hnew : ∀ (k : Nat) (y : Value) (c : Nat), k ≠ d → vs[k]? = some y → y.ownBlock = some c → v'.ownBlock ≠ some c := fun k y c hk hy hyc hvc => by
      rcases hb with e | e
      · rw [e] at hvc
        exact h4 k d y v c hk hy hvd hyc hvc
      · rw [e] at hvc
        injection hvc with hvc
        have hkl : k < L.length := by rw [← h1]; exact (List.getElem?_eq_some_iff.1 hy).1
        obtain ⟨u', q1, q2⟩ := h3 k hkl
        rw [hy] at q1
        injection q1 with q1
        subst q1
        have := (q2.lt c hyc).2
        omega
    by_cases e1 : i = d
    · subst e1
      rw [List.getElem?_set_self hdv] at hu
      injection hu with hu
      subst hu
      rw [List.getElem?_set_ne hij] at hx
      exact hnew j x b (fun q => hij q.symm) hx hxb hub
    · rw [List.getElem?_set_ne (fun q => e1 q.symm)] at hu
      by_cases e2 : j = d
      · subst e2
        rw [List.getElem?_set_self hdv] at hx
        injection hx with hx
        subst hx
        exact hnew i u b hij hu hub hxb
      · rw [List.getElem?_set_ne (fun q => e2 q.symm)] at hx
        exact h4 i j u x b hij hu hx hub hxb
  · have := hg.size
    simp
    omega
  · have hu2 := (hB2.cell e).symm.trans hu
    rw [List.getElem?_toArray] at hu2
    by_cases q : d = e
    · subst q
      rw [List.getElem?_set_self hdv] at hu2
      injection hu2 with hu2
      subst hu2
      rcases hb with q2 | q2
      · exact h7 d v b hc (q2.symm.trans hub)
      · rw [q2] at hub
        injection hub with hub
        subst hub
        exact hN
    · rw [List.getElem?_set_ne q] at hu2
      exact h7 e u b ((h2.cell e).trans (by rw [List.getElem?_toArray]; exact hu2)) hub
theorem RowsAt.below {g base B : Nat} {N : Nat → Prop} {L : List (List Int)} {w0 w w' : World} (h : RowsAt g base N L w) {d : Nat} (hd : d < L.length) {v v' : Value} (hc : w.cell? ⟨g, d, none⟩ = some v) (hg : w.grownBy w' v.ownBlock) (hw : Below B w0 w) (hB : B ≤ g) : Below B w0 (w'.setCell ⟨g, d, none⟩ v') := by
  refine (hw.grown hg (by have := h.size; have := h.lt; omega) fun k e => ?_).setCell hB _
  obtain ⟨u, q1, q2⟩ := h.row hd
  rw [hc] at q1
  injection q1 with q1
  subst q1
  have := (q2.lt k e).1
  have := h.lt
  omega
theorem blk_slK {F : Nat → Prop} {w : World} {kb : Nat} {M : List Nat} (h : Blk w kb 70 (ntCs M).toArray) (hF : F kb) (hl : M.length ≤ 140737488355328) : SlK F w (.slice (some ⟨kb, 0, none⟩) M.length M.length) M := by
  refine ⟨some ⟨kb, 0, none⟩, M.length, rfl, Nat.le_refl _, hl, fun i hi => ⟨⟨kb, 0, none⟩, _, rfl, hF, rfl, rfl, ?_⟩⟩
  obtain ⟨g0, g1⟩ := ntCs_get hi
  have e : (⟨kb, 0, none⟩ : Addr).add (i * 2) = ⟨kb, i * 2, none⟩ := by
    unfold Addr.add
    split
    · rename_i q; rw [q]
    · simp
  rw [e]
  intro j u hu
  have hj : j = 0 ∨ j = 1 := by
    have := (List.getElem?_eq_some_iff.1 hu).1
    simp at this
    omega
  rcases hj with rfl | rfl
  · simp at hu
    subst hu
    simpa [Addr.add] using (h.cell (i * 2)).trans (by rw [List.getElem?_toArray]; exact g0)
  · simp at hu
    subst hu
    simpa [Addr.add] using (h.cell (i * 2 + 1)).trans (by rw [List.getElem?_toArray]; exact g1)
namespace Cou
/-- No row is longer. -/
def Cap (L : List (List Int)) (c : Nat) : Prop := ∀ l ∈ L, l.length ≤ c
theorem Cap.set {L : List (List Int)} {c d : Nat} (h : Cap L c) (hd : d < L.length) (x : Int) : Cap (L.set d (L[d] ++ [x])) (c + 1) := fun l hl => by
  rcases List.mem_or_eq_of_mem_set hl with q | rfl
  · have := h l q; omega
  · have := h _ (List.getElem_mem hd); simp; omega
theorem Cap.more {L : List (List Int)} {c d : Nat} (h : Cap L c) (hd : c ≤ d) : Cap L d := fun l hl => Nat.le_trans (h l hl) hd
/-- What is reached is reached from one. -/
theorem Hop.one {a : Ac} {pl : List Ct} {t : Ct} : Hop a pl t ↔ ∃ p ∈ pl, Hop a [p] t := by
  constructor
  · intro h
    induction h with
    | first q1 q2 q3 => exact ⟨_, q1, .first (by simp) q2 q3⟩
    | more _ q2 q3 q4 ih =>
      obtain ⟨p, hp, hh⟩ := ih
      exact ⟨p, hp, .more hh q2 q3 q4⟩
  · rintro ⟨p, hp, hh⟩
    exact hh.mono fun x hx => by simp only [List.mem_singleton] at hx; subst hx; exact hp
/-- The keys that are played, those of the divisions before i and the first j of it. -/
def Pld (a : Ac) (ks : List Nat) (i j : Nat) (p : Ct) : Prop := InA a p ∧ Nt.hasB (ks.getD p.1.toNat 0) p.2 = true ∧ (p.1 < i ∨ (p.1 = i ∧ p.2 < (a.divs.getD i (0, -1)).1 + j))
/-- What sounds of them. -/
def Got (a : Ac) (off : Nat) (P : Ct → Prop) (t : Ct) : Prop := ∃ p, P p ∧ (Hop a [p] t ∨ (off.testBit p.1.toNat = false ∧ p = t))
theorem Got.iff {a : Ac} {off : Nat} {P Q : Ct → Prop} (h : ∀ p, P p ↔ Q p) (t : Ct) : Got a off P t ↔ Got a off Q t := by
  unfold Got
  constructor
  · rintro ⟨p, hp, q⟩; exact ⟨p, (h p).1 hp, q⟩
  · rintro ⟨p, hp, q⟩; exact ⟨p, (h p).2 hp, q⟩
theorem Got.in_ {a : Ac} (h : Ok a) {off : Nat} {P : Ct → Prop} (hP : ∀ p, P p → InA a p) {t : Ct} (hg : Got a off P t) : InA a t := by
  obtain ⟨p, hp, q | ⟨_, q⟩⟩ := hg
  · exact q.in_ h
  · subst q; exact hP p hp
theorem inB_iff {c : Int × Int} {k : Int} : inB c k = true ↔ c.1 ≤ k ∧ k ≤ c.2 := by
  unfold inB
  rw [Bool.and_eq_true, decide_eq_true_eq, decide_eq_true_eq]
theorem got_one {a : Ac} {off : Nat} {P : Ct → Prop} {p t : Ct} : Got a off (fun q => P q ∨ q = p) t ↔ (Got a off P t ∨ Hop a [p] t) ∨ (off.testBit p.1.toNat = false ∧ t = p) := by
  unfold Got
  constructor
  · rintro ⟨q, h1 | rfl, h2⟩
    · exact .inl (.inl ⟨q, h1, h2⟩)
    · rcases h2 with h2 | ⟨h2, rfl⟩
      · exact .inl (.inr h2)
      · exact .inr ⟨h2, rfl⟩
  · rintro ((⟨q, h1, h2⟩ | h) | ⟨h1, rfl⟩)
    · exact ⟨q, .inl h1, h2⟩
    · exact ⟨p, .inr rfl, .inl h⟩
    · exact ⟨t, .inr rfl, .inr ⟨h1, rfl⟩⟩
theorem pld_zero {a : Ac} {ks : List Nat} (p : Ct) : ¬ Pld a ks 0 0 p := by
  rintro ⟨⟨h1, h2, h3⟩, _, h5 | ⟨h5, h6⟩⟩
  · omega
  · rw [inB_iff, show p.1.toNat = 0 by omega] at h3
    omega
theorem pld_next {a : Ac} {ks : List Nat} {i m : Nat} (hi : (a.divs.getD i (0, -1)).2 < (a.divs.getD i (0, -1)).1 + m) (p : Ct) : Pld a ks i m p ↔ Pld a ks (i + 1) 0 p := by
  unfold Pld
  constructor
  · rintro ⟨h1, h2, h3⟩
    refine ⟨h1, h2, .inl ?_⟩
    rcases h3 with q | ⟨q, _⟩ <;> omega
  · rintro ⟨h1, h2, h3⟩
    refine ⟨h1, h2, ?_⟩
    obtain ⟨r1, r2, r3⟩ := h1
    rcases h3 with q | ⟨q, q2⟩
    · by_cases e : p.1 = i
      · refine .inr ⟨e, ?_⟩
        rw [inB_iff, show p.1.toNat = i by omega] at r3
        omega
      · exact .inl (by omega)
    · exfalso
      rw [inB_iff, show p.1.toNat = i + 1 by omega] at r3
      omega
theorem pld_skip {a : Ac} {ks : List Nat} {i j : Nat} (hh : Nt.hasB (ks.getD i 0) ((a.divs.getD i (0, -1)).1 + j) = false) (p : Ct) : Pld a ks i j p ↔ Pld a ks i (j + 1) p := by
  unfold Pld
  constructor
  · rintro ⟨h1, h2, h3⟩
    refine ⟨h1, h2, ?_⟩
    rcases h3 with q | ⟨q, q2⟩
    · exact .inl q
    · exact .inr ⟨q, by omega⟩
  · rintro ⟨h1, h2, h3⟩
    refine ⟨h1, h2, ?_⟩
    rcases h3 with q | ⟨q, q2⟩
    · exact .inl q
    · refine .inr ⟨q, ?_⟩
      by_cases e : p.2 = (a.divs.getD i (0, -1)).1 + j
      · rw [q, e, Int.toNat_natCast, hh] at h2
        cases h2
      · omega
theorem pld_one {a : Ac} {ks : List Nat} {i j : Nat} (hin : InA a ((i : Int), (a.divs.getD i (0, -1)).1 + j)) (hh : Nt.hasB (ks.getD i 0) ((a.divs.getD i (0, -1)).1 + j) = true) (p : Ct) : Pld a ks i (j + 1) p ↔ Pld a ks i j p ∨ p = ((i : Int), (a.divs.getD i (0, -1)).1 + j) := by
  unfold Pld
  constructor
  · rintro ⟨h1, h2, h3⟩
    rcases h3 with q | ⟨q, q2⟩
    · exact .inl ⟨h1, h2, .inl q⟩
    · by_cases e : p.2 = (a.divs.getD i (0, -1)).1 + j
      · exact .inr (Prod.ext q e)
      · exact .inl ⟨h1, h2, .inr ⟨q, by omega⟩⟩
  · rintro (⟨h1, h2, h3⟩ | rfl)
    · refine ⟨h1, h2, ?_⟩
      rcases h3 with q | ⟨q, q2⟩
      · exact .inl q
      · exact .inr ⟨q, by omega⟩
    · exact ⟨hin, by rw [Int.toNat_natCast]; exact hh, .inr ⟨rfl, by dsimp only; omega⟩⟩
/-- A list of rows has the elements that P says. -/
def HasL (n : Nat) (L : List (List Int)) (P : Ct → Prop) : Prop := L.length = n ∧ ∀ d x, d < n → (x ∈ L.getD d [] ↔ P ((d : Int), x))
theorem HasL.iff {n : Nat} {L : List (List Int)} {P Q : Ct → Prop} (h : HasL n L P) (hq : ∀ t, P t ↔ Q t) : HasL n L Q := ⟨h.1, fun d x hd => (h.2 d x hd).trans (hq _)⟩
theorem HasL.snoc {n : Nat} {L : List (List Int)} {P : Ct → Prop} (h : HasL n L P) {d : Nat} (_hd : d < n) (x : Int) (hl : d < L.length) : HasL n (L.set d (L[d] ++ [x])) (fun t => P t ∨ t = ((d : Int), x)) := by
  refine ⟨by rw [List.length_set]; exact h.1, fun e y he => ?_⟩
  have h2 := h.2 e y he
  rw [List.getD_eq_getElem?_getD] at h2 ⊢
  by_cases q : d = e
  · subst q
    rw [List.getElem?_set_self hl]
    rw [List.getElem?_eq_getElem hl] at h2
    simp only [Option.getD_some, List.mem_append, List.mem_singleton] at h2 ⊢
    rw [h2]
    constructor
    · rintro (r | r)
      · exact .inl r
      · exact .inr (by rw [r])
    · rintro (r | r)
      · exact .inl r
      · exact .inr (congrArg Prod.snd r)
  · rw [List.getElem?_set_ne q, h2]
    constructor
    · exact .inl
    · rintro (r | r)
      · exact r
      · have := congrArg Prod.fst r
        simp at this
        omega
theorem HasL.zero (n : Nat) {P : Ct → Prop} (hP : ∀ t, ¬ P t) : HasL n (List.replicate n []) P := by
  refine ⟨by simp, fun d x hd => ?_⟩
  rw [List.getD_eq_getElem?_getD, List.getElem?_replicate, if_pos hd]
  simp [hP]
/-- The sets of rows. -/
theorem HasL.sets {n : Nat} {a : Ac} (hok : Ok a) {L : List (List Int)} {P : Ct → Prop} (h : HasL n L P) (hP : ∀ t, P t → InA a t) : (∀ l ∈ L, ∀ x ∈ l, Nt.noteB x = true) ∧ (L.map fun l => Nt.setF l 0).length = n ∧ (∀ x ∈ L.map fun l => Nt.setF l 0, x < 2 ^ 128) ∧ ∀ d i, d < n → (((L.map fun l => Nt.setF l 0).getD d 0).testBit i = true ↔ P ((d : Int), (i : Int))) := by
  have hn : ∀ l ∈ L, ∀ x ∈ l, Nt.noteB x = true := fun l hl x hx => by
    obtain ⟨d, hd, rfl⟩ := List.getElem_of_mem hl
    have h2 := (h.2 d x (by rw [← h.1]; exact hd)).1 (by rw [List.getD_eq_getElem?_getD, List.getElem?_eq_getElem hd]; exact hx)
    have h3 := (hP _ h2).key hok
    unfold Nt.noteB
    simp
    omega
  refine ⟨hn, by rw [List.length_map]; exact h.1, fun x hx => ?_, fun d i hd => ?_⟩
  · obtain ⟨l, hl, rfl⟩ := List.mem_map.1 hx
    exact Nt.setF_lt (hn l hl) (by decide)
  · have hdl : d < L.length := by rw [h.1]; exact hd
    have h2 := h.2 d i hd
    rw [List.getD_eq_getElem?_getD, List.getElem?_eq_getElem hdl] at h2
    rw [List.getD_eq_getElem?_getD, List.getElem?_map, List.getElem?_eq_getElem hdl]
    simp only [Option.map_some, Option.getD_some] at h2 ⊢
    rw [Nt.setF_test (hn _ (List.getElem_mem hdl)), h2]
    simp
/-- Sets that have the same notes are the same. -/
theorem sets_eq {n : Nat} {M M' : List Nat} {P : Nat → Nat → Prop} (h1 : M.length = n) (h2 : M'.length = n) (k1 : ∀ d i, d < n → ((M.getD d 0).testBit i = true ↔ P d i)) (k2 : ∀ d i, d < n → ((M'.getD d 0).testBit i = true ↔ P d i)) : M = M' := by
  refine List.ext_getElem (by omega) fun d hd hd' => Nat.eq_of_testBit_eq fun i => ?_
  have q1 := k1 d i (by omega)
  have q2 := k2 d i (by omega)
  rw [List.getD_eq_getElem?_getD, List.getElem?_eq_getElem hd] at q1
  rw [List.getD_eq_getElem?_getD, List.getElem?_eq_getElem hd'] at q2
  simp only [Option.getD_some] at q1 q2
  have := q1.trans q2.symm
  cases h : M[d].testBit i with
  | true => exact (this.1 h).symm
  | false =>
    cases h' : M'[d].testBit i with
    | true => rw [this.2 h'] at h; cases h
    | false => rfl
/-- What the law says sounds is what Sounding says. -/
theorem got_snd {a : Ac} (_hok : Ok a) {ks : List Nat} (hl : ks.length = a.divs.length) (hks : ∀ x ∈ ks, x < 2 ^ 128) (ho : okAll a ks = true) {off d i : Nat} (hd : d < a.divs.length) :
    Got a off (Pld a ks a.divs.length 0) ((d : Int), (i : Int)) ↔ Snd a ks off d i := by
  have hp : ∀ p : Ct, Pld a ks a.divs.length 0 p ↔ p ∈ allL 0 ks := fun p => by
    rw [mem_allL]
    constructor
    · rintro ⟨⟨h1, h2, h3⟩, h4, _⟩
      unfold Nt.hasB Nt.noteB at h4
      simp at h4
      refine ⟨p.1.toNat, by omega, p.2.toNat, ?_, Prod.ext (by simp; omega) (by simp; omega)⟩
      refine (Nt.mem_iff ?_).2 h4.2
      rw [List.getD_eq_getElem?_getD, List.getElem?_eq_getElem (by omega)]
      exact hks _ (List.getElem_mem _)
    · rintro ⟨j, hj, k, hk, rfl⟩
      rw [Nat.zero_add]
      have hx : ks.getD j 0 < 2 ^ 128 := by
        rw [List.getD_eq_getElem?_getD, List.getElem?_eq_getElem hj]
        exact hks _ (List.getElem_mem _)
      have hlt := Nt.mem_lt hk
      unfold okAll at ho
      have h1 := List.all_eq_true.1 ho j (List.mem_range.2 hj)
      unfold okOne at h1
      have h2 := List.all_eq_true.1 h1 k hk
      refine ⟨⟨by dsimp only; omega, by dsimp only; omega, by simpa using h2⟩, ?_, .inl (by dsimp only; omega)⟩
      unfold Nt.hasB Nt.noteB
      simp
      exact ⟨by omega, by simpa using (Nt.mem_iff hx).1 hk⟩
  unfold Got Snd
  constructor
  · rintro ⟨p, q1, q2 | ⟨q2, rfl⟩⟩
    · exact .inl (Hop.one.2 ⟨p, (hp p).1 q1, q2⟩)
    · refine .inr ⟨by simpa using q2, ?_⟩
      have := q1.2.1
      unfold Nt.hasB at this
      simp at this
      exact this.2
  · rintro (h | ⟨h1, h2⟩)
    · obtain ⟨p, q1, q2⟩ := Hop.one.1 h
      exact ⟨p, (hp p).2 q1, .inl q2⟩
    · refine ⟨((d : Int), (i : Int)), (hp _).2 (mem_allL.2 ⟨d, by omega, i, ?_, by simp⟩), .inr ⟨by simpa using h1, rfl⟩⟩
      refine (Nt.mem_iff ?_).2 h2
      rw [List.getD_eq_getElem?_getD, List.getElem?_eq_getElem (by omega)]
      exact hks _ (List.getElem_mem _)
end Cou
end Go.Proofs.YtnkjhppjjklgfaaDoor
