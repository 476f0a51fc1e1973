/- Walks over coupler's statements: example, known. Walks over coupler's statements: example, known. -/
import Derived.Test.YtnkjhppjjklgfaaDoorKm
namespace Go.Proofs.YtnkjhppjjklgfaaDoor
open Go Go.RowKit Go.Shelf
namespace Cou
/-- The action of the example. -/
def exA (thr : Bool) : Ac := ⟨[(36, 60), (36, 60)], [⟨⟨#[97]⟩, 0, 1, 0, false⟩, ⟨⟨#[98]⟩, 1, 1, 12, thr⟩], 3⟩
theorem ex_right (thr : Bool) : rightF (exA thr) = 0 := by cases thr <;> decide
theorem ex_bit {i : Nat} (h : (exA true).drawn.testBit i = true) : i = 0 ∨ i = 1 := by
  rcases Nat.lt_or_ge i 2 with q | q
  · omega
  · rw [show (exA true).drawn = 3 from rfl, Nat.testBit_lt_two_pow (Nat.lt_of_lt_of_le (show 3 < 2 ^ 2 by decide) (Nat.pow_le_pow_right (by decide) q))] at h
    cases h
theorem ex_bit' (thr : Bool) {i : Nat} (h : (exA thr).drawn.testBit i = true) : i = 0 ∨ i = 1 := ex_bit h
/-- What the reach is, where it holds the first steps and is closed. -/
theorem reach_eq {a : Ac} {c : Ct} {l L : List Ct} (hs : Srt l) (hm : ∀ t, t ∈ l ↔ Hop a [c] t) (hL : Srt L) (h0 : ∀ t ∈ L, Hop a [c] t) (h1 : ∀ i t, a.drawn.testBit i = true → stepF a i c = some t → t ∈ L) (h2 : ∀ x ∈ L, ∀ i t, a.drawn.testBit i = true → thruF a i = true → stepF a i x = some t → t ∈ L) : l = L :=
  hs.eq hL fun t => ⟨fun h => Hop.sub (fun p hp i t q1 q2 => by simp only [List.mem_singleton] at hp; subst hp; exact h1 i t q1 q2) h2 ((hm t).1 h), fun h => (hm t).2 (h0 t h)⟩
theorem ex_hop1 (thr : Bool) : Hop (exA thr) [(0, 40)] (1, 40) := .first (p := (0, 40)) (i := 0) (by simp) (by cases thr <;> rfl) (by cases thr <;> rfl)
theorem ex_reach1 {l : List Ct} (hs : Srt l) (hm : ∀ t, t ∈ l ↔ Hop (exA true) [(0, 40)] t) : l = [(1, 40), (1, 52)] := by
  refine reach_eq hs hm (by unfold Srt lt; simp) (fun t ht => ?_) (fun i t h1 h2 => ?_) (fun x hx i t h1 h2 h3 => ?_)
  · simp only [List.mem_cons, List.not_mem_nil, or_false] at ht
    rcases ht with rfl | rfl
    · exact ex_hop1 true
    · exact .more (i := 1) (ex_hop1 true) rfl rfl rfl
  · rcases ex_bit h1 with rfl | rfl
    · have e : stepF (exA true) 0 (0, 40) = some (1, 40) := rfl
      rw [e] at h2; injection h2 with h2; subst h2; simp
    · have e : stepF (exA true) 1 (0, 40) = none := rfl
      rw [e] at h2; cases h2
  · simp only [List.mem_cons, List.not_mem_nil, or_false] at hx
    rcases ex_bit h1 with rfl | rfl
    · rcases hx with rfl | rfl
      · have e : stepF (exA true) 0 (1, 40) = none := rfl
        rw [e] at h3; cases h3
      · have e : stepF (exA true) 0 (1, 52) = none := rfl
        rw [e] at h3; cases h3
    · rcases hx with rfl | rfl
      · have e : stepF (exA true) 1 (1, 40) = some (1, 52) := rfl
        rw [e] at h3; injection h3 with h3; subst h3; simp
      · have e : stepF (exA true) 1 (1, 52) = none := rfl
        rw [e] at h3; cases h3
theorem ex_reach2 {l : List Ct} (hs : Srt l) (hm : ∀ t, t ∈ l ↔ Hop (exA true) [(1, 50)] t) : l = [] := by
  refine reach_eq hs hm (by unfold Srt lt; simp) (fun t ht => by simp at ht) (fun i t h1 h2 => ?_) (fun x hx => by simp at hx)
  rcases ex_bit h1 with rfl | rfl
  · have e : stepF (exA true) 0 (1, 50) = none := rfl
    rw [e] at h2; cases h2
  · have e : stepF (exA true) 1 (1, 50) = none := rfl
    rw [e] at h2; cases h2
theorem ex_reach3 {l : List Ct} (hs : Srt l) (hm : ∀ t, t ∈ l ↔ Hop (exA false) [(0, 40)] t) : l = [(1, 40)] := by
  refine reach_eq hs hm (by unfold Srt lt; simp) (fun t ht => ?_) (fun i t h1 h2 => ?_) (fun x hx i t h1 h2 h3 => ?_)
  · simp only [List.mem_cons, List.not_mem_nil, or_false] at ht
    subst ht
    exact ex_hop1 false
  · rcases ex_bit' false h1 with rfl | rfl
    · have e : stepF (exA false) 0 (0, 40) = some (1, 40) := rfl
      rw [e] at h2; injection h2 with h2; subst h2; simp
    · have e : stepF (exA false) 1 (0, 40) = none := rfl
      rw [e] at h2; cases h2
  · rcases ex_bit' false h1 with rfl | rfl
    · cases h2
    · cases h2
theorem ex_to {pl : List Ct} {t : Ct} (h : Hop (exA true) pl t) : t.1 = 1 := by
  have hst : ∀ i c, (exA true).drawn.testBit i = true → stepF (exA true) i c = some t → t.1 = 1 := fun i c h1 h2 => by
    rcases ex_bit h1 with rfl | rfl
    all_goals
      unfold stepF exA at h2
      simp only [List.getElem?_cons_zero, List.getElem?_cons_succ] at h2
      split at h2
      · injection h2 with h2; subst h2; rfl
      · cases h2
  cases h with
  | first _ h2 h3 => exact hst _ _ h2 h3
  | more _ h2 _ h4 => exact hst _ _ h2 h4
end Cou
theorem ex_mat {M : List (List Bool)} (h : MatOk (Cou.exA true) M) : ∃ r0 r1 : List Bool, M = [r0, r1] ∧ r0 = [false, true] ∧ r1.length = 2 := by
  obtain ⟨h1, h2, h3⟩ := h
  have e2 : (Cou.exA true).divs.length = 2 := rfl
  rw [e2] at h1 h2
  obtain ⟨r0, r1, rfl⟩ : ∃ r0 r1, M = [r0, r1] := by
    match M, h1 with
    | [r0, r1], _ => exact ⟨r0, r1, rfl⟩
  have l0 := h2 r0 (by simp)
  have l1 := h2 r1 (by simp)
  refine ⟨r0, r1, rfl, ?_, l1⟩
  have g0 := h3 0 0
  have g1 := h3 0 1
  obtain ⟨x, y, rfl⟩ : ∃ x y, r0 = [x, y] := by
    match r0, l0 with
    | [x, y], _ => exact ⟨x, y, rfl⟩
  have hx : x = false := by
    cases hx : x with
    | false => rfl
    | true =>
      obtain ⟨c, _, _, t, ht, e⟩ := g0.1 (by unfold Cou.getM; simp [hx])
      have := Cou.ex_to ht
      rw [this] at e
      cases e
  have hy : y = true := by
    have := g1.2 ⟨(0, 40), by unfold Cou.InA; decide, rfl, (1, 40), Cou.ex_hop1 true, rfl⟩
    simpa [Cou.getM] using this
  rw [hx, hy]
end Go.Proofs.YtnkjhppjjklgfaaDoor
namespace Go.Proofs.YtnkjhppjjklgfaaDoor
open Go Go.RowKit Go.Shelf
abbrev exD : Array Value := #[.int .i64 36, .int .i64 60, .int .i64 36, .int .i64 60]
abbrev exC (thr : Bool) : Array Value := #[.string ⟨#[97]⟩, .int .i64 0, .int .i64 1, .int .i64 0, .bool false, .string ⟨#[98]⟩, .int .i64 1, .int .i64 1, .int .i64 12, .bool thr]
theorem flds_blk {W : World} {g : Nat} {t : TypeId} {cs : Array Value} (h : Blk W g t cs) (o : Nat) (us : List Value) (hu : ∀ j u, us[j]? = some u → cs[o + j]? = some u) : Flds W ((⟨g, 0, none⟩ : Addr).add o) us := fun j u hj => by
  have e : ((⟨g, 0, none⟩ : Addr).add o).add j = ⟨g, o + j, none⟩ := by
    unfold Addr.add
    split <;> split <;> simp_all
  rw [e, h.cell (o + j)]
  exact hu j u hj
theorem exAt (thr : Bool) {W : World} {g1 g2 : Nat} (h1 : Blk W g1 58 exD) (h2 : Blk W g2 72 (exC thr)) : AcAt (fun b => b = g1 ∨ b = g2) W (.slice (some ⟨g1, 0, none⟩) 2 2) (.slice (some ⟨g2, 0, none⟩) 2 2) (Cou.exA thr) := by
  refine ⟨fun b hb => ?_, ⟨some ⟨g1, 0, none⟩, 2, rfl, by simp [Cou.exA], by simp [Cou.exA], fun i hi => ?_⟩, ⟨some ⟨g2, 0, none⟩, 2, rfl, by simp [Cou.exA], by simp [Cou.exA], fun i hi => ?_⟩⟩
  · rcases hb with rfl | rfl
    · exact h1.lt
    · exact h2.lt
  · have hi2 : i = 0 ∨ i = 1 := by simp [Cou.exA] at hi; omega
    rcases hi2 with rfl | rfl
    · exact ⟨⟨g1, 0, none⟩, [.int .i64 36, .int .i64 60], rfl, .inl rfl, rfl, rfl, flds_blk h1 0 _ fun j u hj => by
        match j, hj with
        | 0, hj => simpa using hj
        | 1, hj => simpa using hj⟩
    · exact ⟨⟨g1, 0, none⟩, [.int .i64 36, .int .i64 60], rfl, .inl rfl, rfl, rfl, flds_blk h1 2 _ fun j u hj => by
        match j, hj with
        | 0, hj => simpa using hj
        | 1, hj => simpa using hj⟩
  · have hi2 : i = 0 ∨ i = 1 := by simp [Cou.exA] at hi; omega
    rcases hi2 with rfl | rfl
    · exact ⟨⟨g2, 0, none⟩, [.string ⟨#[97]⟩, .int .i64 0, .int .i64 1, .int .i64 0, .bool false], rfl, .inr rfl, rfl, rfl, flds_blk h2 0 _ fun j u hj => by
        match j, hj with
        | 0, hj => simpa using hj
        | 1, hj => simpa using hj
        | 2, hj => simpa using hj
        | 3, hj => simpa using hj
        | 4, hj => simpa using hj⟩
    · exact ⟨⟨g2, 0, none⟩, [.string ⟨#[98]⟩, .int .i64 1, .int .i64 1, .int .i64 12, .bool thr], rfl, .inr rfl, rfl, rfl, flds_blk h2 5 _ fun j u hj => by
        match j, hj with
        | 0, hj => simpa using hj
        | 1, hj => simpa using hj
        | 2, hj => simpa using hj
        | 3, hj => simpa using hj
        | 4, hj => simpa using hj⟩
theorem example_any (w : World) :
    Calls Tryd.prog 36 #[] w fun e w' => e = .returned (.agg #[.slice (some ⟨w.heap.size + 1, 0, none⟩) 2 2, .slice (some ⟨w.heap.size + 1 + 1, 0, none⟩) 2 2, .int .u64 3]) ∧ Blk w' (w.heap.size + 1) 58 exD ∧ Blk w' (w.heap.size + 1 + 1) 72 (exC true) ∧ Below w.heap.size w w' := by
  go_enter Tryd.func36, Tryd.ntmps36
  go_wp2_with fail
  refine bodyPost_ret (v := .agg #[.slice (some ⟨w.heap.size + 1, 0, none⟩) 2 2, .slice (some ⟨w.heap.size + 1 + 1, 0, none⟩) 2 2, .int .u64 3]) ?_ rfl ?_
  · simp [results, Tryd.f36, go_sem]
  · refine ⟨rfl, ?_, ?_, Ba (Ba (Ba (B0 w) _) _) _⟩
    · have := (Blk.new (w.alloc (.cells #[.slice (some ⟨w.heap.size + 1, 0, none⟩) 2 2, .slice (some ⟨w.heap.size + 1 + 1, 0, none⟩) 2 2, .int .u64 3] 34)) 58 exD).alloc (.cells (exC true) 72)
      simpa using this
    · have := Blk.new ((w.alloc (.cells #[.slice (some ⟨w.heap.size + 1, 0, none⟩) 2 2, .slice (some ⟨w.heap.size + 1 + 1, 0, none⟩) 2 2, .int .u64 3] 34)).alloc (.cells exD 58)) 72 (exC true)
      simpa using this
section
variable {W : World} {g1 g2 : Nat}
theorem exReach1 (h1 : Blk W g1 58 exD) (h2 : Blk W g2 72 (exC true)) (hT : Tab64 W) (hg : 0 < W.heap.size) :
    Calls Tryd.prog 13 #[.agg #[.slice (some ⟨g1, 0, none⟩) 2 2, .slice (some ⟨g2, 0, none⟩) 2 2, .int .u64 3], .agg #[.int .i64 0, .int .i64 40]] W fun e w' => ∃ ad c, e = .returned (.tuple #[.slice (some ad) 2 c, .int .i64 0]) ∧ Flds w' (ad.add 2) [.int .i64 1, .int .i64 52] ∧ W.heap.size ≤ ad.block ∧ ad.block < w'.heap.size ∧ Below W.heap.size W w' := by
  refine (Reach_any (Cou.exA true) _ _ (by decide) (0, 40) W _ (exAt true h1 h2) hT hg).mono ?_
  rintro e w' ⟨v, l, rfl, q1, q2, q3, q4⟩
  have he : reachErr (Cou.exA true) (0, 40) = 0 := by unfold reachErr; rw [if_pos (Cou.ex_right true)]; rfl
  obtain ⟨r1, r2⟩ := q3 he
  have hl := Cou.ex_reach1 r1 r2
  subst hl
  obtain ⟨A, c, rfl, _, _, hat⟩ := q1
  obtain ⟨ad, cs, rfl, hlo, _, hcs, hfl⟩ := hat 1 (by simp)
  unfold CtC at hcs
  subst hcs
  have hb := cell_lt (hfl 0 _ rfl)
  rw [block_of_add, block_of_add] at hb
  rw [he]
  exact ⟨ad, c, rfl, hfl, hlo, hb, q4⟩
theorem exReach2 (h1 : Blk W g1 58 exD) (h2 : Blk W g2 72 (exC true)) (hT : Tab64 W) (hg : 0 < W.heap.size) :
    Calls Tryd.prog 13 #[.agg #[.slice (some ⟨g1, 0, none⟩) 2 2, .slice (some ⟨g2, 0, none⟩) 2 2, .int .u64 3], .agg #[.int .i64 1, .int .i64 50]] W fun e w' => ∃ A c, e = .returned (.tuple #[.slice A 0 c, .int .i64 0]) ∧ Below W.heap.size W w' := by
  refine (Reach_any (Cou.exA true) _ _ (by decide) (1, 50) W _ (exAt true h1 h2) hT hg).mono ?_
  rintro e w' ⟨v, l, rfl, q1, q2, q3, q4⟩
  have he : reachErr (Cou.exA true) (1, 50) = 0 := by unfold reachErr; rw [if_pos (Cou.ex_right true)]; rfl
  obtain ⟨r1, r2⟩ := q3 he
  have hl := Cou.ex_reach2 r1 r2
  subst hl
  obtain ⟨A, c, rfl, _, _, hat⟩ := q1
  rw [he]
  exact ⟨A, c, rfl, q4⟩
theorem exReach3 (h1 : Blk W g1 58 exD) (h2 : Blk W g2 72 (exC false)) (hT : Tab64 W) (hg : 0 < W.heap.size) :
    Calls Tryd.prog 13 #[.agg #[.slice (some ⟨g1, 0, none⟩) 2 2, .slice (some ⟨g2, 0, none⟩) 2 2, .int .u64 3], .agg #[.int .i64 0, .int .i64 40]] W fun e w' => ∃ A c, e = .returned (.tuple #[.slice A 1 c, .int .i64 0]) ∧ Below W.heap.size W w' := by
  refine (Reach_any (Cou.exA false) _ _ (by decide) (0, 40) W _ (exAt false h1 h2) hT hg).mono ?_
  rintro e w' ⟨v, l, rfl, q1, q2, q3, q4⟩
  have he : reachErr (Cou.exA false) (0, 40) = 0 := by unfold reachErr; rw [if_pos (Cou.ex_right false)]; rfl
  obtain ⟨r1, r2⟩ := q3 he
  have hl := Cou.ex_reach3 r1 r2
  subst hl
  obtain ⟨A, c, rfl, _, _, hat⟩ := q1
  rw [he]
  exact ⟨A, c, rfl, q4⟩
theorem exMatrix (h1 : Blk W g1 58 exD) (h2 : Blk W g2 72 (exC true)) (hT : Tab64 W) (hg : 0 < W.heap.size) :
    Calls Tryd.prog 19 #[.agg #[.slice (some ⟨g1, 0, none⟩) 2 2, .slice (some ⟨g2, 0, none⟩) 2 2, .int .u64 3]] W fun e w' => ∃ ad c ad0 c0, e = .returned (.tuple #[.slice (some ad) 2 c, .int .i64 0]) ∧ w'.cell? ad = some (.slice (some ad0) 2 c0) ∧ w'.cell? ad0 = some (.bool false) ∧ w'.cell? (ad0.add 1) = some (.bool true) ∧ W.heap.size ≤ ad.block ∧ ad.block < w'.heap.size ∧ W.heap.size ≤ ad0.block ∧ ad0.block < w'.heap.size ∧ Below W.heap.size W w' := by
  refine (Matrix_ok (Cou.exA true) (Cou.ex_right true) _ _ (by decide) W _ (exAt true h1 h2) hT hg).mono ?_
  rintro e w' ⟨v, M, rfl, q1, q2, q3⟩
  obtain ⟨r0, r1, rfl, rfl, hr1⟩ := ex_mat q2
  obtain ⟨A, c, rfl, _, _, hat⟩ := q1
  obtain ⟨ad, cs, rfl, hlo, _, ⟨u, rfl, hu⟩, hfl⟩ := hat 0 (by simp)
  obtain ⟨A0, c0, rfl, _, _, hat0⟩ := hu
  obtain ⟨ad0, cs0, rfl, hlo0, _, hcs0, hfl0⟩ := hat0 0 (by simp)
  obtain ⟨ad1, cs1, e1, _, _, hcs1, hfl1⟩ := hat0 1 (by simp)
  injection e1 with e1
  subst e1
  subst hcs0
  subst hcs1
  have a0 := hfl.f0 rfl
  have b0 := hfl0.f0 rfl
  have b1 := hfl1.f0 rfl
  simp [Addr.add] at a0 b0
  exact ⟨ad, c, ad0, c0, rfl, a0, b0, by simpa using b1, hlo, cell_lt a0, hlo0, cell_lt b0, q3⟩
end
set_option maxRecDepth 100000 in
set_option maxHeartbeats 2000000 in
theorem known_any (w : World) (hT : Tab64 w) (hg : 0 < w.heap.size) :
    Calls Tryd.prog 11 #[] w fun e w' => e = .returned (.bool true) ∧ Below w.heap.size w w' := by
  have HT := Lib.hid hT
  have HEX := Lib.hid (example_any w)
  clear hT
  go_enter Tryd.func11, Tryd.ntmps11
  go_upto_region 2 with (go_at_call 36; (with_reducible refine (HEX.out.mono ?_)); rintro e w1 ⟨rfl, h1, h2, hb1⟩; have H1 := Lib.hid h1; have H2 := Lib.hid h2; have HB1 := Lib.hid hb1; clear h1 h2 hb1)
  obtain ⟨g1, hg1⟩ : ∃ g1, w.heap.size + 1 = g1 := ⟨_, rfl⟩
  rw [hg1] at H1 H2 ⊢
  obtain ⟨g2, hg2⟩ : ∃ g2, g1 + 1 = g2 := ⟨_, rfl⟩
  rw [hg2] at H2 ⊢
  obtain ⟨W2, hW2⟩ : ∃ W2 : World, w1.alloc (.cells #[.slice (some ⟨g1, 0, none⟩) 2 2, .slice (some ⟨g2, 0, none⟩) 2 2, .int .u64 3] 34) = W2 := ⟨_, rfl⟩
  obtain ⟨bx, hbx⟩ : ∃ bx, w1.heap.size = bx := ⟨_, rfl⟩
  have bX : Blk W2 bx 34 #[.slice (some ⟨g1, 0, none⟩) 2 2, .slice (some ⟨g2, 0, none⟩) 2 2, .int .u64 3] := by rw [← hW2, ← hbx]; exact Blk.new _ _ _
  have k1 : Blk W2 g1 58 exD := by rw [← hW2]; exact H1.out.alloc _
  have k2 : Blk W2 g2 72 (exC true) := by rw [← hW2]; exact H2.out.alloc _
  have hB2 : Below w.heap.size w W2 := by rw [← hW2]; exact Ba HB1.out _
  have hn12 : g1 ≠ g2 := by omega
  have hnx : bx ≠ g2 := by have := H2.out.lt; omega
  rw [hW2, hbx]
  have x0 := bX.cell 0
  have x1 := bX.cell 1
  have x2 := bX.cell 2
  simp only [List.getElem?_toArray, List.getElem?_cons_zero, List.getElem?_cons_succ] at x0 x1 x2
  have hgs : w.heap.size ≤ g2 := by omega
  have K1 := Lib.hid k1
  have K2 := Lib.hid k2
  have BX := Lib.hid bX
  have HB2 := Lib.hid hB2
  clear hW2 hbx H1 H2 HB1 bX k1 k2 hB2 HEX hg1 hg2
  have hR1 := exReach1 K1.out K2.out (HT.out.below HB2.out) (Nat.lt_of_lt_of_le hg HB2.out.size)
  have HR1 := Lib.hid hR1
  clear hR1
  go_upto_region 3 with (go_at_call 13; (with_reducible refine (HR1.out.mono ?_)); rintro e w3 ⟨ad, c, rfl, q1, q2, q3, hb3⟩; have K1' := Lib.hid (K1.out.below hb3 K1.out.lt); have K2' := Lib.hid (K2.out.below hb3 K2.out.lt); have BX' := Lib.hid (BX.out.below hb3 BX.out.lt); have HB3 := Lib.hid (Bt HB2.out hb3); have QF := Lib.hid q1; have hle2 := BX.out.lt; have hk2 := K2.out.lt; clear q1 hb3)
  clear x0 x1 x2 HR1 K1 K2 BX HB2
  have x0 := BX'.out.cell 0
  have x1 := BX'.out.cell 1
  have x2 := BX'.out.cell 2
  simp only [List.getElem?_toArray, List.getElem?_cons_zero, List.getElem?_cons_succ] at x0 x1 x2
  have hR2 := exReach2 K1'.out K2'.out (HT.out.below HB3.out) (Nat.lt_of_lt_of_le hg HB3.out.size)
  have HR2 := Lib.hid hR2
  clear hR2
  go_upto_region 4 with (go_at_call 13; (with_reducible refine (HR2.out.mono ?_)); rintro e w4 ⟨A2, c2, rfl, hb4⟩; have L1 := Lib.hid (K1'.out.below hb4 K1'.out.lt); have L2 := Lib.hid (K2'.out.below hb4 K2'.out.lt); have LX := Lib.hid (BX'.out.below hb4 BX'.out.lt); have HB4 := Lib.hid (Bt HB3.out hb4); have QF4 := Lib.hid (QF.out.below hb4 (by rw [block_of_add]; exact q3)); have q34 := Nat.lt_of_lt_of_le q3 hb4.size; clear hb4)
  clear x0 x1 x2 HR2 K1' K2' BX' HB3 QF
  have x0 := LX.out.cell 0
  have x1 := LX.out.cell 1
  have x2 := LX.out.cell 2
  simp only [List.getElem?_toArray, List.getElem?_cons_zero, List.getElem?_cons_succ] at x0 x1 x2
  have hMX := exMatrix L1.out L2.out (HT.out.below HB4.out) (Nat.lt_of_lt_of_le hg HB4.out.size)
  have HMX := Lib.hid hMX
  have hk4 := L2.out.lt
  clear hMX
  go_upto_region 5 with (go_at_call 19; (with_reducible refine (HMX.out.mono ?_)); rintro e w5 ⟨am, cm, a0, c0, rfl, r1, r2, r3, r4, r5, r6, r7, hb5⟩; have M1 := Lib.hid (L1.out.below hb5 L1.out.lt); have M2 := Lib.hid (L2.out.below hb5 L2.out.lt); have MX := Lib.hid (LX.out.below hb5 LX.out.lt); have HB5 := Lib.hid (Bt HB4.out hb5); have QF5 := Lib.hid (QF4.out.below hb5 (by rw [block_of_add]; exact q34)); have q35 := Nat.lt_of_lt_of_le q34 hb5.size; have R1 := Lib.hid r1; have R2 := Lib.hid r2; have R3 := Lib.hid r3; clear hb5 r1 r2 r3)
  clear x0 x1 x2 HMX L1 L2 LX HB4 QF4
  have x0 := MX.out.cell 0
  have x1 := MX.out.cell 1
  have x2 := MX.out.cell 2
  have z9 := M2.out.cell 9
  have zf := M2.out.frozen 9
  simp only [List.getElem?_toArray, List.getElem?_cons_zero, List.getElem?_cons_succ] at x0 x1 x2 z9
  go_upto_region 6 with fail
  obtain ⟨w6, hw6⟩ : ∃ w6 : World, w5.setCell ⟨g2, 9, none⟩ (.bool false) = w6 := ⟨_, rfl⟩
  have N1 : Hid (Blk w6 g1 58 exD) := Lib.hid (by rw [← hw6]; exact M1.out.far hn12 _)
  have N2 : Hid (Blk w6 g2 72 (exC false)) := Lib.hid (by
    rw [← hw6]
    have := M2.out.set_ 9 (.bool false)
    simpa using this)
  have NX : Hid (Blk w6 bx 34 #[.slice (some ⟨g1, 0, none⟩) 2 2, .slice (some ⟨g2, 0, none⟩) 2 2, .int .u64 3]) := Lib.hid (by rw [← hw6]; exact MX.out.far hnx _)
  have hB6 : Below w.heap.size w w6 := by rw [← hw6]; exact Bs HB5.out _ hgs
  have hs6 : w6.heap.size = w5.heap.size := by rw [← hw6]; simp
  have hcl : ∀ p : Addr, p.block ≠ g2 → w6.cell? p = w5.cell? p := fun p hp => by rw [← hw6]; exact World.cell?_of_block (Below.heap_setCell _ _ _ _ hp)
  have HCL := Lib.hid hcl
  have HB6 := Lib.hid hB6
  rw [hw6]
  clear hw6 hcl hB6 x0 x1 x2 z9 zf M1 M2 MX HB5
  have x0 := NX.out.cell 0
  have x1 := NX.out.cell 1
  have x2 := NX.out.cell 2
  simp only [List.getElem?_toArray, List.getElem?_cons_zero, List.getElem?_cons_succ] at x0 x1 x2
  have hR3 := exReach3 N1.out N2.out (HT.out.below HB6.out) (Nat.lt_of_lt_of_le hg HB6.out.size)
  have HR3 := Lib.hid hR3
  clear hR3
  go_upto_region 7 with (go_at_call 13; (with_reducible refine (HR3.out.mono ?_)); rintro e w7 ⟨A7, c7, rfl, hb7⟩; have HB7 := Lib.hid (Bt HB6.out hb7); have HCL7 := Lib.hid (fun (p : Addr) (hp : p.block ≠ g2) (hp2 : p.block < w6.heap.size) => (hb7.cell (p := p) hp2).trans (HCL.out p hp)); clear hb7)
  have y0 := (HCL7.out (ad.add 2) (by rw [block_of_add]; omega) (by rw [block_of_add]; omega)).trans (QF5.out.f0 rfl)
  have y1 := (HCL7.out ⟨(ad.add 2).block, (ad.add 2).off + 1, none⟩ (by rw [block_of_add]; omega) (by rw [block_of_add]; omega)).trans (QF5.out.f1 rfl)
  have m0 := (HCL7.out am (by omega) (by omega)).trans R1.out
  have m1 := (HCL7.out a0 (by omega) (by omega)).trans R2.out
  have m2 := (HCL7.out (a0.add 1) (by rw [block_of_add]; omega) (by rw [block_of_add]; omega)).trans R3.out
  replace y0 : w7.cell? ⟨ad.block, ad.off + 2, none⟩ = some (.int .i64 1) := y0
  replace y1 : w7.cell? ⟨ad.block, ad.off + 2 + 1, none⟩ = some (.int .i64 52) := y1
  replace m2 : w7.cell? ⟨a0.block, a0.off + 1, none⟩ = some (.bool true) := m2
  clear x0 x1 x2
  go_wp2_with fail
  go_ret
  exact ⟨rfl, HB7.out⟩
end Go.Proofs.YtnkjhppjjklgfaaDoor
