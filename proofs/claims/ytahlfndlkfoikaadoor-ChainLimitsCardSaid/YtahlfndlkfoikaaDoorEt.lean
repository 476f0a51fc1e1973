/- Walks over chain's statements: example, known. -/
import Derived.Test.YtahlfndlkfoikaaDoorEi
import Derived.Test.YtahlfndlkfoikaaDoorEk
import Derived.Test.YtahlfndlkfoikaaDoorEo
namespace Go.Proofs.YtahlfndlkfoikaaDoor
open Go Go.RowKit Go.Shelf
namespace Cou
/-- The action of the example. -/
def exA (thr : Bool) : Ac := ⟨[(36, 60), (36, 60)], [⟨⟨#[97]⟩, 0, 1, 0, false⟩, ⟨⟨#[98]⟩, 1, 1, 12, thr⟩], 3⟩
theorem ex_right (thr : Bool) : rightF (exA thr) = 0 := by cases thr <;> decide

end Cou
abbrev exD : Array Value := #[.int .i64 36, .int .i64 60, .int .i64 36, .int .i64 60]
abbrev exC (thr : Bool) : Array Value := #[.string ⟨#[97]⟩, .int .i64 0, .int .i64 1, .int .i64 0, .bool false, .string ⟨#[98]⟩, .int .i64 1, .int .i64 1, .int .i64 12, .bool thr]
theorem flds_blk {W : World} {g : Nat} {t : TypeId} {cs : Array Value} (h : Blk W g t cs) (o : Nat) (us : List Value) (hu : ∀ j u, us[j]? = some u → cs[o + j]? = some u) : Flds W ((⟨g, 0, none⟩ : Addr).add o) us := fun j u hj => by
  have e : ((⟨g, 0, none⟩ : Addr).add o).add j = ⟨g, o + j, none⟩ := by
    unfold Addr.add
    split <;> split <;> simp_all
  rw [e, h.cell (o + j)]
  exact hu j u hj
theorem exAt (thr : Bool) {W : World} {g1 g2 : Nat} (h1 : Blk W g1 62 exD) (h2 : Blk W g2 46 (exC thr)) : AcAt (fun b => b = g1 ∨ b = g2) W (.slice (some ⟨g1, 0, none⟩) 2 2) (.slice (some ⟨g2, 0, none⟩) 2 2) (Cou.exA thr) := by
  refine ⟨fun b hb => ?_, ⟨some ⟨g1, 0, none⟩, 2, rfl, by simp [Cou.exA], by simp [Cou.exA], fun i hi => ?_⟩, ⟨some ⟨g2, 0, none⟩, 2, rfl, by simp [Cou.exA], by simp [Cou.exA], fun i hi => ?_⟩⟩
  · rcases hb with rfl | rfl
    · exact h1.lt
    · exact h2.lt
  · have hi2 : i = 0 ∨ i = 1 := by simp [Cou.exA] at hi; omega
    rcases hi2 with rfl | rfl
    · exact ⟨⟨g1, 0, none⟩, [.int .i64 36, .int .i64 60], rfl, .inl rfl, rfl, rfl, flds_blk h1 0 _ fun j u hj => by
        match j, hj with
        | 0, hj => simpa using hj
        | 1, hj => simpa using hj⟩
    · exact ⟨⟨g1, 0, none⟩, [.int .i64 36, .int .i64 60], rfl, .inl rfl, rfl, rfl, flds_blk h1 2 _ fun j u hj => by
        match j, hj with
        | 0, hj => simpa using hj
        | 1, hj => simpa using hj⟩
  · have hi2 : i = 0 ∨ i = 1 := by simp [Cou.exA] at hi; omega
    rcases hi2 with rfl | rfl
    · exact ⟨⟨g2, 0, none⟩, [.string ⟨#[97]⟩, .int .i64 0, .int .i64 1, .int .i64 0, .bool false], rfl, .inr rfl, rfl, rfl, flds_blk h2 0 _ fun j u hj => by
        match j, hj with
        | 0, hj => simpa using hj
        | 1, hj => simpa using hj
        | 2, hj => simpa using hj
        | 3, hj => simpa using hj
        | 4, hj => simpa using hj⟩
    · exact ⟨⟨g2, 0, none⟩, [.string ⟨#[98]⟩, .int .i64 1, .int .i64 1, .int .i64 12, .bool thr], rfl, .inr rfl, rfl, rfl, flds_blk h2 5 _ fun j u hj => by
        match j, hj with
        | 0, hj => simpa using hj
        | 1, hj => simpa using hj
        | 2, hj => simpa using hj
        | 3, hj => simpa using hj
        | 4, hj => simpa using hj⟩
theorem example_any (w : World) :
    Calls Tryd.prog 37 #[] w fun e w' => e = .returned (.agg #[.slice (some ⟨w.heap.size + 1, 0, none⟩) 2 2, .slice (some ⟨w.heap.size + 1 + 1, 0, none⟩) 2 2, .int .u64 3]) ∧ Blk w' (w.heap.size + 1) 62 exD ∧ Blk w' (w.heap.size + 1 + 1) 46 (exC true) ∧ Below w.heap.size w w' := by
  go_enter Tryd.func37, Tryd.ntmps37
  go_wp2_with fail
  refine bodyPost_ret (v := .agg #[.slice (some ⟨w.heap.size + 1, 0, none⟩) 2 2, .slice (some ⟨w.heap.size + 1 + 1, 0, none⟩) 2 2, .int .u64 3]) ?_ rfl ?_
  · simp [results, Tryd.f37, go_sem]
  · refine ⟨rfl, ?_, ?_, Ba (Ba (Ba (B0 w) _) _) _⟩
    · have := (Blk.new (w.alloc (.cells #[.slice (some ⟨w.heap.size + 1, 0, none⟩) 2 2, .slice (some ⟨w.heap.size + 1 + 1, 0, none⟩) 2 2, .int .u64 3] 33)) 62 exD).alloc (.cells (exC true) 46)
      simpa using this
    · have := Blk.new ((w.alloc (.cells #[.slice (some ⟨w.heap.size + 1, 0, none⟩) 2 2, .slice (some ⟨w.heap.size + 1 + 1, 0, none⟩) 2 2, .int .u64 3] 33)).alloc (.cells exD 62)) 46 (exC true)
      simpa using this

/-- The chains of the example. -/
def exL : List Cha.Ch := [([0], (1, 36)), ([0, 1], (1, 48)), ([0, 1, 1], (1, 60))]
/-- The text of the example. -/
def exS : ByteArray := ⟨#[67, 50, 32, 97, 32, 67, 50, 32, 98, 32, 67, 51]⟩
theorem ex_all : Cha.allR (Cou.exA true) (0, 36) = (0, exL) := by decide +kernel
theorem ex_cut : Cha.cutR (Cou.exA true) (0, 36) (1, 48) = (0, [0]) := by decide +kernel
theorem ex_fol : Cha.folR (Cou.exA true) (0, 36) [1] = (24, []) := by decide +kernel
theorem ex_text : Cha.textR (Cou.exA true) (0, 36) [0, 1] = (0, exS) := by decide +kernel
/-- A block of ints reads as a list. -/
theorem slI_blk {W : World} {g : Nat} {cs : Array Value} (h : Blk W g 3 cs) (l : List Int) (hc : cs = (inCs l).toArray) {n : Nat} (hn : l.length = n := by rfl) (hl : l.length ≤ 1000 := by decide) : SlI (fun b => b < W.heap.size) W (.slice (some ⟨g, 0, none⟩) n n) l := by
  subst hc hn
  refine ⟨some ⟨g, 0, none⟩, l.length, rfl, Nat.le_refl _, by omega, fun i hi => ⟨⟨g, 0, none⟩, [.int .i64 l[i]], rfl, h.lt, rfl, rfl, fun j u hu => ?_⟩⟩
  have hj : j = 0 := by
    have := (List.getElem?_eq_some_iff.1 hu).1
    simpa using this
  subst hj
  have e : (((⟨g, 0, none⟩ : Addr).add (i * 1)).add 0) = ⟨g, i, none⟩ := by unfold Addr.add; split <;> simp_all
  rw [e, h.cell i]
  simp only [List.getElem?_cons_zero, Option.some.injEq] at hu
  subst hu
  simp [inCs, hi]
/-- What holds behind each operation of a drawn region. -/
def FK1 (_bk : Nat) (j : Nat) (s : Nat → Value) (w : World) : Prop :=
  match j with
  | 0 => ∃ g1 g2, s 12 = .agg #[.slice (some ⟨g1, 0, none⟩) 2 2, .slice (some ⟨g2, 0, none⟩) 2 2, .int .u64 3] ∧ Blk w g1 62 exD ∧ Blk w g2 46 (exC true)
  | 1 => s 13 = .agg #[.int .i64 0, .int .i64 36]
  | 2 => ∃ v, s 14 = .tuple #[v, .int .i64 0] ∧ OwnCh 0 w v exL
  | 3 => ∃ v, s 11 = .tuple #[v, .int .i64 0] ∧ OwnCh 0 w v exL
  | 4 => ∃ v, s 15 = v ∧ OwnCh 0 w v exL
  | 5 => s 16 = .int .i64 0
  | 6 => ∃ v, s 2 = v ∧ OwnCh 0 w v exL
  | 7 => s 3 = .int .i64 0
  | _ => True
def VK1 (j : Nat) : List Nat := match j with
  | 0 => [12] | 1 => [13] | 2 => [14] | 3 => [11] | 4 => [15] | 5 => [16] | 6 => [2] | 7 => [3] | _ => []
def EK1 (j : Nat) : Bool := j == 6 || j == 7
theorem FK1_V (_bk : Nat) (j : Nat) (s s' : Nat → Value) (w : World) (h : ∀ t, t ∈ VK1 j → s' t = s t) (hF : FK1 _bk j s w) : FK1 _bk j s' w := by
  match j with
  | 0 => unfold FK1 at hF ⊢; simp only at hF ⊢; rw [h 12 (by simp [VK1])]; exact hF
  | 1 => unfold FK1 at hF ⊢; simp only at hF ⊢; rw [h 13 (by simp [VK1])]; exact hF
  | 2 => unfold FK1 at hF ⊢; simp only at hF ⊢; rw [h 14 (by simp [VK1])]; exact hF
  | 3 => unfold FK1 at hF ⊢; simp only at hF ⊢; rw [h 11 (by simp [VK1])]; exact hF
  | 4 => unfold FK1 at hF ⊢; simp only at hF ⊢; rw [h 15 (by simp [VK1])]; exact hF
  | 5 => unfold FK1 at hF ⊢; simp only at hF ⊢; rw [h 16 (by simp [VK1])]; exact hF
  | 6 => unfold FK1 at hF ⊢; simp only at hF ⊢; rw [h 2 (by simp [VK1])]; exact hF
  | 7 => unfold FK1 at hF ⊢; simp only at hF ⊢; rw [h 3 (by simp [VK1])]; exact hF
  | _ + 8 => trivial
theorem FK1_below (_bk : Nat) (j : Nat) (s : Nat → Value) (w w' : World) (hb : Below w.heap.size w w') (hF : FK1 _bk j s w) : FK1 _bk j s w' := by
  match j with
  | 0 => obtain ⟨g1, g2, q1, q2, q3⟩ := hF; exact ⟨g1, g2, q1, q2.below hb q2.lt, q3.below hb q3.lt⟩
  | 1 => exact hF
  | 2 => obtain ⟨v, q1, q2⟩ := hF; exact ⟨v, q1, q2.below hb⟩
  | 3 => obtain ⟨v, q1, q2⟩ := hF; exact ⟨v, q1, q2.below hb⟩
  | 4 => obtain ⟨v, q1, q2⟩ := hF; exact ⟨v, q1, q2.below hb⟩
  | 5 => exact hF
  | 6 => obtain ⟨v, q1, q2⟩ := hF; exact ⟨v, q1, q2.below hb⟩
  | 7 => exact hF
  | _ + 8 => trivial
/-- What holds behind each operation of a drawn region. -/
def FK2 (_bk : Nat) (j : Nat) (s : Nat → Value) (w : World) : Prop :=
  match j with
  | 0 => ∃ g1 g2, s 18 = .agg #[.slice (some ⟨g1, 0, none⟩) 2 2, .slice (some ⟨g2, 0, none⟩) 2 2, .int .u64 3] ∧ Blk w g1 62 exD ∧ Blk w g2 46 (exC true)
  | 1 => s 19 = .agg #[.int .i64 0, .int .i64 36]
  | 2 => s 20 = .agg #[.int .i64 1, .int .i64 48]
  | 3 => ∃ v, s 21 = .tuple #[v, .int .i64 0] ∧ SlI (fun b => b < w.heap.size) w v [0]
  | 4 => ∃ v, s 17 = .tuple #[v, .int .i64 0] ∧ SlI (fun b => b < w.heap.size) w v [0]
  | 5 => ∃ v, s 22 = v ∧ SlI (fun b => b < w.heap.size) w v [0]
  | 6 => s 23 = .int .i64 0
  | 7 => ∃ v, s 4 = v ∧ SlI (fun b => b < w.heap.size) w v [0]
  | 8 => s 5 = .int .i64 0
  | _ => True
def VK2 (j : Nat) : List Nat := match j with
  | 0 => [18] | 1 => [19] | 2 => [20] | 3 => [21] | 4 => [17] | 5 => [22] | 6 => [23] | 7 => [4] | 8 => [5] | _ => []
def EK2 (j : Nat) : Bool := j == 7 || j == 8
theorem FK2_V (_bk : Nat) (j : Nat) (s s' : Nat → Value) (w : World) (h : ∀ t, t ∈ VK2 j → s' t = s t) (hF : FK2 _bk j s w) : FK2 _bk j s' w := by
  match j with
  | 0 => unfold FK2 at hF ⊢; simp only at hF ⊢; rw [h 18 (by simp [VK2])]; exact hF
  | 1 => unfold FK2 at hF ⊢; simp only at hF ⊢; rw [h 19 (by simp [VK2])]; exact hF
  | 2 => unfold FK2 at hF ⊢; simp only at hF ⊢; rw [h 20 (by simp [VK2])]; exact hF
  | 3 => unfold FK2 at hF ⊢; simp only at hF ⊢; rw [h 21 (by simp [VK2])]; exact hF
  | 4 => unfold FK2 at hF ⊢; simp only at hF ⊢; rw [h 17 (by simp [VK2])]; exact hF
  | 5 => unfold FK2 at hF ⊢; simp only at hF ⊢; rw [h 22 (by simp [VK2])]; exact hF
  | 6 => unfold FK2 at hF ⊢; simp only at hF ⊢; rw [h 23 (by simp [VK2])]; exact hF
  | 7 => unfold FK2 at hF ⊢; simp only at hF ⊢; rw [h 4 (by simp [VK2])]; exact hF
  | 8 => unfold FK2 at hF ⊢; simp only at hF ⊢; rw [h 5 (by simp [VK2])]; exact hF
  | _ + 9 => trivial
theorem FK2_below (_bk : Nat) (j : Nat) (s : Nat → Value) (w w' : World) (hb : Below w.heap.size w w') (hF : FK2 _bk j s w) : FK2 _bk j s w' := by
  match j with
  | 0 => obtain ⟨g1, g2, q1, q2, q3⟩ := hF; exact ⟨g1, g2, q1, q2.below hb q2.lt, q3.below hb q3.lt⟩
  | 1 => exact hF
  | 2 => exact hF
  | 3 => obtain ⟨v, q1, q2⟩ := hF; exact ⟨v, q1, (SlI.keep q2 (Agree.below hb fun b h => h)).mono fun b h => Nat.lt_of_lt_of_le h hb.size⟩
  | 4 => obtain ⟨v, q1, q2⟩ := hF; exact ⟨v, q1, (SlI.keep q2 (Agree.below hb fun b h => h)).mono fun b h => Nat.lt_of_lt_of_le h hb.size⟩
  | 5 => obtain ⟨v, q1, q2⟩ := hF; exact ⟨v, q1, (SlI.keep q2 (Agree.below hb fun b h => h)).mono fun b h => Nat.lt_of_lt_of_le h hb.size⟩
  | 6 => exact hF
  | 7 => obtain ⟨v, q1, q2⟩ := hF; exact ⟨v, q1, (SlI.keep q2 (Agree.below hb fun b h => h)).mono fun b h => Nat.lt_of_lt_of_le h hb.size⟩
  | 8 => exact hF
  | _ + 9 => trivial
/-- What holds behind each operation of a drawn region. -/
def FK3 (_bk : Nat) (j : Nat) (s : Nat → Value) (w : World) : Prop :=
  match j with
  | 0 => ∃ g1 g2, s 25 = .agg #[.slice (some ⟨g1, 0, none⟩) 2 2, .slice (some ⟨g2, 0, none⟩) 2 2, .int .u64 3] ∧ Blk w g1 62 exD ∧ Blk w g2 46 (exC true)
  | 1 => s 26 = .agg #[.int .i64 0, .int .i64 36]
  | 2 => ∃ g, s 27 = .slice (some ⟨g, 0, none⟩) 1 1 ∧ Blk w g 3 #[.int .i64 1]
  | 3 => ∃ v, s 28 = .tuple #[v, .int .i64 24] ∧ (0 = 0 ∨ w = w)
  | 4 => ∃ v, s 24 = .tuple #[v, .int .i64 24] ∧ (0 = 0 ∨ w = w)
  | 5 => ∃ v, s 29 = v ∧ (0 = 0 ∨ w = w)
  | 6 => s 30 = .int .i64 24
  | 7 => ∃ v, s 6 = v ∧ (0 = 0 ∨ w = w)
  | 8 => s 7 = .int .i64 24
  | _ => True
def VK3 (j : Nat) : List Nat := match j with
  | 0 => [25] | 1 => [26] | 2 => [27] | 3 => [28] | 4 => [24] | 5 => [29] | 6 => [30] | 7 => [6] | 8 => [7] | _ => []
def EK3 (j : Nat) : Bool := j == 7 || j == 8
theorem FK3_V (_bk : Nat) (j : Nat) (s s' : Nat → Value) (w : World) (h : ∀ t, t ∈ VK3 j → s' t = s t) (hF : FK3 _bk j s w) : FK3 _bk j s' w := by
  match j with
  | 0 => unfold FK3 at hF ⊢; simp only at hF ⊢; rw [h 25 (by simp [VK3])]; exact hF
  | 1 => unfold FK3 at hF ⊢; simp only at hF ⊢; rw [h 26 (by simp [VK3])]; exact hF
  | 2 => unfold FK3 at hF ⊢; simp only at hF ⊢; rw [h 27 (by simp [VK3])]; exact hF
  | 3 => unfold FK3 at hF ⊢; simp only at hF ⊢; rw [h 28 (by simp [VK3])]; exact hF
  | 4 => unfold FK3 at hF ⊢; simp only at hF ⊢; rw [h 24 (by simp [VK3])]; exact hF
  | 5 => unfold FK3 at hF ⊢; simp only at hF ⊢; rw [h 29 (by simp [VK3])]; exact hF
  | 6 => unfold FK3 at hF ⊢; simp only at hF ⊢; rw [h 30 (by simp [VK3])]; exact hF
  | 7 => unfold FK3 at hF ⊢; simp only at hF ⊢; rw [h 6 (by simp [VK3])]; exact hF
  | 8 => unfold FK3 at hF ⊢; simp only at hF ⊢; rw [h 7 (by simp [VK3])]; exact hF
  | _ + 9 => trivial
theorem FK3_below (_bk : Nat) (j : Nat) (s : Nat → Value) (w w' : World) (hb : Below w.heap.size w w') (hF : FK3 _bk j s w) : FK3 _bk j s w' := by
  match j with
  | 0 => obtain ⟨g1, g2, q1, q2, q3⟩ := hF; exact ⟨g1, g2, q1, q2.below hb q2.lt, q3.below hb q3.lt⟩
  | 1 => exact hF
  | 2 => obtain ⟨g, q1, q2⟩ := hF; exact ⟨g, q1, q2.below hb q2.lt⟩
  | 3 => obtain ⟨v, q1, q2⟩ := hF; exact ⟨v, q1, q2.elim (fun _ => .inl rfl) (fun _ => .inl rfl)⟩
  | 4 => obtain ⟨v, q1, q2⟩ := hF; exact ⟨v, q1, q2.elim (fun _ => .inl rfl) (fun _ => .inl rfl)⟩
  | 5 => obtain ⟨v, q1, q2⟩ := hF; exact ⟨v, q1, q2.elim (fun _ => .inl rfl) (fun _ => .inl rfl)⟩
  | 6 => exact hF
  | 7 => obtain ⟨v, q1, q2⟩ := hF; exact ⟨v, q1, q2.elim (fun _ => .inl rfl) (fun _ => .inl rfl)⟩
  | 8 => exact hF
  | _ + 9 => trivial
/-- What holds behind each operation of a drawn region. -/
def FK4 (_bk : Nat) (j : Nat) (s : Nat → Value) (w : World) : Prop :=
  match j with
  | 0 => ∃ g1 g2, s 32 = .agg #[.slice (some ⟨g1, 0, none⟩) 2 2, .slice (some ⟨g2, 0, none⟩) 2 2, .int .u64 3] ∧ Blk w g1 62 exD ∧ Blk w g2 46 (exC true)
  | 1 => s 33 = .agg #[.int .i64 0, .int .i64 36]
  | 2 => ∃ g, s 34 = .slice (some ⟨g, 0, none⟩) 2 2 ∧ Blk w g 3 #[.int .i64 0, .int .i64 1]
  | 3 => ∃ v, s 35 = .tuple #[v, .int .i64 0] ∧ (v = .string exS ∧ (0 = 0 ∨ w = w))
  | 4 => ∃ v, s 31 = .tuple #[v, .int .i64 0] ∧ (v = .string exS ∧ (0 = 0 ∨ w = w))
  | 5 => ∃ v, s 36 = v ∧ (v = .string exS ∧ (0 = 0 ∨ w = w))
  | 6 => s 37 = .int .i64 0
  | 7 => ∃ v, s 8 = v ∧ (v = .string exS ∧ (0 = 0 ∨ w = w))
  | 8 => s 9 = .int .i64 0
  | _ => True
def VK4 (j : Nat) : List Nat := match j with
  | 0 => [32] | 1 => [33] | 2 => [34] | 3 => [35] | 4 => [31] | 5 => [36] | 6 => [37] | 7 => [8] | 8 => [9] | _ => []
def EK4 (j : Nat) : Bool := j == 7 || j == 8
theorem FK4_V (_bk : Nat) (j : Nat) (s s' : Nat → Value) (w : World) (h : ∀ t, t ∈ VK4 j → s' t = s t) (hF : FK4 _bk j s w) : FK4 _bk j s' w := by
  match j with
  | 0 => unfold FK4 at hF ⊢; simp only at hF ⊢; rw [h 32 (by simp [VK4])]; exact hF
  | 1 => unfold FK4 at hF ⊢; simp only at hF ⊢; rw [h 33 (by simp [VK4])]; exact hF
  | 2 => unfold FK4 at hF ⊢; simp only at hF ⊢; rw [h 34 (by simp [VK4])]; exact hF
  | 3 => unfold FK4 at hF ⊢; simp only at hF ⊢; rw [h 35 (by simp [VK4])]; exact hF
  | 4 => unfold FK4 at hF ⊢; simp only at hF ⊢; rw [h 31 (by simp [VK4])]; exact hF
  | 5 => unfold FK4 at hF ⊢; simp only at hF ⊢; rw [h 36 (by simp [VK4])]; exact hF
  | 6 => unfold FK4 at hF ⊢; simp only at hF ⊢; rw [h 37 (by simp [VK4])]; exact hF
  | 7 => unfold FK4 at hF ⊢; simp only at hF ⊢; rw [h 8 (by simp [VK4])]; exact hF
  | 8 => unfold FK4 at hF ⊢; simp only at hF ⊢; rw [h 9 (by simp [VK4])]; exact hF
  | _ + 9 => trivial
theorem FK4_below (_bk : Nat) (j : Nat) (s : Nat → Value) (w w' : World) (hb : Below w.heap.size w w') (hF : FK4 _bk j s w) : FK4 _bk j s w' := by
  match j with
  | 0 => obtain ⟨g1, g2, q1, q2, q3⟩ := hF; exact ⟨g1, g2, q1, q2.below hb q2.lt, q3.below hb q3.lt⟩
  | 1 => exact hF
  | 2 => obtain ⟨g, q1, q2⟩ := hF; exact ⟨g, q1, q2.below hb q2.lt⟩
  | 3 => obtain ⟨v, q1, q2⟩ := hF; exact ⟨v, q1, ⟨q2.1, .inl rfl⟩⟩
  | 4 => obtain ⟨v, q1, q2⟩ := hF; exact ⟨v, q1, ⟨q2.1, .inl rfl⟩⟩
  | 5 => obtain ⟨v, q1, q2⟩ := hF; exact ⟨v, q1, ⟨q2.1, .inl rfl⟩⟩
  | 6 => exact hF
  | 7 => obtain ⟨v, q1, q2⟩ := hF; exact ⟨v, q1, ⟨q2.1, .inl rfl⟩⟩
  | 8 => exact hF
  | _ + 9 => trivial
set_option maxRecDepth 100000 in
set_option maxHeartbeats 4000000 in
theorem known_any (w : World) (hT : Tab64 w) (hg : 0 < w.heap.size) (hP : TabP w) :
    Calls Tryd.prog 11 #[] w fun e w' => e = .returned (.bool true) ∧ Below w.heap.size w w' := by
  have HT0 := Lib.hid (fun W (hb : Below w.heap.size w W) => (show Tab64 W ∧ 0 < W.heap.size ∧ TabP W from ⟨hT.below hb, Nat.lt_of_lt_of_le hg hb.size, hP.below hb⟩))
  obtain ⟨bk, hbk⟩ : ∃ bk, w.heap.size = bk := ⟨_, rfl⟩
  obtain ⟨w1, hw1⟩ : ∃ w1 : World, w.alloc (.cells #[.int .i64 0, .int .i64 36] 36) = w1 := ⟨_, rfl⟩
  have KK : Blk w1 bk 36 #[.int .i64 0, .int .i64 36] := by rw [← hw1, ← hbk]; exact Blk.new _ _ _
  have B1 : Below w.heap.size w w1 := by rw [← hw1]; exact Ba (B0 w) _
  have HKK := Lib.hid (fun W (hb : Below w1.heap.size w1 W) => (show W.cell? ⟨bk, 0, none⟩ = some (.int .i64 0) ∧ W.cell? ⟨bk, 1, none⟩ = some (.int .i64 36) from ⟨(Bc hb KK.lt).trans (KK.cell 0), (Bc hb KK.lt).trans (KK.cell 1)⟩))
  have HB1 := Lib.hid B1
  have HW1 := Lib.hid hw1
  have HBK := Lib.hid hbk
  clear hT hg hP KK B1 hw1 hbk
  have HT1 := Lib.hid (fun W (hb : Below w1.heap.size w1 W) => HT0.out W (Bt HB1.out hb))
  go_enter Tryd.func11, Tryd.ntmps11
  go_upto_region 2 with fail
  rw [HW1.out, HBK.out]
  have hBB : ∀ (L : Nat → Bool) (i : Nat) (W W' : World), Below W.heap.size W W' → Below w1.heap.size w1 W → Below w1.heap.size w1 W' := fun _ _ _ _ hb h => Bt h hb
  have HK := HKK
  refine region_blocks (by kernel_rfl) ?_
  refine from_lawW 8 EK1 (fun _ W => Below w1.heap.size w1 W) (FK1 bk) VK1 (by kernel_rfl) rfl (FK1_V _) (by kernel_rfl) (by kernel_rfl) ((B0 w1).drew) ⟨?_, ?_, ?_, ?_, ?_, ?_, ?_, ?_, trivial⟩ ?_
  · refine OpFactW.call rfl (FK1_below _) hBB fun L a wx hl hf D hb => ?_
    refine ⟨37, #[], ?_, (example_any wx).mono ?_⟩
    · simp [go_sem]
    · rintro e w' ⟨rfl, h1, h2, hb2⟩
      exact ⟨_, rfl, hb2, fun s _ h => ⟨_, _, h 12 rfl, h1, h2⟩⟩
  · refine OpFactW.value rfl (FK1_below _) hBB fun L a wx hl hf D hb => ?_
    have h0 : sl a 1 = .pointer (some ⟨bk, 0, none⟩) := hf 1 (by kernel_rfl)
    have es := HK.out wx hb
    refine ⟨.agg #[.int .i64 0, .int .i64 36], wx, ?_, B0 _, fun s _ h => h 13 rfl⟩
    unfold sl at h0
    simp at h0
    simp [go_sem, h0, es]
  · refine OpFactW.call rfl (FK1_below _) hBB fun L a wx hl hf D hb => ?_
    obtain ⟨g1, g2, h1, k1, k2⟩ : ∃ g1 g2, sl a 12 = .agg #[.slice (some ⟨g1, 0, none⟩) 2 2, .slice (some ⟨g2, 0, none⟩) 2 2, .int .u64 3] ∧ Blk wx g1 62 exD ∧ Blk wx g2 46 (exC true) := D 0 (by kernel_rfl)
    have h2 : sl a 13 = .agg #[.int .i64 0, .int .i64 36] := D 1 (by kernel_rfl)
    refine ⟨29, #[.agg #[.slice (some ⟨g1, 0, none⟩) 2 2, .slice (some ⟨g2, 0, none⟩) 2 2, .int .u64 3], .agg #[.int .i64 0, .int .i64 36]], ?_, (All_any (Cou.exA true) _ _ (by decide) (0, 36) wx _ (exAt true k1 k2)).mono ?_⟩
    · unfold sl at h1 h2
      simp at h1 h2
      simp [go_sem, h1, h2]
    · rintro e w' ⟨v, rfl, hO, hb2⟩
      rw [ex_all] at hO
      exact ⟨_, rfl, hb2, fun s _ h => ⟨v, by rw [h 14 rfl, ex_all], OwnCh.more hO (Nat.zero_le _)⟩⟩
  · refine OpFactW.value rfl (FK1_below _) hBB fun L a wx hl hf D hb => ?_
    obtain ⟨v, h1, q⟩ : ∃ v, sl a 14 = .tuple #[v, .int .i64 0] ∧ OwnCh 0 wx v exL := D 2 (by kernel_rfl)
    refine ⟨.tuple #[v, .int .i64 0], wx, ?_, B0 _, fun s _ h => ⟨v, h 11 rfl, q⟩⟩
    unfold sl at h1
    simp at h1
    simp [go_sem, h1]
  · refine OpFactW.value rfl (FK1_below _) hBB fun L a wx hl hf D hb => ?_
    obtain ⟨v, h1, q⟩ : ∃ v, sl a 11 = .tuple #[v, .int .i64 0] ∧ OwnCh 0 wx v exL := D 3 (by kernel_rfl)
    refine ⟨v, wx, ?_, B0 _, fun s _ h => ⟨v, h 15 rfl, q⟩⟩
    unfold sl at h1
    simp at h1
    simp [go_sem, h1]
  · refine OpFactW.value rfl (FK1_below _) hBB fun L a wx hl hf D hb => ?_
    obtain ⟨v, h1, q⟩ : ∃ v, sl a 11 = .tuple #[v, .int .i64 0] ∧ OwnCh 0 wx v exL := D 3 (by kernel_rfl)
    refine ⟨.int .i64 0, wx, ?_, B0 _, fun s _ h => h 16 rfl⟩
    unfold sl at h1
    simp at h1
    simp [go_sem, h1]
  · refine OpFactW.value rfl (FK1_below _) hBB fun L a wx hl hf D hb => ?_
    obtain ⟨v, h1, q⟩ : ∃ v, sl a 15 = v ∧ OwnCh 0 wx v exL := D 4 (by kernel_rfl)
    refine ⟨v, wx, ?_, B0 _, fun s _ h => ⟨v, h 2 rfl, q⟩⟩
    unfold sl at h1
    simp at h1
    simp [go_sem, h1]
  · refine OpFactW.value rfl (FK1_below _) hBB fun L a wx hl hf D hb => ?_
    have h1 : sl a 16 = .int .i64 0 := D 5 (by kernel_rfl)
    refine ⟨.int .i64 0, wx, ?_, B0 _, fun s _ h => h 3 rfl⟩
    unfold sl at h1
    simp at h1
    simp [go_sem, h1]
  · intro L1 y w2 hb2 hF2
    obtain ⟨v2, h2, hO2⟩ : ∃ v, y 2 = v ∧ OwnCh 0 w2 v exL := hF2 6 (by decide) rfl
    have h3 : y 3 = .int .i64 0 := hF2 7 (by decide) rfl
    have HO2 := Lib.hid hO2
    have HB2 := Lib.hid hb2
    have HT2 := Lib.hid (fun W (hb : Below w2.heap.size w2 W) => HT1.out W (Bt HB2.out hb))
    have HK2 := Lib.hid (fun W (hb : Below w2.heap.size w2 W) => HKK.out W (Bt HB2.out hb))
    clear hF2 hb2 hO2 hBB
    rw [aft8 (d0 := 12) (d1 := 13) (d2 := 14) (d3 := 11) (d4 := 15) (d5 := 16) (d6 := 2) (d7 := 3) (by kernel_rfl) rfl]
    rw [h2, h3]
    simp only [List.set_cons_succ, List.set_cons_zero]
    refine from_end rfl ?_
    go_upto_region 3 with fail
    have hBB : ∀ (L : Nat → Bool) (i : Nat) (W W' : World), Below W.heap.size W W' → Below w2.heap.size w2 W → Below w2.heap.size w2 W' := fun _ _ _ _ hb h => Bt h hb
    have HK := HK2
    have HT := HT2
    refine region_blocks (by kernel_rfl) ?_
    refine from_lawW 9 EK2 (fun _ W => Below w2.heap.size w2 W) (FK2 bk) VK2 (by kernel_rfl) rfl (FK2_V _) (by kernel_rfl) (by kernel_rfl) ((B0 w2).drew) ⟨?_, ?_, ?_, ?_, ?_, ?_, ?_, ?_, ?_, trivial⟩ ?_
    · refine OpFactW.call rfl (FK2_below _) hBB fun L a wx hl hf D hb => ?_
      refine ⟨37, #[], ?_, (example_any wx).mono ?_⟩
      · simp [go_sem]
      · rintro e w' ⟨rfl, h1, h2, hb2⟩
        exact ⟨_, rfl, hb2, fun s _ h => ⟨_, _, h 18 rfl, h1, h2⟩⟩
    · refine OpFactW.value rfl (FK2_below _) hBB fun L a wx hl hf D hb => ?_
      have h0 : sl a 1 = .pointer (some ⟨bk, 0, none⟩) := hf 1 (by kernel_rfl)
      have es := HK.out wx hb
      refine ⟨.agg #[.int .i64 0, .int .i64 36], wx, ?_, B0 _, fun s _ h => h 19 rfl⟩
      unfold sl at h0
      simp at h0
      simp [go_sem, h0, es]
    · refine OpFactW.value rfl (FK2_below _) hBB fun L a wx hl hf D hb => ?_
      refine ⟨.agg #[.int .i64 1, .int .i64 48], wx, ?_, B0 _, fun s _ h => h 20 rfl⟩
      simp [go_sem]
    · refine OpFactW.call rfl (FK2_below _) hBB fun L a wx hl hf D hb => ?_
      obtain ⟨g1, g2, h1, k1, k2⟩ : ∃ g1 g2, sl a 18 = .agg #[.slice (some ⟨g1, 0, none⟩) 2 2, .slice (some ⟨g2, 0, none⟩) 2 2, .int .u64 3] ∧ Blk wx g1 62 exD ∧ Blk wx g2 46 (exC true) := D 0 (by kernel_rfl)
      have h2 : sl a 19 = .agg #[.int .i64 0, .int .i64 36] := D 1 (by kernel_rfl)
      have h3 : sl a 20 = .agg #[.int .i64 1, .int .i64 48] := D 2 (by kernel_rfl)
      refine ⟨18, #[.agg #[.slice (some ⟨g1, 0, none⟩) 2 2, .slice (some ⟨g2, 0, none⟩) 2 2, .int .u64 3], .agg #[.int .i64 0, .int .i64 36], .agg #[.int .i64 1, .int .i64 48]], ?_, (Cut_any (Cou.exA true) _ _ (by decide) (0, 36) (1, 48) wx _ (exAt true k1 k2) (HT.out wx hb).1 (HT.out wx hb).2.1).mono ?_⟩
      · unfold sl at h1 h2 h3
        simp at h1 h2 h3
        simp [go_sem, h1, h2, h3]
      · rintro e w' ⟨v, rfl, hO, hb2⟩
        rw [ex_cut] at hO
        exact ⟨_, rfl, hb2, fun s _ h => ⟨v, by rw [h 21 rfl, ex_cut], hO⟩⟩
    · refine OpFactW.value rfl (FK2_below _) hBB fun L a wx hl hf D hb => ?_
      obtain ⟨v, h1, q⟩ : ∃ v, sl a 21 = .tuple #[v, .int .i64 0] ∧ SlI (fun b => b < wx.heap.size) wx v [0] := D 3 (by kernel_rfl)
      refine ⟨.tuple #[v, .int .i64 0], wx, ?_, B0 _, fun s _ h => ⟨v, h 17 rfl, q⟩⟩
      unfold sl at h1
      simp at h1
      simp [go_sem, h1]
    · refine OpFactW.value rfl (FK2_below _) hBB fun L a wx hl hf D hb => ?_
      obtain ⟨v, h1, q⟩ : ∃ v, sl a 17 = .tuple #[v, .int .i64 0] ∧ SlI (fun b => b < wx.heap.size) wx v [0] := D 4 (by kernel_rfl)
      refine ⟨v, wx, ?_, B0 _, fun s _ h => ⟨v, h 22 rfl, q⟩⟩
      unfold sl at h1
      simp at h1
      simp [go_sem, h1]
    · refine OpFactW.value rfl (FK2_below _) hBB fun L a wx hl hf D hb => ?_
      obtain ⟨v, h1, q⟩ : ∃ v, sl a 17 = .tuple #[v, .int .i64 0] ∧ SlI (fun b => b < wx.heap.size) wx v [0] := D 4 (by kernel_rfl)
      refine ⟨.int .i64 0, wx, ?_, B0 _, fun s _ h => h 23 rfl⟩
      unfold sl at h1
      simp at h1
      simp [go_sem, h1]
    · refine OpFactW.value rfl (FK2_below _) hBB fun L a wx hl hf D hb => ?_
      obtain ⟨v, h1, q⟩ : ∃ v, sl a 22 = v ∧ SlI (fun b => b < wx.heap.size) wx v [0] := D 5 (by kernel_rfl)
      refine ⟨v, wx, ?_, B0 _, fun s _ h => ⟨v, h 4 rfl, q⟩⟩
      unfold sl at h1
      simp at h1
      simp [go_sem, h1]
    · refine OpFactW.value rfl (FK2_below _) hBB fun L a wx hl hf D hb => ?_
      have h1 : sl a 23 = .int .i64 0 := D 6 (by kernel_rfl)
      refine ⟨.int .i64 0, wx, ?_, B0 _, fun s _ h => h 5 rfl⟩
      unfold sl at h1
      simp at h1
      simp [go_sem, h1]
    · intro L2 y3 w3 hb3 hF3
      obtain ⟨v4, h4, hO4⟩ : ∃ v, y3 4 = v ∧ SlI (fun b => b < w3.heap.size) w3 v [0] := hF3 7 (by decide) rfl
      have h5 : y3 5 = .int .i64 0 := hF3 8 (by decide) rfl
      have HO4 := Lib.hid hO4
      have HB3 := Lib.hid (Bt HB2.out hb3)
      have HO2' := Lib.hid (OwnCh.below HO2.out hb3)
      have HT3 := Lib.hid (fun W (hb : Below w3.heap.size w3 W) => HT1.out W (Bt HB3.out hb))
      have HK3 := Lib.hid (fun W (hb : Below w3.heap.size w3 W) => HKK.out W (Bt HB3.out hb))
      clear hF3 hb3 hO4 hBB HK HT
      rw [aft9 (d0 := 18) (d1 := 19) (d2 := 20) (d3 := 21) (d4 := 17) (d5 := 22) (d6 := 23) (d7 := 4) (d8 := 5) (by kernel_rfl) rfl]
      rw [h4, h5]
      simp only [List.set_cons_succ, List.set_cons_zero]
      refine from_end rfl ?_
      go_upto_region 4 with fail
      have hBB : ∀ (L : Nat → Bool) (i : Nat) (W W' : World), Below W.heap.size W W' → Below w3.heap.size w3 W → Below w3.heap.size w3 W' := fun _ _ _ _ hb h => Bt h hb
      have HK := HK3
      refine region_blocks (by kernel_rfl) ?_
      refine from_lawW 9 EK3 (fun _ W => Below w3.heap.size w3 W) (FK3 bk) VK3 (by kernel_rfl) rfl (FK3_V _) (by kernel_rfl) (by kernel_rfl) ((B0 w3).drew) ⟨?_, ?_, ?_, ?_, ?_, ?_, ?_, ?_, ?_, trivial⟩ ?_
      · refine OpFactW.call rfl (FK3_below _) hBB fun L a wx hl hf D hb => ?_
        refine ⟨37, #[], ?_, (example_any wx).mono ?_⟩
        · simp [go_sem]
        · rintro e w' ⟨rfl, h1, h2, hb2⟩
          exact ⟨_, rfl, hb2, fun s _ h => ⟨_, _, h 25 rfl, h1, h2⟩⟩
      · refine OpFactW.value rfl (FK3_below _) hBB fun L a wx hl hf D hb => ?_
        have h0 : sl a 1 = .pointer (some ⟨bk, 0, none⟩) := hf 1 (by kernel_rfl)
        have es := HK.out wx hb
        refine ⟨.agg #[.int .i64 0, .int .i64 36], wx, ?_, B0 _, fun s _ h => h 26 rfl⟩
        unfold sl at h0
        simp at h0
        simp [go_sem, h0, es]
      · refine OpFactW.value rfl (FK3_below _) hBB fun L a wx hl hf D hb => ?_
        refine ⟨.slice (some ⟨wx.heap.size, 0, none⟩) 1 1, wx.alloc (.cells #[.int .i64 1] 3), ?_, Ba (B0 _) _, fun s _ h => ⟨_, h 27 rfl, Blk.new _ _ _⟩⟩
        simp [go_sem]
      · refine OpFactW.call rfl (FK3_below _) hBB fun L a wx hl hf D hb => ?_
        obtain ⟨g1, g2, h1, k1, k2⟩ : ∃ g1 g2, sl a 25 = .agg #[.slice (some ⟨g1, 0, none⟩) 2 2, .slice (some ⟨g2, 0, none⟩) 2 2, .int .u64 3] ∧ Blk wx g1 62 exD ∧ Blk wx g2 46 (exC true) := D 0 (by kernel_rfl)
        have h2 : sl a 26 = .agg #[.int .i64 0, .int .i64 36] := D 1 (by kernel_rfl)
        obtain ⟨g3, h3, k3⟩ : ∃ g, sl a 27 = .slice (some ⟨g, 0, none⟩) 1 1 ∧ Blk wx g 3 #[.int .i64 1] := D 2 (by kernel_rfl)
        refine ⟨14, #[.agg #[.slice (some ⟨g1, 0, none⟩) 2 2, .slice (some ⟨g2, 0, none⟩) 2 2, .int .u64 3], .agg #[.int .i64 0, .int .i64 36], .slice (some ⟨g3, 0, none⟩) 1 1], ?_, (Follow_any (Cou.exA true) _ _ (by decide) (0, 36) _ [1] wx _ (exAt true k1 k2).all (slI_blk k3 [1] rfl) (by simp)).mono ?_⟩
        · unfold sl at h1 h2 h3
          simp at h1 h2 h3
          simp [go_sem, h1, h2, h3]
        · rintro e w' ⟨v, rfl, -, hb2⟩
          exact ⟨_, rfl, hb2, fun s _ h => ⟨v, by rw [h 28 rfl, ex_fol], .inl rfl⟩⟩
      · refine OpFactW.value rfl (FK3_below _) hBB fun L a wx hl hf D hb => ?_
        obtain ⟨v, h1, q⟩ : ∃ v, sl a 28 = .tuple #[v, .int .i64 24] ∧ (0 = 0 ∨ wx = wx) := D 3 (by kernel_rfl)
        refine ⟨.tuple #[v, .int .i64 24], wx, ?_, B0 _, fun s _ h => ⟨v, h 24 rfl, q⟩⟩
        unfold sl at h1
        simp at h1
        simp [go_sem, h1]
      · refine OpFactW.value rfl (FK3_below _) hBB fun L a wx hl hf D hb => ?_
        obtain ⟨v, h1, q⟩ : ∃ v, sl a 24 = .tuple #[v, .int .i64 24] ∧ (0 = 0 ∨ wx = wx) := D 4 (by kernel_rfl)
        refine ⟨v, wx, ?_, B0 _, fun s _ h => ⟨v, h 29 rfl, q⟩⟩
        unfold sl at h1
        simp at h1
        simp [go_sem, h1]
      · refine OpFactW.value rfl (FK3_below _) hBB fun L a wx hl hf D hb => ?_
        obtain ⟨v, h1, q⟩ : ∃ v, sl a 24 = .tuple #[v, .int .i64 24] ∧ (0 = 0 ∨ wx = wx) := D 4 (by kernel_rfl)
        refine ⟨.int .i64 24, wx, ?_, B0 _, fun s _ h => h 30 rfl⟩
        unfold sl at h1
        simp at h1
        simp [go_sem, h1]
      · refine OpFactW.value rfl (FK3_below _) hBB fun L a wx hl hf D hb => ?_
        obtain ⟨v, h1, q⟩ : ∃ v, sl a 29 = v ∧ (0 = 0 ∨ wx = wx) := D 5 (by kernel_rfl)
        refine ⟨v, wx, ?_, B0 _, fun s _ h => ⟨v, h 6 rfl, q⟩⟩
        unfold sl at h1
        simp at h1
        simp [go_sem, h1]
      · refine OpFactW.value rfl (FK3_below _) hBB fun L a wx hl hf D hb => ?_
        have h1 : sl a 30 = .int .i64 24 := D 6 (by kernel_rfl)
        refine ⟨.int .i64 24, wx, ?_, B0 _, fun s _ h => h 7 rfl⟩
        unfold sl at h1
        simp at h1
        simp [go_sem, h1]
      · intro L3 y4 w4 hb4 hF4
        obtain ⟨v6, h6, -⟩ : ∃ v, y4 6 = v ∧ ((0 : Nat) = 0 ∨ w4 = w4) := hF4 7 (by decide) rfl
        have h7 : y4 7 = .int .i64 24 := hF4 8 (by decide) rfl
        have HB4 := Lib.hid (Bt HB3.out hb4)
        have HO2'' := Lib.hid (OwnCh.below HO2'.out hb4)
        have HO4' := Lib.hid ((SlI.keep HO4.out (Agree.below hb4 fun b h => h)).mono fun b h => Nat.lt_of_lt_of_le h hb4.size)
        have HT4 := Lib.hid (fun W (hb : Below w4.heap.size w4 W) => HT1.out W (Bt HB4.out hb))
        have HK4 := Lib.hid (fun W (hb : Below w4.heap.size w4 W) => HKK.out W (Bt HB4.out hb))
        clear hF4 hb4 hBB HK
        rw [aft9 (d0 := 25) (d1 := 26) (d2 := 27) (d3 := 28) (d4 := 24) (d5 := 29) (d6 := 30) (d7 := 6) (d8 := 7) (by kernel_rfl) rfl]
        rw [h6, h7]
        simp only [List.set_cons_succ, List.set_cons_zero]
        refine from_end rfl ?_
        go_upto_region 5 with fail
        have hBB : ∀ (L : Nat → Bool) (i : Nat) (W W' : World), Below W.heap.size W W' → Below w4.heap.size w4 W → Below w4.heap.size w4 W' := fun _ _ _ _ hb h => Bt h hb
        have HK := HK4
        have HT := HT4
        refine region_blocks (by kernel_rfl) ?_
        refine from_lawW 9 EK4 (fun _ W => Below w4.heap.size w4 W) (FK4 bk) VK4 (by kernel_rfl) rfl (FK4_V _) (by kernel_rfl) (by kernel_rfl) ((B0 w4).drew) ⟨?_, ?_, ?_, ?_, ?_, ?_, ?_, ?_, ?_, trivial⟩ ?_
        · refine OpFactW.call rfl (FK4_below _) hBB fun L a wx hl hf D hb => ?_
          refine ⟨37, #[], ?_, (example_any wx).mono ?_⟩
          · simp [go_sem]
          · rintro e w' ⟨rfl, h1, h2, hb2⟩
            exact ⟨_, rfl, hb2, fun s _ h => ⟨_, _, h 32 rfl, h1, h2⟩⟩
        · refine OpFactW.value rfl (FK4_below _) hBB fun L a wx hl hf D hb => ?_
          have h0 : sl a 1 = .pointer (some ⟨bk, 0, none⟩) := hf 1 (by kernel_rfl)
          have es := HK.out wx hb
          refine ⟨.agg #[.int .i64 0, .int .i64 36], wx, ?_, B0 _, fun s _ h => h 33 rfl⟩
          unfold sl at h0
          simp at h0
          simp [go_sem, h0, es]
        · refine OpFactW.value rfl (FK4_below _) hBB fun L a wx hl hf D hb => ?_
          refine ⟨.slice (some ⟨wx.heap.size, 0, none⟩) 2 2, wx.alloc (.cells #[.int .i64 0, .int .i64 1] 3), ?_, Ba (B0 _) _, fun s _ h => ⟨_, h 34 rfl, Blk.new _ _ _⟩⟩
          simp [go_sem]
        · refine OpFactW.call rfl (FK4_below _) hBB fun L a wx hl hf D hb => ?_
          obtain ⟨g1, g2, h1, k1, k2⟩ : ∃ g1 g2, sl a 32 = .agg #[.slice (some ⟨g1, 0, none⟩) 2 2, .slice (some ⟨g2, 0, none⟩) 2 2, .int .u64 3] ∧ Blk wx g1 62 exD ∧ Blk wx g2 46 (exC true) := D 0 (by kernel_rfl)
          have h2 : sl a 33 = .agg #[.int .i64 0, .int .i64 36] := D 1 (by kernel_rfl)
          obtain ⟨g3, h3, k3⟩ : ∃ g, sl a 34 = .slice (some ⟨g, 0, none⟩) 2 2 ∧ Blk wx g 3 #[.int .i64 0, .int .i64 1] := D 2 (by kernel_rfl)
          refine ⟨15, #[.agg #[.slice (some ⟨g1, 0, none⟩) 2 2, .slice (some ⟨g2, 0, none⟩) 2 2, .int .u64 3], .agg #[.int .i64 0, .int .i64 36], .slice (some ⟨g3, 0, none⟩) 2 2], ?_, (Text_any (Cou.exA true) _ _ (by decide) (0, 36) _ [0, 1] wx _ (exAt true k1 k2).all (slI_blk k3 [0, 1] rfl) (by simp) (HT.out wx hb).2.2).mono ?_⟩
          · unfold sl at h1 h2 h3
            simp at h1 h2 h3
            simp [go_sem, h1, h2, h3]
          · rintro e w' ⟨rfl, hb2⟩
            exact ⟨_, rfl, hb2, fun s _ h => ⟨_, by rw [h 35 rfl, ex_text], rfl, .inl rfl⟩⟩
        · refine OpFactW.value rfl (FK4_below _) hBB fun L a wx hl hf D hb => ?_
          obtain ⟨v, h1, q⟩ : ∃ v, sl a 35 = .tuple #[v, .int .i64 0] ∧ (v = .string exS ∧ (0 = 0 ∨ wx = wx)) := D 3 (by kernel_rfl)
          refine ⟨.tuple #[v, .int .i64 0], wx, ?_, B0 _, fun s _ h => ⟨v, h 31 rfl, q⟩⟩
          unfold sl at h1
          simp at h1
          simp [go_sem, h1]
        · refine OpFactW.value rfl (FK4_below _) hBB fun L a wx hl hf D hb => ?_
          obtain ⟨v, h1, q⟩ : ∃ v, sl a 31 = .tuple #[v, .int .i64 0] ∧ (v = .string exS ∧ (0 = 0 ∨ wx = wx)) := D 4 (by kernel_rfl)
          refine ⟨v, wx, ?_, B0 _, fun s _ h => ⟨v, h 36 rfl, q⟩⟩
          unfold sl at h1
          simp at h1
          simp [go_sem, h1]
        · refine OpFactW.value rfl (FK4_below _) hBB fun L a wx hl hf D hb => ?_
          obtain ⟨v, h1, q⟩ : ∃ v, sl a 31 = .tuple #[v, .int .i64 0] ∧ (v = .string exS ∧ (0 = 0 ∨ wx = wx)) := D 4 (by kernel_rfl)
          refine ⟨.int .i64 0, wx, ?_, B0 _, fun s _ h => h 37 rfl⟩
          unfold sl at h1
          simp at h1
          simp [go_sem, h1]
        · refine OpFactW.value rfl (FK4_below _) hBB fun L a wx hl hf D hb => ?_
          obtain ⟨v, h1, q⟩ : ∃ v, sl a 36 = v ∧ (v = .string exS ∧ (0 = 0 ∨ wx = wx)) := D 5 (by kernel_rfl)
          refine ⟨v, wx, ?_, B0 _, fun s _ h => ⟨v, h 8 rfl, q⟩⟩
          unfold sl at h1
          simp at h1
          simp [go_sem, h1]
        · refine OpFactW.value rfl (FK4_below _) hBB fun L a wx hl hf D hb => ?_
          have h1 : sl a 37 = .int .i64 0 := D 6 (by kernel_rfl)
          refine ⟨.int .i64 0, wx, ?_, B0 _, fun s _ h => h 9 rfl⟩
          unfold sl at h1
          simp at h1
          simp [go_sem, h1]
        · intro L4 y5 w5 hb5 hF5
          obtain ⟨v8, h8, hv8, -⟩ : ∃ v, y5 8 = v ∧ (v = .string exS ∧ ((0 : Nat) = 0 ∨ w5 = w5)) := hF5 7 (by decide) rfl
          have h9 : y5 9 = .int .i64 0 := hF5 8 (by decide) rfl
          rw [hv8] at h8
          have HB5 := Lib.hid (Bt HB4.out hb5)
          have hC := OwnCh.below HO2''.out hb5
          have hI := (SlI.keep HO4'.out (Agree.below hb5 fun b h => h)).mono fun b h => Nat.lt_of_lt_of_le h hb5.size
          clear hF5 hb5 hBB HK HT
          rw [aft9 (d0 := 32) (d1 := 33) (d2 := 34) (d3 := 35) (d4 := 31) (d5 := 36) (d6 := 37) (d7 := 8) (d8 := 9) (by kernel_rfl) rfl]
          rw [h8, h9]
          simp only [List.set_cons_succ, List.set_cons_zero]
          refine from_end rfl ?_
          obtain ⟨A2, cp2, hv2, -, -, hat2⟩ := hC.sl (F := fun b => b < w5.heap.size) (by simp [exL]) fun b _ h _ => h
          obtain ⟨ad2, cs2, rfl, hlt2, -, ⟨u2, rfl, hu2⟩, hfl2⟩ := hat2 2 (by simp [exL])
          obtain ⟨Au, cu, rfl, -⟩ := id hu2
          obtain ⟨A4, cp4, hv4, -, -, hat4⟩ := SlI.open hI
          obtain ⟨ad4, rfl, hlt4, hc4⟩ := hat4 0 (by simp)
          have e0 := hfl2.f0 rfl
          have e1 := hfl2.f1 rfl
          have e2 := hfl2.f2 rfl
          subst hv2 hv4
          clear hat2 hat4 hu2 hC hI hfl2
          simp [exL, Addr.add] at e0 e1 e2 hc4
          have hxs : (exS == ⟨#[67, 50, 32, 97, 32, 67, 50, 32, 98, 32, 67, 51]⟩) = true := by decide
          unfold exS
          go_wp2_with fail
          go_ret
          exact ⟨rfl, Bt HB1.out HB5.out⟩
end Go.Proofs.YtahlfndlkfoikaaDoor
