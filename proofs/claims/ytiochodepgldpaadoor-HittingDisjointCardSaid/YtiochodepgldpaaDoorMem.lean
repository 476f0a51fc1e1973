/- Words for memory, program-free: slices whose elements are cells that read as data, and the worlds in which they still do. -/
import Derived.Test.YtiochodepgldpaaDoorBase
namespace Go.Proofs.YtiochodepgldpaaDoor
open Go Go.RowKit

/-- The worlds have the same blocks of F. -/
def Agree (F : Nat → Prop) (w w' : World) : Prop := ∀ b, F b → w'.heap[b]? = w.heap[b]?
theorem Agree.refl (F : Nat → Prop) (w : World) : Agree F w w := fun _ _ => rfl
theorem Agree.trans {F : Nat → Prop} {a b c : World} (h : Agree F a b) (k : Agree F b c) : Agree F a c := fun i hi => (k i hi).trans (h i hi)
theorem Agree.mono {F G : Nat → Prop} {w w' : World} (h : Agree F w w') (hg : ∀ b, G b → F b) : Agree G w w' := fun b hb => h b (hg b hb)
theorem Agree.below {F : Nat → Prop} {B : Nat} {w w' : World} (h : Below B w w') (hF : ∀ b, F b → b < B) : Agree F w w' := fun b hb => h.block b (hF b hb)
theorem Agree.grown {F : Nat → Prop} {row : Option Nat} {w w' : World} (h : w.grownBy w' row) (hF : ∀ b, F b → b < w.heap.size ∧ some b ≠ row) : Agree F w w' :=
  fun b hb => h.block b (hF b hb).1 (hF b hb).2
theorem Agree.alloc {F : Nat → Prop} {w : World} (o : Obj) (hF : ∀ b, F b → b < w.heap.size) : Agree F w (w.alloc o) := fun b hb => Below.heap_alloc w o b (hF b hb)
theorem Agree.setCell {F : Nat → Prop} {w : World} {p : Addr} (u : Value) (hF : ∀ b, F b → b ≠ p.block) : Agree F w (w.setCell p u) := fun b hb => Below.heap_setCell w p u b (hF b hb)
theorem Agree.drew {F : Nat → Prop} {w : World} : Agree F w w.drew := fun _ _ => rfl
theorem Agree.drewN {F : Nat → Prop} {w : World} (n : Nat) : Agree F w (w.drewN n) := fun _ _ => rfl
theorem Agree.cell {F : Nat → Prop} {w w' : World} (h : Agree F w w') {p : Addr} (hp : F p.block) : w'.cell? p = w.cell? p := World.cell?_of_block (w := w) (h p.block hp)

/-- Steps of a call that leaves all that was there. -/
theorem Bt {a b c : World} (h : Below a.heap.size a b) (k : Below b.heap.size b c) : Below a.heap.size a c := h.trans (k.mono h.size)
theorem Ba {a b : World} (h : Below a.heap.size a b) (o : Obj) : Below a.heap.size a (b.alloc o) := h.alloc h.size o
theorem Bs {a b : World} (h : Below a.heap.size a b) {p : Addr} (u : Value) (hp : a.heap.size ≤ p.block) : Below a.heap.size a (b.setCell p u) := h.setCell hp u
theorem B0 (w : World) : Below w.heap.size w w := Below.refl _ w
theorem Bc {a b : World} (h : Below a.heap.size a b) {k o : Nat} (hk : k < a.heap.size) : b.cell? ⟨k, o, none⟩ = a.cell? ⟨k, o, none⟩ := h.cell (p := ⟨k, o, none⟩) hk

/-- Blocks below B; blocks below B other than a row; new blocks. -/
def Old (B : Nat) : Nat → Prop := fun b => b < B
def OldBut (B : Nat) (row : Option Nat) : Nat → Prop := fun b => b < B ∧ some b ≠ row
def New (B B' : Nat) : Nat → Prop := fun b => B ≤ b ∧ b < B'

/-- The cells from p on hold us. -/
def Flds (w : World) (p : Addr) (us : List Value) : Prop := ∀ j u, us[j]? = some u → w.cell? (p.add j) = some u
section
variable {w w' : World} {p : Addr} {us : List Value} {F : Nat → Prop}
theorem Flds.keep (h : Flds w p us) (ha : Agree F w w') (hp : F p.block) : Flds w' p us := fun j u hu => (ha.cell (by rw [block_of_add]; exact hp)).trans (h j u hu)
theorem Flds.below {B : Nat} (h : Flds w p us) (hb : Below B w w') (hp : p.block < B) : Flds w' p us := fun j u hu => (hb.cell (by rw [block_of_add]; exact hp)).trans (h j u hu)
theorem Flds.f0 {u : Value} (h : Flds w p us) (hu : us[0]? = some u) : w.cell? p = some u := by simpa [Addr.add] using h 0 u hu
theorem Flds.fs {u : Value} (h : Flds w p us) (j : Nat) (hu : us[j + 1]? = some u) : w.cell? ⟨p.block, p.off + (j + 1), none⟩ = some u := by simpa [Addr.add] using h (j + 1) u hu
theorem Flds.f1 {u : Value} (h : Flds w p us) (hu : us[1]? = some u) : w.cell? ⟨p.block, p.off + 1, none⟩ = some u := h.fs 0 hu
theorem Flds.f2 {u : Value} (h : Flds w p us) (hu : us[2]? = some u) : w.cell? ⟨p.block, p.off + 2, none⟩ = some u := h.fs 1 hu
theorem Flds.f3 {u : Value} (h : Flds w p us) (hu : us[3]? = some u) : w.cell? ⟨p.block, p.off + 3, none⟩ = some u := h.fs 2 hu
theorem Flds.f4 {u : Value} (h : Flds w p us) (hu : us[4]? = some u) : w.cell? ⟨p.block, p.off + 4, none⟩ = some u := h.fs 3 hu
end

/-- The slice value v reads as the list l: element i has k cells that read as l[i] by R. -/
def Sl {α : Type} (F : Nat → Prop) (k : Nat) (R : World → List Value → α → Prop) (w : World) (v : Value) (l : List α) : Prop :=
  ∃ A c, v = .slice A l.length c ∧ l.length ≤ c ∧ l.length ≤ 140737488355328 ∧
    ∀ i (hi : i < l.length), ∃ ad cs, A = some ad ∧ F ad.block ∧ cs.length = k ∧ R w cs l[i] ∧ Flds w (ad.add (i * k)) cs

section
variable {α : Type} {F G : Nat → Prop} {k : Nat} {R : World → List Value → α → Prop} {w w' : World} {v : Value} {l : List α}
theorem Sl.keep (h : Sl F k R w v l) (ha : Agree F w w') (hR : ∀ cs x, R w cs x → R w' cs x) : Sl F k R w' v l := by
  obtain ⟨A, c, hv, hc, hl, hi⟩ := h
  refine ⟨A, c, hv, hc, hl, fun i hil => ?_⟩
  obtain ⟨ad, cs, hA, hF, hk, hr, hcell⟩ := hi i hil
  exact ⟨ad, cs, hA, hF, hk, hR _ _ hr, hcell.keep ha (by rw [block_of_add]; exact hF)⟩
theorem Sl.mono (h : Sl F k R w v l) (hF : ∀ b, F b → G b) : Sl G k R w v l := by
  obtain ⟨A, c, hv, hc, hl, hi⟩ := h
  refine ⟨A, c, hv, hc, hl, fun i hil => ?_⟩
  obtain ⟨ad, cs, hA, hf, r⟩ := hi i hil
  exact ⟨ad, cs, hA, hF _ hf, r⟩
theorem Sl.monoR {R' : World → List Value → α → Prop} (h : Sl F k R w v l) (hR : ∀ cs x, R w cs x → R' w cs x) : Sl F k R' w v l := by
  obtain ⟨A, c, hv, hc, hl, hi⟩ := h
  refine ⟨A, c, hv, hc, hl, fun i hil => ?_⟩
  obtain ⟨ad, cs, hA, hf, hk, hr, r⟩ := hi i hil
  exact ⟨ad, cs, hA, hf, hk, hR _ _ hr, r⟩
theorem Sl.nil_ : Sl F k R w (.slice none 0 0) ([] : List α) := ⟨none, 0, rfl, by simp, by simp, fun i hi => absurd hi (by simp)⟩
/-- A row of the call's own, read as a list. -/
theorem Sl.of_own {base : Nat} {e : TypeId} {n : Nat} {xs : List Value} {cs : List (List Value)} (h : w.ownsRow base e k v n xs) (hn : n = l.length) (hl : l.length ≤ 140737488355328)
    (hx : xs = cs.flatten) (hcl : cs.length = l.length) (hR : ∀ i (hi : i < l.length), ∃ c, cs[i]? = some c ∧ c.length = k ∧ R w c l[i]) (hF : ∀ b, base ≤ b → b < w.heap.size → v.ownBlock = some b → F b) : Sl F k R w v l := by
  subst hn
  have hform : l.length = 0 ∨ 0 < l.length := by omega
  have hlens : ∀ (L : List (List Value)), (∀ c ∈ L, c.length = k) → ∀ i c, L[i]? = some c → ∀ j u, c[j]? = some u → L.flatten[i * k + j]? = some u := by
    intro L
    induction L with
    | nil => intro _ i c h; simp at h
    | cons x L ih =>
      intro hall i c h j u hu
      have hx : x.length = k := hall x (by simp)
      cases i with
      | zero =>
        simp only [List.getElem?_cons_zero, Option.some.injEq] at h
        subst h
        have hj : j < x.length := by
          rcases Nat.lt_or_ge j x.length with h | h
          · exact h
          · rw [List.getElem?_eq_none h] at hu; cases hu
        simp only [List.flatten_cons, Nat.zero_mul, Nat.zero_add]
        rw [List.getElem?_append_left hj, hu]
      | succ i =>
        simp only [List.getElem?_cons_succ] at h
        have := ih (fun c hc => hall c (List.mem_cons_of_mem _ hc)) i c h j u hu
        simp only [List.flatten_cons]
        rw [List.getElem?_append_right (by rw [hx, Nat.succ_mul]; omega), hx, Nat.succ_mul]
        rw [show i * k + k + j - k = i * k + j from by omega]
        exact this
  have hallk : ∀ c ∈ cs, c.length = k := by
    intro c hc
    obtain ⟨i, hi, rfl⟩ := List.getElem_of_mem hc
    obtain ⟨c', hc', hk', _⟩ := hR i (by omega)
    rw [List.getElem?_eq_getElem hi] at hc'
    injection hc' with hc'
    rw [hc']; exact hk'
  rcases Nat.eq_zero_or_pos l.length with h0 | h0
  · have hl0 : l = [] := List.eq_nil_of_length_eq_zero h0
    subst hl0
    rcases h.2 with ⟨rfl, _⟩ | ⟨g, cap, cur, rfl, _, _, hnc, _⟩
    · exact ⟨none, 0, rfl, by simp, by simp, fun i hi => absurd hi (by simp)⟩
    · exact ⟨_, cap, rfl, by simp, by simp, fun i hi => absurd hi (by simp)⟩
  · obtain ⟨g, cap, hv, hb, hlt⟩ := h.form h0
    subst hv
    refine ⟨_, cap, rfl, ?_, hl, fun i hi => ?_⟩
    · rcases h.2 with ⟨hh, _⟩ | ⟨g', cap', cur, hh, _, _, hnc, _⟩
      · cases hh
      · injection hh with _ _ h3; subst h3; exact hnc
    · obtain ⟨c, hc, hk', hr⟩ := hR i hi
      refine ⟨_, c, rfl, hF g hb hlt (by simp [Value.ownBlock]), hk', hr, fun j u hu => ?_⟩
      have := hlens cs hallk i c hc j u hu
      rw [← hx] at this
      rw [add_of_add]
      exact h.cells (g := g) rfl _ _ this
end

/-- A cell that is an int. -/
def IntC (_ : World) (cs : List Value) (x : Int) : Prop := cs = [.int .i64 x]
abbrev SlI (F : Nat → Prop) (w : World) (v : Value) (l : List Int) : Prop := Sl F 1 IntC w v l
theorem SlI.open {F : Nat → Prop} {w : World} {v : Value} {l : List Int} (h : SlI F w v l) : ∃ A c, v = .slice A l.length c ∧ l.length ≤ c ∧ l.length ≤ 140737488355328 ∧
    ∀ i (hi : i < l.length), ∃ ad, A = some ad ∧ F ad.block ∧ w.cell? (ad.add i) = some (.int .i64 l[i]) := by
  obtain ⟨A, c, hv, hc, hl, hi⟩ := h
  refine ⟨A, c, hv, hc, hl, fun i hil => ?_⟩
  obtain ⟨ad, cs, hA, hF, hk, hr, hcell⟩ := hi i hil
  unfold IntC at hr
  subst hr
  exact ⟨ad, hA, hF, by simpa using hcell.f0 rfl⟩
theorem SlI.keep {F : Nat → Prop} {w w' : World} {v : Value} {l : List Int} (h : SlI F w v l) (ha : Agree F w w') : SlI F w' v l := Sl.keep h ha fun _ _ hr => hr

theorem SlI.one {F : Nat → Prop} {W : World} {b : Nat} {x : Int} (hc : W.cell? ⟨b, 0, none⟩ = some (.int .i64 x)) (hF : F b) : SlI F W (.slice (some ⟨b, 0, none⟩) 1 1) [x] := by
  refine ⟨_, 1, rfl, by simp, by simp, fun i hi => ?_⟩
  obtain rfl : i = 0 := by simp at hi; omega
  refine ⟨_, [.int .i64 x], rfl, hF, rfl, rfl, fun j u hu => ?_⟩
  cases j with
  | zero => simp at hu; subst hu; simpa [Addr.add] using hc
  | succ j => simp at hu

/-- A cell that is a slice of ints; a slice of slices of ints. -/
def SlC (F : Nat → Prop) (w : World) (cs : List Value) (l : List Int) : Prop := ∃ u, cs = [u] ∧ SlI F w u l
abbrev SlII (F : Nat → Prop) (w : World) (v : Value) (l : List (List Int)) : Prop := Sl F 1 (SlC F) w v l
theorem SlII.open {F : Nat → Prop} {w : World} {v : Value} {l : List (List Int)} (h : SlII F w v l) : ∃ A c, v = .slice A l.length c ∧ l.length ≤ c ∧ l.length ≤ 140737488355328 ∧
    ∀ i (hi : i < l.length), ∃ ad u, A = some ad ∧ F ad.block ∧ w.cell? (ad.add i) = some u ∧ SlI F w u l[i] := by
  obtain ⟨A, c, hv, hc, hl, hi⟩ := h
  refine ⟨A, c, hv, hc, hl, fun i hil => ?_⟩
  obtain ⟨ad, cs, hA, hF, hk, ⟨u, rfl, hr⟩, hcell⟩ := hi i hil
  exact ⟨ad, u, hA, hF, by simpa using hcell.f0 rfl, hr⟩
theorem SlII.keep {F : Nat → Prop} {w w' : World} {v : Value} {l : List (List Int)} (h : SlII F w v l) (ha : Agree F w w') : SlII F w' v l :=
  Sl.keep h ha fun _ _ ⟨u, e, hr⟩ => ⟨u, e, hr.keep ha⟩
end Go.Proofs.YtiochodepgldpaaDoor
