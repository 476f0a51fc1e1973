/- Walks over chain's statements: sorted, of all chains. Plain: the first chain is the first one of those that end there. -/
import Derived.Test.YtahlfndlkfoikaaDoorLt
import Derived.Test.YtahlfndlkfoikaaDoorLx
namespace Go.Proofs.YtahlfndlkfoikaaDoor
open Go Go.RowKit Go.Shelf
namespace Cha
theorem all_ch {a : Cou.Ac} {key : Cou.Ct} {L : List Ch} (h : allF a key = some L) : ∀ y ∈ L, ∃ ts, IsCh a key y.1 ts ∧ lastF ts = y.2 := by
  unfold allF at h
  cases hq : queF a 2002 0 (moreF a ([], []) key) with
  | none => rw [hq] at h; cases h
  | some q =>
    rw [hq] at h
    dsimp only at h
    split at h
    · injection h with h
      have hQ := queF_spec a key 2002 0 _ (QI.start a key) q hq
      intro y hy
      rw [← h] at hy
      obtain ⟨z, hz, rfl⟩ := List.mem_map.1 hy
      exact ⟨z.2, QI.ch hQ z hz, rfl⟩
    · cases h
theorem least_head {a : Cou.Ac} (hok : Cou.Ok a) (key c : Cou.Ct) {L : List Ch} (hL : allF a key = some L) (hs : L.Pairwise (fun x y => lessF x.1 y.1 = true)) (hch : ∀ y ∈ L, ∃ ts, IsCh a key y.1 ts ∧ lastF ts = y.2) : leastF a key c = (L.filter fun x => decide (x.2 = c)).head? := by
  have hp := leastF_spec hok key c
  have hsf := hs.filter (fun x => decide (x.2 = c))
  cases hf : L.filter fun x => decide (x.2 = c) with
  | nil =>
    rw [List.head?_nil]
    cases hx : leastF a key c with
    | none => rfl
    | some x =>
      rw [hx] at hp
      obtain ⟨h1, ⟨ts, h2, h3⟩, _⟩ := hp
      have h4 := all_has hL h2
      have : (x.1, lastF ts) ∈ L.filter fun x => decide (x.2 = c) := List.mem_filter.2 ⟨h4, by simpa using h3⟩
      rw [hf] at this
      exact absurd this (by simp)
  | cons y l =>
    rw [List.head?_cons]
    have hy : y ∈ L ∧ y.2 = c := by
      have : y ∈ L.filter fun x => decide (x.2 = c) := by rw [hf]; simp
      simpa using List.mem_filter.1 this
    obtain ⟨ts, q1, q2⟩ := hch y hy.1
    cases hx : leastF a key c with
    | none =>
      rw [hx] at hp
      exact absurd (q2.trans hy.2) (hp _ _ q1)
    | some x =>
      rw [hx] at hp
      obtain ⟨h1, ⟨us, h2, h3⟩, h4⟩ := hp
      have h5 := h4 _ _ q1 (q2.trans hy.2)
      have h6 : (x.1, lastF us) ∈ L.filter fun x => decide (x.2 = c) := List.mem_filter.2 ⟨all_has hL h2, by simpa using h3⟩
      rw [hf] at h6 hsf
      rw [List.pairwise_cons] at hsf
      congr 1
      rcases List.mem_cons.1 h6 with e | e
      · rw [← e, h3, ← h1]
      · have := hsf.1 _ e
        rw [h5] at this
        cases this
end Cha
theorem slZ_of_row {w : World} {g c : Nat} {R : List Zc} (h : RowZ w g R) (hl : R.length ≤ 100000) (hc : R.length ≤ c) : SlZ (fun b => b < w.heap.size) w (.slice (some ⟨g, 0, none⟩) R.length c) R := by
  refine ⟨some ⟨g, 0, none⟩, c, rfl, hc, by omega, fun q hq => ?_⟩
  obtain ⟨u0, u1, u2⟩ := h.cell hq
  refine ⟨⟨g, 0, none⟩, zCs R[q], rfl, h.lt, rfl, rfl, ?_⟩
  have e : (⟨g, 0, none⟩ : Addr).add (q * 3) = ⟨g, q * 3, none⟩ := by
    unfold Addr.add
    split
    · rename_i w0; rw [w0]
    · simp
  rw [e]
  intro k u hu
  unfold zCs at hu
  have hk : k = 0 ∨ k = 1 ∨ k = 2 := by
    have := (List.getElem?_eq_some_iff.1 hu).1
    simp at this
    omega
  rcases hk with rfl | rfl | rfl
  · simp at hu
    subst hu
    simpa [Addr.add] using u0
  · simp at hu
    subst hu
    simpa [Addr.add] using u1
  · simp at hu
    subst hu
    simpa [Addr.add] using u2
set_option maxRecDepth 100000 in
theorem sorted_nil (A : Option Addr) (c : Nat) (w : World) :
    Calls Tryd.prog 33 #[.slice A 0 c] w fun e w' => e = .returned (.slice A 0 c) ∧ w' = w := by
  go_enter Tryd.func33, Tryd.ntmps33
  go_wp2_with fail
  go_loopg [3] 0 (fun gg s3 wr => s3 = .int .i64 0 ∧ wr = w)
  case atStart => exact ⟨rfl, rfl⟩
  case round =>
    obtain ⟨rfl, rfl⟩ := hrel
    go_wp2_with fail
    go_ret
    exact ⟨rfl, rfl⟩
/-- A row of chains, sorted: it reads as the list in order. -/
theorem sorted_ch {base : Nat} (v : Value) (E L : List Cha.Ch) (hE : E.length ≤ 400) (hnd : (E.map Prod.fst).Nodup) (hL : L.Pairwise fun x y => Cha.lessF x.1 y.1 = true) (hm : ∀ y, y ∈ E ↔ y ∈ L) (w : World) (hO : OwnCh base w v E) :
    Calls Tryd.prog 33 #[v] w fun e w' => e = .returned v ∧ SlCh (fun b => b < w'.heap.size) w' v L ∧ w.grownBy w' v.ownBlock := by
  have hsl := hO.sl (F := fun b => b < w.heap.size) (by omega) fun b _ h _ => h
  cases hE0 : E with
  | nil =>
    subst hE0
    have hL0 : L = [] := by
      cases L with
      | nil => rfl
      | cons y l => exact absurd ((hm y).2 (by simp)) (by simp)
    subst hL0
    obtain ⟨A, c, hv, -⟩ := id hsl
    have hv' : v = .slice A 0 c := hv
    rw [hv'] at hsl ⊢
    exact (sorted_nil A c w).mono fun e w' ⟨q1, q2⟩ => by
      subst q2
      exact ⟨q1, hsl, World.grownBy.refl _ _⟩
  | cons e0 E0 =>
    obtain ⟨Z, hZ1, hZ2, hZ3⟩ := ownCh_z hO
    have hzl : Z.length = E.length := by rw [← hZ1, List.length_map]
    have hpos : 0 < Z.length := by rw [hzl, hE0]; simp
    obtain ⟨g, cap, hv, hc1, hc2, _, hR⟩ := ownL_rowZ hZ2 hpos
    have hnz : (Z.map (·.2.1)).Nodup := by
      have : Z.map (·.2.1) = (Z.map (·.2)).map Prod.fst := by rw [List.map_map]; rfl
      rw [this, hZ1]; exact hnd
    have hcall := sorted_any g cap Z (by omega) hc1 hnz w hR hZ3
    rw [hv]
    refine hcall.mono fun e w' ⟨q1, R, q2, q3, q4, q5⟩ => ⟨q1, ?_, q5⟩
    have hRL : R.map (·.2) = L := Cha.sorted_ext (lt := fun x y => Cha.lessF x.1 y.1 = true) (fun x h => by rw [Cha.lessF_irrefl] at h; cases h) (fun x y h h2 => by rw [Cha.lessF_asymm h] at h2; cases h2) _ _ (by rw [List.pairwise_map]; exact q4) hL fun y => by
      rw [← hm y, ← hZ1]
      exact (q3.map _).mem_iff
    have hno : ∀ b, IsC w b → some b ≠ some g := by
      obtain ⟨_, _, _, h⟩ := hO
      have := isC_own h (show 56 ≠ 3 by decide) (by decide)
      rw [hv] at this
      exact this
    have hz := slZ_of_row q2 (by rw [q3.length_eq]; omega) (by rw [q3.length_eq]; exact hc1)
    rw [q3.length_eq] at hz
    have := slCh_of_z hz fun z hz' => (SlI.keep (hZ3 z (q3.mem_iff.1 hz')) (Agree.grown q5 fun b hb => ⟨hb.lt, hno b hb⟩)).mono fun b hb => hb.grown q5 (hno b hb)
    rw [hRL] at this
    exact this
end Go.Proofs.YtahlfndlkfoikaaDoor
