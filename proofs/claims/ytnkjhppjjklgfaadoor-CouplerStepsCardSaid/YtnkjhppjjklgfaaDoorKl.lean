/- Walks over coupler: matrices in memory. -/
import Derived.Test.YtnkjhppjjklgfaaDoorKk
namespace Go.Proofs.YtnkjhppjjklgfaaDoor
open Go Go.RowKit Go.Shelf
namespace Cou
def getM (M : List (List Bool)) (i j : Nat) : Bool := (M.getD i []).getD j false
def setM (M : List (List Bool)) (i j : Nat) : List (List Bool) := M.set i ((M.getD i []).set j true)
theorem setM_len {M : List (List Bool)} {i j : Nat} : (setM M i j).length = M.length := by unfold setM; simp
theorem getM_set {M : List (List Bool)} {n i j : Nat} (hr : ∀ r ∈ M, r.length = n) (hi : i < M.length) (hj : j < n) (i' j' : Nat) : getM (setM M i j) i' j' = (decide (i' = i ∧ j' = j) || getM M i' j') := by
  have hri : (M.getD i []).length = n := by
    rw [List.getD_eq_getElem?_getD, List.getElem?_eq_getElem hi]
    exact hr _ (List.getElem_mem hi)
  unfold getM setM
  by_cases e : i' = i
  · subst e
    rw [List.getD_eq_getElem?_getD (l := M.set i' _), List.getElem?_set_self hi, Option.getD_some]
    by_cases e2 : j' = j
    · subst e2
      rw [List.getD_eq_getElem?_getD, List.getElem?_set_self (by omega)]
      simp
    · rw [List.getD_eq_getElem?_getD, List.getElem?_set_ne (by omega), ← List.getD_eq_getElem?_getD]
      simp [e2]
  · rw [List.getD_eq_getElem?_getD (l := M.set i _), List.getElem?_set_ne (by omega), ← List.getD_eq_getElem?_getD]
    simp [e]
theorem setM_row {M : List (List Bool)} {n i j : Nat} (hr : ∀ r ∈ M, r.length = n) (hi : i < M.length) : ∀ r ∈ setM M i j, r.length = n := fun r h => by
  unfold setM at h
  rcases List.mem_or_eq_of_mem_set h with h | h
  · exact hr r h
  · subst h
    rw [List.length_set, List.getD_eq_getElem?_getD, List.getElem?_eq_getElem hi]
    exact hr _ (List.getElem_mem hi)
theorem getM_repl {n m i j : Nat} : getM (List.replicate n (List.replicate m false)) i j = false := by
  unfold getM
  rw [List.getD_eq_getElem?_getD, List.getD_eq_getElem?_getD]
  rw [List.getElem?_replicate]
  split
  · simp only [Option.getD_some, List.getElem?_replicate]
    split <;> rfl
  · rfl
end Cou
def RowC (n : Nat) (_ : World) (cs : List Value) (g : Nat) : Prop := cs = [.slice (some ⟨g, 0, none⟩) n n]
theorem elemBB : ElemN Tryd.prog 49 56 1 24 := ⟨Tryd.underlying49, by
  obtain ⟨i, hi, hz, hs, hb⟩ := info_parts (show (Tryd.prog.info? 56).map (fun i => (i.zero, i.size, i.bytes)) = some (some (.slice none 0 0), 1, 24) by kernel_rfl)
  exact ⟨i, _, hi, hz, hs, hb, rfl⟩⟩
/-- A matrix in memory: its rows' blocks, its rows. -/
structure MatAt (base n : Nat) (v : Value) (gs : List Nat) (M : List (List Bool)) (w : World) : Prop where
  own : OwnL base 56 1 (RowC n) w v gs
  len : gs.length = M.length
  nd : gs.Nodup
  blk : ∀ i (h : i < gs.length), Blk w gs[i] 4 ((M.getD i []).map Value.bool).toArray
  ge : ∀ g ∈ gs, base ≤ g
  row : ∀ r ∈ M, r.length = n
  big : base ≤ w.heap.size
section
variable {base n : Nat} {v : Value} {gs : List Nat} {M : List (List Bool)} {w w' : World}
theorem MatAt.start (hb : base ≤ w.heap.size) : MatAt base n (.slice none 0 0) [] [] w := ⟨OwnL.nil, rfl, List.nodup_nil, fun i h => absurd h (by simp), by simp, by simp, hb⟩
theorem MatAt.keep (h : MatAt base n v gs M w) (hb : Below w.heap.size w w') : MatAt base n v gs M w' :=
  ⟨h.own.keep rfl (fun _ hx => hx.kept (row := none) (only_of_below hb _) (by cases hv : v.ownBlock <;> simp)) fun _ _ hr => hr, h.len, h.nd, fun i hi => (h.blk i hi).below hb (h.blk i hi).lt, h.ge, h.row, Nat.le_trans h.big hb.size⟩
theorem grownBy_set (w : World) (p : Addr) (u : Value) : w.grownBy (w.setCell p u) (some p.block) :=
  ⟨rfl, rfl, rfl, by simp, fun k _ hne => Below.heap_setCell w p u k fun e => hne (by rw [e])⟩
theorem MatAt.notOwn (h : MatAt base n v gs M w) (i : Nat) (hi : i < gs.length) : v.ownBlock ≠ some gs[i] := by
  obtain ⟨cs, _, _, h3⟩ := h.own
  exact own_ne h3 (h.blk i hi) (by decide)
theorem MatAt.set (h : MatAt base n v gs M w) (i j : Nat) (hi : i < gs.length) (_ : j < n) : MatAt base n v gs (Cou.setM M i j) (w.setCell ⟨gs[i], j, none⟩ (.bool true)) := by
  have hiM : i < M.length := by have := h.len; omega
  refine ⟨h.own.keep rfl (fun _ hx => hx.kept (grownBy_set w _ _) ?_) fun _ _ hr => hr, by rw [Cou.setM_len]; exact h.len, h.nd, fun k hk => ?_, h.ge, Cou.setM_row h.row hiM, by simpa using h.big⟩
  · cases hv : v.ownBlock with
    | none => exact .inl rfl
    | some g => exact .inr fun e => h.notOwn i hi (hv.trans e)
  · by_cases e : k = i
    · subst e
      have := (h.blk k hk).set_ j (.bool true)
      unfold Cou.setM
      rw [List.getD_eq_getElem?_getD, List.getElem?_set_self hiM, Option.getD_some]
      simpa [List.map_set] using this
    · have hne : gs[k] ≠ gs[i] := fun q => e ((List.getElem_inj h.nd).1 q)
      have := (h.blk k hk).far (p := ⟨gs[i], j, none⟩) hne (.bool true)
      unfold Cou.setM
      rw [List.getD_eq_getElem?_getD, List.getElem?_set_ne (by omega), ← List.getD_eq_getElem?_getD]
      exact this
/-- A row of noughts behind the rows. -/
theorem MatAt.push {cs : List (List Value)} {v' : Value} {w3 : World} (h : MatAt base n v gs M w) (h1 : cs.length = gs.length) (h2 : ∀ i (h : i < gs.length), ∃ c, cs[i]? = some c ∧ c.length = 1 ∧ RowC n w c gs[i])
    (o : Obj) (hown : w3.ownsRow base 56 1 v' (gs.length + 1) (cs.flatten ++ [.slice (some ⟨w.heap.size, 0, none⟩) n n]))
    (hg : ((w.alloc (.cells (List.replicate n (.bool false)).toArray 4)).alloc o).grownBy w3 v.ownBlock) :
    MatAt base n v' (gs ++ [w.heap.size]) (M ++ [List.replicate n false]) w3 := by
  have hlt : ∀ g ∈ gs, g < w.heap.size := fun g hg => by
    obtain ⟨i, hi, rfl⟩ := List.getElem_of_mem hg
    exact (h.blk i hi).lt
  have hnb : v.ownBlock ≠ some w.heap.size := fun e => by have := (h.own.lt _ e).2; omega
  refine ⟨OwnL.snoc h1 h2 rfl rfl (fun _ _ q => q) hown, by simp [h.len], ?_, fun i hi => ?_, fun g hg2 => ?_, fun r hr => ?_, by have q1 := hg.size; have q2 := h.big; rw [World.size_alloc, World.size_alloc] at q1; omega⟩
  · unfold List.Nodup
    rw [List.pairwise_append]
    exact ⟨h.nd, by simp, fun x hx y hy e => by simp only [List.mem_singleton] at hy; subst hy; have := hlt x hx; omega⟩
  · rcases Nat.lt_or_ge i gs.length with q | q
    · have := (((h.blk i q).alloc (.cells (List.replicate n (.bool false)).toArray 4)).alloc o).grown hg fun e => h.notOwn i q e.symm
      rw [List.getElem_append_left q, List.getD_eq_getElem?_getD, List.getElem?_append_left (by rw [← h.len]; exact q), ← List.getD_eq_getElem?_getD]
      exact this
    · have e : i = gs.length := by simp at hi; omega
      subst e
      have := ((Blk.new w 4 (List.replicate n (.bool false)).toArray).alloc o).grown hg fun e => hnb e.symm
      have eM : (M ++ [List.replicate n false]).getD gs.length [] = List.replicate n false := by rw [h.len, List.getD_eq_getElem?_getD, List.getElem?_concat_length]; rfl
      have eg : (gs ++ [w.heap.size])[gs.length]'hi = w.heap.size := by simp
      rw [eM, eg, List.map_replicate]
      exact this
  · rcases List.mem_append.1 hg2 with q | q
    · exact h.ge g q
    · simp only [List.mem_singleton] at q; subst q; exact h.big
  · rcases List.mem_append.1 hr with q | q
    · exact h.row r q
    · simp only [List.mem_singleton] at q; subst q; simp
end
/-- A list of bools; of lists of bools. -/
def SlB (F : Nat → Prop) (w : World) (v : Value) (l : List Bool) : Prop := Sl F 1 (fun _ cs x => cs = [.bool x]) w v l
def SlBB (F : Nat → Prop) (w : World) (v : Value) (M : List (List Bool)) : Prop := Sl F 1 (fun w cs r => ∃ u, cs = [u] ∧ SlB F w u r) w v M
theorem MatAt.slBB {base n : Nat} {v : Value} {gs : List Nat} {M : List (List Bool)} {w : World} (h : MatAt base n v gs M w) (hn : n ≤ 1000) (hm : M.length ≤ 1000) {F : Nat → Prop} (hF : ∀ b, base ≤ b → F b) : SlBB F w v M := by
  have hs := h.own.sl (F := F) (by rw [h.len]; omega) (fun b q _ _ => hF b q)
  obtain ⟨A, c, hv, h1, h2, h3⟩ := hs
  refine ⟨A, c, by rw [← h.len]; exact hv, by rw [← h.len]; exact h1, by omega, fun i hi => ?_⟩
  have hig : i < gs.length := by rw [h.len]; exact hi
  obtain ⟨ad, cs, q1, q2, q3, q4, q5⟩ := h3 i hig
  refine ⟨ad, cs, q1, q2, q3, ⟨_, q4, some ⟨gs[i], 0, none⟩, n, ?_, ?_, ?_, fun j hj => ?_⟩, q5⟩
  · rw [h.row M[i] (List.getElem_mem hi)]
  · rw [h.row M[i] (List.getElem_mem hi)]; exact Nat.le_refl _
  · rw [h.row M[i] (List.getElem_mem hi)]; omega
  · refine ⟨⟨gs[i], 0, none⟩, [.bool M[i][j]], rfl, hF _ (h.ge _ (List.getElem_mem hig)), rfl, rfl, fun k u hu => ?_⟩
    have hk : k = 0 := by
      have := (List.getElem?_eq_some_iff.1 hu).1
      simpa using this
    subst hk
    simp at hu
    subst hu
    have e : ((⟨gs[i], 0, none⟩ : Addr).add (j * 1)).add 0 = ⟨gs[i], j, none⟩ := by
      unfold Addr.add
      split <;> simp_all
    rw [e, (h.blk i hig).cell j]
    rw [List.getD_eq_getElem?_getD, List.getElem?_eq_getElem hi]
    simp [hj]
end Go.Proofs.YtnkjhppjjklgfaaDoor
