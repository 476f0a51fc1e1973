/- Walks over hitting: the prover's node. -/
import Derived.Test.YtnpdoejjebgcpaaHNa
import Derived.Test.YtnpdoejjebgcpaaHS
import Derived.Deep.RegionWith
namespace Go.Proofs.Ytnpdoejjebgcpaa
open Go Go.RowKit
namespace Hit
theorem pick_ok {ws : List Nat} {n taken out best : Nat} (hg : Good ws n) (hn : n ≤ 64) (hb : bestGo ws 0 taken out 0 = .inr best) (h0 : best ≠ 0) :
    best < 2 ^ n ∧ tz best < n ∧ free n ((taken ||| bit (tz best)) ||| out) + 1 ≤ free n (taken ||| out) ∧ free n (taken ||| (out ||| bit (tz best))) + 1 ≤ free n (taken ||| out) := by
  obtain ⟨hb1, _⟩ := bestGo_inr ws 0 taken out 0 best hb
  obtain ⟨s, hs, hst, hse, _⟩ : ∃ s ∈ ws, s &&& taken = 0 ∧ best = andn s out ∧ best ≠ 0 := by
    rcases hb1 with h | h
    · exact absurd h h0
    · exact h
  have hsn := (hg s hs).2
  have hbn : best < 2 ^ n := by rw [hse]; exact andn_lt hsn
  have hp := tz_test h0 (Nat.lt_of_lt_of_le hbn (Nat.pow_le_pow_right (by decide) hn))
  have hpn : tz best < n := by
    rcases Nat.lt_or_ge (tz best) n with hl | hl
    · exact hl
    · rw [test_of_lt hbn hl] at hp; cases hp
  rw [hse, andn_test] at hp
  simp only [Bool.and_eq_true, Bool.not_eq_true'] at hp
  rw [← hse] at hp
  have hpt := (and_zero_iff _ _).1 hst _ hp.1
  have hfree : (taken ||| out).testBit (tz best) = false := by rw [Nat.testBit_or, hpt, hp.2]; rfl
  have h3 := free_lt hpn hfree
  refine ⟨hbn, hpn, ?_, ?_⟩
  · rw [show (taken ||| bit (tz best)) ||| out = (taken ||| out) ||| bit (tz best) from ext fun i => by simp only [Nat.testBit_or]; cases taken.testBit i <;> cases out.testBit i <;> cases (bit (tz best)).testBit i <;> rfl]
    exact h3
  · rw [show taken ||| (out ||| bit (tz best)) = (taken ||| out) ||| bit (tz best) from ext fun i => by simp only [Nat.testBit_or, Bool.or_assoc]]
    exact h3
theorem bestGo_cons (s : Nat) (r : List Nat) (i taken out best : Nat) : bestGo (s :: r) i taken out best = if s &&& taken ≠ 0 then bestGo r (i + 1) taken out best
    else if andn s out = 0 then .inl i else bestGo r (i + 1) taken out (if best = 0 ∨ pop (andn s out) < pop best then andn s out else best) := rfl
theorem tz_bit {k : Nat} (h : k < 64) : tz (bit k) = k := by
  have e : members (bit k) = [k] := by
    refine inc_ext (inc_members _) ⟨by simp, trivial⟩ fun i => ?_
    rw [mem_members, bit_test]
    simp
    omega
  unfold tz
  rw [e]; rfl
theorem nodeF_on {ws : List Nat} {size : Int} {d at_ taken out best : Nat} (hb : bestGo ws 0 taken out 0 = .inr best) (h : ¬ (((apart ws taken out).length : Int) + pop taken ≥ size ∨ best = 0)) : nodeF ws size (d + 1) at_ taken out =
    ⟨tz best, (at_ + 1 : Nat), (at_ + 1 + (nodeF ws size d (at_ + 1) (taken ||| bit (tz best)) out).length : Nat), 0, []⟩ :: (nodeF ws size d (at_ + 1) (taken ||| bit (tz best)) out ++ nodeF ws size d (at_ + 1 + (nodeF ws size d (at_ + 1) (taken ||| bit (tz best)) out).length) taken (out ||| bit (tz best))) := by
  conv => lhs; unfold nodeF
  rw [hb]
  simp only
  rw [if_neg h]
theorem pop_le (x : Nat) : pop x ≤ 64 := Nat.le_trans (List.length_filter_le _ _) (by simp)
end Hit
theorem infoNode : (Try.prog.info? 42).map (fun i => (i.zero, i.size, i.bytes)) = some (some (.agg #[.int .i64 0, .int .i64 0, .int .i64 0, .int .i64 0, .slice none 0 0]), 5, 56) := by kernel_rfl
theorem elemNode : ElemN Try.prog 43 42 5 56 := ⟨Try.underlying43, by
  obtain ⟨i, hi, hz, hs, hb⟩ := info_parts infoNode
  exact ⟨i, _, hi, hz, hs, hb, rfl⟩⟩
theorem PT.leaf {pb g cap : Nat} {vs : Value} {size : Int} {w : World} {t : List Hit.TNode} {l : List Int} (o : Obj) (u : Value) (h : PT pb vs size w (.slice (some ⟨g, 0, none⟩) (t.length + 1) cap) (t ++ [⟨0, 0, 0, 0, []⟩])) (hu : SlI (fun b => pb < b ∧ b < (w.alloc o).heap.size ∧ b ≠ g) (w.alloc o) u l) :
    PT pb vs size ((w.setCell ⟨g, t.length * 5 + 4, none⟩ u).alloc o) (.slice (some ⟨g, 0, none⟩) (t.length + 1) cap) (t ++ [⟨0, 0, 0, 0, l⟩]) := by
  rw [← World.setCell_alloc_past o g (t.length * 5 + 4) u h.row.2.1]
  have := (h.later (Ba (B0 w) o)).put t.length (by simp) 4 (by omega) u ⟨0, 0, 0, 0, l⟩ (fun c _ hc => by
    have := hc.weights (u := u) (l := l) (Sl.mono hu fun b ⟨q1, q2, q3⟩ => ⟨q1, q2, by intro e; injection e with e; exact q3 e⟩)
    simpa using this)
  simpa using this
theorem PT.leaf0 {pb g cap : Nat} {vs : Value} {size : Int} {w : World} {t : List Hit.TNode} {l : List Int} (u : Value) (h : PT pb vs size w (.slice (some ⟨g, 0, none⟩) (t.length + 1) cap) (t ++ [⟨0, 0, 0, 0, []⟩])) (hu : SlI (fun b => pb < b ∧ b < w.heap.size ∧ b ≠ g) w u l) :
    PT pb vs size (w.setCell ⟨g, t.length * 5 + 4, none⟩ u) (.slice (some ⟨g, 0, none⟩) (t.length + 1) cap) (t ++ [⟨0, 0, 0, 0, l⟩]) := by
  have := h.put t.length (by simp) 4 (by omega) u ⟨0, 0, 0, 0, l⟩ (fun c _ hc => by
    have := hc.weights (u := u) (l := l) (Sl.mono hu fun b ⟨q1, q2, q3⟩ => ⟨q1, q2, by intro e; injection e with e; exact q3 e⟩)
    simpa using this)
  simpa using this
theorem PT.picked {pb g cap : Nat} {vs : Value} {size : Int} {w : World} {t : List Hit.TNode} (z : Int) (h : PT pb vs size w (.slice (some ⟨g, 0, none⟩) (t.length + 1) cap) (t ++ [⟨0, 0, 0, 0, []⟩])) :
    PT pb vs size (w.setCell ⟨g, t.length * 5, none⟩ (.int .i64 z)) (.slice (some ⟨g, 0, none⟩) (t.length + 1) cap) (t ++ [⟨z, 0, 0, 0, []⟩]) := by
  have := h.put t.length (by simp) 0 (by omega) (.int .i64 z) ⟨z, 0, 0, 0, []⟩ (fun c _ hc => by
    have := hc.pick z
    simpa using this)
  simpa using this
theorem PT.kids {pb g n cap : Nat} {vs : Value} {size : Int} {w : World} {t r : List Hit.TNode} {p : Int} (y z : Int) (h : PT pb vs size w (.slice (some ⟨g, 0, none⟩) n cap) (t ++ (⟨p, 0, 0, 0, []⟩ :: r))) :
    PT pb vs size ((w.setCell ⟨g, t.length * 5 + 1, none⟩ (.int .i64 y)).setCell ⟨g, t.length * 5 + 2, none⟩ (.int .i64 z)) (.slice (some ⟨g, 0, none⟩) n cap) (t ++ (⟨p, y, z, 0, []⟩ :: r)) := by
  have h1 := h.put t.length (by simp) 1 (by omega) (.int .i64 y) ⟨p, y, 0, 0, []⟩ (fun c _ hc => by
    have := hc.yes y
    simpa using this)
  have h2 := h1.put t.length (by simp) 2 (by omega) (.int .i64 z) ⟨p, y, z, 0, []⟩ (fun c _ hc => by
    have := hc.no z
    simpa using this)
  simpa using h2
theorem apartGo_len (ws : List Nat) : ∀ (i taken out used : Nat), (Hit.apartGo ws i taken out used).length ≤ ws.length := by
  induction ws with
  | nil => intro i taken out used; simp [Hit.apartGo]
  | cons s r ih =>
    intro i taken out used
    rw [apartGo_cons]
    split
    · simp only [List.length_cons]; have := ih (i + 1) taken out (used ||| Hit.andn s out); omega
    · simp only [List.length_cons]; have := ih (i + 1) taken out used; omega
/-- What a call of node leaves. -/
def NodeP (pb : Nat) (vs : Value) (ws : List Nat) (size : Int) (w : World) (t : List Hit.TNode) (d taken out : Nat) (e : Ending) (w' : World) : Prop :=
  e = .returned (.int .i64 (t.length : Nat)) ∧ (∃ v, PT pb vs size w' v (t ++ Hit.nodeF ws size d t.length taken out)) ∧ Below pb w w'
end Go.Proofs.Ytnpdoejjebgcpaa
