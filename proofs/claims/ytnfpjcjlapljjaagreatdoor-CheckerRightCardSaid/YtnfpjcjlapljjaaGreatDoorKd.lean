/- Walks over coupler: the closure 'take' of reach. Walks over coupler: contact; take for the played ones; reach. -/
import Derived.Test.YtnfpjcjlapljjaaGreatDoorKa
namespace Go.Proofs.YtnfpjcjlapljjaaGreatDoor
open Go Go.RowKit Go.Shelf
attribute [local go_sem] Oper.semAt_some
namespace Cou
/-- Coupler i takes c to t, where that is asked for. -/
def Cond (a : Ac) (second : Bool) (c : Ct) (i : Nat) (t : Ct) : Prop := (second = true → thruF a i = true) ∧ stepF a i c = some t
/-- What the queue holds behind some couplers. -/
structure LI (a : Ac) (second : Bool) (c : Ct) (Q : List Ct) {m : Nat} (pre : List (Fin m)) (Q' : List Ct) : Prop where
  pre_ : Q <+: Q'
  nd : Q'.Nodup
  inA : ∀ x ∈ Q', InA a x
  mem : ∀ t, t ∈ Q' ↔ t ∈ Q ∨ ∃ i ∈ pre, Cond a second c i.val t
variable {a : Ac} {second : Bool} {c : Ct} {Q Q' : List Ct} {m : Nat} {pre : List (Fin m)}
theorem LI.start (hn : Q.Nodup) (hi : ∀ x ∈ Q, InA a x) : LI a second c Q ([] : List (Fin m)) Q := ⟨List.prefix_refl _, hn, hi, fun t => by simp⟩
theorem LI.same (h : LI a second c Q pre Q') (i : Fin m) (hc : ∀ t, Cond a second c i.val t → t ∈ Q') : LI a second c Q (pre ++ [i]) Q' :=
  ⟨h.pre_, h.nd, h.inA, fun t => by
    rw [h.mem]
    constructor
    · rintro (q | ⟨j, hj, q⟩)
      · exact .inl q
      · exact .inr ⟨j, by simp [hj], q⟩
    · rintro (q | ⟨j, hj, q⟩)
      · exact .inl q
      · rcases List.mem_append.1 hj with hj | hj
        · exact .inr ⟨j, hj, q⟩
        · simp only [List.mem_singleton] at hj
          subst hj
          exact (h.mem t).1 (hc t q)⟩
theorem LI.add (h : LI a second c Q pre Q') (i : Fin m) {t : Ct} (hok : Ok a) (hc : Cond a second c i.val t) (hn : t ∉ Q') : LI a second c Q (pre ++ [i]) (Q' ++ [t]) :=
  ⟨h.pre_.trans (List.prefix_append _ _), by
    unfold List.Nodup at *
    rw [List.pairwise_append]
    exact ⟨h.nd, by simp, fun x hx y hy e => by simp only [List.mem_singleton] at hy; subst hy; subst e; exact hn hx⟩, fun x hx => by
      rcases List.mem_append.1 hx with hx | hx
      · exact h.inA x hx
      · simp only [List.mem_singleton] at hx; subst hx; exact stepF_in hok hc.2, fun s => by
    rw [List.mem_append, h.mem, List.mem_singleton]
    constructor
    · rintro ((q | ⟨j, hj, q⟩) | rfl)
      · exact .inl q
      · exact .inr ⟨j, by simp [hj], q⟩
      · exact .inr ⟨i, by simp, hc⟩
    · rintro (q | ⟨j, hj, q⟩)
      · exact .inl (.inl q)
      · rcases List.mem_append.1 hj with hj | hj
        · exact .inl (.inr ⟨j, hj, q⟩)
        · simp only [List.mem_singleton] at hj
          subst hj
          exact .inr (by have h1 := hc.2; have h2 := q.2; rw [h1] at h2; injection h2 with h2; exact h2.symm)⟩
end Cou
theorem kf_below {B : Nat} {W W' : World} (hb : Below W.heap.size W W') : KeepsFrom B W W' := ⟨hb.size, fun k _ _ hk _ => (hb.block k (Array.getElem?_eq_some_iff.1 hk).1).trans hk⟩
theorem kf_row {B : Nat} {W W' : World} {row : Option Nat} (hg : W.grownBy W' row) (hrow : ∀ r, row = some r → ∃ o : Obj, W.heap[r]? = some o ∧ o.isCells = true) : KeepsFrom B W W' :=
  ⟨hg.size, fun k o _ hk ho => (hg.block k (Array.getElem?_eq_some_iff.1 hk).1 (fun e => by
    obtain ⟨o', h1, h2⟩ := hrow k e.symm
    rw [hk] at h1
    injection h1 with h1
    subst h1
    rw [ho] at h2; cases h2)).trans hk⟩
theorem kf_set (B : Nat) (W : World) (p : Addr) (u : Value) (hp : p.block < B) : KeepsFrom B W (W.setCell p u) :=
  ⟨by simp, fun k o hB hk _ => (Below.heap_setCell W p u k (by omega)).trans hk⟩
theorem own_cells {base : Nat} {e : TypeId} {k n : Nat} {w : World} {v : Value} {xs : List Value} (h : w.ownsRow base e k v n xs) : ∀ r, v.ownBlock = some r → ∃ o : Obj, w.heap[r]? = some o ∧ o.isCells = true := fun r hr => by
  rcases h.2 with ⟨q, _⟩ | ⟨g', cap, cur, hv2, _, hh, _⟩
  · rw [q] at hr; cases hr
  · rw [hv2] at hr
    injection hr with hr
    subst hr
    exact ⟨_, hh, rfl⟩
theorem own_ne {base : Nat} {e t : TypeId} {k n b : Nat} {w : World} {v : Value} {xs : List Value} {cs : Array Value} (h : w.ownsRow base e k v n xs) (hb : Blk w b t cs) (ht : t ≠ e) : v.ownBlock ≠ some b := fun hr => by
  rcases h.2 with ⟨q, _⟩ | ⟨g', cap, cur, hv2, _, hh, _⟩
  · rw [q] at hr; cases hr
  · rw [hv2] at hr
    injection hr with hr
    subst hr
    unfold Blk at hb
    rw [hh] at hb
    injection hb with hb
    injection hb with _ hb
    exact ht hb.symm
end Go.Proofs.YtnfpjcjlapljjaaGreatDoor
namespace Go.Proofs.YtnfpjcjlapljjaaGreatDoor
open Go Go.RowKit Go.Shelf
namespace Cou
end Cou
end Go.Proofs.YtnfpjcjlapljjaaGreatDoor
