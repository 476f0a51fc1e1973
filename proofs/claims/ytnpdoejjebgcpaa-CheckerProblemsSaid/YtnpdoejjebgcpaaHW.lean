/- Walks over the reference of hitting: sets that are apart. Walks over the reference of hitting: a leaf of a proof tree. Walks over hitting: lists of nodes, and the reference's test of a tree by its steps. -/
import Derived.Test.YtnpdoejjebgcpaaHS
namespace Go.Proofs.Ytnpdoejjebgcpaa
open Go Go.RowKit
/-- Two indices of a list are of different sets that are apart. -/
def prR (ws : List Nat) (l : List Int) (out a b : Nat) : Bool := l.getD a 0 != l.getD b 0 && Hit.andn (ws.getD (l.getD a 0).toNat 0 &&& ws.getD (l.getD b 0).toNat 0) out == 0
theorem apartR_true {ws : List Nat} {l : List Int} {out : Nat} (h : ∀ a b, b < a → a < l.length → prR ws l out a b = true) : Hit.apartR ws l out = true := by
  unfold Hit.apartR
  simp only [List.all_eq_true, List.mem_range]
  intro a ha b hb
  exact h a b hb ha
theorem apartR_false {ws : List Nat} {l : List Int} {out a b : Nat} (hba : b < a) (ha : a < l.length) (h : prR ws l out a b = false) : Hit.apartR ws l out = false := by
  cases hh : Hit.apartR ws l out with
  | false => rfl
  | true =>
    unfold Hit.apartR at hh
    simp only [List.all_eq_true, List.mem_range] at hh
    have := hh a ha b hba
    rw [show prR ws l out a b = _ from rfl] at h
    unfold prR at h
    rw [h] at this
    cases this
theorem getD_int (l : List Int) (i : Nat) (h : i < l.length) : l.getD i 0 = l[i] := by rw [List.getD_eq_getElem?_getD, List.getElem?_eq_getElem h]; rfl
theorem getD_nat (l : List Nat) (i : Nat) (h : i < l.length) : l.getD i 0 = l[i] := by rw [List.getD_eq_getElem?_getD, List.getElem?_eq_getElem h]; rfl
end Go.Proofs.Ytnpdoejjebgcpaa
namespace Go.Proofs.Ytnpdoejjebgcpaa
open Go Go.RowKit
theorem leafR_bad {ws : List Nat} {size : Int} {l : List Int} {taken out i : Nat} (hi : i < l.length) (h : ¬ Hit.ValidI ws taken l[i]) : Hit.leafR ws size l taken out = false := by
  cases hh : Hit.leafR ws size l taken out with
  | false => rfl
  | true =>
    unfold Hit.leafR at hh
    rw [Bool.and_eq_true, Hit.leafR_all] at hh
    exact absurd (hh.1 _ (List.getElem_mem hi)) h
theorem leafR_good {ws : List Nat} {size : Int} {l : List Int} {taken out : Nat} (h : ∀ x ∈ l, Hit.ValidI ws taken x) : Hit.leafR ws size l taken out = ((l.length == 1 && Hit.andn (ws.getD (l.headD 0).toNat 0) out == 0) || (Hit.apartR ws l out && decide ((Hit.pop taken : Int) + l.length ≥ size))) := by
  unfold Hit.leafR
  rw [(Hit.leafR_all ws taken l).2 h, Bool.true_and]
end Go.Proofs.Ytnpdoejjebgcpaa
namespace Go.Proofs.Ytnpdoejjebgcpaa
open Go Go.RowKit
/-- The five cells of a node. -/
def NodeC (F : Nat → Prop) (w : World) (cs : List Value) (x : Hit.TNode) : Prop := ∃ vw, cs = [.int .i64 x.pick, .int .i64 x.yes, .int .i64 x.no, .int .i64 x.bound, vw] ∧ SlI F w vw x.weights
abbrev SlT (F : Nat → Prop) (w : World) (v : Value) (l : List Hit.TNode) : Prop := Sl F 5 (NodeC F) w v l
theorem SlT.keep {F : Nat → Prop} {w w' : World} {v : Value} {l : List Hit.TNode} (h : SlT F w v l) (ha : Agree F w w') : SlT F w' v l :=
  Sl.keep h ha fun _ _ ⟨vw, hc, hr⟩ => ⟨vw, hc, hr.keep ha⟩
theorem SlT.open {F : Nat → Prop} {w : World} {v : Value} {l : List Hit.TNode} (h : SlT F w v l) : ∃ A c, v = .slice A l.length c ∧ l.length ≤ c ∧ l.length ≤ 140737488355328 ∧
    ∀ i (hi : i < l.length), ∃ ad vw, A = some ad ∧ F ad.block ∧ SlI F w vw l[i].weights ∧ Flds w (ad.add (i * 5)) [.int .i64 l[i].pick, .int .i64 l[i].yes, .int .i64 l[i].no, .int .i64 l[i].bound, vw] := by
  obtain ⟨A, c, hv, hc, hl, hi⟩ := h
  refine ⟨A, c, hv, hc, hl, fun i hil => ?_⟩
  obtain ⟨ad, cs, hA, hF, hk, ⟨vw, rfl, hr⟩, hcell⟩ := hi i hil
  exact ⟨ad, vw, hA, hF, hr, hcell⟩
namespace Hit
section
variable {ws : List Nat} {n : Nat} {size : Int} {t : List TNode} {i : Nat} {tk ot : List Nat} {re : List Bool}
/-- A step into no child: the children's indices or the pick do not fit. -/
def BadKids (len i : Nat) (x : TNode) (re : List Bool) : Prop := x.yes ≤ i ∨ x.no ≤ i ∨ x.yes ≥ len ∨ x.no ≥ len ∨ x.yes = x.no ∨ re.getD x.yes.toNat false = true ∨ re.getD x.no.toNat false = true
theorem treeGo_end (len : Nat) : treeGo ws n size len (t.drop t.length) i tk ot re = true := by simp [treeGo]
theorem treeGo_skip (len : Nat) (hi : i < t.length) (h : re.getD i false = false) : treeGo ws n size len (t.drop i) i tk ot re = treeGo ws n size len (t.drop (i + 1)) (i + 1) tk ot re := by
  rw [List.drop_eq_getElem_cons hi]
  conv => lhs; unfold treeGo
  rw [if_pos h]
theorem treeGo_leaf (len : Nat) (hi : i < t.length) (h : re.getD i false = true) (h0 : t[i].yes = 0 ∧ t[i].no = 0) : treeGo ws n size len (t.drop i) i tk ot re = (leafR ws size t[i].weights (tk.getD i 0) (ot.getD i 0) && treeGo ws n size len (t.drop (i + 1)) (i + 1) tk ot re) := by
  rw [List.drop_eq_getElem_cons hi]
  conv => lhs; unfold treeGo
  rw [if_neg (by rw [h]; decide), if_pos h0]
theorem treeGo_kids (len : Nat) (hi : i < t.length) (h : re.getD i false = true) (h0 : ¬ (t[i].yes = 0 ∧ t[i].no = 0)) (hb : BadKids len i t[i] re) : treeGo ws n size len (t.drop i) i tk ot re = false := by
  unfold BadKids at hb
  rw [List.drop_eq_getElem_cons hi]
  conv => lhs; unfold treeGo
  rw [if_neg (by rw [h]; decide), if_neg h0, if_pos hb]
theorem treeGo_pick (len : Nat) (hi : i < t.length) (h : re.getD i false = true) (h0 : ¬ (t[i].yes = 0 ∧ t[i].no = 0)) (hb : ¬ BadKids len i t[i] re) (hp : t[i].pick < 0 ∨ t[i].pick ≥ n ∨ (tk.getD i 0 ||| ot.getD i 0).testBit t[i].pick.toNat = true) : treeGo ws n size len (t.drop i) i tk ot re = false := by
  unfold BadKids at hb
  rw [List.drop_eq_getElem_cons hi]
  conv => lhs; unfold treeGo
  rw [if_neg (by rw [h]; decide), if_neg h0, if_neg hb, if_pos hp]
theorem treeGo_on (len : Nat) (hi : i < t.length) (h : re.getD i false = true) (h0 : ¬ (t[i].yes = 0 ∧ t[i].no = 0)) (hb : ¬ BadKids len i t[i] re) (hp : ¬ (t[i].pick < 0 ∨ t[i].pick ≥ n ∨ (tk.getD i 0 ||| ot.getD i 0).testBit t[i].pick.toNat = true)) : treeGo ws n size len (t.drop i) i tk ot re =
    treeGo ws n size len (t.drop (i + 1)) (i + 1) ((tk.set t[i].yes.toNat (tk.getD i 0 ||| bit t[i].pick.toNat)).set t[i].no.toNat (tk.getD i 0)) ((ot.set t[i].yes.toNat (ot.getD i 0)).set t[i].no.toNat (ot.getD i 0 ||| bit t[i].pick.toNat)) ((re.set t[i].yes.toNat true).set t[i].no.toNat true) := by
  unfold BadKids at hb
  rw [List.drop_eq_getElem_cons hi]
  conv => lhs; unfold treeGo
  rw [if_neg (by rw [h]; decide), if_neg h0, if_neg hb, if_neg hp]
end
end Hit
end Go.Proofs.Ytnpdoejjebgcpaa
