/- Walks: the statement, its end. -/
import Derived.Test.YtbcbkllahnahnaaW6
import Derived.Test.YtbcbkllahnahnaaW9
import Derived.Test.YtbcbkllahnahnaaW10
import Derived.Test.YtbcbkllahnahnaaW11
import Derived.Test.YtbcbkllahnahnaaCopy
import Derived.Test.YtbcbkllahnahnaaRegion
import Derived.BigQuiet
import Derived.IntWalk
import Derived.Deep.RegionHeld3
import Derived.Deep.DeepCutAuto
import Derived.Deep.DrawnRows
import Derived.Deep.CutBlock
namespace Go.Proofs.Ytbcbkllahnahnaa
open Go Go.RowKit
attribute [local go_sem ↓] Go.wp_at_zero Go.wp_at_succ

theorem build_lit (vl : Value) (items : List Gate) (outs : Int) (ho : 0 ≤ outs ∧ outs ≤ 255) (W : World) (F : Nat → Prop) (hF : ∀ b, F b → b < W.heap.size) (hl : SlT F W vl items) :
    Calls Try.prog 5 #[vl, .int .u8 outs] W fun e w' => ∃ n Ag mg cg Ao mo co, e = .returned (.agg #[.slice Ag mg cg, .slice Ao mo co]) ∧ netOk 4 n = true ∧ (n.gates.length ≤ 10 ∧ ∀ g ∈ n.gates, g.ins.length ≤ 5) ∧ n.outs.length ≤ 2 ∧ NetAt (New W.heap.size w'.heap.size) w' (.slice Ag mg cg) (.slice Ao mo co) n ∧ Below W.heap.size W w' :=
  (build_any vl items outs ho W F hF hl).mono fun e w' ⟨n, vg, vo, he, h1, h2, h3, h4, h5⟩ => by
    obtain ⟨Ag, cg, rfl, _⟩ := h4.g.open
    obtain ⟨Ao, co, rfl, _⟩ := h4.o.open
    exact ⟨n, _, _, _, _, _, _, he, h1, h2, h3, h4, h5⟩

theorem bcell {W w1 : World} (hb : Below W.heap.size W w1) : (∀ b o, b < W.heap.size → w1.cell? ⟨b, o, none⟩ = W.cell? ⟨b, o, none⟩) ∧ (∀ b o, b < W.heap.size → w1.frozen? ⟨b, o, none⟩ = W.frozen? ⟨b, o, none⟩) :=
  ⟨fun b o h => hb.cell (p := ⟨b, o, none⟩) h, fun b o h => hb.frozen (p := ⟨b, o, none⟩) h⟩
theorem Blk.two {w : World} {x : Nat} {e : TypeId} {p q u0 u1 : Value} (h : Blk w x e #[u0, u1]) : Blk ((w.setCell ⟨x, 0, none⟩ p).setCell ⟨x, 1, none⟩ q) x e #[p, q] := (h.set_ 0 p).set_ 1 q
theorem Blk.far' {w : World} {g : Nat} {t : TypeId} {cs : Array Value} {p : Addr} {u : Value} (hp : g ≠ p.block) (h : Blk w g t cs) : Blk (w.setCell p u) g t cs := h.far hp u
theorem Blk.below' {w w' : World} {B g : Nat} {t : TypeId} {cs : Array Value} (hb : Below B w w') (hg : g < B) (h : Blk w g t cs) : Blk w' g t cs := h.below hb hg
theorem Bs' {a b : World} {p : Addr} {u : Value} (hp : a.heap.size ≤ p.block) (h : Below a.heap.size a b) : Below a.heap.size a (b.setCell p u) := Bs h u hp
theorem Blk.new' (w : World) (b : Nat) (t : TypeId) (cs : Array Value) (h : b = w.heap.size) : Blk (w.alloc (.cells cs t)) b t cs := by subst h; exact Blk.new w t cs
/-- Two networks in variables of the call's own. -/
def Two (w1 : World) (s5 s6 : Value) (wx : World) : Prop :=
  ∃ (b5 b6 : Nat) (na nb : Net) (ga oa gb ob : Value), s5 = .pointer (some ⟨b5, 0, none⟩) ∧ s6 = .pointer (some ⟨b6, 0, none⟩) ∧ b5 ≠ b6 ∧ (w1.heap.size ≤ b5 ∧ b5 < wx.heap.size) ∧ (w1.heap.size ≤ b6 ∧ b6 < wx.heap.size) ∧
    Blk wx b5 32 #[ga, oa] ∧ Blk wx b6 32 #[gb, ob] ∧
    NetAt (fun b => w1.heap.size ≤ b ∧ b < wx.heap.size ∧ b ≠ b5 ∧ b ≠ b6) wx ga oa na ∧ NetAt (fun b => w1.heap.size ≤ b ∧ b < wx.heap.size ∧ b ≠ b5 ∧ b ≠ b6) wx gb ob nb ∧
    (netOk 4 na = true ∧ (na.gates.length ≤ 10 ∧ ∀ g ∈ na.gates, g.ins.length ≤ 5) ∧ na.outs.length ≤ 2) ∧ (netOk 4 nb = true ∧ (nb.gates.length ≤ 10 ∧ ∀ g ∈ nb.gates, g.ins.length ≤ 5) ∧ nb.outs.length ≤ 2) ∧ Below w1.heap.size w1 wx
theorem two_mk {w1 wA wB wf : World} (b5 b6 x y : Nat) {na nb : Net} {ga oa gb ob : Value} (a1 : netOk 4 na = true) (a2 : na.gates.length ≤ 10 ∧ ∀ g ∈ na.gates, g.ins.length ≤ 5) (a3 : na.outs.length ≤ 2) (a4 : NetAt (New x wA.heap.size) wA ga oa na)
    (b1 : netOk 4 nb = true) (b2 : nb.gates.length ≤ 10 ∧ ∀ g ∈ nb.gates, g.ins.length ≤ 5) (b3 : nb.outs.length ≤ 2) (b4 : NetAt (New y wB.heap.size) wB gb ob nb)
    (h1 : w1.heap.size ≤ x ∧ x ≤ wA.heap.size ∧ wA.heap.size ≤ y ∧ y ≤ wB.heap.size) (h2 : b5 ≠ b6 ∧ w1.heap.size ≤ b5 ∧ w1.heap.size ≤ b6)
    (h3 : b5 < x ∨ (wA.heap.size ≤ b5 ∧ b5 < y) ∨ wB.heap.size ≤ b5) (h4 : b6 < x ∨ (wA.heap.size ≤ b6 ∧ b6 < y) ∨ wB.heap.size ≤ b6) (h5 : b5 < wf.heap.size ∧ b6 < wf.heap.size)
    (kAB : ∀ b, b < wA.heap.size → wB.heap[b]? = wA.heap[b]?) (kf : ∀ b, b < wB.heap.size → b ≠ b5 → b ≠ b6 → wf.heap[b]? = wB.heap[b]?) (h6 : wB.heap.size ≤ wf.heap.size) (h7 : Below w1.heap.size w1 wf)
    (c5 : Blk wf b5 32 #[ga, oa]) (c6 : Blk wf b6 32 #[gb, ob]) :
    Two w1 (.pointer (some ⟨b5, 0, none⟩)) (.pointer (some ⟨b6, 0, none⟩)) wf := by
  refine ⟨b5, b6, na, nb, ga, oa, gb, ob, rfl, rfl, h2.1, ⟨h2.2.1, h5.1⟩, ⟨h2.2.2, h5.2⟩, c5, c6, ?_, ?_, ⟨a1, a2, a3⟩, ⟨b1, b2, b3⟩, h7⟩
  · refine (a4.keep (w' := wf) fun b ⟨q1, q2⟩ => ?_).mono fun b ⟨q1, q2⟩ => ⟨by omega, by omega, by omega, by omega⟩
    rw [kf b (by omega) (by omega) (by omega), kAB b q2]
  · refine (b4.keep (w' := wf) fun b ⟨q1, q2⟩ => ?_).mono fun b ⟨q1, q2⟩ => ⟨by omega, by omega, by omega, by omega⟩
    rw [kf b q2 (by omega) (by omega)]

def wantN (a b : Net) (k : Nat) : Bool := decide (a.outs.length = b.outs.length) && (List.range k).all fun t => decide (outsB t a = outsB t b)
theorem wantN_zero (a b : Net) : wantN a b 0 = decide (a.outs.length = b.outs.length) := by simp [wantN]
theorem wantN_succ (a b : Net) (k : Nat) : wantN a b (k + 1) = (wantN a b k && decide (outsB k a = outsB k b)) := by
  simp [wantN, List.range_succ, List.all_append, Bool.and_assoc]
theorem wantN_false {a b : Net} {k m : Nat} (h : wantN a b k = false) (hk : k ≤ m) : wantN a b m = false := by
  obtain ⟨d, rfl⟩ := Nat.exists_eq_add_of_le hk
  induction d with
  | zero => exact h
  | succ d ih =>
    have := ih (by omega)
    rw [show k + (d + 1) = (k + d) + 1 from by omega, wantN_succ, this]; rfl
def eqN (l m : List Bool) (j : Nat) : Bool := decide (l.take j = m.take j)
theorem eqN_zero (l m : List Bool) : eqN l m 0 = true := by simp [eqN]
theorem eqN_succ (l m : List Bool) (j : Nat) (h1 : j < l.length) (h2 : j < m.length) : eqN l m (j + 1) = (eqN l m j && (l[j] == m[j])) := by
  unfold eqN
  rw [List.take_succ_eq_append_getElem h1, List.take_succ_eq_append_getElem h2, Bool.eq_iff_iff]
  simp only [decide_eq_true_eq, Bool.and_eq_true, beq_iff_eq]
  constructor
  · intro h
    have := List.append_inj' h rfl
    exact ⟨this.1, by simpa using this.2⟩
  · rintro ⟨h, e⟩
    rw [h, e]
theorem eqN_all (l m : List Bool) (h : l.length = m.length) : eqN l m l.length = decide (l = m) := by
  unfold eqN
  rw [List.take_length, h, List.take_length]
theorem outs_at {n : Net} (h : netOk 4 n = true) (j : Nat) (hj : j < n.outs.length) : 0 ≤ n.outs[j] ∧ n.outs[j] < (n.gates.length : Int) := by
  simp only [netOk, Bool.and_eq_true] at h
  have := h.1.2
  simp only [withinB, List.all_eq_true, Bool.and_eq_true, decide_eq_true_eq] at this
  have := this _ (List.getElem_mem hj)
  omega
theorem gates_of {n : Net} (h : netOk 4 n = true) : gatesOk 4 0 n.gates = true := by
  simp only [netOk, Bool.and_eq_true] at h
  exact h.2
theorem outsB_length (t : Nat) (n : Net) : (outsB t n).length = n.outs.length := by simp [outsB]
theorem outsB_at (t : Nat) (n : Net) (j : Nat) (hj : j < n.outs.length) : (outsB t n)[j]'(by rw [outsB_length]; exact hj) = (evalB t [] n.gates).getD (n.outs[j]).toNat false := by
  simp [outsB]
theorem sameF_want (a b : Net) (ha : netOk 4 a = true) (hb : netOk 4 b = true) : sameF 4 a b = wantN a b 16 := by
  have h := same_iff a b ha hb
  have hm : masks6.take (4 : Int).toNat = masks := rfl
  unfold sameF wantN
  rw [ha, hb, hm]
  by_cases hl : a.outs.length = b.outs.length
  · rw [Bool.eq_iff_iff]
    simp only [hl, decide_true, Bool.and_true, Bool.and_eq_true, decide_eq_true_eq, List.all_eq_true, List.mem_range, Bool.true_and]
    rw [h]
    simp [withinB]
  · simp [hl]
theorem sameF_comm (a b : Net) (ha : netOk 4 a = true) (hb : netOk 4 b = true) : sameF 4 b a = wantN a b 16 := by
  rw [sameF_want b a hb ha]
  unfold wantN
  rw [Bool.eq_iff_iff]
  simp only [Bool.and_eq_true, decide_eq_true_eq, List.all_eq_true, List.mem_range]
  exact ⟨fun ⟨h1, h2⟩ => ⟨h1.symm, fun t ht => (h2 t ht).symm⟩, fun ⟨h1, h2⟩ => ⟨h1.symm, fun t ht => (h2 t ht).symm⟩⟩
theorem sameF_13 (a b : Net) : sameF 13 a b = false := rfl
theorem sameF_neg (a b : Net) : sameF (-1) a b = false := rfl
theorem sameF_self (a : Net) : sameF 4 a a = netOk 4 a := by
  unfold sameF
  cases h : netOk 4 a <;> simp [withinB]
theorem SlG.lit {F : Nat → Prop} {w : World} {v : Value} {l : List Gate} (h : SlG F w v l) : ∃ A c, v = .slice A l.length c := by
  obtain ⟨A, c, e, _⟩ := h
  exact ⟨A, c, e⟩
theorem SlI.lit {F : Nat → Prop} {w : World} {v : Value} {l : List Int} (h : SlI F w v l) : ∃ A c, v = .slice A l.length c := by
  obtain ⟨A, c, e, _⟩ := h
  exact ⟨A, c, e⟩
theorem SlI.at {F : Nat → Prop} {w : World} {A : Option Addr} {n c : Nat} {l : List Int} (h : SlI F w (.slice A n c) l) : ∀ i (hi : i < l.length), ∃ ad, A = some ad ∧ F ad.block ∧ w.cell? (ad.add i) = some (.int .i64 l[i]) := by
  obtain ⟨A', c', hv, _, _, hat⟩ := h.open
  injection hv with e
  subst e
  exact hat
theorem values_lit (k : Nat) (hk : k < 16) (vg vo : Value) (n : Net) (W : World) (F : Nat → Prop) (hF : ∀ b, F b → b < W.heap.size) (hg : SlG F W vg n.gates) (hn : netOk 4 n = true) (hl : n.gates.length ≤ 10) :
    Calls Try.prog 6 #[.agg #[vg, vo], .int .i64 k] W fun e w' => ∃ A c, e = .returned (.slice A n.gates.length c) ∧ SlBo (New W.heap.size w'.heap.size) w' (.slice A n.gates.length c) (evalB k [] n.gates) ∧ Below W.heap.size W w' :=
  (values_any k hk vg vo n W F hF hg (gates_of hn) (by omega)).mono fun e w' ⟨v, he, h1, h2⟩ => by
    obtain ⟨A, c, hv, _⟩ := h1.open
    rw [evalB_length] at hv
    simp only [List.length_nil, Nat.zero_add] at hv
    subst hv
    exact ⟨A, c, he, h1, h2⟩
theorem SlBo.at {F : Nat → Prop} {w : World} {A : Option Addr} {n c : Nat} {l : List Bool} (h : SlBo F w (.slice A n c) l) : ∀ i, i < l.length → ∃ ad, A = some ad ∧ F ad.block ∧ w.cell? (ad.add i) = some (.bool (l.getD i false)) := by
  obtain ⟨A', c', hv, _, _, hat⟩ := h.open
  injection hv with e
  subst e
  intro i hi
  obtain ⟨ad, h1, h2, h3⟩ := hat i hi
  exact ⟨ad, h1, h2, by rw [h3, List.getD_eq_getElem?_getD, List.getElem?_eq_getElem hi]; rfl⟩
theorem wantN_len {a b : Net} {k : Nat} (h : wantN a b k = true) : a.outs.length = b.outs.length := by
  unfold wantN at h
  simp only [Bool.and_eq_true, decide_eq_true_eq] at h
  exact h.1
theorem eqN_step (k : Nat) (a b : Net) (j : Nat) (hj : j < a.outs.length) (hj' : j < b.outs.length) :
    eqN (outsB k a) (outsB k b) (j + 1) = (eqN (outsB k a) (outsB k b) j && ((evalB k [] a.gates).getD (a.outs[j]).toNat false == (evalB k [] b.gates).getD (b.outs[j]).toNat false)) := by
  rw [eqN_succ _ _ _ (by rw [outsB_length]; exact hj) (by rw [outsB_length]; exact hj'), outsB_at k a j hj, outsB_at k b j hj']
theorem eqN_end (k : Nat) (a b : Net) (hl : a.outs.length = b.outs.length) : eqN (outsB k a) (outsB k b) a.outs.length = decide (outsB k a = outsB k b) := by
  rw [← outsB_length k a]
  exact eqN_all _ _ (by rw [outsB_length, outsB_length, hl])
/-- A copy of a network in a variable of the call's own. -/
def CopyP (w5 : World) (G : List Value) (n1 : Nat) (O : List Value) (n2 : Nat) (s12 : Value) (wx : World) : Prop :=
  ∃ (b12 : Nat) (A1 : Option Addr) (d1 : Nat) (A2 : Option Addr) (d2 : Nat), s12 = .pointer (some ⟨b12, 0, none⟩) ∧ w5.heap.size ≤ b12 ∧ Blk wx b12 32 #[.slice A1 n1 d1, .slice A2 n2 d2] ∧ Own0 wx w5.heap.size 38 3 A1 n1 d1 G ∧ Own0 wx w5.heap.size 3 1 A2 n2 d2 O ∧ Below w5.heap.size w5 wx
theorem copyP_set {w5 X : World} {G O : List Value} {n1 n2 b12 d1 d2 : Nat} {A1 A2 : Option Addr} {u0 u1 : Value} (h1 : w5.heap.size ≤ b12) (h2 : Blk X b12 32 #[u0, u1]) (h3 : Own0 X w5.heap.size 38 3 A1 n1 d1 G) (h4 : Own0 X w5.heap.size 3 1 A2 n2 d2 O) (h5 : Below w5.heap.size w5 X) :
    CopyP w5 G n1 O n2 (.pointer (some ⟨b12, 0, none⟩)) ((X.setCell ⟨b12, 0, none⟩ (.slice A1 n1 d1)).setCell ⟨b12, 1, none⟩ (.slice A2 n2 d2)) :=
  ⟨b12, A1, d1, A2, d2, rfl, h1, Blk.two h2, (h3.far h2 (by decide) 0 _).far (h2.set_ 0 _) (by decide) 1 _, (h4.far h2 (by decide) 0 _).far (h2.set_ 0 _) (by decide) 1 _, Bs (Bs h5 _ h1) _ h1⟩
theorem copyP_new {w5 X : World} {G O : List Value} {n1 n2 d1 d2 : Nat} {A1 A2 : Option Addr} (h3 : Own0 X w5.heap.size 38 3 A1 n1 d1 G) (h4 : Own0 X w5.heap.size 3 1 A2 n2 d2 O) (h5 : Below w5.heap.size w5 X) :
    CopyP w5 G n1 O n2 (.pointer (some ⟨X.heap.size, 0, none⟩)) (X.alloc (.cells #[.slice A1 n1 d1, .slice A2 n2 d2] 32)) :=
  ⟨X.heap.size, A1, d1, A2, d2, rfl, h5.size, Blk.new _ _ _, h3.alloc _, h4.alloc _, Ba h5 _⟩
theorem gate_cells_one {F : Nat → Prop} {w : World} {cs : List (List Value)} {l : List Gate} (h1 : cs.length = l.length) (h2 : ∀ i (hi : i < l.length), ∃ x, cs[i]? = some x ∧ x.length = 3 ∧ GateC F w x l[i]) : ∀ u ∈ cs.flatten, u.oneCell' = true := by
  intro u hu
  obtain ⟨c, hc, huc⟩ := List.mem_flatten.1 hu
  obtain ⟨i, hi, rfl⟩ := List.getElem_of_mem hc
  obtain ⟨x, hx, _, v, hv, hs⟩ := h2 i (by omega)
  rw [List.getElem?_eq_getElem hi] at hx
  injection hx with hx
  rw [hx, hv] at huc
  obtain ⟨A, c, rfl, _⟩ := hs.open
  simp only [List.mem_cons, List.not_mem_nil, or_false] at huc
  rcases huc with rfl | rfl | rfl <;> rfl
theorem int_cells {w : World} {cs : List (List Value)} {l : List Int} (h1 : cs.length = l.length) (h2 : ∀ i (hi : i < l.length), ∃ x, cs[i]? = some x ∧ x.length = 1 ∧ IntC w x l[i]) : cs.flatten = intsV l := by
  rw [intsV_flat]
  congr 1
  apply List.ext_getElem (by simp [h1])
  intro i q1 q2
  obtain ⟨x, hx, _, hv⟩ := h2 i (by omega)
  rw [List.getElem?_eq_getElem q1] at hx
  injection hx with hx
  rw [hx, hv]
  simp
theorem intsV_one (l : List Int) : ∀ u ∈ intsV l, u.oneCell' = true := by
  intro u hu
  obtain ⟨x, _, rfl⟩ := List.mem_map.1 hu
  rfl
def F17 (c5 base : Nat) (vg vo : Value) (n1 n2 : Nat) (G O : List Value) (j : Nat) (s : Nat → Value) (w : World) : Prop :=
  match j with
  | 0 => ∃ A, s 114 = .slice A 0 0
  | 1 => s 115 = .pointer (some ⟨c5, 0, none⟩)
  | 2 => s 116 = vg
  | 3 => ∃ A c, s 117 = .slice A n1 c ∧ Own0 w base 38 3 A n1 c G
  | 4 => ∃ A, s 118 = .slice A 0 0
  | 5 => s 119 = .pointer (some ⟨c5, 1, none⟩)
  | 6 => s 120 = vo
  | 7 => ∃ A c, s 121 = .slice A n2 c ∧ Own0 w base 3 1 A n2 c O
  | 8 => s 122 = .agg #[s 117, s 121]
  | 9 => ∃ b u0 u1, s 12 = .pointer (some ⟨b, 0, none⟩) ∧ base ≤ b ∧ Blk w b 32 #[u0, u1]
  | 10 => ∃ b, s 12 = .pointer (some ⟨b, 0, none⟩) ∧ Blk w b 32 #[s 117, s 121]
  | _ => True
def V17 (j : Nat) : List Nat :=
  match j with
  | 0 => [114] | 1 => [115] | 2 => [116] | 3 => [117] | 4 => [118] | 5 => [119] | 6 => [120] | 7 => [121] | 8 => [122, 117, 121] | 9 => [12] | 10 => [12, 117, 121] | _ => []
theorem F17_V {c5 base : Nat} {vg vo : Value} {n1 n2 : Nat} {G O : List Value} (j : Nat) (s s' : Nat → Value) (w : World) (h : ∀ t, t ∈ V17 j → s' t = s t) (hF : F17 c5 base vg vo n1 n2 G O j s w) : F17 c5 base vg vo n1 n2 G O j s' w := by
  match j with
  | 0 => simpa [F17, h 114 (by simp [V17])] using hF
  | 1 => simpa [F17, h 115 (by simp [V17])] using hF
  | 2 => simpa [F17, h 116 (by simp [V17])] using hF
  | 3 => simpa [F17, h 117 (by simp [V17])] using hF
  | 4 => simpa [F17, h 118 (by simp [V17])] using hF
  | 5 => simpa [F17, h 119 (by simp [V17])] using hF
  | 6 => simpa [F17, h 120 (by simp [V17])] using hF
  | 7 => simpa [F17, h 121 (by simp [V17])] using hF
  | 8 => simpa [F17, h 122 (by simp [V17]), h 117 (by simp [V17]), h 121 (by simp [V17])] using hF
  | 9 => simpa [F17, h 12 (by simp [V17])] using hF
  | 10 => simpa [F17, h 12 (by simp [V17]), h 117 (by simp [V17]), h 121 (by simp [V17])] using hF
  | _ + 11 => trivial
theorem F17_below {c5 base : Nat} {vg vo : Value} {n1 n2 : Nat} {G O : List Value} (j : Nat) (s : Nat → Value) (w w' : World) (hb : Below w.heap.size w w') (hF : F17 c5 base vg vo n1 n2 G O j s w) : F17 c5 base vg vo n1 n2 G O j s w' := by
  match j with
  | 0 => exact hF
  | 1 => exact hF
  | 2 => exact hF
  | 3 => obtain ⟨A, c, h1, h2⟩ := hF; exact ⟨A, c, h1, h2.below hb⟩
  | 4 => exact hF
  | 5 => exact hF
  | 6 => exact hF
  | 7 => obtain ⟨A, c, h1, h2⟩ := hF; exact ⟨A, c, h1, h2.below hb⟩
  | 8 => exact hF
  | 9 => obtain ⟨b, u0, u1, h1, h2, h3⟩ := hF; exact ⟨b, u0, u1, h1, h2, h3.below hb h3.lt⟩
  | 10 => obtain ⟨b, h1, h2⟩ := hF; exact ⟨b, h1, h2.below hb h2.lt⟩
  | _ + 11 => trivial
/-- The changed copy. -/
def FinP (w5 : World) (s12 : Value) (wx : World) : Prop :=
  ∃ (b12 : Nat) (nc : Net) (A1 A2 : Option Addr) (d1 d2 : Nat), s12 = .pointer (some ⟨b12, 0, none⟩) ∧ Blk wx b12 32 #[.slice A1 nc.gates.length d1, .slice A2 nc.outs.length d2] ∧
    NetAt (fun b => b < wx.heap.size) wx (.slice A1 nc.gates.length d1) (.slice A2 nc.outs.length d2) nc ∧ nc.gates.length ≤ 20 ∧ nc.outs.length ≤ 20 ∧ Below w5.heap.size w5 wx
theorem sl_of_own0 {α : Type} {F : Nat → Prop} {k : Nat} {R R' : World → List Value → α → Prop} {w w' : World} {base : Nat} {e : TypeId} {A : Option Addr} {n c : Nat} {cs : List (List Value)} {l : List α} (h : Own0 w' base e k A n c cs.flatten) (hn : n = l.length) (hl : l.length ≤ 1000000)
    (h1 : cs.length = l.length) (h2 : ∀ i (hi : i < l.length), ∃ x, cs[i]? = some x ∧ x.length = k ∧ R w x l[i]) (hR : ∀ x y, R w x y → R' w' x y) (hF : ∀ b, base ≤ b → b < w'.heap.size → F b) : Sl F k R' w' (.slice A n c) l := by
  subst hn
  rcases h with ⟨h0, hc, _⟩ | ⟨h0, h⟩
  · subst hc
    have hl0 : l = [] := List.eq_nil_of_length_eq_zero h0
    subst hl0
    exact ⟨A, 0, rfl, by simp, by simp, fun i hi => absurd hi (by simp)⟩
  · exact Sl.of_own h rfl (by omega) rfl h1 (fun i hi => by
      obtain ⟨x, q1, q2, q3⟩ := h2 i hi
      exact ⟨x, q1, q2, hR _ _ q3⟩) fun b q1 q2 _ => hF b q1 q2
theorem ints_of_own0 {F : Nat → Prop} {w' : World} {base : Nat} {e : TypeId} {A : Option Addr} {n c : Nat} {l : List Int} (h : Own0 w' base e 1 A n c (intsV l)) (hn : n = l.length) (hl : l.length ≤ 1000000) (hF : ∀ b, base ≤ b → b < w'.heap.size → F b) : SlI F w' (.slice A n c) l := by
  rw [intsV_flat] at h
  exact sl_of_own0 (R := IntC) (w := w') h hn hl (by simp) (fun i hi => ⟨[.int .i64 l[i]], by simp [hi], rfl, rfl⟩) (fun _ _ h => h) hF
theorem flat_at (k : Nat) : ∀ (L : List (List Value)), (∀ c ∈ L, c.length = k) → ∀ (i : Nat) (c : List Value), L[i]? = some c → ∀ (j : Nat) (u : Value), c[j]? = some u → L.flatten[i * k + j]? = some u := by
  intro L
  induction L with
  | nil => intro _ i c h; simp at h
  | cons x L ih =>
    intro hall i c h j u hu
    have hx : x.length = k := hall x (by simp)
    cases i with
    | zero =>
      simp only [List.getElem?_cons_zero, Option.some.injEq] at h
      subst h
      have hj : j < x.length := (List.getElem?_eq_some_iff.1 hu).1
      simp only [List.flatten_cons, Nat.zero_mul, Nat.zero_add]
      rw [List.getElem?_append_left hj, hu]
    | succ i =>
      simp only [List.getElem?_cons_succ] at h
      have := ih (fun c hc => hall c (List.mem_cons_of_mem _ hc)) i c h j u hu
      simp only [List.flatten_cons]
      rw [List.getElem?_append_right (by rw [hx, Nat.succ_mul]; omega), hx, Nat.succ_mul]
      rw [show i * k + k + j - k = i * k + j from by omega]
      exact this
theorem lens_of {α : Type} {k : Nat} {R : List Value → α → Prop} {cs : List (List Value)} {l : List α} (h1 : cs.length = l.length) (h2 : ∀ i (hi : i < l.length), ∃ x, cs[i]? = some x ∧ x.length = k ∧ R x l[i]) : ∀ c ∈ cs, c.length = k := by
  intro c hc
  obtain ⟨i, hi, rfl⟩ := List.getElem_of_mem hc
  obtain ⟨x, hx, hl, _⟩ := h2 i (by omega)
  rw [List.getElem?_eq_getElem hi] at hx
  injection hx with hx
  rw [hx]; exact hl
theorem add_zero_at (g n : Nat) : (⟨g, 0, none⟩ : Addr).add n = ⟨g, n, none⟩ := by
  unfold Addr.add; split <;> simp_all
theorem rem_nat (a n : Nat) : (a : Int).tmod n = ((a % n : Nat) : Int) := rfl
def F20 (b12 bb : Nat) (p0 : Addr) (n1 d1 aN i : Nat) (kd ar : Int) (u : Value) (base : Nat) (j : Nat) (s : Nat → Value) (w : World) : Prop :=
  match j with
  | 0 => s 128 = .pointer (some ⟨b12, 0, none⟩)
  | 1 => s 129 = .slice (some p0) n1 d1
  | 2 => s 130 = .pointer (some ⟨bb, 1, none⟩)
  | 3 => s 131 = .int .u8 aN
  | 4 => s 132 = .int .i64 aN
  | 5 => s 133 = .int .i64 n1
  | 6 => s 134 = .int .i64 i
  | 7 => s 135 = .pointer (some (p0.add (i * 3)))
  | 8 => s 136 = .agg #[.int .i64 kd, .int .i64 ar, u]
  | 9 => ∃ b v0 v1 v2, s 14 = .pointer (some ⟨b, 0, none⟩) ∧ base ≤ b ∧ Blk w b 38 #[v0, v1, v2]
  | 10 => ∃ b, s 14 = .pointer (some ⟨b, 0, none⟩) ∧ Blk w b 38 #[.int .i64 kd, .int .i64 ar, u]
  | _ => True
def V20 (j : Nat) : List Nat :=
  match j with
  | 0 => [128] | 1 => [129] | 2 => [130] | 3 => [131] | 4 => [132] | 5 => [133] | 6 => [134] | 7 => [135] | 8 => [136] | 9 => [14] | 10 => [14] | _ => []
theorem F20_V {b12 bb : Nat} {p0 : Addr} {n1 d1 aN i : Nat} {kd ar : Int} {u : Value} {base : Nat} (j : Nat) (s s' : Nat → Value) (w : World) (h : ∀ t, t ∈ V20 j → s' t = s t) (hF : F20 b12 bb p0 n1 d1 aN i kd ar u base j s w) : F20 b12 bb p0 n1 d1 aN i kd ar u base j s' w := by
  match j with
  | 0 => simpa [F20, h 128 (by simp [V20])] using hF
  | 1 => simpa [F20, h 129 (by simp [V20])] using hF
  | 2 => simpa [F20, h 130 (by simp [V20])] using hF
  | 3 => simpa [F20, h 131 (by simp [V20])] using hF
  | 4 => simpa [F20, h 132 (by simp [V20])] using hF
  | 5 => simpa [F20, h 133 (by simp [V20])] using hF
  | 6 => simpa [F20, h 134 (by simp [V20])] using hF
  | 7 => simpa [F20, h 135 (by simp [V20])] using hF
  | 8 => simpa [F20, h 136 (by simp [V20])] using hF
  | 9 => simpa [F20, h 14 (by simp [V20])] using hF
  | 10 => simpa [F20, h 14 (by simp [V20])] using hF
  | _ + 11 => trivial
theorem F20_below {b12 bb : Nat} {p0 : Addr} {n1 d1 aN i : Nat} {kd ar : Int} {u : Value} {base : Nat} (j : Nat) (s : Nat → Value) (w w' : World) (hb : Below w.heap.size w w') (hF : F20 b12 bb p0 n1 d1 aN i kd ar u base j s w) : F20 b12 bb p0 n1 d1 aN i kd ar u base j s w' := by
  match j with
  | 0 | 1 | 2 | 3 | 4 | 5 | 6 | 7 | 8 => exact hF
  | 9 => obtain ⟨b, u0, u1, u2, h1, h2, h3⟩ := hF; exact ⟨b, u0, u1, u2, h1, h2, h3.below hb h3.lt⟩
  | 10 => obtain ⟨b, h1, h2⟩ := hF; exact ⟨b, h1, h2.below hb h2.lt⟩
  | _ + 11 => trivial
/-- Between the copy and the end: the gate in hand (b14), the copy (b12), its row of gates. -/
structure Mid (w5 : World) (b14 b12 g1 n1 d1 : Nat) (G : List Value) (kd ar : Int) (ins outs : List Int) (A3 : Option Addr) (c3 : Nat) (A4 : Option Addr) (d4 : Nat) (w : World) : Prop where
  hb : Below w5.heap.size w5 w
  l14 : w5.heap.size ≤ b14
  l12 : w5.heap.size ≤ b12
  k14 : Blk w b14 38 #[.int .i64 kd, .int .i64 ar, .slice A3 ins.length c3]
  o3 : Own0 w w5.heap.size 3 1 A3 ins.length c3 (intsV ins)
  k12 : Blk w b12 32 #[.slice (some ⟨g1, 0, none⟩) n1 d1, .slice A4 outs.length d4]
  o4 : Own0 w w5.heap.size 3 1 A4 outs.length d4 (intsV outs)
  og : w.ownsRow w5.heap.size 38 3 (.slice (some ⟨g1, 0, none⟩) n1 d1) n1 G
  hne : b14 ≠ g1
theorem own_far {w : World} {base : Nat} {e : TypeId} {k n : Nat} {v : Value} {xs : List Value} {p : Addr} (h : w.ownsRow base e k v n xs) (hp : v.ownBlock ≠ some p.block) (u : Value) : (w.setCell p u).ownsRow base e k v n xs :=
  h.kept (row := some p.block) ⟨rfl, rfl, rfl, by simp [World.setCell], fun i hi hr => Below.heap_setCell w _ u i (fun e => hr (by rw [e]))⟩ (.inr hp)
section
variable {w5 w : World} {b14 b12 g1 n1 d1 : Nat} {G : List Value} {kd ar : Int} {ins outs : List Int} {A3 : Option Addr} {c3 : Nat} {A4 : Option Addr} {d4 : Nat}
theorem Mid.ne12 (h : Mid w5 b14 b12 g1 n1 d1 G kd ar ins outs A3 c3 A4 d4 w) : b12 ≠ b14 := Blk.ne_ h.k12 h.k14 (by decide)
/-- A store into the gate in hand. -/
theorem Mid.set14 (h : Mid w5 b14 b12 g1 n1 d1 G kd ar ins outs A3 c3 A4 d4 w) {kd' ar' : Int} {ins' : List Int} {A3' : Option Addr} {c3' : Nat} (j : Nat) (u : Value)
    (hk : (#[.int .i64 kd, .int .i64 ar, .slice A3 ins.length c3] : Array Value).setIfInBounds j u = #[.int .i64 kd', .int .i64 ar', .slice A3' ins'.length c3']) (ho : Own0 w w5.heap.size 3 1 A3' ins'.length c3' (intsV ins')) :
    Mid w5 b14 b12 g1 n1 d1 G kd' ar' ins' outs A3' c3' A4 d4 (w.setCell ⟨b14, j, none⟩ u) :=
  ⟨Bs h.hb _ h.l14, h.l14, h.l12, by have := h.k14.set_ j u; rwa [hk] at this, ho.far h.k14 (by decide) j u, h.k12.far (p := ⟨b14, j, none⟩) h.ne12 u, h.o4.far h.k14 (by decide) j u, own_far h.og (by simp [Value.ownBlock]; exact fun e => h.hne e.symm) u, h.hne⟩
/-- A store into the copy. -/
theorem Mid.set12 (h : Mid w5 b14 b12 g1 n1 d1 G kd ar ins outs A3 c3 A4 d4 w) {outs' : List Int} {A4' : Option Addr} {d4' : Nat} (ho : Own0 w w5.heap.size 3 1 A4' outs'.length d4' (intsV outs')) :
    Mid w5 b14 b12 g1 n1 d1 G kd ar ins outs' A3 c3 A4' d4' (w.setCell ⟨b12, 1, none⟩ (.slice A4' outs'.length d4')) :=
  ⟨Bs h.hb _ h.l12, h.l14, h.l12, h.k14.far (p := ⟨b12, 1, none⟩) (Ne.symm h.ne12) _, h.o3.far h.k12 (by decide) 1 _, h.k12.set_ 1 _, ho.far h.k12 (by decide) 1 _, own_far h.og (own_blk_ne h.og h.k12 (by decide)) _, h.hne⟩
theorem Mid.below {w' : World} (h : Mid w5 b14 b12 g1 n1 d1 G kd ar ins outs A3 c3 A4 d4 w) (hb : Below w.heap.size w w') : Mid w5 b14 b12 g1 n1 d1 G kd ar ins outs A3 c3 A4 d4 w' :=
  ⟨Bt h.hb hb, h.l14, h.l12, h.k14.below hb h.k14.lt, h.o3.below hb, h.k12.below hb h.k12.lt, h.o4.below hb, own_below hb h.og, h.hne⟩
/-- The inputs grow. -/
theorem Mid.grow3 {w' : World} (h : Mid w5 b14 b12 g1 n1 d1 G kd ar ins outs A3 c3 A4 d4 w) (hne : (Value.slice A4 outs.length d4).ownBlock = none ∨ (Value.slice A4 outs.length d4).ownBlock ≠ (Value.slice A3 ins.length c3).ownBlock ∨ ins.length = 0 ∨ outs.length = 0)
    (hg : (ins.length = 0 ∧ Below w.heap.size w w') ∨ (0 < ins.length ∧ w.grownBy w' (Value.slice A3 ins.length c3).ownBlock)) :
    Below w5.heap.size w5 w' ∧ Blk w' b14 38 #[.int .i64 kd, .int .i64 ar, .slice A3 ins.length c3] ∧ Blk w' b12 32 #[.slice (some ⟨g1, 0, none⟩) n1 d1, .slice A4 outs.length d4] ∧ Own0 w' w5.heap.size 3 1 A4 outs.length d4 (intsV outs) ∧ w'.ownsRow w5.heap.size 38 3 (.slice (some ⟨g1, 0, none⟩) n1 d1) n1 G := by
  rcases hg with ⟨_, hb⟩ | ⟨h0, hg⟩
  · have := h.below hb
    exact ⟨this.hb, this.k14, this.k12, this.o4, this.og⟩
  · rcases h.o3 with ⟨h1, _⟩ | ⟨_, o3⟩
    · omega
    refine ⟨h.hb.grown hg h.hb.size (fun b e => (o3.lt b e).1), h.k14.grown hg (Ne.symm (own_blk_ne o3 h.k14 (by decide))), h.k12.grown hg (Ne.symm (own_blk_ne o3 h.k12 (by decide))), ?_, h.og.kept hg (.inr ?_)⟩
    · rcases h.o4 with q | ⟨q0, q⟩
      · exact .inl q
      · rcases hne with hne | hne | hne | hne
        · exact .inr ⟨q0, q.kept hg (.inl hne)⟩
        · exact .inr ⟨q0, q.kept hg (.inr hne)⟩
        · omega
        · omega
    · obtain ⟨g, cap, hv, _⟩ := o3.form h0
      injection hv with hv
      subst hv
      rcases o3.2 with ⟨hh, _⟩ | ⟨g', cap', cur, hh, _, hbl, _⟩
      · cases hh
      · injection hh with hh
        injection hh with hh
        injection hh with hh
        subst hh
        exact own_blk_ne h.og hbl (by decide)
/-- The outputs grow. -/
theorem Mid.grow4 {w' : World} (h : Mid w5 b14 b12 g1 n1 d1 G kd ar ins outs A3 c3 A4 d4 w) (hne : (Value.slice A3 ins.length c3).ownBlock = none ∨ (Value.slice A3 ins.length c3).ownBlock ≠ (Value.slice A4 outs.length d4).ownBlock ∨ ins.length = 0 ∨ outs.length = 0)
    (hg : (outs.length = 0 ∧ Below w.heap.size w w') ∨ (0 < outs.length ∧ w.grownBy w' (Value.slice A4 outs.length d4).ownBlock)) : Mid w5 b14 b12 g1 n1 d1 G kd ar ins outs A3 c3 A4 d4 w' ∨
    (Below w5.heap.size w5 w' ∧ Blk w' b14 38 #[.int .i64 kd, .int .i64 ar, .slice A3 ins.length c3] ∧ Blk w' b12 32 #[.slice (some ⟨g1, 0, none⟩) n1 d1, .slice A4 outs.length d4] ∧ Own0 w' w5.heap.size 3 1 A3 ins.length c3 (intsV ins) ∧ w'.ownsRow w5.heap.size 38 3 (.slice (some ⟨g1, 0, none⟩) n1 d1) n1 G) := by
  rcases hg with ⟨_, hb⟩ | ⟨h0, hg⟩
  · exact .inl (h.below hb)
  · rcases h.o4 with ⟨h1, _⟩ | ⟨_, o4⟩
    · omega
    refine .inr ⟨h.hb.grown hg h.hb.size (fun b e => (o4.lt b e).1), h.k14.grown hg (Ne.symm (own_blk_ne o4 h.k14 (by decide))), h.k12.grown hg (Ne.symm (own_blk_ne o4 h.k12 (by decide))), ?_, h.og.kept hg (.inr ?_)⟩
    · rcases h.o3 with q | ⟨q0, q⟩
      · exact .inl q
      · rcases hne with hne | hne | hne | hne
        · exact .inr ⟨q0, q.kept hg (.inl hne)⟩
        · exact .inr ⟨q0, q.kept hg (.inr hne)⟩
        · omega
        · omega
    · obtain ⟨g, cap, hv, _⟩ := o4.form h0
      injection hv with hv
      subst hv
      rcases o4.2 with ⟨hh, _⟩ | ⟨g', cap', cur, hh, _, hbl, _⟩
      · cases hh
      · injection hh with hh
        injection hh with hh
        injection hh with hh
        subst hh
        exact own_blk_ne h.og hbl (by decide)
end
theorem Mid.grow4' {w5 w w' : World} {b14 b12 g1 n1 d1 : Nat} {G : List Value} {kd ar : Int} {ins outs : List Int} {A3 : Option Addr} {c3 : Nat} {A4 : Option Addr} {d4 : Nat} (h : Mid w5 b14 b12 g1 n1 d1 G kd ar ins outs A3 c3 A4 d4 w) (hne : (Value.slice A3 ins.length c3).ownBlock = none ∨ (Value.slice A3 ins.length c3).ownBlock ≠ (Value.slice A4 outs.length d4).ownBlock ∨ ins.length = 0 ∨ outs.length = 0)
    (hg : (outs.length = 0 ∧ Below w.heap.size w w') ∨ (0 < outs.length ∧ w.grownBy w' (Value.slice A4 outs.length d4).ownBlock)) :
    Below w5.heap.size w5 w' ∧ Blk w' b14 38 #[.int .i64 kd, .int .i64 ar, .slice A3 ins.length c3] ∧ Blk w' b12 32 #[.slice (some ⟨g1, 0, none⟩) n1 d1, .slice A4 outs.length d4] ∧ Own0 w' w5.heap.size 3 1 A3 ins.length c3 (intsV ins) ∧ w'.ownsRow w5.heap.size 38 3 (.slice (some ⟨g1, 0, none⟩) n1 d1) n1 G :=
  (h.grow4 hne hg).elim (fun m => ⟨m.hb, m.k14, m.k12, m.o3, m.og⟩) id
theorem ne_turn {x y : Option Nat} {p q : Prop} (h : x = none ∨ x ≠ y ∨ p ∨ q) : y = none ∨ y ≠ x ∨ p ∨ q := by
  rcases h with h | h | h
  · cases y with
    | none => exact .inl rfl
    | some b => exact .inr (.inl (by rw [h]; simp))
  · exact .inr (.inl (Ne.symm h))
  · exact .inr (.inr h)
def F31 (b12 bb b14 : Nat) (p0 : Addr) (n1 d1 aN i : Nat) (kd ar : Int) (u : Value) (Done : World → Prop) (j : Nat) (s : Nat → Value) (w : World) : Prop :=
  match j with
  | 0 => s 173 = .pointer (some ⟨b12, 0, none⟩)
  | 1 => s 174 = .slice (some p0) n1 d1
  | 2 => s 175 = .pointer (some ⟨bb, 1, none⟩)
  | 3 => s 176 = .int .u8 aN
  | 4 => s 177 = .int .i64 aN
  | 5 => s 178 = .int .i64 n1
  | 6 => s 179 = .int .i64 i
  | 7 => s 180 = .agg #[.int .i64 kd, .int .i64 ar, u]
  | 8 => s 181 = .pointer (some (p0.add (i * 3)))
  | 9 => Done w
  | _ => True
def V31 (j : Nat) : List Nat :=
  match j with
  | 0 => [173] | 1 => [174] | 2 => [175] | 3 => [176] | 4 => [177] | 5 => [178] | 6 => [179] | 7 => [180] | 8 => [181] | _ => []
theorem F31_V {b12 bb b14 : Nat} {p0 : Addr} {n1 d1 aN i : Nat} {kd ar : Int} {u : Value} {Done : World → Prop} (j : Nat) (s s' : Nat → Value) (w : World) (h : ∀ t, t ∈ V31 j → s' t = s t) (hF : F31 b12 bb b14 p0 n1 d1 aN i kd ar u Done j s w) : F31 b12 bb b14 p0 n1 d1 aN i kd ar u Done j s' w := by
  match j with
  | 0 => simpa [F31, h 173 (by simp [V31])] using hF
  | 1 => simpa [F31, h 174 (by simp [V31])] using hF
  | 2 => simpa [F31, h 175 (by simp [V31])] using hF
  | 3 => simpa [F31, h 176 (by simp [V31])] using hF
  | 4 => simpa [F31, h 177 (by simp [V31])] using hF
  | 5 => simpa [F31, h 178 (by simp [V31])] using hF
  | 6 => simpa [F31, h 179 (by simp [V31])] using hF
  | 7 => simpa [F31, h 180 (by simp [V31])] using hF
  | 8 => simpa [F31, h 181 (by simp [V31])] using hF
  | 9 => exact hF
  | _ + 10 => trivial
theorem flat_set3 : ∀ (L : List (List Value)), (∀ c ∈ L, c.length = 3) → ∀ (i : Nat), i < L.length → ∀ (a b c : Value), ((L.flatten.set (i * 3) a).set (i * 3 + 1) b).set (i * 3 + 2) c = (L.set i [a, b, c]).flatten := by
  intro L
  induction L with
  | nil => intro _ i h; simp at h
  | cons x L ih =>
    intro hall i hi a b c
    have hx : x.length = 3 := hall x (by simp)
    match x, hx with
    | [p, q, r], _ =>
    cases i with
    | zero => simp
    | succ i =>
      have := ih (fun c hc => hall c (List.mem_cons_of_mem _ hc)) i (by simpa using hi) a b c
      have e : (i + 1) * 3 = i * 3 + 3 := by omega
      rw [e]
      simp only [List.flatten_cons, List.set_cons_succ, ← this]
      rfl
theorem row_blk {w : World} {base : Nat} {e : TypeId} {k g n d : Nat} {G : List Value} (h : w.ownsRow base e k (.slice (some ⟨g, 0, none⟩) n d) n G) : ∃ cur, Blk w g e cur := by
  rcases h.2 with ⟨hh, _⟩ | ⟨g', cap, cur, hh, _, hbl, _⟩
  · cases hh
  · injection hh with hh
    injection hh with hh
    injection hh with hh
    subst hh
    exact ⟨cur, hbl⟩
theorem own0_far_row {w : World} {base base' : Nat} {e e' : TypeId} {k k' g n d m c : Nat} {G xs : List Value} {A : Option Addr} (hr : w.ownsRow base e k (.slice (some ⟨g, 0, none⟩) n d) n G) (he : e' ≠ e) (h : Own0 w base' e' k' A m c xs) (j : Nat) (u : Value) : Own0 (w.setCell ⟨g, j, none⟩ u) base' e' k' A m c xs := by
  obtain ⟨cur, hB⟩ := row_blk hr
  exact h.far hB he j u
theorem fin_mk {w5 w13 : World} {b14 b12 g1 d1 i : Nat} {csg : List (List Value)} {gates : List Gate} {kd ar : Int} {ins outs : List Int} {A3 : Option Addr} {c3 : Nat} {A4 : Option Addr} {d4 : Nat} {F : Nat → Prop} (hF : ∀ b, F b → b < w5.heap.size)
    (M : Mid w5 b14 b12 g1 gates.length d1 csg.flatten kd ar ins outs A3 c3 A4 d4 w13) (hi : i < gates.length) (hl1 : ins.length ≤ 10) (hl2 : outs.length ≤ 10) (hg10 : gates.length ≤ 10) (hx : g1 ≠ b12) (hg1 : w5.heap.size ≤ g1)
    (h1 : csg.length = gates.length) (h2 : ∀ k (hk : k < gates.length), ∃ x, csg[k]? = some x ∧ x.length = 3 ∧ GateC F w5 x gates[k]) :
    FinP w5 (.pointer (some ⟨b12, 0, none⟩)) (((w13.setCell ⟨g1, i * 3, none⟩ (.int .i64 kd)).setCell ⟨g1, i * 3 + 1, none⟩ (.int .i64 ar)).setCell ⟨g1, i * 3 + 2, none⟩ (.slice A3 ins.length c3)).drew := by
  have q1 := (M.og.stored (i * 3) (.int .i64 kd)).1
  have q2 := (q1.stored (i * 3 + 1) (.int .i64 ar)).1
  have q3 := (q2.stored (i * 3 + 2) (.slice A3 ins.length c3)).1
  have o3 := own0_far_row q2 (by decide) (own0_far_row q1 (by decide) (own0_far_row M.og (by decide) M.o3 (i * 3) (.int .i64 kd)) (i * 3 + 1) (.int .i64 ar)) (i * 3 + 2) (.slice A3 ins.length c3)
  have o4 := own0_far_row q2 (by decide) (own0_far_row q1 (by decide) (own0_far_row M.og (by decide) M.o4 (i * 3) (.int .i64 kd)) (i * 3 + 1) (.int .i64 ar)) (i * 3 + 2) (.slice A3 ins.length c3)
  have k12 : Blk (((w13.setCell ⟨g1, i * 3, none⟩ (.int .i64 kd)).setCell ⟨g1, i * 3 + 1, none⟩ (.int .i64 ar)).setCell ⟨g1, i * 3 + 2, none⟩ (.slice A3 ins.length c3)) b12 32 _ := ((M.k12.far (p := ⟨g1, i * 3, none⟩) (Ne.symm hx) _).far (p := ⟨g1, i * 3 + 1, none⟩) (Ne.symm hx) _).far (p := ⟨g1, i * 3 + 2, none⟩) (Ne.symm hx) _
  have hb := Bs (Bs (Bs M.hb (p := ⟨g1, i * 3, none⟩) (.int .i64 kd) hg1) (p := ⟨g1, i * 3 + 1, none⟩) (.int .i64 ar) hg1) (p := ⟨g1, i * 3 + 2, none⟩) (.slice A3 ins.length c3) hg1
  rw [flat_set3 csg (lens_of h1 h2) i (by omega)] at q3
  generalize ((w13.setCell ⟨g1, i * 3, none⟩ (.int .i64 kd)).setCell ⟨g1, i * 3 + 1, none⟩ (.int .i64 ar)).setCell ⟨g1, i * 3 + 2, none⟩ (.slice A3 ins.length c3) = wz at *
  clear q1 q2 M
  refine ⟨b12, ⟨gates.set i ⟨kd, ar, ins⟩, outs⟩, some ⟨g1, 0, none⟩, A4, d1, d4, rfl, ?_, ⟨?_, ?_⟩, ?_, ?_, hb.drew⟩
  · simp only [List.length_set]
    exact k12.drew
  · refine sl_of_own0 (base := w5.heap.size) (e := 38) (cs := csg.set i [.int .i64 kd, .int .i64 ar, .slice A3 ins.length c3]) (R := GateC (fun b => b < wz.drew.heap.size)) (w := wz.drew) (.inr ⟨by simp only [List.length_set]; omega, by simp only [List.length_set]; exact q3⟩) rfl (by simp only [List.length_set]; omega) (by simp only [List.length_set]; exact h1) ?_ (fun _ _ h => h) (fun b _ q => q)
    intro k hk
    simp only [List.length_set] at hk
    by_cases hki : k = i
    · subst hki
      refine ⟨[.int .i64 kd, .int .i64 ar, .slice A3 ins.length c3], by rw [List.getElem?_set_self (by omega)], rfl, .slice A3 ins.length c3, by simp, ?_⟩
      have := ints_of_own0 (F := fun b => b < wz.drew.heap.size) o3.drew rfl (by omega) (fun b _ q => q)
      simpa using this
    · obtain ⟨x, r1, r2, u, r3, r4⟩ := h2 k hk
      refine ⟨x, by rw [List.getElem?_set_ne (Ne.symm hki)]; exact r1, r2, u, ?_, ?_⟩
      · simp only [List.getElem_set_ne (Ne.symm hki)]; exact r3
      · simp only [List.getElem_set_ne (Ne.symm hki)]
        exact (r4.keep (w' := wz.drew) (Agree.below hb.drew hF)).mono fun b h => by have := hF b h; have := hb.size; show b < wz.heap.size; omega
  · exact ints_of_own0 o4.drew rfl (by show outs.length ≤ 1000000; omega) (fun b _ q => q)
  · simp only [List.length_set]; omega
  · show outs.length ≤ 20; omega

def sndSeq : Code → Code | .seq _ b => b | c => c
def fstSeq : Code → Code | .seq a _ => a | c => c
noncomputable def body3 : Code := Try.f3.body.getD .skip
set_option maxHeartbeats 40000000 in
set_option maxRecDepth 100000 in
/-- What follows the comparisons: a changed copy. -/
theorem law_tail (K : Act → World → Prop) (w w1 w3 w5 : World) (v0 v1 v4 v6 v7 v8 v9 v10 v11 v12 v13 v14 v15 v16 v17 v18 v19 v20 v21 v22 v23 v24 v25 v26 v27 v28 v29 v30 v31 v32 v33 v34 v35 v36 v37 v38 v39 v40 v41 v42 v43 v44 v45 v46 v47 v48 v49 v50 v51 v52 v53 v54 v55 v56 v57 v58 v59 v60 v61 v62 v63 v64 v65 v66 v67 v68 v69 v70 v71 v72 v73 v74 v75 v76 v77 v78 v79 v80 v81 v82 v83 v84 v85 v86 v87 v88 v89 v90 v91 v92 v93 v94 v95 v96 v97 v98 v99 v100 v101 v102 v103 v104 v105 v106 v107 v108 v109 v110 v111 v112 v113 v114 v115 v116 v117 v118 v119 v120 v121 v122 v123 v124 v125 v126 v127 v128 v129 v130 v131 v132 v133 v134 v135 v136 v137 v138 v139 v140 v141 v142 v143 v144 v145 v146 v147 v148 v149 v150 v151 v152 v153 v154 v155 v156 v157 v158 v159 v160 v161 v162 v163 v164 v165 v166 v167 v168 v169 v170 v171 v172 v173 v174 v175 v176 v177 v178 v179 v180 v181 v182 v183 v184 v185 v186 v187 : Value)
    (hK : ∀ a w', Code.wp Try.prog (sndSeq (sndSeq (sndSeq (sndSeq (sndSeq (sndSeq (sndSeq (sndSeq body3)))))))) (bodyPost Try.prog Try.f3 fun e w' => e = .returned (.bool true) ∧ Below w.heap.size w w') a w' → K a w')
    (by_ hw_ at_ : Int) (hh : 0 ≤ hw_ ∧ hw_ ≤ 255) (hat : 0 ≤ at_ ∧ at_ ≤ 255) (s1 : w.heap.size + 1 < w1.heap.size)
    (D0 : Hid (w1.cell? ⟨w.heap.size + 1, 0, none⟩ = some (.int .u8 hw_))) (D1 : Hid (w1.cell? ⟨w.heap.size + 1, 1, none⟩ = some (.int .u8 at_))) (D2 : Hid (w1.cell? ⟨w.heap.size + 1, 2, none⟩ = some (.int .i64 by_)))
    (HB1 : Hid (Below w.heap.size w w1)) (c5 c6 : Nat) (ma : Net) (Ag Ao : Option Addr) (cg co : Nat) (hs5 : w1.heap.size ≤ c5 ∧ c5 < w3.heap.size)
    (hF3 : ∀ b, (w1.heap.size ≤ b ∧ b < w3.heap.size ∧ b ≠ c5 ∧ b ≠ c6) → b < w3.heap.size)
    (HNA : Hid (NetAt (fun b => w1.heap.size ≤ b ∧ b < w3.heap.size ∧ b ≠ c5 ∧ b ≠ c6) w3 (.slice Ag ma.gates.length cg) (.slice Ao ma.outs.length co) ma))
    (OKA : Hid (netOk 4 ma = true ∧ (ma.gates.length ≤ 10 ∧ ∀ g ∈ ma.gates, g.ins.length ≤ 5) ∧ ma.outs.length ≤ 2)) (HB2 : Hid (Below w1.heap.size w1 w3))
    (B5 : Below w3.heap.size w3 w5) (k0 : w5.cell? ⟨c5, 0, none⟩ = some (.slice Ag ma.gates.length cg)) (k1 : w5.cell? ⟨c5, 1, none⟩ = some (.slice Ao ma.outs.length co)) :
    Code.wp Try.prog (fstSeq (sndSeq (sndSeq (sndSeq (sndSeq (sndSeq (sndSeq (sndSeq body3)))))))) (Exit.then K (bodyPost Try.prog Try.f3 fun e w' => e = .returned (.bool true) ∧ Below w.heap.size w w')) ⟨List.toArray (v0 :: v1 :: .pointer (some ⟨w.heap.size, 0, none⟩) :: .pointer (some ⟨w.heap.size + 1, 0, none⟩) :: v4 :: .pointer (some ⟨c5, 0, none⟩) :: v6 :: v7 :: v8 :: v9 :: v10 :: v11 :: v12 :: v13 :: v14 :: v15 :: v16 :: v17 :: v18 :: v19 :: v20 :: v21 :: v22 :: v23 :: v24 :: v25 :: v26 :: v27 :: v28 :: v29 :: v30 :: v31 :: v32 :: v33 :: v34 :: v35 :: v36 :: v37 :: v38 :: v39 :: v40 :: v41 :: v42 :: v43 :: v44 :: v45 :: v46 :: v47 :: v48 :: v49 :: v50 :: v51 :: v52 :: v53 :: v54 :: v55 :: v56 :: v57 :: v58 :: v59 :: v60 :: v61 :: v62 :: v63 :: v64 :: v65 :: v66 :: v67 :: v68 :: v69 :: v70 :: v71 :: v72 :: v73 :: v74 :: v75 :: v76 :: v77 :: v78 :: v79 :: v80 :: v81 :: v82 :: v83 :: v84 :: v85 :: v86 :: v87 :: v88 :: v89 :: v90 :: v91 :: v92 :: v93 :: v94 :: v95 :: v96 :: v97 :: v98 :: v99 :: v100 :: v101 :: v102 :: v103 :: v104 :: v105 :: v106 :: v107 :: v108 :: v109 :: v110 :: v111 :: v112 :: v113 :: v114 :: v115 :: v116 :: v117 :: v118 :: v119 :: v120 :: v121 :: v122 :: v123 :: v124 :: v125 :: v126 :: v127 :: v128 :: v129 :: v130 :: v131 :: v132 :: v133 :: v134 :: v135 :: v136 :: v137 :: v138 :: v139 :: v140 :: v141 :: v142 :: v143 :: v144 :: v145 :: v146 :: v147 :: v148 :: v149 :: v150 :: v151 :: v152 :: v153 :: v154 :: v155 :: v156 :: v157 :: v158 :: v159 :: v160 :: v161 :: v162 :: v163 :: v164 :: v165 :: v166 :: v167 :: v168 :: v169 :: v170 :: v171 :: v172 :: v173 :: v174 :: v175 :: v176 :: v177 :: v178 :: v179 :: v180 :: v181 :: v182 :: v183 :: v184 :: v185 :: v186 :: v187 :: []), []⟩ w5 := by
  conv => arg 2; dsimp only [sndSeq, fstSeq, body3, Try.f3, Option.getD]
  conv at hK => enter [a, w', 1, 2]; dsimp only [sndSeq, fstSeq, body3, Try.f3, Option.getD]
  let Q' : Exit → Act → World → Prop := (bodyPost Try.prog Try.f3 fun e w' => e = .returned (.bool true) ∧ Below w.heap.size w w')
  change Code.wp Try.prog _ (Exit.then K Q') _ _
  change ∀ a w', Code.wp Try.prog _ Q' a w' → K a w' at hK
  have hF5 : ∀ b, (w1.heap.size ≤ b ∧ b < w3.heap.size ∧ b ≠ c5 ∧ b ≠ c6) → b < w5.heap.size := fun b h => by have := hF3 b h; have := B5.size; omega
  have NA5 := HNA.out.keep (Agree.below B5 hF3)
  obtain ⟨csg, hg1, hg2, hg3⟩ := NA5.g.cells hF5
  obtain ⟨cso, ho1, ho2, ho3⟩ := NA5.o.cells hF5
  have hone := gate_cells_one hg1 hg2
  rw [int_cells ho1 ho2] at ho3
  have s5 : c5 < w5.heap.size := by have := B5.size; omega
  have HG1 := Lib.hid hg1
  have HG2 := Lib.hid hg2
  have HG3 := Lib.hid hg3
  have HO3 := Lib.hid ho3
  have HONE := Lib.hid hone
  have HB5 := Lib.hid B5
  clear hg1 hg2 hg3 ho1 ho2 ho3 hone NA5 B5 hs5
  go_cut [12] (fun s12 wx => CopyP w5 csg.flatten ma.gates.length (intsV ma.outs) ma.outs.length s12 wx)
  case first =>
    have hla := OKA.out.2.1.1
    have hlo := OKA.out.2.2
    refine wp_region_law (fun w' => Below w5.heap.size w5 w') (F17 c5 w5.heap.size (.slice Ag ma.gates.length cg) (.slice Ao ma.outs.length co) ma.gates.length ma.outs.length csg.flatten (intsV ma.outs)) V17 (by kernel_rfl) F17_V (by kernel_rfl) (by kernel_rfl) (B0 _).drew ⟨?_, ?_, ?_, ?_, ?_, ?_, ?_, ?_, ?_, ?_, ?_, trivial⟩ ?_
    · refine OpFact.value F17_below fun a w hf D hb => ?_
      refine ⟨.slice (some ⟨w.heap.size, 0, none⟩) 0 0, w.alloc (.cells #[] 38), ?_, Ba (B0 _) _, Ba hb _, fun s _ h => ⟨_, h 114 rfl⟩⟩
      simp [go_sem]
    · refine OpFact.value F17_below fun a w hf D hb => ?_
      have h1 : sl a 5 = .pointer (some ⟨c5, 0, none⟩) := hf 5 (by kernel_rfl)
      refine ⟨.pointer (some ⟨c5, 0, none⟩), w, ?_, B0 _, hb, fun s _ h => h 115 rfl⟩
      unfold sl at h1
      simp [go_sem, h1]
    · refine OpFact.value F17_below fun a w hf D hb => ?_
      have h1 : sl a 115 = .pointer (some ⟨c5, 0, none⟩) := D 1 (by kernel_rfl)
      refine ⟨.slice Ag ma.gates.length cg, w, ?_, B0 _, hb, fun s _ h => h 116 rfl⟩
      unfold sl at h1
      have k0 := (Bc hb s5).trans k0
      simp [go_sem, h1, k0]
    · refine OpFact.value F17_below fun a w hf D hb => ?_
      obtain ⟨A0, h1⟩ : ∃ A, sl a 114 = .slice A 0 0 := D 0 (by kernel_rfl)
      have h2 : sl a 116 = .slice Ag ma.gates.length cg := D 2 (by kernel_rfl)
      obtain ⟨A', c', w', hrun, q1, q2⟩ := run_copy (w := w) elem29 (by omega) 29 A0 w5.heap.size Ag ma.gates.length cg csg.flatten (HG3.out.below hb) HONE.out (by omega) (by omega)
      refine ⟨.slice A' ma.gates.length c', w', ?_, q1, Bt hb q1, fun s _ h => ⟨A', c', h 117 rfl, q2.more hb.size⟩⟩
      unfold sl at h1 h2
      simp [execOp, resolve, invoke, builtin, Act.eval, h1, h2, hrun]
    · refine OpFact.value F17_below fun a w hf D hb => ?_
      refine ⟨.slice (some ⟨w.heap.size, 0, none⟩) 0 0, w.alloc (.cells #[] 3), ?_, Ba (B0 _) _, Ba hb _, fun s _ h => ⟨_, h 118 rfl⟩⟩
      simp [go_sem]
    · refine OpFact.value F17_below fun a w hf D hb => ?_
      have h1 : sl a 5 = .pointer (some ⟨c5, 0, none⟩) := hf 5 (by kernel_rfl)
      refine ⟨.pointer (some ⟨c5, 1, none⟩), w, ?_, B0 _, hb, fun s _ h => h 119 rfl⟩
      unfold sl at h1
      simp [go_sem, h1]
    · refine OpFact.value F17_below fun a w hf D hb => ?_
      have h1 : sl a 119 = .pointer (some ⟨c5, 1, none⟩) := D 5 (by kernel_rfl)
      refine ⟨.slice Ao ma.outs.length co, w, ?_, B0 _, hb, fun s _ h => h 120 rfl⟩
      unfold sl at h1
      have k1 := (Bc hb s5).trans k1
      simp [go_sem, h1, k1]
    · refine OpFact.value F17_below fun a w hf D hb => ?_
      obtain ⟨A0, h1⟩ : ∃ A, sl a 118 = .slice A 0 0 := D 4 (by kernel_rfl)
      have h2 : sl a 120 = .slice Ao ma.outs.length co := D 6 (by kernel_rfl)
      obtain ⟨A', c', w', hrun, q1, q2⟩ := run_copy (w := w) elem30 (by omega) 30 A0 w5.heap.size Ao ma.outs.length co (intsV ma.outs) (HO3.out.below hb) (intsV_one _) (by omega) (by omega)
      refine ⟨.slice A' ma.outs.length c', w', ?_, q1, Bt hb q1, fun s _ h => ⟨A', c', h 121 rfl, q2.more hb.size⟩⟩
      unfold sl at h1 h2
      simp [execOp, resolve, invoke, builtin, Act.eval, h1, h2, hrun]
    · refine OpFact.value F17_below fun a w hf D hb => ?_
      obtain ⟨A1, d1, h1, _⟩ : ∃ A c, sl a 117 = .slice A ma.gates.length c ∧ Own0 w w5.heap.size 38 3 A ma.gates.length c csg.flatten := D 3 (by kernel_rfl)
      obtain ⟨A2, d2, h2, _⟩ : ∃ A c, sl a 121 = .slice A ma.outs.length c ∧ Own0 w w5.heap.size 3 1 A ma.outs.length c (intsV ma.outs) := D 7 (by kernel_rfl)
      refine ⟨.agg #[.slice A1 ma.gates.length d1, .slice A2 ma.outs.length d2], w, ?_, B0 _, hb, fun s h h' => ?_⟩
      · unfold sl at h1 h2
        have g1 := h1
        have g2 := h2
        simp at g1 g2
        simp [go_sem, h1, h2, g1, g2]
      · show s 122 = .agg #[s 117, s 121]
        rw [h' 122 rfl, h 117 (by decide), h 121 (by decide), h1, h2]
    · refine OpFact.value F17_below fun a w hf D hb => ?_
      refine ⟨.pointer (some ⟨w.heap.size, 0, none⟩), w.alloc (.cells #[.slice none 0 0, .slice none 0 0] 32), ?_, Ba (B0 _) _, Ba hb _, fun s _ h => ⟨_, _, _, h 12 rfl, hb.size, Blk.new _ _ _⟩⟩
      simp [go_sem]
    · refine OpFact.skip fun a w hf D hb => ?_
      obtain ⟨A1, d1, h1, _⟩ : ∃ A c, sl a 117 = .slice A ma.gates.length c ∧ Own0 w w5.heap.size 38 3 A ma.gates.length c csg.flatten := D 3 (by kernel_rfl)
      obtain ⟨A2, d2, h2, _⟩ : ∃ A c, sl a 121 = .slice A ma.outs.length c ∧ Own0 w w5.heap.size 3 1 A ma.outs.length c (intsV ma.outs) := D 7 (by kernel_rfl)
      have h3 : sl a 122 = .agg #[sl a 117, sl a 121] := D 8 (by kernel_rfl)
      obtain ⟨b, u0, u1, h4, h5, h6⟩ : ∃ b u0 u1, sl a 12 = .pointer (some ⟨b, 0, none⟩) ∧ w5.heap.size ≤ b ∧ Blk w b 32 #[u0, u1] := D 9 (by kernel_rfl)
      rw [h1, h2] at h3
      have e0 := h6.cell 0
      have e1 := h6.cell 1
      have f0 := h6.frozen 0
      have f1 := h6.frozen 1
      simp at e0 e1
      refine ⟨(w.setCell ⟨b, 0, none⟩ (.slice A1 ma.gates.length d1)).setCell ⟨b, 1, none⟩ (.slice A2 ma.outs.length d2), ?_, Bs (Bs hb _ h5) _ h5, fun j hj hF => ?_, fun s h => ?_⟩
      · have h3' := h3
        have h4' := h4
        unfold sl at h3' h4'
        simp [go_sem, h3', h4', e0, e1, f0, f1]
      · match j with
        | 0 => exact hF
        | 1 => exact hF
        | 2 => exact hF
        | 3 => obtain ⟨A, c, q1, q2⟩ := hF; exact ⟨A, c, q1, (q2.far h6 (by decide) 0 _).far (h6.set_ 0 _) (by decide) 1 _⟩
        | 4 => exact hF
        | 5 => exact hF
        | 6 => exact hF
        | 7 => obtain ⟨A, c, q1, q2⟩ := hF; exact ⟨A, c, q1, (q2.far h6 (by decide) 0 _).far (h6.set_ 0 _) (by decide) 1 _⟩
        | 8 => exact hF
        | 9 => exact ⟨b, _, _, h4, h5, Blk.two h6⟩
        | 10 => exact absurd rfl hj
        | _ + 11 => trivial
      · refine ⟨b, (h 12 (by decide)).trans h4, ?_⟩
        rw [h 117 (by decide), h 121 (by decide), h1, h2]
        exact Blk.two h6
    · intro x w hb hF
      obtain ⟨A1, d1, h1, o1⟩ : ∃ A c, x 117 = .slice A ma.gates.length c ∧ Own0 w w5.heap.size 38 3 A ma.gates.length c csg.flatten := hF 3 (by decide)
      obtain ⟨A2, d2, h2, o2⟩ : ∃ A c, x 121 = .slice A ma.outs.length c ∧ Own0 w w5.heap.size 3 1 A ma.outs.length c (intsV ma.outs) := hF 7 (by decide)
      obtain ⟨b, u0, u1, h4, h5, _⟩ : ∃ b u0 u1, x 12 = .pointer (some ⟨b, 0, none⟩) ∧ w5.heap.size ≤ b ∧ Blk w b 32 #[u0, u1] := hF 9 (by decide)
      obtain ⟨b', h6, h7⟩ : ∃ b, x 12 = .pointer (some ⟨b, 0, none⟩) ∧ Blk w b 32 #[x 117, x 121] := hF 10 (by decide)
      rw [h4] at h6
      obtain rfl : b = b' := by simpa using h6
      rw [h1, h2] at h7
      have hC : CopyP w5 csg.flatten ma.gates.length (intsV ma.outs) ma.outs.length (.pointer (some ⟨b, 0, none⟩)) w := ⟨b, A1, d1, A2, d2, rfl, h5, h7, o1, o2, hb⟩
      have HC := Lib.hid hC
      clear hC o1 o2 h7 h6 h5 hF
      simp only [after, List.filterMap_cons, List.filterMap_nil, List.foldl_cons, List.foldl_nil]
      go_wp2_with fail
      simp only [List.setIfInBounds_toArray, List.set_cons_succ, List.set_cons_zero]
      go_meet
      rw [h4]
      exact HC.out
  case rest =>
    obtain ⟨b12, A1, d1, A2, d2, rfl, hb12, K12, O1, O2, B6⟩ := hcut
    obtain ⟨w6, rfl⟩ : ∃ w6 : World, w6 = wc := ⟨_, rfl⟩
    have hla := OKA.out.2.1.1
    have hlo := OKA.out.2.2
    have B16 : Below w1.heap.size w1 w6 := Bt (Bt HB2.out HB5.out) B6
    have f1 : w6.cell? ⟨w.heap.size + 1, 1, none⟩ = some (.int .u8 at_) := (Bc B16 (by omega)).trans D1.out
    have f0 : w6.cell? ⟨w.heap.size + 1, 0, none⟩ = some (.int .u8 hw_) := (Bc B16 (by omega)).trans D0.out
    have f2 : w6.cell? ⟨w.heap.size + 1, 2, none⟩ = some (.int .i64 by_) := (Bc B16 (by omega)).trans D2.out
    have m0 := K12.cell 0
    have m1 := K12.cell 1
    simp at m0 m1
    have HK12 := Lib.hid K12
    have HO1 := Lib.hid O1
    have HO2 := Lib.hid O2
    have HB6 := Lib.hid B6
    have HB16 := Lib.hid B16
    clear K12 O1 O2 B6 B16
    go_upto_if 127 with fail
    go_cut [12] (fun s12 wx => FinP w5 s12 wx)
    case first =>
      by_cases hn : ma.gates.length = 0
      · have hni : decide ((0 : Int) < (ma.gates.length : Int)) = false := decide_eq_false (by omega)
        have hn' : ma.gates.length ≤ 0 := by omega
        clear hn
        go_wp2_with fail
        go_meet
        refine ⟨b12, ma, A1, A2, d1, d2, rfl, HK12.out, ⟨?_, ints_of_own0 HO2.out rfl (by omega) fun b _ q => q⟩, by omega, by omega, HB6.out⟩
        refine sl_of_own0 HO1.out rfl (by omega) HG1.out HG2.out ?_ fun b _ q => q
        rintro x y ⟨u, e, hr⟩
        exact ⟨u, e, (hr.keep (Agree.below HB6.out hF5)).mono fun b h => by have := hF5 b h; have := HB6.out.size; omega⟩
      ·
        have hn0 : 0 < ma.gates.length := by omega
        have hni : decide ((0 : Int) < (ma.gates.length : Int)) = true := decide_eq_true (by omega)
        obtain ⟨_, OR⟩ := HO1.out.resolve_left fun h => hn h.1
        obtain ⟨g1, d1', hv, hg1b, hg1l⟩ := OR.form hn0
        injection hv with hA1 hnn hdd
        subst hA1 hdd
        obtain ⟨aN, rfl⟩ := Int.eq_ofNat_of_zero_le hat.1
        have hi : aN % ma.gates.length < ma.gates.length := Nat.mod_lt _ hn0
        have hrem := rem_nat aN ma.gates.length
        generalize aN % ma.gates.length = i at hi hrem
        obtain ⟨cx, hcx, hcl, u, hu, hsu⟩ := HG2.out i hi
        have hins5 := OKA.out.2.1.2 _ (List.getElem_mem hi)
        obtain ⟨Ai, ci, rfl⟩ := hsu.lit
        have hflW : ∀ W : World, W.ownsRow w5.heap.size 38 3 (.slice (some ⟨g1, 0, none⟩) ma.gates.length d1) ma.gates.length csg.flatten → Flds W ((⟨g1, 0, none⟩ : Addr).add (i * 3)) [.int .i64 ma.gates[i].kind, .int .i64 ma.gates[i].arg, .slice Ai ma.gates[i].ins.length ci] := fun W OW j v hj => by
          have hfa := flat_at 3 csg (lens_of HG1.out HG2.out) i cx hcx j v (by rw [hu]; exact hj)
          have := OW.cells (g := g1) rfl (i * 3 + j) v hfa
          rwa [add_of_add]
        have hfl := hflW w6 OR
        have HFW := Lib.hid hflW
        have hri : ∀ W, Below w6.heap.size w6 W → Reads W w6.heap.size 1 Ai ma.gates[i].ins.length (intsV ma.gates[i].ins) := fun W hW => by
          obtain ⟨cs, q1, q2, q3⟩ := (hsu.keep (Agree.below HB6.out hF5)).cells (B := w6.heap.size) (fun b h => by have := hF5 b h; have := HB6.out.size; omega)
          rw [int_cells q1 q2] at q3
          exact q3.below hW
        have HRI := Lib.hid hri
        have HOR := Lib.hid OR
        have HFL := Lib.hid hfl
        have HREM := Lib.hid hrem
        have hgb : ((⟨g1, 0, none⟩ : Addr).add (i * 3)).block < w6.heap.size := by rw [block_of_add]; exact hg1l
        clear OR hcx hcl hu hsu hfl hflW hri hn hrem
        generalize hgg : ma.gates[i] = gg at *
        have HGG := Lib.hid hgg
        clear hgg
        obtain ⟨kd, ar, ins⟩ := gg
        dsimp only at hins5 HRI HFL HFW
        go_upto_region 20 with fail
        refine wp_region_law (fun w' => Below w6.heap.size w6 w') (F20 b12 (w.heap.size + 1) ⟨g1, 0, none⟩ ma.gates.length d1 aN i kd ar (.slice Ai ins.length ci) w6.heap.size) V20 (by kernel_rfl) F20_V (by kernel_rfl) (by kernel_rfl) (B0 _).drew ⟨?_, ?_, ?_, ?_, ?_, ?_, ?_, ?_, ?_, ?_, ?_, trivial⟩ ?_
        · refine OpFact.value F20_below fun a w hf D hb => ?_
          have h1 : sl a 12 = .pointer (some ⟨b12, 0, none⟩) := hf 12 (by kernel_rfl)
          refine ⟨.pointer (some ⟨b12, 0, none⟩), w, ?_, B0 _, hb, fun s _ h => h 128 rfl⟩
          unfold sl at h1
          simp [go_sem, h1]
        · refine OpFact.value F20_below fun a w hf D hb => ?_
          have h1 : sl a 128 = .pointer (some ⟨b12, 0, none⟩) := D 0 (by kernel_rfl)
          refine ⟨.slice (some ⟨g1, 0, none⟩) ma.gates.length d1, w, ?_, B0 _, hb, fun s _ h => h 129 rfl⟩
          unfold sl at h1
          have k0 := (Bc hb HK12.out.lt).trans m0
          simp [go_sem, h1, k0]
        · refine OpFact.value F20_below fun a W hf D hb => ?_
          have h1 : sl a 3 = .pointer (some ⟨w.heap.size + 1, 0, none⟩) := hf 3 (by kernel_rfl)
          refine ⟨.pointer (some ⟨w.heap.size + 1, 1, none⟩), W, ?_, B0 _, hb, fun s _ h => h 130 rfl⟩
          unfold sl at h1
          simp [go_sem, h1]
        · refine OpFact.value F20_below fun a W hf D hb => ?_
          have h1 : sl a 130 = .pointer (some ⟨w.heap.size + 1, 1, none⟩) := D 2 (by kernel_rfl)
          refine ⟨.int .u8 aN, W, ?_, B0 _, hb, fun s _ h => h 131 rfl⟩
          unfold sl at h1
          have k0 := (Bc hb (by have := HB16.out.size; omega)).trans f1
          simp [go_sem, h1, k0]
        · refine OpFact.value F20_below fun a W hf D hb => ?_
          have h1 : sl a 131 = .int .u8 aN := D 3 (by kernel_rfl)
          refine ⟨.int .i64 aN, W, ?_, B0 _, hb, fun s _ h => h 132 rfl⟩
          unfold sl at h1
          have hwr : IntKind.i64.wrap (aN : Int) = aN := IntWalk.i64_in _ (by omega)
          simp [go_sem, h1, hwr]
        · refine OpFact.value F20_below fun a W hf D hb => ?_
          have h1 : sl a 13 = .int .i64 ma.gates.length := hf 13 (by kernel_rfl)
          refine ⟨.int .i64 ma.gates.length, W, ?_, B0 _, hb, fun s _ h => h 133 rfl⟩
          unfold sl at h1
          simp [go_sem, h1]
        · refine OpFact.value F20_below fun a W hf D hb => ?_
          have h1 : sl a 132 = .int .i64 aN := D 4 (by kernel_rfl)
          have h2 : sl a 133 = .int .i64 ma.gates.length := D 5 (by kernel_rfl)
          refine ⟨.int .i64 i, W, ?_, B0 _, hb, fun s _ h => h 134 rfl⟩
          unfold sl at h1 h2
          have hne : ma.gates ≠ [] := fun e => by rw [e] at hn0; simp at hn0
          simp [go_sem, h1, h2, hne, HREM.out]
        · refine OpFact.value F20_below fun a W hf D hb => ?_
          have h1 : sl a 129 = .slice (some ⟨g1, 0, none⟩) ma.gates.length d1 := D 1 (by kernel_rfl)
          have h2 : sl a 134 = .int .i64 i := D 6 (by kernel_rfl)
          refine ⟨.pointer (some ((⟨g1, 0, none⟩ : Addr).add (i * 3))), W, ?_, B0 _, hb, fun s _ h => h 135 rfl⟩
          unfold sl at h1 h2
          have hii : (i : Int) < ma.gates.length := by omega
          simp [go_sem, h1, h2, hi, hii]
        · refine OpFact.value F20_below fun a W hf D hb => ?_
          have h1 : sl a 135 = .pointer (some ((⟨g1, 0, none⟩ : Addr).add (i * 3))) := D 7 (by kernel_rfl)
          refine ⟨.agg #[.int .i64 kd, .int .i64 ar, .slice Ai ins.length ci], W, ?_, B0 _, hb, fun s _ h => h 136 rfl⟩
          unfold sl at h1
          have hfw := HFL.out.below hb hgb
          have k0 := hfw.f0 rfl
          have k1 := hfw.f1 rfl
          have k2 := hfw.f2 rfl
          rw [add_zero_at] at h1 k0 k1 k2
          simp [go_sem, h1, k0, k1, k2]
        · refine OpFact.value F20_below fun a W hf D hb => ?_
          refine ⟨.pointer (some ⟨W.heap.size, 0, none⟩), W.alloc (.cells #[.int .i64 0, .int .i64 0, .slice none 0 0] 38), ?_, Ba (B0 _) _, Ba hb _, fun s _ h => ⟨_, _, _, _, h 14 rfl, hb.size, Blk.new _ _ _⟩⟩
          simp [go_sem]
        · refine OpFact.skip fun a W hf D hb => ?_
          have h3 : sl a 136 = .agg #[.int .i64 kd, .int .i64 ar, .slice Ai ins.length ci] := D 8 (by kernel_rfl)
          obtain ⟨b, v0, v1, v2, h4, h5, h6⟩ : ∃ b v0 v1 v2, sl a 14 = .pointer (some ⟨b, 0, none⟩) ∧ w6.heap.size ≤ b ∧ Blk W b 38 #[v0, v1, v2] := D 9 (by kernel_rfl)
          have e0 := h6.cell 0
          have e1 := h6.cell 1
          have e2 := h6.cell 2
          have q0 := h6.frozen 0
          have q1 := h6.frozen 1
          have q2 := h6.frozen 2
          simp at e0 e1 e2
          have hB : Blk (((W.setCell ⟨b, 0, none⟩ (.int .i64 kd)).setCell ⟨b, 1, none⟩ (.int .i64 ar)).setCell ⟨b, 2, none⟩ (.slice Ai ins.length ci)) b 38 #[.int .i64 kd, .int .i64 ar, .slice Ai ins.length ci] := ((h6.set_ 0 _).set_ 1 _).set_ 2 _
          refine ⟨((W.setCell ⟨b, 0, none⟩ (.int .i64 kd)).setCell ⟨b, 1, none⟩ (.int .i64 ar)).setCell ⟨b, 2, none⟩ (.slice Ai ins.length ci), ?_, Bs (Bs (Bs hb _ h5) _ h5) _ h5, fun j hj hF => ?_, fun s h => ⟨b, (h 14 (by decide)).trans h4, hB⟩⟩
          · have h3' := h3
            have h4' := h4
            unfold sl at h3' h4'
            simp [go_sem, h3', h4', e0, e1, e2, q0, q1, q2]
          · match j with
            | 0 | 1 | 2 | 3 | 4 | 5 | 6 | 7 | 8 => exact hF
            | 9 => exact ⟨b, _, _, _, h4, h5, hB⟩
            | 10 => exact absurd rfl hj
            | _ + 11 => trivial
        · intro x W hb hF
          obtain ⟨b14, _, _, _, h4, l14, _⟩ : ∃ b v0 v1 v2, x 14 = .pointer (some ⟨b, 0, none⟩) ∧ w6.heap.size ≤ b ∧ Blk W b 38 #[v0, v1, v2] := hF 9 (by decide)
          obtain ⟨b, h4', hB⟩ : ∃ b, x 14 = .pointer (some ⟨b, 0, none⟩) ∧ Blk W b 38 #[.int .i64 kd, .int .i64 ar, .slice Ai ins.length ci] := hF 10 (by decide)
          rw [h4] at h4'
          obtain rfl : b14 = b := by simpa using h4'
          clear hF h4'
          obtain ⟨w8, rfl⟩ : ∃ w8 : World, w8 = W := ⟨_, rfl⟩
          have e2 : w8.cell? ⟨b14, 2, none⟩ = some (.slice Ai ins.length ci) := hB.cell 2
          have HBW := Lib.hid hb
          have HB14 := Lib.hid hB
          have hl8 : b14 < w8.heap.size := hB.lt
          have hs8 : w6.heap.size ≤ w8.heap.size := hb.size
          have hf8 : ∀ W, Below w6.heap.size w6 W → W.cell? ⟨w.heap.size + 1, 0, none⟩ = some (.int .u8 hw_) ∧ W.cell? ⟨w.heap.size + 1, 2, none⟩ = some (.int .i64 by_) := fun W hW => ⟨(Bc hW (by have := HB16.out.size; omega)).trans f0, (Bc hW (by have := HB16.out.size; omega)).trans f2⟩
          have HF8 := Lib.hid hf8
          clear hb hB hf8 f0 f1 f2
          simp only [after, List.filterMap_cons, List.filterMap_nil, List.foldl_cons, List.foldl_nil]
          go_upto_block 4 with (at_builtin; refine wpList_copy elem30 (by omega) rfl _ _ rfl _ rfl w6.heap.size Ai ins.length ci (intsV ins) rfl (HRI.out _ (Ba HBW.out _)) (intsV_one _) (by omega) (by omega) ?_; intro A3 c3 w9 q1 q2; have k9 : Blk w9 b14 38 #[.int .i64 kd, .int .i64 ar, .slice Ai ins.length ci] := (HB14.out.alloc _).below q1 (by simp; omega); have z2 : w9.cell? ⟨b14, 2, none⟩ = some (.slice Ai ins.length ci) := k9.cell 2; have y2 : w9.frozen? ⟨b14, 2, none⟩ = false := k9.frozen 2; have n9 := Bt (Ba HBW.out _) q1; obtain ⟨g0, g2⟩ := HF8.out _ (Bs n9 (p := ⟨b14, 2, none⟩) (.slice A3 ins.length c3) l14); have K9 := Lib.hid k9; have N9 := Lib.hid n9; have Q2 := Lib.hid q2; clear k9 n9 q1 q2)
          have M10 : Mid w5 b14 b12 g1 ma.gates.length d1 csg.flatten kd ar ins ma.outs A3 c3 A2 d2 (w9.setCell ⟨b14, 2, none⟩ (.slice A3 ins.length c3)) := by
            have s65 : w5.heap.size ≤ w6.heap.size := HB6.out.size
            have n9 : Below w6.heap.size w6 w9 := N9.out
            have hne : b14 ≠ g1 := by omega
            refine ⟨Bs (Bt HB6.out n9) _ (by dsimp only; omega), by omega, hb12, K9.out.set_ 2 _, (Q2.out.more (by simp; omega)).far K9.out (by decide) 2 _, (HK12.out.below n9 HK12.out.lt).far (p := ⟨b14, 2, none⟩) (by have := HK12.out.lt; dsimp only; omega) _, (HO2.out.below n9).far K9.out (by decide) 2 _, own_far (own_below n9 HOR.out) (by simp [Value.ownBlock]; omega) _, hne⟩
          have hne34 : (Value.slice A3 ins.length c3).ownBlock = none ∨ (Value.slice A3 ins.length c3).ownBlock ≠ (Value.slice A2 ma.outs.length d2).ownBlock ∨ ins.length = 0 ∨ ma.outs.length = 0 := by
            rcases Q2.out with ⟨h0, _⟩ | ⟨_, o3⟩
            · exact .inr (.inr (.inl h0))
            · rcases HO2.out with ⟨h0, _⟩ | ⟨_, o4⟩
              · exact .inr (.inr (.inr h0))
              · refine .inr (.inl fun e => ?_)
                rcases h3 : (Value.slice A3 ins.length c3).ownBlock with _ | q
                · rw [h3] at e
                  obtain ⟨g, cap, hv, _⟩ := o4.form (by assumption)
                  rw [hv] at e
                  simp [Value.ownBlock] at e
                · have l3 := o3.lt q h3
                  have l4 := o4.lt q (by rw [← e, h3])
                  have := l3.1
                  simp at this
                  omega
          have HM10 := Lib.hid M10
          have HNE := Lib.hid hne34
          clear M10 hne34 z2 y2
          generalize w9.setCell ⟨b14, 2, none⟩ (.slice A3 ins.length c3) = w10 at *
          go_cut [14] (fun s14 wx => s14 = .pointer (some ⟨b14, 0, none⟩) ∧ ∃ kd' ar' ins' outs' A3' c3' A4' d4', Mid w5 b14 b12 g1 ma.gates.length d1 csg.flatten kd' ar' ins' outs' A3' c3' A4' d4' wx ∧ ins'.length ≤ 10 ∧ outs'.length ≤ 10)
          case first =>
            have hM := HM10.out
            have a0 := hM.k14.cell 0
            have a1 := hM.k14.cell 1
            have a2 := hM.k14.cell 2
            have y0 := hM.k14.frozen 0
            have y1 := hM.k14.frozen 1
            have y2 := hM.k14.frozen 2
            have r1 := hM.k12.cell 1
            have x1 := hM.k12.frozen 1
            simp at a0 a1 a2 r1
            clear hM
            have hm4 : hw_ % 4 = 0 ∨ hw_ % 4 = 1 ∨ hw_ % 4 = 2 ∨ hw_ % 4 = 3 := by omega
            rcases hm4 with hm | hm | hm | hm
            · have bq0 : (hw_ % 4 == 0) = true := beq_iff_eq.2 hm
              clear hm
              go_wp2_with fail
              go_meet
              exact ⟨rfl, by_, ar, ins, ma.outs, _, _, _, _, HM10.out.set14 0 _ rfl HM10.out.o3, by omega, by omega⟩
            · have bq0 : (hw_ % 4 == 0) = false := beq_eq_false_iff_ne.2 (by omega); have bq1 : (hw_ % 4 == 1) = true := beq_iff_eq.2 hm
              clear hm
              go_wp2_with fail
              go_meet
              exact ⟨rfl, kd, by_, ins, ma.outs, _, _, _, _, HM10.out.set14 1 _ rfl HM10.out.o3, by omega, by omega⟩
            · have bq0 : (hw_ % 4 == 0) = false := beq_eq_false_iff_ne.2 (by omega); have bq1 : (hw_ % 4 == 1) = false := beq_eq_false_iff_ne.2 (by omega); have bq2 : (hw_ % 4 == 2) = true := beq_iff_eq.2 hm
              clear hm
              have hs10 : w5.heap.size ≤ w10.heap.size := HM10.out.hb.size
              go_wp2_with (at_builtin; refine wpList_app0 elem30 rfl _ _ rfl (HM10.out.o3.alloc _) rfl w10.heap.size (.int .i64 by_) rfl (by simp) rfl (by omega) (by omega) (by simp; omega) ?_; intro A' c' w11 q1 q2; have hG := (HM10.out.below (Ba (B0 _) _)).grow3 (ne_turn HNE.out) q2; have a2 : w11.cell? ⟨b14, 2, none⟩ = some (.slice A3 ins.length c3) := hG.2.1.cell 2; have y2 : w11.frozen? ⟨b14, 2, none⟩ = false := hG.2.1.frozen 2; have HG5 := Lib.hid hG; have Q1 := Lib.hid q1; clear hG q1 q2)
              go_meet
              have hl : (ins ++ [by_]).length = ins.length + 1 := by simp
              have hv : intsV (ins ++ [by_]) = intsV ins ++ [.int .i64 by_] := by simp [intsV]
              refine ⟨rfl, kd, ar, ins ++ [by_], ma.outs, _, _, _, _, ⟨Bs HG5.out.1 _ HM10.out.l14, HM10.out.l14, HM10.out.l12, by rw [hl]; exact HG5.out.2.1.set_ 2 _, by rw [hl, hv]; exact Q1.out.far HG5.out.2.1 (by decide) 2 _, HG5.out.2.2.1.far (p := ⟨b14, 2, none⟩) HM10.out.ne12 _, HG5.out.2.2.2.1.far HG5.out.2.1 (by decide) 2 _, own_far HG5.out.2.2.2.2 (by simp [Value.ownBlock]; exact fun e => HM10.out.hne e.symm) _, HM10.out.hne⟩, by rw [hl]; omega, by omega⟩
            · have bq0 : (hw_ % 4 == 0) = false := beq_eq_false_iff_ne.2 (by omega); have bq1 : (hw_ % 4 == 1) = false := beq_eq_false_iff_ne.2 (by omega); have bq2 : (hw_ % 4 == 2) = false := beq_eq_false_iff_ne.2 (by omega); have bq3 : (hw_ % 4 == 3) = true := beq_iff_eq.2 hm
              clear hm
              have hs10 : w5.heap.size ≤ w10.heap.size := HM10.out.hb.size
              go_wp2_with (at_builtin; refine wpList_app0 elem30 rfl _ _ rfl (HM10.out.o4.alloc _) rfl w10.heap.size (.int .i64 by_) rfl (by simp) rfl (by omega) (by omega) (by simp; omega) ?_; intro A' c' w11 q1 q2; have hG := (HM10.out.below (Ba (B0 _) _)).grow4' HNE.out q2; have r1 : w11.cell? ⟨b12, 1, none⟩ = some (.slice A2 ma.outs.length d2) := hG.2.2.1.cell 1; have x1 : w11.frozen? ⟨b12, 1, none⟩ = false := hG.2.2.1.frozen 1; have HG5 := Lib.hid hG; have Q1 := Lib.hid q1; clear hG q1 q2)
              go_meet
              have hl : (ma.outs ++ [by_]).length = ma.outs.length + 1 := by simp
              have hv : intsV (ma.outs ++ [by_]) = intsV ma.outs ++ [.int .i64 by_] := by simp [intsV]
              refine ⟨rfl, kd, ar, ins, ma.outs ++ [by_], _, _, _, _, ⟨Bs HG5.out.1 _ HM10.out.l12, HM10.out.l14, HM10.out.l12, HG5.out.2.1.far (p := ⟨b12, 1, none⟩) (Ne.symm HM10.out.ne12) _, HG5.out.2.2.2.1.far HG5.out.2.2.1 (by decide) 1 _, by rw [hl]; exact HG5.out.2.2.1.set_ 1 _, by rw [hl, hv]; exact Q1.out.far HG5.out.2.2.1 (by decide) 1 _, own_far HG5.out.2.2.2.2 (own_blk_ne HG5.out.2.2.2.2 HG5.out.2.2.1 (by decide)) _, HM10.out.hne⟩, by omega, by rw [hl]; omega⟩
          case rest =>
            obtain ⟨rfl, kd', ar', ins', outs', A3', c3', A4', d4', M, hl1, hl2⟩ := hcut
            obtain ⟨w13, rfl⟩ : ∃ w13 : World, w13 = wc := ⟨_, rfl⟩
            have a0 := M.k14.cell 0
            have a1 := M.k14.cell 1
            have a2 := M.k14.cell 2
            have r0 := M.k12.cell 0
            simp at a0 a1 a2 r0
            have s13 : w.heap.size + 1 < w5.heap.size := by have := HB5.out.size; have := HB2.out.size; omega
            have f1 : w13.cell? ⟨w.heap.size + 1, 1, none⟩ = some (.int .u8 aN) := (Bc M.hb s13).trans ((Bc HB5.out (by have := HB2.out.size; omega)).trans ((Bc HB2.out s1).trans D1.out))
            have HM := Lib.hid M
            have hf13 := HFW.out w13 M.og
            rw [add_zero_at] at hf13
            have t0 : w13.cell? ⟨g1, i * 3, none⟩ = some (.int .i64 kd) := hf13.f0 rfl
            have t1 : w13.cell? ⟨g1, i * 3 + 1, none⟩ = some (.int .i64 ar) := hf13.f1 rfl
            have t2 : w13.cell? ⟨g1, i * 3 + 2, none⟩ = some (.slice Ai ins.length ci) := hf13.f2 rfl
            have z0 := M.og.frozenAt (i * 3)
            have z1 := M.og.frozenAt (i * 3 + 1)
            have z2 := M.og.frozenAt (i * 3 + 2)
            have x14 : g1 ≠ b14 := Ne.symm M.hne
            have x12 : g1 ≠ b12 := by have := own_blk_ne M.og M.k12 (by decide); simpa [Value.ownBlock] using this
            have xbb : g1 ≠ w.heap.size + 1 := by omega
            clear hf13
            have hwr : IntKind.i64.wrap (aN : Int) = aN := IntWalk.i64_in _ (by omega)
            have hrm : (aN : Int).tmod ma.gates.length = i := HREM.out
            have hnz : ma.gates ≠ [] := fun e => by rw [e] at hn0; simp at hn0
            have hii : (i : Int) < ma.gates.length := by omega
            clear M
            go_upto_region 31 with fail
            go_region_held3 (fun W => W.cell? ⟨b14, 0, none⟩ = some (.int .i64 kd') ∧ W.cell? ⟨b14, 1, none⟩ = some (.int .i64 ar') ∧ W.cell? ⟨b14, 2, none⟩ = some (.slice A3' ins'.length c3') ∧ W.cell? ⟨b12, 0, none⟩ = some (.slice (some ⟨g1, 0, none⟩) ma.gates.length d1) ∧ W.cell? ⟨w.heap.size + 1, 1, none⟩ = some (.int .u8 aN)) (go_keep) (fail)
            go_wp2_with fail
            go_meet
            exact fin_mk hF5 HM.out hi hl1 hl2 hla x12 hg1b HG1.out HG2.out
    case rest =>
      obtain ⟨b12, nc, A1, A2, d1, d2, rfl, K12, NC, l1, l2, B7⟩ := hcut
      obtain ⟨w7, rfl⟩ : ∃ w7 : World, w7 = wc := ⟨_, rfl⟩
      have m0 := K12.cell 0
      have m1 := K12.cell 1
      simp at m0 m1
      have hs7 := K12.lt
      have hF7 : ∀ b, b < w7.heap.size → b < w7.heap.size := fun _ h => h
      have cS : ∀ W, Below w7.heap.size w7 W → Calls Try.prog 7 #[.int .i64 4, .agg #[.slice A1 nc.gates.length d1, .slice A2 nc.outs.length d2], .agg #[.slice A1 nc.gates.length d1, .slice A2 nc.outs.length d2]] W fun e w' => e = .returned (.bool (netOk 4 nc)) ∧ Below W.heap.size W w' :=
        fun W hW => by
          have := same_any 4 (by omega) _ _ _ _ nc nc W _ (fun b h => by have := hF7 b h; have := hW.size; omega) (NC.keep (Agree.below hW hF7)) (NC.keep (Agree.below hW hF7)) (by omega)
          rw [sameF_self] at this
          exact this
      have cF : ∀ W, Below w7.heap.size w7 W → Calls Try.prog 8 #[.agg #[.slice A1 nc.gates.length d1, .slice A2 nc.outs.length d2]] W fun e w' => e = .returned (.bool (netOk 4 nc)) ∧ Below W.heap.size W w' :=
        fun W hW => fine_any _ _ nc W _ (fun b h => by have := hF7 b h; have := hW.size; omega) (NC.keep (Agree.below hW hF7)).g (NC.keep (Agree.below hW hF7)).o (by omega)
      generalize netOk 4 nc = ok at cS cF
      have CS' := Lib.hid cS
      have CF' := Lib.hid cF
      have mk : ∀ W, Below w7.heap.size w7 W → W.cell? ⟨b12, 0, none⟩ = some (.slice A1 nc.gates.length d1) ∧ W.cell? ⟨b12, 1, none⟩ = some (.slice A2 nc.outs.length d2) ∧ Aside (Below w7.heap.size w7 W) := fun W hW => ⟨(Bc hW hs7).trans m0, (Bc hW hs7).trans m1, hW⟩
      have sb : ∀ W, (W.cell? ⟨b12, 0, none⟩ = some (.slice A1 nc.gates.length d1) ∧ W.cell? ⟨b12, 1, none⟩ = some (.slice A2 nc.outs.length d2) ∧ Aside (Below w7.heap.size w7 W)) → Below w7.heap.size w7 W := fun W h => h.2.2
      have MK := Lib.hid mk
      have SB := Lib.hid sb
      have HB7 := Lib.hid (Bt HB1.out (Bt (Bt HB2.out HB5.out) B7))
      clear cS cF mk sb NC K12 B7
      go_upto_region 32 with fail
      go_region_held3 (fun W => W.cell? ⟨b12, 0, none⟩ = some (.slice A1 nc.gates.length d1) ∧ W.cell? ⟨b12, 1, none⟩ = some (.slice A2 nc.outs.length d2) ∧ Aside (Below w7.heap.size w7 W))
        (exact MK.out _ (by repeat (first | with_reducible exact n6 | with_reducible exact B0 _ | with_reducible refine Below.drew ?_)))
        (first
          | (go_at_call 7; refine (CS'.out _ (SB.out _ (by assumption))).mono ?_; rintro e wA ⟨rfl, a2⟩; have n6 := Bt (SB.out _ (by assumption)) a2)
          | (go_at_call 8; refine (CF'.out _ (SB.out _ (by assumption))).mono ?_; rintro e wB ⟨rfl, b2⟩; have n6 := Bt (SB.out _ (by assumption)) b2))
      have HN6 := Lib.hid n6
      clear n6 a2 b2
      cases ok
      all_goals
        go_wp2_with fail
        go_ret
        exact ⟨rfl, Bt HB7.out HN6.out⟩
end Go.Proofs.Ytbcbkllahnahnaa
