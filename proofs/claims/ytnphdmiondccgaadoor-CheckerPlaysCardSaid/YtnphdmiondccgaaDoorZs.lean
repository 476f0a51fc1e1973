/- Rows of ints of the call's own: appended whole; sorted; a row of two. -/
import Derived.Test.YtnphdmiondccgaaDoorZr
import Derived.Test.YtnphdmiondccgaaDoorSf
import Derived.Sort.OwnSortedInts
namespace Go.Proofs.YtnphdmiondccgaaDoor
open Go Go.RowKit Go.Shelf
open Pop
def inCs (l : List Int) : List Value := l.map (Value.int .i64)
theorem flat_in : ∀ (cs : List (List Value)) (l : List Int), cs.length = l.length → (∀ i (hi : i < l.length), ∃ x, cs[i]? = some x ∧ x = [.int .i64 l[i]]) → cs.flatten = inCs l
  | [], [], _, _ => rfl
  | [], _ :: _, h, _ => by simp at h
  | _ :: _, [], h, _ => by simp at h
  | x :: cs, c :: l, h, hr => by
    obtain ⟨y, h1, h2⟩ := hr 0 (by simp)
    injection h1 with h1
    subst h1
    have := flat_in cs l (by simpa using h) fun i hi => by
      obtain ⟨y, q1, q2⟩ := hr (i + 1) (by simpa using hi)
      exact ⟨y, by simpa using q1, by simpa using q2⟩
    simp [List.flatten_cons, this, h2, inCs]
theorem SlI.reads {F : Nat → Prop} {w : World} {A : Option Addr} {n c B : Nat} {l : List Int} (h : SlI F w (.slice A n c) l) (hF : ∀ b, F b → b < B) : Reads w B 1 A n (inCs l) := by
  obtain ⟨cs, h1, h2, h3⟩ := Sl.cells h hF
  rwa [flat_in cs l h1 fun i hi => by obtain ⟨x, q1, _, q3⟩ := h2 i hi; exact ⟨x, q1, q3⟩] at h3
theorem slI_ownB {w : World} {base : Nat} {v : Value} {l : List Int} (h : w.ownsRow base 3 1 v l.length (inCs l)) (hl : l.length ≤ 140737488355328) : SlI (fun b => base ≤ b ∧ b < w.heap.size) w v l := by
  refine Sl.of_own (cs := l.map fun x => [.int .i64 x]) h rfl hl ?_ (by simp) (fun i hi => ⟨[.int .i64 l[i]], by simp [hi], rfl, rfl⟩) fun b h1 h2 _ => ⟨h1, h2⟩
  clear h hl
  induction l with
  | nil => rfl
  | cons x l ih => simpa [inCs] using ih
theorem inCs_one (l : List Int) : ∀ u ∈ inCs l, u.oneCell' = true := fun u hu => by
  obtain ⟨x, -, rfl⟩ := List.mem_map.1 hu
  rfl
theorem inCs_len (l : List Int) : (inCs l).length = l.length := by simp [inCs]
theorem wpList_appM {P : Program} {w : World} {ops : Array Oper} {rest : List Oper} {o : Oper} {a : Act} {Q : Exit → Act → World → Prop} {t e : TypeId} {k bytes : Nat} (E : ElemN P t e k bytes) (hk : 0 < k) (hgd : o.guard = none) (s x : Operand)
    (ho : o.op = .call { callee := .builtin .append, args := #[s, x], argTypes := #[t, t] })
    (base : Nat) (v : Value) (n : Nat) (xs : List Value) (hs : a.eval s = v) (hown : w.ownsRow base e k v n xs)
    (B : Nat) (A : Option Addr) (m c : Nat) (news : List Value) (hx : a.eval x = .slice A m c) (hr : Reads w B k A m news) (h1 : ∀ u ∈ news, u.oneCell' = true)
    (hn : n + m ≤ 1000000000) (hb : bytes ≤ 1000) (hbase : base ≤ w.heap.size)
    (h : ∀ v' w', w'.ownsRow base e k v' (n + m) (xs ++ news) → w.grownBy w' v.ownBlock → (v'.ownBlock = v.ownBlock ∨ v'.ownBlock = some w.heap.size) → wpList P ops Q rest (a.put o.dst v') w') : wpList P ops Q (o :: rest) a w := by
  obtain ⟨ht, i, z, hi, hz, hsz, hby, hzs⟩ := E
  exact wpList_append_any w hgd s x t ho base e i z k bytes ht hi hz hsz hby hzs hk v n xs hs hown B A m c news hx hr h1 (by unfold maxLen; omega)
    (by have : (n + m) * bytes ≤ 1000000000 * 1000 := Nat.mul_le_mul hn hb
        omega) hbase h
theorem inCs_app (a b : List Int) : inCs a ++ inCs b = inCs (a ++ b) := by simp [inCs]
theorem SlI.pair {F : Nat → Prop} {W : World} {b : Nat} {x y : Int} (h0 : W.cell? ⟨b, 0, none⟩ = some (.int .i64 x)) (h1 : W.cell? ⟨b, 1, none⟩ = some (.int .i64 y)) (hF : F b) : SlI F W (.slice (some ⟨b, 0, none⟩) 2 2) [x, y] := by
  refine SlI.intro 2 rfl (by simp) (by simp) fun i hi => ?_
  match i, hi with
  | 0, _ => exact ⟨_, rfl, hF, h0⟩
  | 1, _ => exact ⟨_, rfl, hF, h1⟩
open Go.Sort in
/-- A row of ints of the call's own, sorted. -/
theorem csort_any (l : List Int) (hl : l.length ≤ 1000000) (base : Nat) (v : Value) (w : World) (h : w.ownsRow base 3 1 v l.length (inCs l)) :
    Calls Tryd.prog 32 #[v] w fun e w' => e = .returned (.tuple #[]) ∧ ∃ S : List Int, S.Perm l ∧ S.Pairwise (· ≤ ·) ∧ w'.ownsRow base 3 1 v S.length (inCs S) ∧ w.grownBy w' v.ownBlock := by
  have hsorted : (l.mergeSort fun x y => decide (x ≤ y)).Pairwise (· ≤ ·) := (List.pairwise_mergeSort (fun a b c h1 h2 => by simp only [decide_eq_true_eq] at *; omega) (fun a b => by simp only [Bool.or_eq_true, decide_eq_true_eq]; omega) l).imp fun h => by simpa using h
  rcases h.2 with ⟨rfl, hn⟩ | ⟨g, cap, cur, rfl, hbase, hb, h1, h2, h3, h4⟩
  · have hl0 : l = [] := List.eq_nil_of_length_eq_zero hn
    subst hl0
    refine (Tryd.slices_Sort_int_none none 0 w).mono ?_
    rintro e w' ⟨rfl, rfl⟩
    exact ⟨rfl, [], List.Perm.refl _, List.Pairwise.nil, h, World.grownBy.refl _ _⟩
  · refine (Tryd.slices_Sort_int g 0 cap l w (holds_of_blockI hb (by simpa [inCs] using h4)) (Array.getElem?_eq_some_iff.1 hb).1 (by omega)).mono ?_
    rintro e w' ⟨rfl, n, os, rfl⟩
    refine ⟨rfl, _, List.mergeSort_perm _ _, hsorted, ?_, grownBy_sortedI _⟩
    rw [List.length_mergeSort]
    exact ownsRow_sortedI (by simp) hbase hb h1 h2 h3
/-- The checker's two questions after a player's numbers. -/
theorem pl_within (hn hs fn fs : Int) : (withinB 0 10 [hn, fn] && withinB 0 127 [hs, fs]) = decide (PlOk hn hs fn fs) := by
  rw [Bool.eq_iff_iff, decide_eq_true_iff]
  unfold withinB PlOk okP
  simp only [List.all_cons, List.all_nil, Bool.and_true, Bool.and_eq_true, decide_eq_true_eq]
  exact ⟨fun ⟨⟨h1, h2⟩, h3, h4⟩ => ⟨h1, h2, h3, h4⟩, fun ⟨h1, h2, h3, h4⟩ => ⟨⟨h1, h2⟩, h3, h4⟩⟩
end Go.Proofs.YtnphdmiondccgaaDoor
