/- Walks over the reference of hitting: the order of lists. Walks over the reference of hitting: a list put into a sorted list. Walks over the reference of hitting: all irreducible lists, in order. -/
import Derived.Test.YthgjhfapnilfhaaDoorH6
import Derived.Test.YthgjhfapnilfhaaDoorHM
import Derived.Test.YthgjhfapnilfhaaDoorHZ
namespace Go.Proofs.YthgjhfapnilfhaaDoor
open Go Go.RowKit
theorem lexLt_drop (a b : List Nat) (k : Nat) (ha : k < a.length) (hb : k < b.length) : Hit.lexLt (a.drop k) (b.drop k) = if a[k] ≠ b[k] then decide (a[k] < b[k]) else Hit.lexLt (a.drop (k + 1)) (b.drop (k + 1)) := by
  rw [List.drop_eq_getElem_cons ha, List.drop_eq_getElem_cons hb]
  simp only [Hit.lexLt]
theorem lexLt_end (a b : List Nat) : Hit.lexLt (a.drop a.length) b = false := by
  rw [List.drop_length]
  simp only [Hit.lexLt]
set_option maxHeartbeats 1000000 in
theorem before_any (va vb : Value) (a b : List Nat) (w : World) (F G : Nat → Prop) (hF : ∀ b, F b → b < w.heap.size) (hG : ∀ b, G b → b < w.heap.size) (ha : SlI F w va (Hit.ints a)) (hb : SlI G w vb (Hit.ints b)) :
    Calls Tryd.prog 102 #[va, vb] w fun e w' => e = .returned (.bool (Hit.before a b)) ∧ Below w.heap.size w w' := by
  obtain ⟨A, c, rfl, _, hla, hca⟩ := ha.open
  obtain ⟨B, d, rfl, _, hlb, hcb⟩ := hb.open
  rw [ints_length a] at hla ⊢
  rw [ints_length b] at hlb ⊢
  clear ha hb
  by_cases hl : a.length = b.length
  · have hl' : ((a.length : Int) != b.length) = false := by simp [hl]
    have hbf : Hit.before a b = Hit.lexLt a b := by unfold Hit.before; rw [if_neg (by simpa using hl)]
    have HBF := Lib.hid hbf
    have HL := Lib.hid hl
    clear hl hbf
    go_enter Tryd.func102, Tryd.ntmps102
    go_wp2
    go_loopg [5] a.length (fun gg s wr => ∃ kk : Nat, kk ≤ a.length ∧ a.length - kk ≤ gg ∧ s = .int .i64 kk ∧ Aside (Below w.heap.size w wr) ∧ Aside (Hit.before a b = Hit.lexLt (a.drop kk) (b.drop kk)))
    case atStart => exact ⟨0, Nat.zero_le _, by omega, rfl, B0 w, HBF.out⟩
    case round =>
      obtain ⟨kk, hkk, hg, rfl, BW, A1⟩ := hrel
      by_cases hlt : kk < a.length
      · have hltb : kk < b.length := by have := HL.out; omega
        obtain ⟨ad, rfl, hb1, hc1⟩ := hca kk (by rw [ints_length]; exact hlt)
        obtain ⟨bd, rfl, hb2, hc2⟩ := hcb kk (by rw [ints_length]; exact hltb)
        rw [ints_get] at hc1 hc2
        have hst := A1.out.trans (lexLt_drop a b kk hlt hltb)
        have h1 := (BW.out.cell (p := ad.add kk) (by rw [block_of_add]; exact hF _ hb1)).trans hc1
        have h2 := (BW.out.cell (p := bd.add kk) (by rw [block_of_add]; exact hG _ hb2)).trans hc2
        have i1 : (kk : Int) < a.length := by omega
        have i2 : (kk : Int) < b.length := by omega
        generalize a[kk] = x at *
        generalize b[kk] = y at *
        have HS := Lib.hid hst
        clear hca hcb hst hc1 hc2
        by_cases hxy : x = y
        · subst hxy
          go_wp2_with fail
          go_quiet (fail)
          go_wp2
          go_roundg (a.length - (kk + 1))
          case measure => omega
          case rel => exact ⟨kk + 1, by omega, by omega, by go_num, below_drewN BW.out _, (HS.out.trans (if_neg (by simp)))⟩
        · have hxy' : ((x : Int) != (y : Int)) = true := by simp; omega
          have hfin : Hit.before a b = decide ((x : Int) < (y : Int)) := by rw [HS.out, if_pos hxy]; simp
          have HF := Lib.hid hfin
          clear hfin hxy
          cases hq : decide ((x : Int) < (y : Int))
          all_goals
            rw [hq] at HF
            have hqn : decide (x < y) = _ := (by simp : decide (x < y) = decide ((x : Int) < (y : Int))).trans hq
            go_wp2_with fail
            go_quiet (fail)
            go_wp2_with fail
            go_quiet (fail)
            go_wp2
            go_ret
            exact ⟨by rw [HF.out]; rfl, below_drewN (below_drewN BW.out _) _⟩
      · have : kk = a.length := by omega
        subst this
        have hfin := A1.out.trans (lexLt_end a _)
        have HF := Lib.hid hfin
        clear hca hcb hfin
        go_wp2
        go_ret
        exact ⟨by rw [HF.out]; rfl, BW.out⟩
  · have hl' : ((a.length : Int) != b.length) = true := by simp; omega
    have hbf : Hit.before a b = decide (a.length < b.length) := by unfold Hit.before; rw [if_pos hl]
    have HBF := Lib.hid hbf
    clear hbf hl hca hcb
    cases hq : decide (a.length < b.length)
    all_goals
      rw [hq] at HBF
      have hqi : decide ((a.length : Int) < (b.length : Int)) = _ := (by simp : decide ((a.length : Int) < (b.length : Int)) = decide (a.length < b.length)).trans hq
      go_enter Tryd.func102, Tryd.ntmps102
      go_wp2
      go_ret
      exact ⟨by rw [HBF.out]; rfl, B0 w⟩
end Go.Proofs.YthgjhfapnilfhaaDoor
namespace Go.Proofs.YthgjhfapnilfhaaDoor
open Go Go.RowKit
theorem Reads.take {w : World} {B size n : Nat} {A : Option Addr} {xs : List Value} (h : Reads w B size A n xs) {k : Nat} (hk : k ≤ n) : Reads w B size A k (xs.take (k * size)) := by
  refine ⟨by rw [List.length_take, h.1]; exact Nat.min_eq_left (Nat.mul_le_mul_right _ hk), fun hn => ?_⟩
  obtain ⟨ad, rfl, hb, hc⟩ := h.2 (by omega)
  refine ⟨ad, rfl, hb, fun j u hu => hc j u ?_⟩
  rw [List.getElem?_take] at hu
  split at hu
  · exact hu
  · cases hu
theorem insertF_at : ∀ (L : List (List Nat)) (x : List Nat) (k : Nat), k ≤ L.length → (∀ i (hi : i < L.length), i < k → Hit.before L[i] x = true) → (∀ h : k < L.length, Hit.before L[k] x = false) → Hit.insertF L x = L.take k ++ x :: L.drop k := by
  intro L
  induction L with
  | nil => intro x k _ _ _; simp [Hit.insertF]
  | cons z L ih =>
    intro x k hk h1 h2
    rw [Hit.insertF_cons]
    cases k with
    | zero =>
      have := h2 (by simp)
      simp only [List.getElem_cons_zero] at this
      rw [this]; simp
    | succ k =>
      have h0 := h1 0 (by simp) (by omega)
      simp only [List.getElem_cons_zero] at h0
      rw [h0, if_pos rfl, ih x k (by simpa using hk) (fun i hi hik => h1 (i + 1) (by simp; exact hi) (by omega)) fun h => h2 (by simp; exact h)]
      simp
/-- Lists of numbers, as cells. -/
abbrev intsL (L : List (List Nat)) : List (List Int) := L.map Hit.ints
/-- Values that read as lists, one for one. -/
def Vals (F : Nat → Prop) (w : World) : List Value → List (List Int) → Prop
  | [], [] => True
  | u :: us, l :: L => SlI F w u l ∧ Vals F w us L
  | _, _ => False
section
variable {F G : Nat → Prop} {w w' : World}
theorem Vals.len : ∀ {us : List Value} {L : List (List Int)}, Vals F w us L → us.length = L.length
  | [], [], _ => rfl
  | _ :: us, _ :: L, h => by have := Vals.len (us := us) (L := L) h.2; simp [this]
  | [], _ :: _, h => h.elim
  | _ :: _, [], h => h.elim
theorem Vals.keep (ha : Agree F w w') (hF : ∀ b, F b → G b) : ∀ {us : List Value} {L : List (List Int)}, Vals F w us L → Vals G w' us L
  | [], [], _ => trivial
  | _ :: us, _ :: L, h => ⟨(h.1.keep ha).mono hF, Vals.keep ha hF (us := us) (L := L) h.2⟩
  | [], _ :: _, h => h.elim
  | _ :: _, [], h => h.elim
theorem Vals.append : ∀ {us vs : List Value} {L M : List (List Int)}, Vals F w us L → Vals F w vs M → Vals F w (us ++ vs) (L ++ M)
  | [], _, [], _, _, h => h
  | _ :: us, vs, _ :: L, M, h, k => ⟨h.1, Vals.append (us := us) (vs := vs) (L := L) (M := M) h.2 k⟩
  | [], _, _ :: _, _, h, _ => h.elim
  | _ :: _, _, [], _, h, _ => h.elim
theorem Vals.one {u : Value} {l : List Int} (h : SlI F w u l) : Vals F w [u] [l] := ⟨h, trivial⟩
theorem Vals.take : ∀ (k : Nat) {us : List Value} {L : List (List Int)}, Vals F w us L → Vals F w (us.take k) (L.take k)
  | 0, _, _, _ => trivial
  | _ + 1, [], [], _ => trivial
  | k + 1, _ :: us, _ :: L, h => ⟨h.1, Vals.take k (us := us) (L := L) h.2⟩
  | _ + 1, [], _ :: _, h => h.elim
  | _ + 1, _ :: _, [], h => h.elim
theorem Vals.drop : ∀ (k : Nat) {us : List Value} {L : List (List Int)}, Vals F w us L → Vals F w (us.drop k) (L.drop k)
  | 0, _, _, h => h
  | _ + 1, [], [], _ => trivial
  | k + 1, _ :: us, _ :: L, h => Vals.drop k (us := us) (L := L) h.2
  | _ + 1, [], _ :: _, h => h.elim
  | _ + 1, _ :: _, [], h => h.elim
theorem Vals.get : ∀ {us : List Value} {L : List (List Int)}, Vals F w us L → ∀ i (hi : i < L.length), ∃ u, us[i]? = some u ∧ SlI F w u L[i]
  | [], [], _, i, hi => absurd hi (by simp)
  | u :: us, l :: L, h, 0, hi => ⟨u, rfl, h.1⟩
  | _ :: us, _ :: L, h, i + 1, hi => Vals.get (us := us) (L := L) h.2 i (by simpa using hi)
  | [], _ :: _, h, _, _ => h.elim
  | _ :: _, [], h, _, _ => h.elim
theorem Vals.cell1 : ∀ {us : List Value} {L : List (List Int)}, Vals F w us L → ∀ u ∈ us, u.oneCell' = true
  | [], [], _, u, hu => absurd hu (by simp)
  | v :: us, _ :: L, h, u, hu => by
    rcases List.mem_cons.1 hu with e | e
    · obtain ⟨A, c, q, _⟩ := h.1
      rw [e, q]; rfl
    · exact Vals.cell1 (us := us) (L := L) h.2 u e
  | [], _ :: _, h, _, _ => h.elim
  | _ :: _, [], h, _, _ => h.elim
theorem flat_map1 (us : List Value) : (us.map fun u => [u]).flatten = us := by
  induction us with
  | nil => rfl
  | cons u us ih => simp only [List.map_cons, List.flatten_cons, ih]; rfl
/-- A row of slices of the call's own reads as lists. -/
theorem Vals.sl {base n c : Nat} {A : Option Addr} {us : List Value} {L : List (List Int)} (hv : Vals F w us L) (h : Own0 w base 37 1 A n c us) (hn : n = L.length) (hl : L.length ≤ 1000000)
    (hF : ∀ b, base ≤ b → b < w.heap.size → F b) : SlII F w (.slice A n c) L := by
  subst hn
  rcases h with ⟨h0, hc, _⟩ | ⟨h0, h⟩
  · subst hc
    have hl0 : L = [] := List.eq_nil_of_length_eq_zero h0
    subst hl0
    exact ⟨A, 0, rfl, by simp, by simp, fun i hi => absurd hi (by simp)⟩
  · refine Sl.of_own (cs := us.map fun u => [u]) h rfl (by omega) (flat_map1 us).symm (by simp [hv.len]) (fun i hi => ?_) fun b q1 q2 _ => hF b q1 q2
    obtain ⟨u, q1, q2⟩ := hv.get i hi
    exact ⟨[u], by rw [List.getElem?_map, q1]; rfl, rfl, u, rfl, q2⟩
end
theorem flat_one (cs : List (List Value)) (h : ∀ i (hi : i < cs.length), cs[i].length = 1) : ∃ us : List Value, cs = us.map (fun u => [u]) ∧ cs.flatten = us := by
  induction cs with
  | nil => exact ⟨[], rfl, rfl⟩
  | cons c cs ih =>
    obtain ⟨us, h1, h2⟩ := ih fun i hi => h (i + 1) (by simp; exact hi)
    have := h 0 (by simp)
    simp only [List.getElem_cons_zero] at this
    match c, this with
    | [u], _ => exact ⟨u :: us, by simp [h1], by simp [h2]⟩
theorem vals_of {F : Nat → Prop} {w : World} : ∀ (us : List Value) (L : List (List Int)), us.length = L.length → (∀ i (hi : i < L.length), ∃ u, us[i]? = some u ∧ SlI F w u L[i]) → Vals F w us L
  | [], [], _, _ => trivial
  | u :: us, l :: L, hl, h => by
    refine ⟨?_, vals_of us L (by simpa using hl) fun i hi => ?_⟩
    · obtain ⟨u', q1, q2⟩ := h 0 (by simp)
      simp only [List.getElem?_cons_zero, Option.some.injEq] at q1
      subst q1
      exact q2
    · obtain ⟨u', q1, q2⟩ := h (i + 1) (by simp; exact hi)
      exact ⟨u', by simpa using q1, q2⟩
  | [], _ :: _, hl, _ => by simp at hl
  | _ :: _, [], hl, _ => by simp at hl
/-- The element values of a slice of lists. -/
theorem SlII.vals {F : Nat → Prop} {w : World} {A : Option Addr} {n c B : Nat} {L : List (List Int)} (h : SlII F w (.slice A n c) L) (hF : ∀ b, F b → b < B) :
    ∃ us : List Value, Vals F w us L ∧ Reads w B 1 A n us := by
  obtain ⟨cs, h1, h2, h3⟩ := Sl.cells h hF
  obtain ⟨us, e1, e2⟩ := flat_one cs fun i hi => by
    obtain ⟨x, q1, q2, _⟩ := h2 i (by omega)
    rw [List.getElem?_eq_getElem hi] at q1
    injection q1 with q1
    rw [q1]; exact q2
  refine ⟨us, vals_of us L (by rw [← h1, e1]; simp) fun i hi => ?_, by rw [← e2]; exact h3⟩
  obtain ⟨x, q1, q2, u, q3, q4⟩ := h2 i hi
  subst q3
  rw [e1, List.getElem?_map] at q1
  cases hu : us[i]? with
  | none => rw [hu] at q1; cases q1
  | some v =>
    rw [hu] at q1
    simp only [Option.map_some, Option.some.injEq, List.cons.injEq, and_true] at q1
    subst q1
    exact ⟨_, rfl, q4⟩
section
variable {P : Program} {w : World} {ops : Array Oper} {rest : List Oper} {o : Oper} {a : Act} {Q : Exit → Act → World → Prop}
/-- 'xs = append(xs, ys...)', xs a slice of the call's own that is not empty. -/
theorem wpList_appM {t e : TypeId} {k bytes : Nat} (E : ElemN P t e k bytes) (hk : 0 < k) (hgd : o.guard = none) (s x : Operand) (ho : o.op = .call { callee := .builtin .append, args := #[s, x], argTypes := #[t, t] })
    {base : Nat} {A : Option Addr} {n c : Nat} {xs : List Value} (hown : Own0 w base e k A n c xs) (h0 : 0 < n) (hs : a.eval s = .slice A n c) (B : Nat) (A' : Option Addr) (m c' : Nat) (news : List Value) (hx : a.eval x = .slice A' m c') (hr : Reads w B k A' m news)
    (h1 : ∀ u ∈ news, u.oneCell' = true) (hn : n + m ≤ 1000000000) (hb : bytes ≤ 1000) (hbase : base ≤ w.heap.size)
    (h : ∀ A2 c2 w', Own0 w' base e k A2 (n + m) c2 (xs ++ news) → w.grownBy w' (Value.slice A n c).ownBlock → wpList P ops Q rest (a.put o.dst (.slice A2 (n + m) c2)) w') : wpList P ops Q (o :: rest) a w := by
  rcases hown with ⟨h2, _⟩ | ⟨_, hown⟩
  · omega
  obtain ⟨ht, i, z, hi, hz, hsz, hby, hzs⟩ := E
  have hmb : (n + m) * bytes ≤ 1000000000 * 1000 := Nat.mul_le_mul hn hb
  refine wpList_append_any w hgd s x t ho base e i z k bytes ht hi hz hsz hby hzs hk (.slice A n c) n xs hs hown B A' m c' news hx hr h1 (by unfold maxLen; omega) (by omega) hbase fun v' w' q1 q2 q3 => ?_
  obtain ⟨A2, c2, rfl⟩ := own_form q1
  exact h A2 c2 w' (.inr ⟨by omega, q1⟩) q2
end
theorem q_size {w w' : World} {n : Nat} {row : Option Nat} (h : (n = 0 ∧ Below w.heap.size w w') ∨ (0 < n ∧ w.grownBy w' row)) : w.heap.size ≤ w'.heap.size := by
  rcases h with ⟨_, h⟩ | ⟨_, h⟩
  · exact h.size
  · exact h.size
theorem own0_more {w : World} {base : Nat} {e : TypeId} {A : Option Addr} {n m c : Nat} {xs : List Value} (h : Own0 w base e 1 A n c xs) (hm : n = m) : Own0 w base e 1 A m c xs := by subst hm; exact h
set_option maxRecDepth 100000 in
set_option maxHeartbeats 2000000 in
theorem insert_any (vl vx : Value) (L : List (List Nat)) (x : List Nat) (hL : L.length ≤ 100000) (w : World) (F : Nat → Prop) (hF : ∀ b, F b → b < w.heap.size) (hl : SlII F w vl (intsL L)) (hx : SlI F w vx (Hit.ints x)) :
    Calls Tryd.prog 57 #[vl, vx] w fun e w' => ∃ A m c, e = .returned (.slice A m c) ∧ m = (Hit.insertF L x).length ∧ SlII (fun b => F b ∨ (w.heap.size ≤ b ∧ b < w'.heap.size)) w' (.slice A m c) (intsL (Hit.insertF L x)) ∧ Below w.heap.size w w' := by
  obtain ⟨A, c, rfl, hlc, _, hat⟩ := hl.open
  obtain ⟨Ax, cx, rfl, _⟩ := id hx.open
  obtain ⟨us, hv, hrd⟩ := SlII.vals hl hF
  have hBf : ∀ W u (y : List Nat), Below w.heap.size w W → SlI F w u (Hit.ints y) → Calls Tryd.prog 102 #[u, .slice Ax (Hit.ints x).length cx] W fun e w' => e = .returned (.bool (Hit.before y x)) ∧ Below W.heap.size W w' :=
    fun W u y hW hu => before_any u _ y x W F F (fun b hb => Nat.lt_of_lt_of_le (hF b hb) hW.size) (fun b hb => Nat.lt_of_lt_of_le (hF b hb) hW.size) (hu.keep (Agree.below hW hF)) (hx.keep (Agree.below hW hF))
  have hll : (intsL L).length = L.length := by simp [intsL]
  rw [hll] at hlc hrd ⊢
  have HAT := Lib.hid hat
  have HBF := Lib.hid hBf
  have HV := Lib.hid hv
  have HRD := Lib.hid hrd
  have HX := Lib.hid hx
  clear hat hBf hv hrd hl hx hll
  go_enter Tryd.func57, Tryd.ntmps57
  go_wp2_with fail
  go_loopg [5] L.length (fun gg s wr => ∃ k : Nat, k ≤ L.length ∧ L.length - k ≤ gg ∧ s = .int .i64 k ∧ Aside (Below w.heap.size w wr) ∧ Aside (∀ i (hi : i < L.length), i < k → Hit.before L[i] x = true))
  case atStart => exact ⟨0, Nat.zero_le _, by omega, rfl, B0 w, fun i _ h => absurd h (by omega)⟩
  case round =>
    obtain ⟨k, hk, hg, rfl, BW, A1⟩ := hrel
    by_cases hgo : ∃ h : k < L.length, Hit.before L[k] x = true
    · obtain ⟨hlt, hbt⟩ := hgo
      have hki : decide ((k : Int) < L.length) = true := decide_eq_true (by omega)
      have hk2 : (k : Int) < L.length := by omega
      obtain ⟨ad, u, rfl, hf, hc, hs⟩ := HAT.out k (by simpa using hlt)
      have hc' := (BW.out.cell (p := ad.add k) (by rw [block_of_add]; exact hF _ hf)).trans hc
      have hcall := HBF.out wr u L[k] BW.out (by simpa using hs)
      have hnext : ∀ i (hi : i < L.length), i < k + 1 → Hit.before L[i] x = true := fun i hi hik => by
        by_cases e : i = k
        · subst e; exact hbt
        · exact A1.out i hi (by omega)
      rw [hbt] at hcall
      have HC := Lib.hid hcall
      have HN := Lib.hid hnext
      clear hc hs hcall hnext hbt
      go_wp2_with (go_at_call 102; (with_reducible refine (HC.out.mono ?_)); rintro e w1 ⟨rfl, hb1⟩; have HB1 := Lib.hid (Bt BW.out hb1); clear hb1)
      go_roundg (L.length - (k + 1))
      case measure => omega
      case rel => exact ⟨k + 1, by omega, by omega, by go_num, HB1.out, HN.out⟩
    · have hins := insertF_at L x k hk A1.out fun h => by
        cases hh : Hit.before L[k] x with
        | true => exact absurd ⟨h, hh⟩ hgo
        | false => rfl
      have HI := Lib.hid hins
      clear hins
      have hq : (decide ((k : Int) < L.length) = false ∧ k = L.length) ∨ (decide ((k : Int) < L.length) = true ∧ ∃ h : k < L.length, Hit.before L[k] x = false) := by
        by_cases hlt : k < L.length
        · refine .inr ⟨decide_eq_true (by omega), hlt, ?_⟩
          cases hh : Hit.before L[k] x with
          | true => exact absurd ⟨hlt, hh⟩ hgo
          | false => rfl
        · exact .inl ⟨decide_eq_false (by omega), by omega⟩
      clear hgo A1
      have hkc : (k : Int) ≤ c := by omega
      have hkn : (k : Int) ≤ L.length := by omega
      rcases hq with ⟨d1, hkl⟩ | ⟨d1, hlt, hbf⟩
      case' inl =>
        have d1n : decide (k < L.length) = false := decide_eq_false (by omega)
        have hge : L.length ≤ k := by omega
        have HKL := Lib.hid hkl
        clear hkl
        obtain ⟨w1, rfl⟩ : ∃ w1 : World, w1 = wr := ⟨_, rfl⟩
        have HB1 := Lib.hid BW.out
        rcases Nat.eq_zero_or_pos c with rfl | hcp
        all_goals
          go_upto_region 4 with fail
          clear hge d1n d1
      case' inr =>
        have hk2 : (k : Int) < L.length := by omega
        obtain ⟨ad, u, rfl, hf, hc, hs⟩ := HAT.out k (by simpa using hlt)
        have hc' := (BW.out.cell (p := ad.add k) (by rw [block_of_add]; exact hF _ hf)).trans hc
        have hcall := HBF.out wr u L[k] BW.out (by simpa using hs)
        rw [hbf] at hcall
        have HC := Lib.hid hcall
        clear hc hs hcall hbf
        go_upto_region 4 with (go_at_call 102; (with_reducible refine (HC.out.mono ?_)); rintro e w1 ⟨rfl, hb1⟩; have HB1 := Lib.hid (Bt BW.out hb1); clear hb1)
        clear hc' HC hf hlt hk2 BW
      all_goals
        have hrt : ∀ W, Below w.heap.size w W → Reads W w.heap.size 1 _ k (us.take k) := fun W hW => by have := (HRD.out.take hk).below hW; rwa [Nat.mul_one] at this
        have hrc : ∀ W, Below w.heap.size w W → Reads W w.heap.size 1 _ (L.length - k) (us.drop k) := fun W hW => by have := (HRD.out.cut hk hlc).below hW; rwa [Nat.mul_one] at this
        have hra : k = 0 → ∀ W, Below w.heap.size w W → Reads W w.heap.size 1 _ (L.length - k) (us.drop k) := fun h W hW => by subst h; exact HRD.out.below hW
        have HRA := Lib.hid hra
        have h1t : ∀ u ∈ us.take k, u.oneCell' = true := fun u hu => HV.out.cell1 u (List.mem_of_mem_take hu)
        have h1d : ∀ u ∈ us.drop k, u.oneCell' = true := fun u hu => HV.out.cell1 u (List.mem_of_mem_drop hu)
        have HRT := Lib.hid hrt
        have HRC := Lib.hid hrc
        have H1T := Lib.hid h1t
        have H1D := Lib.hid h1d
        clear hrt hrc h1t h1d hra
        go_wp2_with (first
          | (at_builtin; refine wpList_copy elemS (by omega) rfl _ _ rfl (some ⟨w1.heap.size, 0, none⟩) rfl w.heap.size _ k _ (us.take k) rfl (HRT.out _ (Ba HB1.out _)) H1T.out (by omega) (by omega) ?_; intro A2 c2 w2 hb2 hO2; have HB2 := Lib.hid (Bt (Ba HB1.out _) hb2); have hs2 := hb2.size; have HO2 := Lib.hid hO2; clear hb2 hO2)
          | (at_builtin; refine wpList_app0 elemS rfl _ _ rfl (Own0.alloc HO2.out _) rfl w2.heap.size (.slice Ax (Hit.ints x).length cx) rfl (by simp) rfl (by omega) (by omega) (by simp at hs2 ⊢; omega) ?_; intro A3 c3 w3 q1 q2; have hs3 := q_size q2; have HO3 := Lib.hid q1; have HB3 := Lib.hid (Bg0 (Ba HB2.out _) (Own0.alloc HO2.out _) (by have := HB1.out.size; simp; omega) q2); clear q1 q2)
          | (at_builtin; have _t := HO3; refine wpList_appM elemS (by omega) rfl _ _ rfl HO3.out (by omega) rfl w.heap.size _ (L.length - k) _ (us.drop k) rfl (by first | exact HRC.out _ HB3.out | exact HRA.out (by omega) _ HB3.out) H1D.out (by omega) (by omega) ?_ ?_; (simp at hs2 hs3 ⊢; omega); intro A4 c4 w4 q1 q2; have HO4 := Lib.hid q1; have HB4 := Lib.hid (Bg0 HB3.out HO3.out (by have := HB1.out.size; simp; omega) (.inr ⟨by omega, q2⟩)); clear q1 q2))
        all_goals
          have HM := Lib.hid ((HV.out.keep (Agree.below HB4.out hF) (G := fun b => F b ∨ (w.heap.size ≤ b ∧ b < w4.heap.size)) fun _ h => .inl h))
          have HX4 := Lib.hid ((HX.out.keep (Agree.below HB4.out hF)).mono (G := fun b => F b ∨ (w.heap.size ≤ b ∧ b < w4.heap.size)) fun _ h => .inl h)
          go_ret
          refine ⟨A4, _, c4, rfl, ?_, ?_, HB4.out⟩
          · rw [HI.out]; simp; omega
          · have hvv := ((HM.out.take k).append (Vals.one HX4.out)).append (HM.out.drop k)
            have e : List.take k (intsL L) ++ [Hit.ints x] ++ List.drop k (intsL L) = intsL (Hit.insertF L x) := by rw [HI.out]; simp [intsL]
            rw [e] at hvv
            refine hvv.sl HO4.out ?_ ?_ fun b q1 q2 => .inr ⟨?_, q2⟩
            · rw [HI.out]; simp [intsL]; omega
            · rw [HI.out]; simp [intsL]; omega
            · have := HB1.out.size; simp at q1; omega
end Go.Proofs.YthgjhfapnilfhaaDoor
namespace Go.Proofs.YthgjhfapnilfhaaDoor
open Go Go.RowKit
def stepA (ws : List Nat) (n : Nat) (r : List (List Nat) × Nat) (b : Nat) : List (List Nat) × Nat := if Hit.hit ws b then (if Hit.irr ws n b then Hit.insertF r.1 (Hit.members b) else r.1, r.2 + 1) else r
theorem allGo_snoc (ws : List Nat) (n : Nat) (b : Nat) : ∀ (l : List Nat) (r : List (List Nat) × Nat), Hit.allGo ws n (l ++ [b]) r = stepA ws n (Hit.allGo ws n l r) b
  | [], r => rfl
  | x :: l, r => by
    show Hit.allGo ws n (l ++ [b]) _ = _
    rw [allGo_snoc ws n b l]; rfl
/-- What has been found below b. -/
def toB (ws : List Nat) (n b : Nat) : List (List Nat) × Nat := Hit.allGo ws n (List.range b) ([], 0)
theorem toB_zero (ws : List Nat) (n : Nat) : toB ws n 0 = ([], 0) := rfl
theorem toB_nil (ws : List Nat) (n : Nat) (F : Nat → Prop) (w : World) : SlII F w (.slice none 0 0) (intsL (toB ws n 0).1) := by rw [toB_zero]; exact Sl.nil_
theorem toB_succ (ws : List Nat) (n b : Nat) : toB ws n (b + 1) = stepA ws n (toB ws n b) b := by
  unfold toB; rw [List.range_succ, allGo_snoc]
theorem toB_miss {ws : List Nat} {n b : Nat} (h : Hit.hit ws b = false) : toB ws n (b + 1) = toB ws n b := by rw [toB_succ]; unfold stepA; rw [h]; rfl
theorem toB_hit {ws : List Nat} {n b : Nat} (h : Hit.hit ws b = true) : (toB ws n (b + 1)).2 = (toB ws n b).2 + 1 := by rw [toB_succ]; unfold stepA; rw [h]; rfl
theorem toB_irr {ws : List Nat} {n b : Nat} (h : Hit.hit ws b = true) (hi : Hit.irr ws n b = true) : (toB ws n (b + 1)).1 = Hit.insertF (toB ws n b).1 (Hit.members b) := by rw [toB_succ]; unfold stepA; rw [h, hi]; rfl
theorem toB_red {ws : List Nat} {n b : Nat} (hi : Hit.irr ws n b = false) : (toB ws n (b + 1)).1 = (toB ws n b).1 := by
  rw [toB_succ]; unfold stepA
  cases h : Hit.hit ws b
  · rfl
  · rw [hi]; rfl
theorem insertF_len (L : List (List Nat)) (x : List Nat) : (Hit.insertF L x).length = L.length + 1 := by
  induction L with
  | nil => simp [Hit.insertF]
  | cons z L ih => rw [Hit.insertF_cons]; split <;> simp [ih]
theorem toB_len (ws : List Nat) (n : Nat) : ∀ b, (toB ws n b).1.length ≤ b ∧ (toB ws n b).2 ≤ b
  | 0 => ⟨Nat.le_refl 0, Nat.le_refl 0⟩
  | b + 1 => by
    obtain ⟨h1, h2⟩ := toB_len ws n b
    rw [toB_succ]; unfold stepA
    split
    · refine ⟨?_, by show (toB ws n b).2 + 1 ≤ b + 1; omega⟩
      show (if Hit.irr ws n b = true then Hit.insertF (toB ws n b).1 (Hit.members b) else (toB ws n b).1).length ≤ b + 1
      split
      · rw [insertF_len]; omega
      · omega
    · exact ⟨by omega, by omega⟩
/-- No number below i can be left out. -/
def irrTo (ws : List Nat) (b i : Nat) : Bool := (List.range i).all fun j => !(b.testBit j && Hit.hit ws (Hit.andn b (Hit.bit j)))
theorem irrTo_succ (ws : List Nat) (b i : Nat) : irrTo ws b (i + 1) = (irrTo ws b i && !(b.testBit i && Hit.hit ws (Hit.andn b (Hit.bit i)))) := by
  unfold irrTo; rw [List.range_succ, List.all_append]; simp
theorem irrTo_end (ws : List Nat) (n b : Nat) : irrTo ws b n = Hit.irr ws n b := rfl
set_option maxRecDepth 100000 in
set_option maxHeartbeats 4000000 in
theorem allR_any (n : Nat) (hn : n ≤ 8) (vs : Value) (ws : List Nat) (hw : ∀ s ∈ ws, s < 4294967296) (w : World) (F : Nat → Prop) (hF : ∀ b, F b → b < w.heap.size) (hr : SlII F w vs (setsOf ws)) :
    Calls Tryd.prog 21 #[.agg #[.int .i64 n, vs]] w fun e w' => ∃ A m c, e = .returned (.tuple #[.slice A m c, .int .i64 ((Hit.allF ws n).2 : Nat)]) ∧ m = (Hit.allF ws n).1.length ∧ SlII (fun b => w.heap.size ≤ b ∧ b < w'.heap.size) w' (.slice A m c) (intsL (Hit.allF ws n).1) ∧ Below w.heap.size w w' := by
  have hM : ∀ W z, z < 4294967296 → Below w.heap.size w W → Calls Tryd.prog 56 #[.agg #[.int .i64 n, vs], .int .u64 (z : Nat)] W fun e w' => e = .returned (.int .i64 (missF ws z)) ∧ Below W.heap.size W w' := fun W z hz hW =>
    missedR_any n _ ws hw _ hz W F (fun b hb => Nat.lt_of_lt_of_le (hF b hb) hW.size) (hr.keep (Agree.below hW hF))
  obtain ⟨As, cs, rfl, _⟩ := hr.open
  have hall : Hit.allF ws n = toB ws n (Hit.bit n) := rfl
  rw [hall]
  have two1 := Hit.two_u64w n (by omega)
  have n64 : (n : Int) % 18446744073709551616 = n := by omega
  have n64b : min n 64 = n := by omega
  have hN2 : Hit.bit n ≤ 256 := Nat.pow_le_pow_right (n := 2) (by decide) hn
  have hbit : ∀ i, i < n → Hit.bit i < 2 ^ 64 := fun i hi => Hit.bit_lt (by omega)
  obtain ⟨N2, hNN⟩ : ∃ N2, Hit.bit n = N2 := ⟨_, rfl⟩
  rw [hNN] at two1 hN2 ⊢
  have HM := Lib.hid hM
  clear hM hr hw hall hNN
  go_enter Tryd.func21, Tryd.ntmps21
  go_wp2_with fail
  obtain ⟨w1, hw1⟩ : ∃ w1 : World, w.alloc (.cells #[.int .i64 n, .slice As (setsOf ws).length cs] 69) = w1 := ⟨_, rfl⟩
  have c0 : w1.cell? ⟨w.heap.size, 0, none⟩ = some (.int .i64 n) := by rw [← hw1]; simp [go_sem]
  have c1 : w1.cell? ⟨w.heap.size, 1, none⟩ = some (.slice As (setsOf ws).length cs) := by rw [← hw1]; simp [go_sem]
  have s1 : w.heap.size < w1.heap.size := by rw [← hw1]; simp
  have B1 : Below w.heap.size w w1 := by rw [← hw1]; exact Ba (B0 w) _
  rw [hw1]
  clear hw1
  have HB1 := Lib.hid B1
  have C0 := Lib.hid c0
  have C1 := Lib.hid c1
  clear B1 c0 c1
  go_loopg [4, 5, 6] N2 (fun gg s4 s5 s6 wr => ∃ (b : Nat) (A : Option Addr) (m c : Nat), b ≤ N2 ∧ N2 - b ≤ gg ∧ s6 = .int .u64 b ∧ s5 = .int .i64 ((toB ws n b).2 : Nat) ∧ s4 = .slice A m c ∧ Aside (m = (toB ws n b).1.length) ∧
    Aside (SlII (fun x => w1.heap.size ≤ x ∧ x < wr.heap.size) wr (.slice A m c) (intsL (toB ws n b).1)) ∧ Aside (Below w1.heap.size w1 wr))
  case atStart => exact ⟨0, none, 0, 0, by omega, by omega, rfl, rfl, rfl, rfl, toB_nil ws n (fun x => w1.heap.size ≤ x ∧ x < w1.heap.size) w1, B0 w1⟩
  case round =>
    obtain ⟨b, A, m, c, hb, hg, rfl, rfl, rfl, HM1, HS1, HB⟩ := hrel
    obtain ⟨wo, rfl⟩ : ∃ wo : World, wo = wr := ⟨_, rfl⟩
    have k0 : wo.cell? ⟨w.heap.size, 0, none⟩ = some (.int .i64 n) := (Bc HB.out s1).trans C0.out
    have k1 : wo.cell? ⟨w.heap.size, 1, none⟩ = some (.slice As (setsOf ws).length cs) := (Bc HB.out s1).trans C1.out
    by_cases hlt : b < N2
    · have hki : decide (b < N2) = true := decide_eq_true hlt
      have hki2 : decide ((b : Int) < N2) = true := decide_eq_true (by omega)
      have hcall := HM.out wo b (by omega) (Bt HB1.out HB.out)
      have hneg := missF_neg ws b
      obtain ⟨hl1, hl2⟩ := toB_len ws n b
      cases hh : Hit.hit ws b with
      | false =>
        have hd : decide (0 ≤ missF ws b) = true := decide_eq_true (by
          have : ¬ missF ws b < 0 := fun q => by rw [hneg.1 q] at hh; cases hh
          omega)
        have hnx := toB_miss (n := n) hh
        have HNX := Lib.hid hnx
        have HC := Lib.hid hcall
        clear hcall hneg hh hnx
        generalize missF ws b = ms at *
        go_wp2_with (go_at_call 56; (with_reducible refine (HC.out.mono ?_)); rintro e w2 ⟨rfl, hb2⟩; have HB2 := Lib.hid (Bt HB.out hb2); have HS2 := Lib.hid ((HS1.out.keep (Agree.below hb2 fun x h => h.2)).wider (G := fun x => w1.heap.size ≤ x ∧ x < w2.heap.size) fun x h => ⟨h.1, Nat.lt_of_lt_of_le h.2 hb2.size⟩); clear hb2)
        go_roundg (N2 - (b + 1))
        case measure => omega
        case rel => exact ⟨b + 1, A, m, c, by omega, by omega, by go_num, by rw [HNX.out], rfl, by rw [HNX.out]; exact HM1.out, by rw [HNX.out]; exact HS2.out, HB2.out⟩
      | true =>
        have hms := missF_cases ws b
        rw [hh] at hms
        have hd : decide (0 ≤ missF ws b) = false := decide_eq_false (by
          rcases hms with ⟨_, q⟩ | ⟨q, _⟩
          · omega
          · cases q)
        have hcnt := toB_hit (n := n) hh
        have hirr := toB_irr (n := n) hh
        have hred := toB_red (ws := ws) (n := n) (b := b)
        have HCN := Lib.hid hcnt
        have HIR := Lib.hid hirr
        have HRE := Lib.hid hred
        have HC := Lib.hid hcall
        clear hcall hneg hh hms hcnt hirr hred
        generalize missF ws b = ms at *
        generalize (toB ws n b).2 = cnt at *
        go_wp2_with (go_at_call 56; (with_reducible refine (HC.out.mono ?_)); rintro e w2 ⟨rfl, hb2⟩; have HB2 := Lib.hid (Bt HB.out hb2); have HS2 := Lib.hid ((HS1.out.keep (Agree.below hb2 fun x h => h.2)).wider (G := fun x => w1.heap.size ≤ x ∧ x < w2.heap.size) fun x h => ⟨h.1, Nat.lt_of_lt_of_le h.2 hb2.size⟩); clear hb2)
        clear HS1 HB k0 k1
        go_loopg [7, 8] n (fun gg s7 s8 wr => ∃ i : Nat, i ≤ n ∧ n - i ≤ gg ∧ s8 = .int .i64 i ∧ s7 = .bool (irrTo ws b i) ∧ Aside (Below w2.heap.size w2 wr))
        case atStart => exact ⟨0, by omega, by omega, rfl, rfl, B0 w2⟩
        case round =>
          obtain ⟨i, hi, hgi, rfl, rfl, HBi⟩ := hrel
          have hBw := Bt HB2.out HBi.out
          have k0 : wr.cell? ⟨w.heap.size, 0, none⟩ = some (.int .i64 n) := (Bc hBw s1).trans C0.out
          have k1 : wr.cell? ⟨w.heap.size, 1, none⟩ = some (.slice As (setsOf ws).length cs) := (Bc hBw s1).trans C1.out
          have HBw := Lib.hid hBw
          clear hBw
          by_cases hil : i < n
          · have hii : decide ((i : Int) < n) = true := decide_eq_true (by omega)
            have hin : decide (i < n) = true := decide_eq_true hil
            have hnx := irrTo_succ ws b i
            have hbt := bit_of b i
            have hsh := shr_of b i (by omega)
            have hle : b >>> i ≤ b := by rw [Nat.shiftRight_eq_div_pow]; exact Nat.div_le_self _ _
            have hand : bits .and .u64 ((b >>> i : Nat) : Int) 1 = ((b >>> i &&& 1 : Nat) : Int) := Hit.u64_and (b >>> i) 1 (by omega) (by decide)
            have i64 : (i : Int) % 18446744073709551616 = i := by omega
            have i64b : min i 64 = i := by omega
            generalize b >>> i &&& 1 = y1 at *
            generalize b >>> i = y at *
            clear hle
            cases htb : b.testBit i with
            | false =>
              rw [htb] at hbt hnx
              have hnx2 : irrTo ws b (i + 1) = irrTo ws b i := by rw [hnx]; simp
              have HNX := Lib.hid hnx2
              clear hnx htb hnx2
              generalize irrTo ws b i = ib at *
              go_wp2_with fail
              go_roundg (n - (i + 1))
              case measure => omega
              case rel => exact ⟨i + 1, by omega, by omega, by go_num, by rw [HNX.out], HBi.out⟩
            | true =>
              rw [htb] at hbt hnx
              have two2 := Hit.two_u64w i (by omega)
              have hdn := Hit.u64_andn b (Hit.bit i) (by omega) (hbit i hil)
              have hzl : Hit.andn b (Hit.bit i) < 4294967296 := Hit.andn_lt (k := 32) (by omega)
              have hnz := missF_cases ws (Hit.andn b (Hit.bit i))
              generalize Hit.andn b (Hit.bit i) = z at *
              generalize Hit.bit i = bi at *
              have hcz := HM.out wr z hzl (Bt HB1.out HBw.out)
              have HCZ := Lib.hid hcz
              clear htb hcz hzl
              rcases hnz with ⟨hz, hmz⟩ | ⟨hz, hmz⟩
              · have hd2 : decide (missF ws z < 0) = true := decide_eq_true (by omega)
                have hnx2 : irrTo ws b (i + 1) = false := by rw [hnx, hz]; simp
                have HNX := Lib.hid hnx2
                clear hnx hz hnx2 hmz
                generalize missF ws z = mz at *
                generalize irrTo ws b i = ib at *
                go_wp2_with (go_at_call 56; (with_reducible refine (HCZ.out.mono ?_)); rintro e w3 ⟨rfl, hb3⟩; have HB3 := Lib.hid (Bt HBi.out hb3); clear hb3)
                go_roundg (n - (i + 1))
                case measure => omega
                case rel => exact ⟨i + 1, by omega, by omega, by go_num, by rw [HNX.out], HB3.out⟩
              · have hd2 : decide (missF ws z < 0) = false := decide_eq_false (by omega)
                have hnx2 : irrTo ws b (i + 1) = irrTo ws b i := by rw [hnx, hz]; simp
                have HNX := Lib.hid hnx2
                clear hnx hz hnx2 hmz
                generalize missF ws z = mz at *
                generalize irrTo ws b i = ib at *
                go_wp2_with (go_at_call 56; (with_reducible refine (HCZ.out.mono ?_)); rintro e w3 ⟨rfl, hb3⟩; have HB3 := Lib.hid (Bt HBi.out hb3); clear hb3)
                go_roundg (n - (i + 1))
                case measure => omega
                case rel => exact ⟨i + 1, by omega, by omega, by go_num, by rw [HNX.out], HB3.out⟩
          · have hii : decide ((i : Int) < n) = false := decide_eq_false (by omega)
            have hin : decide (i < n) = false := decide_eq_false hil
            obtain rfl : i = n := by omega
            rw [irrTo_end]
            clear hil
            have HSw := Lib.hid ((HS2.out.keep (Agree.below HBi.out fun x h => h.2)).wider (G := fun x => w1.heap.size ≤ x ∧ x < wr.heap.size) fun x h => ⟨h.1, Nat.lt_of_lt_of_le h.2 HBi.out.size⟩)
            cases hir : Hit.irr ws i b with
            | false =>
              have hnx := HRE.out hir
              have HNX := Lib.hid hnx
              clear hnx hir
              go_wp2_with fail
              go_roundg (N2 - (b + 1))
              case measure => omega
              case rel => exact ⟨b + 1, A, m, c, by omega, by omega, by go_num, by rw [HCN.out]; go_num, rfl, by rw [HNX.out]; exact HM1.out, by rw [HNX.out]; exact HSw.out, HBw.out⟩
            | true =>
              have hnx := HIR.out hir
              have HNX := Lib.hid hnx
              have HMe := Lib.hid (members_any b (by omega) wr)
              have hmm := HM1.out
              have HII := Lib.hid hmm
              have hmbl : (Hit.members b).length ≤ 1000000000 := red_len b
              clear hnx hir hmm
              go_wp2_with (first
                | (go_at_call 24; (with_reducible refine (HMe.out.mono ?_)); rintro e w4 ⟨A4, m4, c4, rfl, hm4, hO4, hb4⟩; have HV4 := Lib.hid (hO4.ints hm4 hmbl (F := fun x => w1.heap.size ≤ x ∧ x < w4.heap.size) fun x q1 q2 => ⟨Nat.le_trans HBw.out.size q1, q2⟩); have HS4 := Lib.hid ((HSw.out.keep (Agree.below hb4 fun x h => h.2)).wider (G := fun x => w1.heap.size ≤ x ∧ x < w4.heap.size) fun x h => ⟨h.1, Nat.lt_of_lt_of_le h.2 hb4.size⟩); have HB4 := Lib.hid (Bt HBw.out hb4); clear hm4 hO4 hb4)
                | (go_at_call 57; refine ((insert_any _ _ _ _ (by omega) w4 (fun x => w1.heap.size ≤ x ∧ x < w4.heap.size) (fun x h => h.2) HS4.out HV4.out).mono ?_); rintro e w5 ⟨A5, m5, c5, rfl, hm5, hs5, hb5⟩; have HB5 := Lib.hid (Bt HB4.out hb5); have hz4 := HB4.out.size; have hz5 := hb5.size; have HS5 := Lib.hid (hs5.wider (G := fun x => w1.heap.size ≤ x ∧ x < w5.heap.size) fun x h => by (rcases h with h | h); exact ⟨h.1, by omega⟩; exact ⟨by omega, h.2⟩); have HM5 := Lib.hid hm5; clear hb5 hs5 hm5 hz4 hz5))
              go_roundg (N2 - (b + 1))
              case measure => omega
              case rel => exact ⟨b + 1, A5, m5, c5, by omega, by omega, by go_num, by rw [HCN.out]; go_num, rfl, by rw [HNX.out]; exact HM5.out, by rw [HNX.out]; exact HS5.out, HB5.out⟩
    · have hki : decide (b < N2) = false := decide_eq_false hlt
      have hki2 : decide ((b : Int) < N2) = false := decide_eq_false (by omega)
      obtain rfl : b = N2 := by omega
      have HW := Lib.hid (HS1.out.wider (G := fun x => w.heap.size ≤ x ∧ x < wo.heap.size) fun x h => ⟨by omega, h.2⟩)
      have HB2 := Lib.hid (Bt HB1.out HB.out)
      clear HS1 HB hlt
      go_wp2_with fail
      go_ret2
      exact ⟨A, m, c, rfl, HM1.out, HW.out, HB2.out⟩
end Go.Proofs.YthgjhfapnilfhaaDoor
