/- Walks over the reference of hitting: a list put into a sorted list. -/
import Derived.Test.YtiochodepgldpaaDoorAa
import Derived.Test.YtiochodepgldpaaDoorHM
namespace Go.Proofs.YtiochodepgldpaaDoor
open Go Go.RowKit
theorem Reads.take {w : World} {B size n : Nat} {A : Option Addr} {xs : List Value} (h : Reads w B size A n xs) {k : Nat} (hk : k ≤ n) : Reads w B size A k (xs.take (k * size)) := by
  refine ⟨by rw [List.length_take, h.1]; exact Nat.min_eq_left (Nat.mul_le_mul_right _ hk), fun hn => ?_⟩
  obtain ⟨ad, rfl, hb, hc⟩ := h.2 (by omega)
  refine ⟨ad, rfl, hb, fun j u hu => hc j u ?_⟩
  rw [List.getElem?_take] at hu
  split at hu
  · exact hu
  · cases hu
theorem insertF_at : ∀ (L : List (List Nat)) (x : List Nat) (k : Nat), k ≤ L.length → (∀ i (hi : i < L.length), i < k → Hit.before L[i] x = true) → (∀ h : k < L.length, Hit.before L[k] x = false) → Hit.insertF L x = L.take k ++ x :: L.drop k := by
  intro L
  induction L with
  | nil => intro x k _ _ _; simp [Hit.insertF]
  | cons z L ih =>
    intro x k hk h1 h2
    rw [Hit.insertF_cons]
    cases k with
    | zero =>
      have := h2 (by simp)
      simp only [List.getElem_cons_zero] at this
      rw [this]; simp
    | succ k =>
      have h0 := h1 0 (by simp) (by omega)
      simp only [List.getElem_cons_zero] at h0
      rw [h0, if_pos rfl, ih x k (by simpa using hk) (fun i hi hik => h1 (i + 1) (by simp; exact hi) (by omega)) fun h => h2 (by simp; exact h)]
      simp
/-- Lists of numbers, as cells. -/
abbrev intsL (L : List (List Nat)) : List (List Int) := L.map Hit.ints
/-- Values that read as lists, one for one. -/
def Vals (F : Nat → Prop) (w : World) : List Value → List (List Int) → Prop
  | [], [] => True
  | u :: us, l :: L => SlI F w u l ∧ Vals F w us L
  | _, _ => False
section
variable {F G : Nat → Prop} {w w' : World}
theorem Vals.len : ∀ {us : List Value} {L : List (List Int)}, Vals F w us L → us.length = L.length
  | [], [], _ => rfl
  | _ :: us, _ :: L, h => by have := Vals.len (us := us) (L := L) h.2; simp [this]
  | [], _ :: _, h => h.elim
  | _ :: _, [], h => h.elim
theorem Vals.keep (ha : Agree F w w') (hF : ∀ b, F b → G b) : ∀ {us : List Value} {L : List (List Int)}, Vals F w us L → Vals G w' us L
  | [], [], _ => trivial
  | _ :: us, _ :: L, h => ⟨(h.1.keep ha).mono hF, Vals.keep ha hF (us := us) (L := L) h.2⟩
  | [], _ :: _, h => h.elim
  | _ :: _, [], h => h.elim
theorem Vals.append : ∀ {us vs : List Value} {L M : List (List Int)}, Vals F w us L → Vals F w vs M → Vals F w (us ++ vs) (L ++ M)
  | [], _, [], _, _, h => h
  | _ :: us, vs, _ :: L, M, h, k => ⟨h.1, Vals.append (us := us) (vs := vs) (L := L) (M := M) h.2 k⟩
  | [], _, _ :: _, _, h, _ => h.elim
  | _ :: _, _, [], _, h, _ => h.elim
theorem Vals.one {u : Value} {l : List Int} (h : SlI F w u l) : Vals F w [u] [l] := ⟨h, trivial⟩
theorem Vals.take : ∀ (k : Nat) {us : List Value} {L : List (List Int)}, Vals F w us L → Vals F w (us.take k) (L.take k)
  | 0, _, _, _ => trivial
  | _ + 1, [], [], _ => trivial
  | k + 1, _ :: us, _ :: L, h => ⟨h.1, Vals.take k (us := us) (L := L) h.2⟩
  | _ + 1, [], _ :: _, h => h.elim
  | _ + 1, _ :: _, [], h => h.elim
theorem Vals.drop : ∀ (k : Nat) {us : List Value} {L : List (List Int)}, Vals F w us L → Vals F w (us.drop k) (L.drop k)
  | 0, _, _, h => h
  | _ + 1, [], [], _ => trivial
  | k + 1, _ :: us, _ :: L, h => Vals.drop k (us := us) (L := L) h.2
  | _ + 1, [], _ :: _, h => h.elim
  | _ + 1, _ :: _, [], h => h.elim
theorem Vals.get : ∀ {us : List Value} {L : List (List Int)}, Vals F w us L → ∀ i (hi : i < L.length), ∃ u, us[i]? = some u ∧ SlI F w u L[i]
  | [], [], _, i, hi => absurd hi (by simp)
  | u :: us, l :: L, h, 0, hi => ⟨u, rfl, h.1⟩
  | _ :: us, _ :: L, h, i + 1, hi => Vals.get (us := us) (L := L) h.2 i (by simpa using hi)
  | [], _ :: _, h, _, _ => h.elim
  | _ :: _, [], h, _, _ => h.elim
theorem Vals.cell1 : ∀ {us : List Value} {L : List (List Int)}, Vals F w us L → ∀ u ∈ us, u.oneCell' = true
  | [], [], _, u, hu => absurd hu (by simp)
  | v :: us, _ :: L, h, u, hu => by
    rcases List.mem_cons.1 hu with e | e
    · obtain ⟨A, c, q, _⟩ := h.1
      rw [e, q]; rfl
    · exact Vals.cell1 (us := us) (L := L) h.2 u e
  | [], _ :: _, h, _, _ => h.elim
  | _ :: _, [], h, _, _ => h.elim
theorem flat_map1 (us : List Value) : (us.map fun u => [u]).flatten = us := by
  induction us with
  | nil => rfl
  | cons u us ih => simp only [List.map_cons, List.flatten_cons, ih]; rfl
/-- A row of slices of the call's own reads as lists. -/
theorem Vals.sl {base n c : Nat} {A : Option Addr} {us : List Value} {L : List (List Int)} (hv : Vals F w us L) (h : Own0 w base 30 1 A n c us) (hn : n = L.length) (hl : L.length ≤ 1000000)
    (hF : ∀ b, base ≤ b → b < w.heap.size → F b) : SlII F w (.slice A n c) L := by
  subst hn
  rcases h with ⟨h0, hc, _⟩ | ⟨h0, h⟩
  · subst hc
    have hl0 : L = [] := List.eq_nil_of_length_eq_zero h0
    subst hl0
    exact ⟨A, 0, rfl, by simp, by simp, fun i hi => absurd hi (by simp)⟩
  · refine Sl.of_own (cs := us.map fun u => [u]) h rfl (by omega) (flat_map1 us).symm (by simp [hv.len]) (fun i hi => ?_) fun b q1 q2 _ => hF b q1 q2
    obtain ⟨u, q1, q2⟩ := hv.get i hi
    exact ⟨[u], by rw [List.getElem?_map, q1]; rfl, rfl, u, rfl, q2⟩
end
theorem flat_one (cs : List (List Value)) (h : ∀ i (hi : i < cs.length), cs[i].length = 1) : ∃ us : List Value, cs = us.map (fun u => [u]) ∧ cs.flatten = us := by
  induction cs with
  | nil => exact ⟨[], rfl, rfl⟩
  | cons c cs ih =>
    obtain ⟨us, h1, h2⟩ := ih fun i hi => h (i + 1) (by simp; exact hi)
    have := h 0 (by simp)
    simp only [List.getElem_cons_zero] at this
    match c, this with
    | [u], _ => exact ⟨u :: us, by simp [h1], by simp [h2]⟩
theorem vals_of {F : Nat → Prop} {w : World} : ∀ (us : List Value) (L : List (List Int)), us.length = L.length → (∀ i (hi : i < L.length), ∃ u, us[i]? = some u ∧ SlI F w u L[i]) → Vals F w us L
  | [], [], _, _ => trivial
  | u :: us, l :: L, hl, h => by
    refine ⟨?_, vals_of us L (by simpa using hl) fun i hi => ?_⟩
    · obtain ⟨u', q1, q2⟩ := h 0 (by simp)
      simp only [List.getElem?_cons_zero, Option.some.injEq] at q1
      subst q1
      exact q2
    · obtain ⟨u', q1, q2⟩ := h (i + 1) (by simp; exact hi)
      exact ⟨u', by simpa using q1, q2⟩
  | [], _ :: _, hl, _ => by simp at hl
  | _ :: _, [], hl, _ => by simp at hl
/-- The element values of a slice of lists. -/
theorem SlII.vals {F : Nat → Prop} {w : World} {A : Option Addr} {n c B : Nat} {L : List (List Int)} (h : SlII F w (.slice A n c) L) (hF : ∀ b, F b → b < B) :
    ∃ us : List Value, Vals F w us L ∧ Reads w B 1 A n us := by
  obtain ⟨cs, h1, h2, h3⟩ := Sl.cells h hF
  obtain ⟨us, e1, e2⟩ := flat_one cs fun i hi => by
    obtain ⟨x, q1, q2, _⟩ := h2 i (by omega)
    rw [List.getElem?_eq_getElem hi] at q1
    injection q1 with q1
    rw [q1]; exact q2
  refine ⟨us, vals_of us L (by rw [← h1, e1]; simp) fun i hi => ?_, by rw [← e2]; exact h3⟩
  obtain ⟨x, q1, q2, u, q3, q4⟩ := h2 i hi
  subst q3
  rw [e1, List.getElem?_map] at q1
  cases hu : us[i]? with
  | none => rw [hu] at q1; cases q1
  | some v =>
    rw [hu] at q1
    simp only [Option.map_some, Option.some.injEq, List.cons.injEq, and_true] at q1
    subst q1
    exact ⟨_, rfl, q4⟩
section
variable {P : Program} {w : World} {ops : Array Oper} {rest : List Oper} {o : Oper} {a : Act} {Q : Exit → Act → World → Prop}
/-- 'xs = append(xs, ys...)', xs a slice of the call's own that is not empty. -/
theorem wpList_appM {t e : TypeId} {k bytes : Nat} (E : ElemN P t e k bytes) (hk : 0 < k) (hgd : o.guard = none) (s x : Operand) (ho : o.op = .call { callee := .builtin .append, args := #[s, x], argTypes := #[t, t] })
    {base : Nat} {A : Option Addr} {n c : Nat} {xs : List Value} (hown : Own0 w base e k A n c xs) (h0 : 0 < n) (hs : a.eval s = .slice A n c) (B : Nat) (A' : Option Addr) (m c' : Nat) (news : List Value) (hx : a.eval x = .slice A' m c') (hr : Reads w B k A' m news)
    (h1 : ∀ u ∈ news, u.oneCell' = true) (hn : n + m ≤ 1000000000) (hb : bytes ≤ 1000) (hbase : base ≤ w.heap.size)
    (h : ∀ A2 c2 w', Own0 w' base e k A2 (n + m) c2 (xs ++ news) → w.grownBy w' (Value.slice A n c).ownBlock → wpList P ops Q rest (a.put o.dst (.slice A2 (n + m) c2)) w') : wpList P ops Q (o :: rest) a w := by
  rcases hown with ⟨h2, _⟩ | ⟨_, hown⟩
  · omega
  obtain ⟨ht, i, z, hi, hz, hsz, hby, hzs⟩ := E
  have hmb : (n + m) * bytes ≤ 1000000000 * 1000 := Nat.mul_le_mul hn hb
  refine wpList_append_any w hgd s x t ho base e i z k bytes ht hi hz hsz hby hzs hk (.slice A n c) n xs hs hown B A' m c' news hx hr h1 (by unfold maxLen; omega) (by omega) hbase fun v' w' q1 q2 q3 => ?_
  obtain ⟨A2, c2, rfl⟩ := own_form q1
  exact h A2 c2 w' (.inr ⟨by omega, q1⟩) q2
end
theorem q_size {w w' : World} {n : Nat} {row : Option Nat} (h : (n = 0 ∧ Below w.heap.size w w') ∨ (0 < n ∧ w.grownBy w' row)) : w.heap.size ≤ w'.heap.size := by
  rcases h with ⟨_, h⟩ | ⟨_, h⟩
  · exact h.size
  · exact h.size
theorem own0_more {w : World} {base : Nat} {e : TypeId} {A : Option Addr} {n m c : Nat} {xs : List Value} (h : Own0 w base e 1 A n c xs) (hm : n = m) : Own0 w base e 1 A m c xs := by subst hm; exact h
set_option maxRecDepth 100000 in
set_option maxHeartbeats 2000000 in
theorem insert_any (vl vx : Value) (L : List (List Nat)) (x : List Nat) (hL : L.length ≤ 100000) (w : World) (F : Nat → Prop) (hF : ∀ b, F b → b < w.heap.size) (hl : SlII F w vl (intsL L)) (hx : SlI F w vx (Hit.ints x)) :
    Calls Tryd.prog 52 #[vl, vx] w fun e w' => ∃ A m c, e = .returned (.slice A m c) ∧ m = (Hit.insertF L x).length ∧ SlII (fun b => F b ∨ (w.heap.size ≤ b ∧ b < w'.heap.size)) w' (.slice A m c) (intsL (Hit.insertF L x)) ∧ Below w.heap.size w w' := by
  obtain ⟨A, c, rfl, hlc, _, hat⟩ := hl.open
  obtain ⟨Ax, cx, rfl, _⟩ := id hx.open
  obtain ⟨us, hv, hrd⟩ := SlII.vals hl hF
  have hBf : ∀ W u (y : List Nat), Below w.heap.size w W → SlI F w u (Hit.ints y) → Calls Tryd.prog 40 #[u, .slice Ax (Hit.ints x).length cx] W fun e w' => e = .returned (.bool (Hit.before y x)) ∧ Below W.heap.size W w' :=
    fun W u y hW hu => before_any u _ y x W F F (fun b hb => Nat.lt_of_lt_of_le (hF b hb) hW.size) (fun b hb => Nat.lt_of_lt_of_le (hF b hb) hW.size) (hu.keep (Agree.below hW hF)) (hx.keep (Agree.below hW hF))
  have hll : (intsL L).length = L.length := by simp [intsL]
  rw [hll] at hlc hrd ⊢
  have HAT := Lib.hid hat
  have HBF := Lib.hid hBf
  have HV := Lib.hid hv
  have HRD := Lib.hid hrd
  have HX := Lib.hid hx
  clear hat hBf hv hrd hl hx hll
  go_enter Tryd.func52, Tryd.ntmps52
  go_wp2_with fail
  go_loopg [5] L.length (fun gg s wr => ∃ k : Nat, k ≤ L.length ∧ L.length - k ≤ gg ∧ s = .int .i64 k ∧ Aside (Below w.heap.size w wr) ∧ Aside (∀ i (hi : i < L.length), i < k → Hit.before L[i] x = true))
  case atStart => exact ⟨0, Nat.zero_le _, by omega, rfl, B0 w, fun i _ h => absurd h (by omega)⟩
  case round =>
    obtain ⟨k, hk, hg, rfl, BW, A1⟩ := hrel
    by_cases hgo : ∃ h : k < L.length, Hit.before L[k] x = true
    · obtain ⟨hlt, hbt⟩ := hgo
      have hki : decide ((k : Int) < L.length) = true := decide_eq_true (by omega)
      have hk2 : (k : Int) < L.length := by omega
      obtain ⟨ad, u, rfl, hf, hc, hs⟩ := HAT.out k (by simpa using hlt)
      have hc' := (BW.out.cell (p := ad.add k) (by rw [block_of_add]; exact hF _ hf)).trans hc
      have hcall := HBF.out wr u L[k] BW.out (by simpa using hs)
      have hnext : ∀ i (hi : i < L.length), i < k + 1 → Hit.before L[i] x = true := fun i hi hik => by
        by_cases e : i = k
        · subst e; exact hbt
        · exact A1.out i hi (by omega)
      rw [hbt] at hcall
      have HC := Lib.hid hcall
      have HN := Lib.hid hnext
      clear hc hs hcall hnext hbt
      go_wp2_with (go_at_call 40; (with_reducible refine (HC.out.mono ?_)); rintro e w1 ⟨rfl, hb1⟩; have HB1 := Lib.hid (Bt BW.out hb1); clear hb1)
      go_roundg (L.length - (k + 1))
      case measure => omega
      case rel => exact ⟨k + 1, by omega, by omega, by go_num, HB1.out, HN.out⟩
    · have hins := insertF_at L x k hk A1.out fun h => by
        cases hh : Hit.before L[k] x with
        | true => exact absurd ⟨h, hh⟩ hgo
        | false => rfl
      have HI := Lib.hid hins
      clear hins
      have hq : (decide ((k : Int) < L.length) = false ∧ k = L.length) ∨ (decide ((k : Int) < L.length) = true ∧ ∃ h : k < L.length, Hit.before L[k] x = false) := by
        by_cases hlt : k < L.length
        · refine .inr ⟨decide_eq_true (by omega), hlt, ?_⟩
          cases hh : Hit.before L[k] x with
          | true => exact absurd ⟨hlt, hh⟩ hgo
          | false => rfl
        · exact .inl ⟨decide_eq_false (by omega), by omega⟩
      clear hgo A1
      have hkc : (k : Int) ≤ c := by omega
      have hkn : (k : Int) ≤ L.length := by omega
      rcases hq with ⟨d1, hkl⟩ | ⟨d1, hlt, hbf⟩
      case' inl =>
        have d1n : decide (k < L.length) = false := decide_eq_false (by omega)
        have hge : L.length ≤ k := by omega
        have HKL := Lib.hid hkl
        clear hkl
        obtain ⟨w1, rfl⟩ : ∃ w1 : World, w1 = wr := ⟨_, rfl⟩
        have HB1 := Lib.hid BW.out
        rcases Nat.eq_zero_or_pos c with rfl | hcp
        all_goals
          go_upto_region 4 with fail
          clear hge d1n d1
      case' inr =>
        have hk2 : (k : Int) < L.length := by omega
        obtain ⟨ad, u, rfl, hf, hc, hs⟩ := HAT.out k (by simpa using hlt)
        have hc' := (BW.out.cell (p := ad.add k) (by rw [block_of_add]; exact hF _ hf)).trans hc
        have hcall := HBF.out wr u L[k] BW.out (by simpa using hs)
        rw [hbf] at hcall
        have HC := Lib.hid hcall
        clear hc hs hcall hbf
        go_upto_region 4 with (go_at_call 40; (with_reducible refine (HC.out.mono ?_)); rintro e w1 ⟨rfl, hb1⟩; have HB1 := Lib.hid (Bt BW.out hb1); clear hb1)
        clear hc' HC hf hlt hk2 BW
      all_goals
        have hrt : ∀ W, Below w.heap.size w W → Reads W w.heap.size 1 _ k (us.take k) := fun W hW => by have := (HRD.out.take hk).below hW; rwa [Nat.mul_one] at this
        have hrc : ∀ W, Below w.heap.size w W → Reads W w.heap.size 1 _ (L.length - k) (us.drop k) := fun W hW => by have := (HRD.out.cut hk hlc).below hW; rwa [Nat.mul_one] at this
        have hra : k = 0 → ∀ W, Below w.heap.size w W → Reads W w.heap.size 1 _ (L.length - k) (us.drop k) := fun h W hW => by subst h; exact HRD.out.below hW
        have HRA := Lib.hid hra
        have h1t : ∀ u ∈ us.take k, u.oneCell' = true := fun u hu => HV.out.cell1 u (List.mem_of_mem_take hu)
        have h1d : ∀ u ∈ us.drop k, u.oneCell' = true := fun u hu => HV.out.cell1 u (List.mem_of_mem_drop hu)
        have HRT := Lib.hid hrt
        have HRC := Lib.hid hrc
        have H1T := Lib.hid h1t
        have H1D := Lib.hid h1d
        clear hrt hrc h1t h1d hra
        go_wp2_with (first
          | (at_builtin; refine wpList_copy elemS (by omega) rfl _ _ rfl (some ⟨w1.heap.size, 0, none⟩) rfl w.heap.size _ k _ (us.take k) rfl (HRT.out _ (Ba HB1.out _)) H1T.out (by omega) (by omega) ?_; intro A2 c2 w2 hb2 hO2; have HB2 := Lib.hid (Bt (Ba HB1.out _) hb2); have hs2 := hb2.size; have HO2 := Lib.hid hO2; clear hb2 hO2)
          | (at_builtin; refine wpList_app0 elemS rfl _ _ rfl (Own0.alloc HO2.out _) rfl w2.heap.size (.slice Ax (Hit.ints x).length cx) rfl (by simp) rfl (by omega) (by omega) (by simp at hs2 ⊢; omega) ?_; intro A3 c3 w3 q1 q2; have hs3 := q_size q2; have HO3 := Lib.hid q1; have HB3 := Lib.hid (Bg0 (Ba HB2.out _) (Own0.alloc HO2.out _) (by have := HB1.out.size; simp; omega) q2); clear q1 q2)
          | (at_builtin; have _t := HO3; refine wpList_appM elemS (by omega) rfl _ _ rfl HO3.out (by omega) rfl w.heap.size _ (L.length - k) _ (us.drop k) rfl (by first | exact HRC.out _ HB3.out | exact HRA.out (by omega) _ HB3.out) H1D.out (by omega) (by omega) ?_ ?_; (simp at hs2 hs3 ⊢; omega); intro A4 c4 w4 q1 q2; have HO4 := Lib.hid q1; have HB4 := Lib.hid (Bg0 HB3.out HO3.out (by have := HB1.out.size; simp; omega) (.inr ⟨by omega, q2⟩)); clear q1 q2))
        all_goals
          have HM := Lib.hid ((HV.out.keep (Agree.below HB4.out hF) (G := fun b => F b ∨ (w.heap.size ≤ b ∧ b < w4.heap.size)) fun _ h => .inl h))
          have HX4 := Lib.hid ((HX.out.keep (Agree.below HB4.out hF)).mono (G := fun b => F b ∨ (w.heap.size ≤ b ∧ b < w4.heap.size)) fun _ h => .inl h)
          go_ret
          refine ⟨A4, _, c4, rfl, ?_, ?_, HB4.out⟩
          · rw [HI.out]; simp; omega
          · have hvv := ((HM.out.take k).append (Vals.one HX4.out)).append (HM.out.drop k)
            have e : List.take k (intsL L) ++ [Hit.ints x] ++ List.drop k (intsL L) = intsL (Hit.insertF L x) := by rw [HI.out]; simp [intsL]
            rw [e] at hvv
            refine hvv.sl HO4.out ?_ ?_ fun b q1 q2 => .inr ⟨?_, q2⟩
            · rw [HI.out]; simp [intsL]; omega
            · rw [HI.out]; simp [intsL]; omega
            · have := HB1.out.size; simp at q1; omega
end Go.Proofs.YtiochodepgldpaaDoor
