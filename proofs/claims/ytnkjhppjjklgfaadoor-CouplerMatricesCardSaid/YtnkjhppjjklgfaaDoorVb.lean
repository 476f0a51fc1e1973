/- Walks over slices at contacts: DeleteFunc. -/
import Derived.Test.YtnkjhppjjklgfaaDoorVa
import Derived.Test.YtnkjhppjjklgfaaDoorKi
import Derived.Lib.SliceRun
namespace Go.Proofs.YtnkjhppjjklgfaaDoor
open Go Go.RowKit Go.Shelf
theorem flatten_get {k : Nat} : ∀ {cs : List (List Value)} {i j : Nat} (_ : ∀ c ∈ cs, c.length = k) (hi : i < cs.length) (_ : j < k), cs.flatten[i * k + j]? = cs[i][j]?
  | [], _, _, _, hi, _ => absurd hi (by simp)
  | c :: r, 0, j, h, _, hj => by
    have := h c (by simp)
    simp only [List.flatten_cons, List.getElem_cons_zero, Nat.zero_mul, Nat.zero_add]
    rw [List.getElem?_append_left (by omega)]
  | c :: r, i + 1, j, h, hi, hj => by
    have hc := h c (by simp)
    have ih := flatten_get (cs := r) (i := i) (j := j) (fun x hx => h x (by simp [hx])) (by simpa using hi) hj
    simp only [List.flatten_cons, List.getElem_cons_succ]
    rw [List.getElem?_append_right (by rw [hc, Nat.add_mul]; omega), show (i + 1) * k + j - c.length = i * k + j by rw [hc, Nat.add_mul]; omega, ih]
/-- A row of contacts in a block. -/
def RowK (w : World) (g : Nat) (R : List Cou.Ct) : Prop := ∃ cur : Array Value, Blk w g 28 cur ∧ ∀ i (h : i < R.length), cur[i * 2]? = some (.int .i64 R[i].1) ∧ cur[i * 2 + 1]? = some (.int .i64 R[i].2)
theorem RowK.below {w w' : World} {g : Nat} {R : List Cou.Ct} (h : RowK w g R) (hb : Below w.heap.size w w') : RowK w' g R := by
  obtain ⟨cur, h1, h2⟩ := h
  exact ⟨cur, h1.below hb h1.lt, h2⟩
theorem RowK.lt {w : World} {g : Nat} {R : List Cou.Ct} (h : RowK w g R) : g < w.heap.size := by
  obtain ⟨cur, h1, _⟩ := h
  exact h1.lt
theorem RowK.cell {w : World} {g : Nat} {R : List Cou.Ct} (h : RowK w g R) {i : Nat} (hi : i < R.length) : w.cell? ⟨g, i * 2, none⟩ = some (.int .i64 R[i].1) ∧ w.cell? ⟨g, i * 2 + 1, none⟩ = some (.int .i64 R[i].2) := by
  obtain ⟨cur, h1, h2⟩ := h
  exact ⟨(h1.cell _).trans (h2 i hi).1, (h1.cell _).trans (h2 i hi).2⟩
theorem RowK.frozen {w : World} {g : Nat} {R : List Cou.Ct} (h : RowK w g R) (i : Nat) : w.frozen? ⟨g, i, none⟩ = false := by
  obtain ⟨cur, h1, _⟩ := h
  exact h1.frozen i
theorem RowK.set {w : World} {g : Nat} {R : List Cou.Ct} (h : RowK w g R) {i : Nat} (hi : i < R.length) (c : Cou.Ct) : RowK ((w.setCell ⟨g, i * 2, none⟩ (.int .i64 c.1)).setCell ⟨g, i * 2 + 1, none⟩ (.int .i64 c.2)) g (R.set i c) := by
  obtain ⟨cur, h1, h2⟩ := h
  refine ⟨_, (h1.set_ (i * 2) _).set_ (i * 2 + 1) _, fun j hj => ?_⟩
  rw [List.length_set] at hj
  have hb : ∀ q, q < R.length → q * 2 + 1 < cur.size := fun q hq => by
    have := (h2 q hq).2
    exact (Array.getElem?_eq_some_iff.1 this).1
  have hbi := hb i hi
  by_cases e : i = j
  · subst e
    rw [List.getElem_set_self]
    refine ⟨?_, ?_⟩
    · rw [Array.getElem?_setIfInBounds_ne (by omega), Array.getElem?_setIfInBounds_self_of_lt (by omega)]
    · rw [Array.getElem?_setIfInBounds_self_of_lt (by simpa using hbi)]
  · rw [List.getElem_set_ne e]
    refine ⟨?_, ?_⟩
    · rw [Array.getElem?_setIfInBounds_ne (by omega), Array.getElem?_setIfInBounds_ne (by omega)]
      exact (h2 j hj).1
    · rw [Array.getElem?_setIfInBounds_ne (by omega), Array.getElem?_setIfInBounds_ne (by omega)]
      exact (h2 j hj).2
theorem OwnL.rowK {base : Nat} {w : World} {v : Value} {l : List Cou.Ct} (h : OwnL base 28 2 CtC w v l) (hl : 0 < l.length) : ∃ g cap, v = .slice (some ⟨g, 0, none⟩) l.length cap ∧ l.length ≤ cap ∧ cap ≤ maxLen ∧ base ≤ g ∧ RowK w g l := by
  obtain ⟨cs, h1, h2, h3⟩ := h
  rcases h3.2 with ⟨_, h0⟩ | ⟨g, cap, cur, hv, hb, hh, hc1, hc2, hc3, hc4⟩
  · omega
  · have hall : ∀ c ∈ cs, c.length = 2 := fun c hc => by
      obtain ⟨j, hj, rfl⟩ := List.getElem_of_mem hc
      obtain ⟨c', e, hl, _⟩ := h2 j (by omega)
      rw [List.getElem?_eq_getElem hj] at e
      injection e with e
      subst e
      exact hl
    refine ⟨g, cap, hv, hc1, hc2, hb, cur, hh, fun i hi => ?_⟩
    obtain ⟨c, e, hl2, hr⟩ := h2 i hi
    unfold CtC at hr
    have hic : i < cs.length := by omega
    rw [List.getElem?_eq_getElem hic] at e
    injection e with e
    have hg : ∀ j, j < 2 → cur[i * 2 + j]? = [Value.int .i64 l[i].1, Value.int .i64 l[i].2][j]? := fun j hj => by
      have := flatten_get (k := 2) hall hic hj
      rw [← hc4, List.getElem?_take, if_pos (show i * 2 + j < l.length * 2 by omega), Array.getElem?_toList, e, hr] at this
      exact this
    exact ⟨hg 0 (by omega), hg 1 (by omega)⟩
theorem setCells_grown (g : Nat) : ∀ (vs : List Value) (o : Nat) (a w : World), a.grownBy w (some g) → a.grownBy (w.setCells g o vs) (some g)
  | [], _, _, _, h => h
  | v :: r, o, a, _, h => setCells_grown g r (o + 1) a _ (only_setCell h (.inl rfl) v)
theorem setCells_blk (g : Nat) (t : TypeId) : ∀ (vs : List Value) (o : Nat) (w : World) (cur : Array Value), Blk w g t cur → ∃ cur', Blk (w.setCells g o vs) g t cur' ∧ ∀ p, p < o → cur'[p]? = cur[p]?
  | [], _, _, cur, h => ⟨cur, h, fun _ _ => rfl⟩
  | v :: r, o, w, cur, h => by
    obtain ⟨cur', h1, h2⟩ := setCells_blk g t r (o + 1) (w.setCell ⟨g, o, none⟩ v) _ (h.set_ o v)
    refine ⟨cur', h1, fun p hp => ?_⟩
    rw [h2 p (by omega), Array.getElem?_setIfInBounds_ne (by omega)]
theorem run_clear_ct (w : World) (ty : TypeId) (g o n c : Nat) (hn : 0 < n) (hc : ∀ j, j < n * 2 → (w.cell? ⟨g, o + j, none⟩).isSome = true) (hf : ∀ j, w.frozen? ⟨g, j, none⟩ = false) :
    (Builtin.clear_ #[36] ty #[.slice (some ⟨g, o, none⟩) n c]).run Tryd.prog w = .ok (.tuple #[]) (w.setCells g o (List.replicate (n * 2) (.int .i64 0))) := by
  have hzc : (Builtin.zeroCells (Value.agg #[.int .i64 0, .int .i64 0]).cells n).toList = List.replicate (n * 2) (.int .i64 0) := by
    refine List.ext_getElem? fun i => ?_
    by_cases hi : i < n * 2
    · rw [List.getElem?_replicate, if_pos hi]
      have hm : i % 2 = 0 ∨ i % 2 = 1 := by omega
      rcases hm with e | e <;> simp [Builtin.zeroCells, Value.cells, hi, e]
    · rw [List.getElem?_eq_none (by simp [Builtin.zeroCells, Value.cells]; omega), List.getElem?_eq_none (by simp; omega)]
  have hst := run_storeCells_cells (P := Tryd.prog) g o (List.replicate (n * 2) (.int .i64 0)) 0 w (by simpa using hc) (by simpa using fun j _ => hf (o + j)) (by intro v hv'; rw [List.eq_of_mem_replicate hv']; rfl)
  simp only [Nat.add_zero] at hst
  obtain ⟨m, rfl⟩ : ∃ m, n = m + 1 := ⟨n - 1, by omega⟩
  simp [Builtin.clear_, run_underlying Tryd.underlying36, hzc, hst]
/-- The elements that stay, one more. -/
theorem filter_take {p : Cou.Ct → Bool} {l : List Cou.Ct} {j : Nat} (hj : j < l.length) : (l.take (j + 1)).filter (fun c => !p c) = if p l[j] = true then (l.take j).filter (fun c => !p c) else (l.take j).filter (fun c => !p c) ++ [l[j]] := by
  rw [List.take_add_one, List.getElem?_eq_getElem hj, List.filter_append]
  by_cases h : p l[j] = true
  · rw [if_pos h]; simp [h]
  · rw [if_neg h]; simp [h]
set_option maxRecDepth 100000 in
set_option maxHeartbeats 4000000 in
theorem deletef_ct (p : Cou.Ct → Bool) (l : List Cou.Ct) (hl : l.length ≤ 1000000) (gf : Nat) (lb : Array Value) (eg : ∀ args w, (callFunc gf args).run Tryd.prog w = .ok (.enter gf args) w) (base : Nat) (v : Value) (w : World) (hO : OwnL base 28 2 CtC w v l) (hp : PredX p gf lb l fun W => w.grownBy W v.ownBlock) :
    Calls Tryd.prog 42 #[v, .func (.func gf) #[] lb] w fun e w' => ∃ v', e = .returned v' ∧ SlCt (fun b => base ≤ b ∧ b < w'.heap.size) w' v' (l.filter fun c => !p c) ∧ w.grownBy w' v.ownBlock := by
  have hsl : SlCt (fun b => b < w.heap.size) w v l := hO.sl (by omega) (fun b _ q _ => q)
  have HIX := Lib.hid (indexf_ct p v l gf lb eg w _ (fun _ h => h) hsl fun W x hx hb => hp W x hx (only_of_below hb _))
  obtain ⟨A, c, rfl, _, _, _⟩ := id hsl
  obtain ⟨n, hn⟩ : ∃ n, l.length = n := ⟨_, rfl⟩
  have HN := Lib.hid hn
  have HO := Lib.hid hO
  have HP := Lib.hid hp
  rw [hn] at hl HIX ⊢
  clear hO hp hsl hn
  go_enter Tryd.func42, Tryd.ntmps42
  go_upto_region 2 with (go_at_call 63; (with_reducible refine (HIX.out.mono ?_)); rintro e w2 ⟨r, rfl, hr, hb2⟩; have HB2 := Lib.hid hb2; clear hb2)
  rcases hr with ⟨rfl, hall⟩ | ⟨k0, hk0, rfl, hk1, hk2⟩
  · have HZ : Hid (l.filter (fun c => !p c) = l) := Lib.hid (List.filter_eq_self.2 fun x hx => by rw [hall x hx]; rfl)
    clear hall
    go_wp2
    go_ret
    refine ⟨_, rfl, ?_, only_of_below HB2.out _⟩
    rw [HZ.out]
    have h9 := (HO.out.keep (R' := CtC) (w' := w2) rfl (fun xs hx => hx.kept (row := none) (only_of_below HB2.out none) (by cases hv : (Value.slice A l.length c).ownBlock <;> simp)) (fun _ _ h => h)).sl (F := fun b => base ≤ b ∧ b < w2.heap.size) (by rw [HN.out]; omega) (fun b q1 q2 _ => ⟨q1, q2⟩)
    rw [HN.out] at h9
    exact h9
  · obtain ⟨g, cap, e, hcap, hcm, hbg, hR⟩ := HO.out.rowK (by omega)
    rw [HN.out] at e hcap
    injection e with e1 e2 e3
    subst e1
    subst e3
    have hne : ((k0 : Int) == -1) = false := by simp
    have hkn : k0 < n := by have := HN.out; omega
    have hs0 : l.take k0 = (l.take (k0 + 1)).filter (fun c => !p c) := by
      rw [filter_take hk0, if_pos hk1]
      refine (List.filter_eq_self.2 fun x hx => ?_).symm
      rw [List.mem_take_iff_getElem] at hx
      obtain ⟨j, hj, rfl⟩ := hx
      rw [hk2 j (by omega)]
      rfl
    have HP2 := Lib.hid (fun (W : World) (x : Cou.Ct) (hx : x ∈ l) (hW : w.grownBy W (some g)) => HP.out W x hx hW)
    have HR2 := Lib.hid (hR.below HB2.out)
    have HG2 : Hid (w.grownBy w2 (some g)) := Lib.hid (only_of_below HB2.out _)
    have HS0 := Lib.hid hs0
    have hcI : (n : Int) ≤ c := by omega
    clear hs0 hk1 hk2 hR HP HIX
    go_wp2
    go_loopw [5, 6] (fun s5 s6 wr => ∃ (i j : Nat) (R : List Cou.Ct), s5 = .int .i64 i ∧ s6 = .int .i64 j ∧ i < j ∧ j ≤ n ∧ Aside (RowK wr g R) ∧ Aside (R.length = n) ∧ Aside (R.take i = (l.take j).filter fun c => !p c) ∧ Aside (R.drop j = l.drop j) ∧ Aside (w.grownBy wr (some g))) (fun _ s6 _ => n - (intOf s6).toNat)
    case atStart => exact ⟨k0, k0 + 1, l, rfl, by go_num, by omega, by omega, HR2.out, HN.out, HS0.out, rfl, HG2.out⟩
    case round =>
      clear HR2 HG2 HS0
      obtain ⟨i, j, R, rfl, rfl, hij, hj, hR, hRl, hT, hD, hG⟩ := hrel
      replace hR : RowK wr g R := hR
      replace hRl : R.length = n := hRl
      replace hT : R.take i = (l.take j).filter fun c => !p c := hT
      replace hD : R.drop j = l.drop j := hD
      replace hG : w.grownBy wr (some g) := hG
      by_cases hlt : j < n
      · have hjI : (j : Int) < n := by omega
        have hiI : (i : Int) < n := by omega
        have hjR : j < R.length := by omega
        have hjl : j < l.length := by have := HN.out; omega
        have hiR : i < R.length := by omega
        have hRj : R[j] = l[j] := by
          have h1 : (R.drop j)[0]? = (l.drop j)[0]? := by rw [hD]
          rw [List.getElem?_drop, List.getElem?_drop, Nat.add_zero, List.getElem?_eq_getElem hjR, List.getElem?_eq_getElem hjl] at h1
          injection h1
        have hft := filter_take (p := p) hjl
        obtain ⟨f0, f1⟩ := hR.cell hjR
        rw [hRj] at f0 f1
        obtain ⟨g0, g1⟩ := hR.cell hiR
        have hfz := hR.frozen
        have hmem := List.getElem_mem hjl
        have hDn : R.drop (j + 1) = l.drop (j + 1) := by
          have := congrArg (List.drop 1) hD
          rwa [List.drop_drop, List.drop_drop] at this
        have hpx := fun W hW => HP2.out W l[j] hmem hW
        have HPX := Lib.hid hpx
        have HR := Lib.hid hR
        have HT := Lib.hid hT
        have HFT := Lib.hid hft
        have HDN := Lib.hid hDn
        have HG := Lib.hid hG
        have HRL := Lib.hid hRl
        have HLJ : Hid (∀ R' : List Cou.Ct, R' = R.set i l[j] → R'.take (i + 1) = R.take i ++ [l[j]] ∧ R'.drop (j + 1) = R.drop (j + 1)) := Lib.hid fun R' e => by
          subst e
          refine ⟨?_, ?_⟩
          · rw [List.take_add_one, List.getElem?_set_self hiR, List.take_set_of_le (by omega)]
            rfl
          · rw [List.drop_set_of_lt (by omega)]
        generalize hold0 : R[i].1 = o0 at g0
        generalize hold1 : R[i].2 = o1 at g1
        clear hR hT hD hG hft hDn hpx hmem hRj hold0 hold1
        obtain ⟨lx, hlx⟩ : ∃ lx, l[j] = lx := ⟨_, rfl⟩
        rw [hlx] at f0 f1 HPX HFT HLJ
        clear hlx hjl
        obtain ⟨x1, x2⟩ := lx
        dsimp only at f0 f1
        unfold ctV at HPX
        dsimp only at HPX
        go_upto_region 8 with fail
        obtain ⟨w3, hw3⟩ : ∃ w3 : World, wr.alloc (.cells #[.int .i64 x1, .int .i64 x2] 28) = w3 := ⟨_, rfl⟩
        obtain ⟨bx, hbx⟩ : ∃ bx, wr.heap.size = bx := ⟨_, rfl⟩
        have C3 : Blk w3 bx 28 #[.int .i64 x1, .int .i64 x2] := by rw [← hw3, ← hbx]; exact Blk.new _ _ _
        have B3 : Below wr.heap.size wr w3 := by rw [← hw3]; exact Ba (B0 wr) _
        have G3 : w.grownBy w3 (some g) := by rw [← hw3]; exact only_alloc HG.out _
        rw [hw3, hbx]
        have c0 := C3.cell 0
        have c1 := C3.cell 1
        simp only [List.getElem?_toArray, List.getElem?_cons_zero, List.getElem?_cons_succ] at c0 c1
        have HC3 := Lib.hid C3
        have HB3 := Lib.hid B3
        have HG3 := Lib.hid G3
        have hbx2 : bx ≠ g := by have := HR.out.lt; omega
        clear C3 B3 G3 hw3 hbx f0 f1
        have hcall := HPX.out w3 HG3.out
        cases hq : p (x1, x2) with
        | true =>
          rw [hq] at hcall HFT
          have HCL := Lib.hid hcall
          have HF2 : Hid ((l.take (j + 1)).filter (fun c => !p c) = (l.take j).filter fun c => !p c) := Lib.hid (by rw [HFT.out, if_pos rfl])
          clear hcall hq g0 g1 hfz
          go_wp2_with (go_at_fn gf; refine HCL.out.mono ?_; rintro e w5 ⟨rfl, hb5⟩; have HB5 := Lib.hid hb5; clear hb5)
          go_roundw
          case rel =>
            refine ⟨i, j + 1, R, rfl, by go_num, by omega, by omega, (HR.out.below HB3.out).below HB5.out, HRL.out, ?_, HDN.out, ?_⟩
            · show _ = _
              rw [HF2.out]; exact HT.out
            · exact ⟨HB5.out.os.trans HG3.out.os, HB5.out.tape.trans HG3.out.tape, HB5.out.output.trans HG3.out.output, Nat.le_trans HG3.out.size HB5.out.size, fun q h1 h2 => (HB5.out.block q (Nat.lt_of_lt_of_le h1 HG3.out.size)).trans (HG3.out.block q h1 h2)⟩
          case measure => simp [intOf]; omega
        | false =>
          rw [hq] at hcall HFT
          have HCL := Lib.hid hcall
          have HF2 : Hid ((l.take (j + 1)).filter (fun c => !p c) = (l.take j).filter (fun c => !p c) ++ [(x1, x2)]) := Lib.hid (by rw [HFT.out, if_neg (by decide)])
          clear hcall hq g0 g1 hfz
          go_wp2_with (go_at_fn gf; refine HCL.out.mono ?_; rintro e w5 ⟨rfl, hb5⟩; have HB5 := Lib.hid hb5; have hR5 := (HR.out.below HB3.out).below hb5; obtain ⟨g0, g1⟩ := hR5.cell hiR; have hfz := hR5.frozen; have HR5 := Lib.hid hR5; have C5 := HC3.out.below hb5 HC3.out.lt; have d0 := C5.cell 0; have d1 := C5.cell 1; simp only [List.getElem?_toArray, List.getElem?_cons_zero, List.getElem?_cons_succ] at d0 d1; clear hb5 hR5 C5)
          go_roundw
          case rel =>
            have hG5 : w.grownBy w5 (some g) := ⟨HB5.out.os.trans HG3.out.os, HB5.out.tape.trans HG3.out.tape, HB5.out.output.trans HG3.out.output, Nat.le_trans HG3.out.size HB5.out.size, fun q h1 h2 => (HB5.out.block q (Nat.lt_of_lt_of_le h1 HG3.out.size)).trans (HG3.out.block q h1 h2)⟩
            obtain ⟨t1, t2⟩ := HLJ.out _ rfl
            refine ⟨i + 1, j + 1, R.set i (x1, x2), by go_num, by go_num, by omega, by omega, HR5.out.set hiR (x1, x2), by show _ = _; rw [List.length_set]; exact HRL.out, ?_, ?_, ?_⟩
            · show _ = _
              rw [t1, HF2.out, HT.out]
            · show _ = _
              rw [t2]; exact HDN.out
            · exact only_setCell (only_setCell hG5 (.inl rfl) _) (.inl rfl) _
          case measure => simp [intOf]; omega
      · obtain rfl : j = n := by omega
        have hTl : R.take i = l.filter fun c => !p c := by rw [hT, List.take_of_length_le (by rw [HN.out]; omega)]
        obtain ⟨cur, hB, hcc⟩ := id hR
        have hcl : ∀ ty, (Builtin.clear_ #[36] ty #[.slice (some ⟨g, i * 2, none⟩) (j - i) (c - i)]).run Tryd.prog wr = .ok (.tuple #[]) (wr.setCells g (i * 2) (List.replicate ((j - i) * 2) (.int .i64 0))) := fun ty =>
          run_clear_ct wr ty g (i * 2) (j - i) (c - i) (by omega) (fun q hq => by
            have hqR : (i * 2 + q) / 2 < R.length := by omega
            obtain ⟨u0, u1⟩ := hR.cell hqR
            have hm : i * 2 + q = (i * 2 + q) / 2 * 2 ∨ i * 2 + q = (i * 2 + q) / 2 * 2 + 1 := by omega
            rcases hm with e | e
            · rw [e, u0]; rfl
            · rw [e, u1]; rfl) hR.frozen
        have HCC := Lib.hid hcc
        have HB := Lib.hid hB
        have HG := Lib.hid hG
        have HTL := Lib.hid hTl
        have HRL := Lib.hid hRl
        clear hR hRl hT hD hG hTl hB hcc
        go_wp2
        go_ret
        refine ⟨.slice (some ⟨g, 0, none⟩) i c, rfl, ?_, setCells_grown g _ _ _ _ HG.out⟩
        rw [← HTL.out]
        obtain ⟨cur', h1, h2⟩ := setCells_blk g _ (List.replicate ((j - i) * 2) (.int .i64 0)) (i * 2) wr cur HB.out
        have hlt2 : (R.take i).length = i := by rw [List.length_take, HRL.out]; omega
        refine ⟨some ⟨g, 0, none⟩, c, by rw [hlt2], by rw [hlt2]; omega, by rw [hlt2]; omega, fun q hq => ?_⟩
        have hqi : q < i := by rw [hlt2] at hq; exact hq
        have hqR : q < R.length := by rw [HRL.out]; omega
        obtain ⟨u0, u1⟩ := HCC.out q hqR
        refine ⟨⟨g, 0, none⟩, [.int .i64 R[q].1, .int .i64 R[q].2], rfl, ⟨hbg, h1.lt⟩, rfl, ?_, ?_⟩
        · unfold CtC
          rw [List.getElem_take]
        · have e : (⟨g, 0, none⟩ : Addr).add (q * 2) = ⟨g, q * 2, none⟩ := by
            unfold Addr.add
            split
            · rename_i w0; rw [w0]
            · simp
          rw [e]
          intro k u hu
          have hk : k = 0 ∨ k = 1 := by
            have := (List.getElem?_eq_some_iff.1 hu).1
            simp at this
            omega
          rcases hk with rfl | rfl
          · simp at hu
            subst hu
            simpa [Addr.add] using (h1.cell (q * 2)).trans ((h2 _ (by omega)).trans u0)
          · simp at hu
            subst hu
            simpa [Addr.add] using (h1.cell (q * 2 + 1)).trans ((h2 _ (by omega)).trans u1)
end Go.Proofs.YtnkjhppjjklgfaaDoor
