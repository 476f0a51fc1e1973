/- Walks over slices at chains: IndexFunc, DeleteFunc. -/
import Derived.Test.YtahlfndlkfoikaaDoorQ1
import Derived.Lib.SliceRun
import Derived.Laws.IdiomCopy
namespace Go.Proofs.YtahlfndlkfoikaaDoor
open Go Go.RowKit Go.Shelf
/-- A chain with the slice of its couplers. -/
abbrev Zc := (Option Addr × Nat × Nat) × Cha.Ch
def zCs (x : Zc) : List Value := [.slice x.1.1 x.1.2.1 x.1.2.2, .int .i64 x.2.2.1, .int .i64 x.2.2.2]
def zV (x : Zc) : Value := .agg #[.slice x.1.1 x.1.2.1 x.1.2.2, .int .i64 x.2.2.1, .int .i64 x.2.2.2]
def ZC (_ : World) (cs : List Value) (x : Zc) : Prop := cs = zCs x
abbrev SlZ (F : Nat → Prop) (w : World) (v : Value) (l : List Zc) : Prop := Sl F 3 ZC w v l
abbrev SlCh (F : Nat → Prop) (w : World) (v : Value) (l : List Cha.Ch) : Prop := Sl F 3 ChC w v l
theorem slZ_open {F : Nat → Prop} {w : World} {v : Value} {l : List Zc} (h : SlZ F w v l) : ∃ A c, v = .slice A l.length c ∧ l.length ≤ c ∧ l.length ≤ 140737488355328 ∧
    ∀ i (hi : i < l.length), ∃ ad, A = some ad ∧ F ad.block ∧ Flds w (ad.add (i * 3)) (zCs l[i]) := by
  obtain ⟨A, c, hv, hc, hl, hi⟩ := h
  refine ⟨A, c, hv, hc, hl, fun i hil => ?_⟩
  obtain ⟨ad, cs, h1, h2, h3, h4, h5⟩ := hi i hil
  unfold ZC at h4
  subst h4
  exact ⟨ad, h1, h2, h5⟩
/-- The chains of a row, with the slices of their couplers. -/
theorem ownCh_z {base : Nat} {w : World} {v : Value} {L : List Cha.Ch} (h : OwnCh base w v L) : ∃ Z : List Zc, Z.map (·.2) = L ∧ OwnL base 56 3 ZC w v Z ∧ ∀ z ∈ Z, SlI (IsC w) w (.slice z.1.1 z.1.2.1 z.1.2.2) z.2.1 := by
  obtain ⟨cs, h1, h2, h3⟩ := h
  have hz : ∀ i : Fin L.length, ∃ z : Option Addr × Nat × Nat, cs[i.val]? = some (zCs (z, L[i])) ∧ SlI (IsC w) w (.slice z.1 z.2.1 z.2.2) L[i].1 := fun i => by
    obtain ⟨c, e, _, u, hu, hs⟩ := h2 i.val i.isLt
    obtain ⟨A, cc, rfl, _⟩ := SlI.open hs
    exact ⟨(A, L[i].1.length, cc), by rw [e, hu]; rfl, hs⟩
  let Z : List Zc := List.ofFn fun i : Fin L.length => ((hz i).choose, L[i])
  have hlen : Z.length = L.length := by simp [Z]
  have hget : ∀ i (hi : i < Z.length), Z[i] = ((hz ⟨i, by omega⟩).choose, L[i]'(by omega)) := fun i hi => by simp [Z]
  refine ⟨Z, ?_, ⟨cs, by rw [h1, hlen], fun i hi => ?_, by rw [hlen]; exact h3⟩, fun z hz' => ?_⟩
  · refine List.ext_getElem (by simp [hlen]) fun i hi hi' => ?_
    rw [List.getElem_map, hget]
  · refine ⟨zCs Z[i], ?_, rfl, rfl⟩
    rw [hget]
    exact (hz ⟨i, by omega⟩).choose_spec.1
  · obtain ⟨i, hi, rfl⟩ := List.getElem_of_mem hz'
    rw [hget]
    exact (hz ⟨i, by omega⟩).choose_spec.2
/-- What a predicate handed to the library says, in whatever world X allows. -/
def PredH (p : Cou.Ct → Bool) (g : Nat) (lb : Array Value) (l : List Zc) (X : World → Prop) : Prop :=
  ∀ (W : World) (x : Zc), x ∈ l → X W → Calls Tryd.prog g (#[zV x] ++ lb) W fun e w' => e = .returned (.bool (p x.2.2)) ∧ Below W.heap.size W w'
/-- The first one that a predicate takes. -/
def FstH (p : Cou.Ct → Bool) (l : List Zc) (r : Int) : Prop := (r = -1 ∧ ∀ x ∈ l, p x.2.2 = false) ∨ ∃ k : Nat, ∃ h : k < l.length, r = k ∧ p l[k].2.2 = true ∧ ∀ j (_ : j < k), p (l[j]'(by omega)).2.2 = false
set_option maxRecDepth 100000 in
set_option maxHeartbeats 1000000 in
theorem indexf_ch (p : Cou.Ct → Bool) (v : Value) (l : List Zc) (g : Nat) (lb : Array Value) (eg : ∀ args w, (callFunc g args).run Tryd.prog w = .ok (.enter g args) w) (w : World) (F : Nat → Prop) (hF : ∀ b, F b → b < w.heap.size)
    (hr : SlZ F w v l) (hp : PredH p g lb l fun W => Below w.heap.size w W) :
    Calls Tryd.prog 74 #[v, .func (.func g) #[] lb] w fun e w' => ∃ r, e = .returned (.int .i64 r) ∧ FstH p l r ∧ Below w.heap.size w w' := by
  obtain ⟨A, c, rfl, hlc, hlen, hat⟩ := slZ_open hr
  obtain ⟨n, hn⟩ : ∃ n, l.length = n := ⟨_, rfl⟩
  have HN := Lib.hid hn
  have HAT := Lib.hid hat
  have HP := Lib.hid hp
  rw [hn] at hlen hlc ⊢
  clear hr hat hp hn
  go_enter Tryd.func74, Tryd.ntmps74
  go_wp2_with fail
  go_loopw [8] (fun s wr => ∃ k : Nat, k ≤ n ∧ s = .int .i64 k ∧ Aside (∀ j (h : j < l.length), j < k → p l[j].2.2 = false) ∧ Aside (Below w.heap.size w wr)) (fun s _ => n - (intOf s).toNat)
  case atStart => exact ⟨0, by omega, rfl, (fun j _ h => absurd h (by omega)), B0 w⟩
  case round =>
    obtain ⟨k, hk, rfl, hA, hB⟩ := hrel
    replace hA : ∀ j (h : j < l.length), j < k → p l[j].2.2 = false := hA
    replace hB : Below w.heap.size w wr := hB
    by_cases hlt : k < n
    · have hkl : (k : Int) < n := by omega
      have hkl1 : k < l.length := by rw [HN.out]; exact hlt
      obtain ⟨ad, rfl, hfb, hfl⟩ := HAT.out k hkl1
      have hfb2 : (ad.add (k * 3)).block < w.heap.size := by rw [block_of_add]; exact hF _ hfb
      have hfl2 := hfl.below hB hfb2
      have f0 := hfl2.f0 rfl
      have f1 := hfl2.f1 rfl
      have f2 := hfl2.f2 rfl
      have hcall := HP.out wr l[k] (List.getElem_mem hkl1) hB
      unfold zV at hcall
      have HA := Lib.hid hA
      have HB := Lib.hid hB
      cases hq : p l[k].2.2 with
      | true =>
        rw [hq] at hcall
        have HC := Lib.hid hcall
        have HQ := Lib.hid hq
        clear hcall hq hA hB hfl hfl2
        go_wp2_with (go_at_fn g; refine HC.out.mono ?_; rintro e w' ⟨rfl, hb⟩)
        go_ret
        exact ⟨k, rfl, .inr ⟨k, hkl1, rfl, HQ.out, fun j hj => HA.out j (by omega) hj⟩, Bt HB.out hb⟩
      | false =>
        rw [hq] at hcall
        have HC := Lib.hid hcall
        have HQ := Lib.hid hq
        clear hcall hq hA hB hfl hfl2
        go_wp2_with (go_at_fn g; refine HC.out.mono ?_; rintro e w' ⟨rfl, hb⟩)
        go_roundw
        case rel => exact ⟨k + 1, by omega, by go_num, (fun j h hj => by
          by_cases e : j = k
          · subst e; exact HQ.out
          · exact HA.out j h (by omega)), Bt HB.out hb⟩
        case measure => simp [intOf]; omega
    · obtain rfl : k = n := by omega
      have HA := Lib.hid hA
      have HB := Lib.hid hB
      clear hA hB
      go_wp2
      go_ret
      exact ⟨-1, rfl, .inl ⟨rfl, fun x hx => by
        obtain ⟨j, hj, rfl⟩ := List.getElem_of_mem hx
        exact HA.out j hj (by rw [← HN.out]; exact hj)⟩, HB.out⟩
theorem flatten_get {k : Nat} : ∀ {cs : List (List Value)} {i j : Nat} (_ : ∀ c ∈ cs, c.length = k) (hi : i < cs.length) (_ : j < k), cs.flatten[i * k + j]? = cs[i][j]?
  | [], _, _, _, hi, _ => absurd hi (by simp)
  | c :: r, 0, j, h, _, hj => by
    have := h c (by simp)
    simp only [List.flatten_cons, List.getElem_cons_zero, Nat.zero_mul, Nat.zero_add]
    rw [List.getElem?_append_left (by omega)]
  | c :: r, i + 1, j, h, hi, hj => by
    have hc := h c (by simp)
    have ih := flatten_get (cs := r) (i := i) (j := j) (fun x hx => h x (by simp [hx])) (by simpa using hi) hj
    simp only [List.flatten_cons, List.getElem_cons_succ]
    rw [List.getElem?_append_right (by rw [hc, Nat.add_mul]; omega), show (i + 1) * k + j - c.length = i * k + j by rw [hc, Nat.add_mul]; omega, ih]
/-- A row of chains in a block. -/
def RowZ (w : World) (g : Nat) (R : List Zc) : Prop := ∃ cur : Array Value, Blk w g 56 cur ∧ ∀ i (h : i < R.length), cur[i * 3]? = some (.slice R[i].1.1 R[i].1.2.1 R[i].1.2.2) ∧ cur[i * 3 + 1]? = some (.int .i64 R[i].2.2.1) ∧ cur[i * 3 + 2]? = some (.int .i64 R[i].2.2.2)
theorem RowZ.below {w w' : World} {g : Nat} {R : List Zc} (h : RowZ w g R) (hb : Below w.heap.size w w') : RowZ w' g R := by
  obtain ⟨cur, h1, h2⟩ := h
  exact ⟨cur, h1.below hb h1.lt, h2⟩
theorem RowZ.lt {w : World} {g : Nat} {R : List Zc} (h : RowZ w g R) : g < w.heap.size := by
  obtain ⟨cur, h1, _⟩ := h
  exact h1.lt
theorem RowZ.cell {w : World} {g : Nat} {R : List Zc} (h : RowZ w g R) {i : Nat} (hi : i < R.length) : w.cell? ⟨g, i * 3, none⟩ = some (.slice R[i].1.1 R[i].1.2.1 R[i].1.2.2) ∧ w.cell? ⟨g, i * 3 + 1, none⟩ = some (.int .i64 R[i].2.2.1) ∧ w.cell? ⟨g, i * 3 + 2, none⟩ = some (.int .i64 R[i].2.2.2) := by
  obtain ⟨cur, h1, h2⟩ := h
  exact ⟨(h1.cell _).trans (h2 i hi).1, (h1.cell _).trans (h2 i hi).2.1, (h1.cell _).trans (h2 i hi).2.2⟩
theorem RowZ.frozen {w : World} {g : Nat} {R : List Zc} (h : RowZ w g R) (i : Nat) : w.frozen? ⟨g, i, none⟩ = false := by
  obtain ⟨cur, h1, _⟩ := h
  exact h1.frozen i
theorem RowZ.set {w : World} {g : Nat} {R : List Zc} (h : RowZ w g R) {i : Nat} (hi : i < R.length) (c : Zc) : RowZ (((w.setCell ⟨g, i * 3, none⟩ (.slice c.1.1 c.1.2.1 c.1.2.2)).setCell ⟨g, i * 3 + 1, none⟩ (.int .i64 c.2.2.1)).setCell ⟨g, i * 3 + 2, none⟩ (.int .i64 c.2.2.2)) g (R.set i c) := by
  obtain ⟨cur, h1, h2⟩ := h
  refine ⟨_, ((h1.set_ (i * 3) _).set_ (i * 3 + 1) _).set_ (i * 3 + 2) _, fun j hj => ?_⟩
  rw [List.length_set] at hj
  have hb : ∀ q, q < R.length → q * 3 + 2 < cur.size := fun q hq => by
    have := (h2 q hq).2.2
    exact (Array.getElem?_eq_some_iff.1 this).1
  have hbi := hb i hi
  by_cases e : i = j
  · subst e
    rw [List.getElem_set_self]
    refine ⟨?_, ?_, ?_⟩
    · rw [Array.getElem?_setIfInBounds_ne (by omega), Array.getElem?_setIfInBounds_ne (by omega), Array.getElem?_setIfInBounds_self_of_lt (by omega)]
    · rw [Array.getElem?_setIfInBounds_ne (by omega), Array.getElem?_setIfInBounds_self_of_lt (by simp; omega)]
    · rw [Array.getElem?_setIfInBounds_self_of_lt (by simpa using hbi)]
  · rw [List.getElem_set_ne e]
    refine ⟨?_, ?_, ?_⟩
    · rw [Array.getElem?_setIfInBounds_ne (by omega), Array.getElem?_setIfInBounds_ne (by omega), Array.getElem?_setIfInBounds_ne (by omega)]
      exact (h2 j hj).1
    · rw [Array.getElem?_setIfInBounds_ne (by omega), Array.getElem?_setIfInBounds_ne (by omega), Array.getElem?_setIfInBounds_ne (by omega)]
      exact (h2 j hj).2.1
    · rw [Array.getElem?_setIfInBounds_ne (by omega), Array.getElem?_setIfInBounds_ne (by omega), Array.getElem?_setIfInBounds_ne (by omega)]
      exact (h2 j hj).2.2
theorem ownL_rowZ {base : Nat} {w : World} {v : Value} {l : List Zc} (h : OwnL base 56 3 ZC w v l) (hl : 0 < l.length) : ∃ g cap, v = .slice (some ⟨g, 0, none⟩) l.length cap ∧ l.length ≤ cap ∧ cap ≤ maxLen ∧ base ≤ g ∧ RowZ w g l := by
  obtain ⟨cs, h1, h2, h3⟩ := h
  rcases h3.2 with ⟨_, h0⟩ | ⟨g, cap, cur, hv, hb, hh, hc1, hc2, hc3, hc4⟩
  · omega
  · have hall : ∀ c ∈ cs, c.length = 3 := fun c hc => by
      obtain ⟨j, hj, rfl⟩ := List.getElem_of_mem hc
      obtain ⟨c', e, hl, _⟩ := h2 j (by omega)
      rw [List.getElem?_eq_getElem hj] at e
      injection e with e
      subst e
      exact hl
    refine ⟨g, cap, hv, hc1, hc2, hb, cur, hh, fun i hi => ?_⟩
    obtain ⟨c, e, hl2, hr⟩ := h2 i hi
    unfold ZC at hr
    have hic : i < cs.length := by omega
    rw [List.getElem?_eq_getElem hic] at e
    injection e with e
    have hg : ∀ j, j < 3 → cur[i * 3 + j]? = (zCs l[i])[j]? := fun j hj => by
      have := flatten_get (k := 3) hall hic hj
      rw [← hc4, List.getElem?_take, if_pos (show i * 3 + j < l.length * 3 by omega), Array.getElem?_toList, e, hr] at this
      exact this
    exact ⟨hg 0 (by omega), hg 1 (by omega), hg 2 (by omega)⟩
theorem setCells_grown (g : Nat) : ∀ (vs : List Value) (o : Nat) (a w : World), a.grownBy w (some g) → a.grownBy (w.setCells g o vs) (some g)
  | [], _, _, _, h => h
  | v :: r, o, a, _, h => setCells_grown g r (o + 1) a _ (only_setCell h (.inl rfl) v)
theorem setCells_blk (g : Nat) (t : TypeId) : ∀ (vs : List Value) (o : Nat) (w : World) (cur : Array Value), Blk w g t cur → ∃ cur', Blk (w.setCells g o vs) g t cur' ∧ ∀ p, p < o → cur'[p]? = cur[p]?
  | [], _, _, cur, h => ⟨cur, h, fun _ _ => rfl⟩
  | v :: r, o, w, cur, h => by
    obtain ⟨cur', h1, h2⟩ := setCells_blk g t r (o + 1) (w.setCell ⟨g, o, none⟩ v) _ (h.set_ o v)
    refine ⟨cur', h1, fun p hp => ?_⟩
    rw [h2 p (by omega), Array.getElem?_setIfInBounds_ne (by omega)]
def clrL (n : Nat) : List Value := (Builtin.zeroCells (Value.agg #[.slice none 0 0, .int .i64 0, .int .i64 0]).cells n).toList
theorem clrL_len (n : Nat) : (clrL n).length = n * 3 := by simp [clrL, Builtin.zeroCells, Value.cells]
theorem clrL_one (n : Nat) : ∀ v ∈ clrL n, v.oneCell' = true := fun v hv => by
  obtain ⟨i, hi, rfl⟩ := List.getElem_of_mem hv
  rw [clrL_len] at hi
  have hm : i % 3 = 0 ∨ i % 3 = 1 ∨ i % 3 = 2 := by omega
  rcases hm with e | e | e <;> simp [clrL, Builtin.zeroCells, Value.cells, e, Value.oneCell']
theorem run_clear_z (w : World) (ty : TypeId) (g o n c : Nat) (hn : 0 < n) (hc : ∀ j, j < n * 3 → (w.cell? ⟨g, o + j, none⟩).isSome = true) (hf : ∀ j, w.frozen? ⟨g, j, none⟩ = false) :
    (Builtin.clear_ #[67] ty #[.slice (some ⟨g, o, none⟩) n c]).run Tryd.prog w = .ok (.tuple #[]) (w.setCells g o (clrL n)) := by
  have hst := run_storeCells_cells (P := Tryd.prog) g o (clrL n) 0 w (by simpa [clrL_len] using hc) (by simpa using fun j _ => hf (o + j)) (clrL_one n)
  simp only [Nat.add_zero] at hst
  obtain ⟨m, rfl⟩ : ∃ m, n = m + 1 := ⟨n - 1, by omega⟩
  unfold clrL at hst ⊢
  simp [Builtin.clear_, run_underlying Tryd.underlying67, hst]
/-- The elements that stay, one more. -/
theorem filter_takeZ {p : Cou.Ct → Bool} {l : List Zc} {j : Nat} (hj : j < l.length) : (l.take (j + 1)).filter (fun c => !p c.2.2) = if p l[j].2.2 = true then (l.take j).filter (fun c => !p c.2.2) else (l.take j).filter (fun c => !p c.2.2) ++ [l[j]] := by
  rw [List.take_add_one, List.getElem?_eq_getElem hj, List.filter_append]
  by_cases h : p l[j].2.2 = true
  · rw [if_pos h]; simp [h]
  · rw [if_neg h]; simp [h]
set_option maxRecDepth 100000 in
set_option maxHeartbeats 4000000 in
theorem deletef_z (p : Cou.Ct → Bool) (l : List Zc) (hl : l.length ≤ 1000000) (gf : Nat) (lb : Array Value) (eg : ∀ args w, (callFunc gf args).run Tryd.prog w = .ok (.enter gf args) w) (base : Nat) (v : Value) (w : World) (hO : OwnL base 56 3 ZC w v l) (hp : PredH p gf lb l fun W => w.grownBy W v.ownBlock) :
    Calls Tryd.prog 55 #[v, .func (.func gf) #[] lb] w fun e w' => ∃ v', e = .returned v' ∧ SlZ (fun b => base ≤ b ∧ b < w'.heap.size) w' v' (l.filter fun c => !p c.2.2) ∧ w.grownBy w' v.ownBlock := by
  have hsl : SlZ (fun b => b < w.heap.size) w v l := hO.sl (by omega) (fun b _ q _ => q)
  have HIX := Lib.hid (indexf_ch p v l gf lb eg w _ (fun _ h => h) hsl fun W x hx hb => hp W x hx (only_of_below hb _))
  obtain ⟨A, c, rfl, _, _, _⟩ := id hsl
  obtain ⟨n, hn⟩ : ∃ n, l.length = n := ⟨_, rfl⟩
  have HN := Lib.hid hn
  have HO := Lib.hid hO
  have HP := Lib.hid hp
  rw [hn] at hl HIX ⊢
  clear hO hp hsl hn
  go_enter Tryd.func55, Tryd.ntmps55
  go_upto_region 2 with (go_at_call 74; (with_reducible refine (HIX.out.mono ?_)); rintro e w2 ⟨r, rfl, hr, hb2⟩; have HB2 := Lib.hid hb2; clear hb2)
  rcases hr with ⟨rfl, hall⟩ | ⟨k0, hk0, rfl, hk1, hk2⟩
  · have HZ : Hid (l.filter (fun c => !p c.2.2) = l) := Lib.hid (List.filter_eq_self.2 fun x hx => by rw [hall x hx]; rfl)
    clear hall
    go_wp2
    go_ret
    refine ⟨_, rfl, ?_, only_of_below HB2.out _⟩
    rw [HZ.out]
    have h9 := (HO.out.keep (R' := ZC) (w' := w2) rfl (fun xs hx => hx.kept (row := none) (only_of_below HB2.out none) (by cases hv : (Value.slice A l.length c).ownBlock <;> simp)) (fun _ _ h => h)).sl (F := fun b => base ≤ b ∧ b < w2.heap.size) (by rw [HN.out]; omega) (fun b q1 q2 _ => ⟨q1, q2⟩)
    rw [HN.out] at h9
    exact h9
  · obtain ⟨g, cap, e, hcap, hcm, hbg, hR⟩ := ownL_rowZ HO.out (by omega)
    rw [HN.out] at e hcap
    injection e with e1 e2 e3
    subst e1
    subst e3
    have hne : ((k0 : Int) == -1) = false := by simp
    have hkn : k0 < n := by have := HN.out; omega
    have hs0 : l.take k0 = (l.take (k0 + 1)).filter (fun c => !p c.2.2) := by
      rw [filter_takeZ hk0, if_pos hk1]
      refine (List.filter_eq_self.2 fun x hx => ?_).symm
      rw [List.mem_take_iff_getElem] at hx
      obtain ⟨j, hj, rfl⟩ := hx
      rw [hk2 j (by omega)]
      rfl
    have HP2 := Lib.hid (fun (W : World) (x : Zc) (hx : x ∈ l) (hW : w.grownBy W (some g)) => HP.out W x hx hW)
    have HR2 := Lib.hid (hR.below HB2.out)
    have HG2 : Hid (w.grownBy w2 (some g)) := Lib.hid (only_of_below HB2.out _)
    have HS0 := Lib.hid hs0
    have hcI : (n : Int) ≤ c := by omega
    clear hs0 hk1 hk2 hR HP HIX
    go_wp2
    go_loopw [5, 6] (fun s5 s6 wr => ∃ (i j : Nat) (R : List Zc), s5 = .int .i64 i ∧ s6 = .int .i64 j ∧ i < j ∧ j ≤ n ∧ Aside (RowZ wr g R) ∧ Aside (R.length = n) ∧ Aside (R.take i = (l.take j).filter fun c => !p c.2.2) ∧ Aside (R.drop j = l.drop j) ∧ Aside (w.grownBy wr (some g))) (fun _ s6 _ => n - (intOf s6).toNat)
    case atStart => exact ⟨k0, k0 + 1, l, rfl, by go_num, by omega, by omega, HR2.out, HN.out, HS0.out, rfl, HG2.out⟩
    case round =>
      clear HR2 HG2 HS0
      obtain ⟨i, j, R, rfl, rfl, hij, hj, hR, hRl, hT, hD, hG⟩ := hrel
      replace hR : RowZ wr g R := hR
      replace hRl : R.length = n := hRl
      replace hT : R.take i = (l.take j).filter fun c => !p c.2.2 := hT
      replace hD : R.drop j = l.drop j := hD
      replace hG : w.grownBy wr (some g) := hG
      by_cases hlt : j < n
      · have hjI : (j : Int) < n := by omega
        have hiI : (i : Int) < n := by omega
        have hjR : j < R.length := by omega
        have hjl : j < l.length := by have := HN.out; omega
        have hiR : i < R.length := by omega
        have hRj : R[j] = l[j] := by
          have h1 : (R.drop j)[0]? = (l.drop j)[0]? := by rw [hD]
          rw [List.getElem?_drop, List.getElem?_drop, Nat.add_zero, List.getElem?_eq_getElem hjR, List.getElem?_eq_getElem hjl] at h1
          injection h1
        have hft := filter_takeZ (p := p) hjl
        obtain ⟨f0, f1, f2⟩ := hR.cell hjR
        rw [hRj] at f0 f1 f2
        obtain ⟨g0, g1, g2⟩ := hR.cell hiR
        have hfz := hR.frozen
        have hmem := List.getElem_mem hjl
        have hDn : R.drop (j + 1) = l.drop (j + 1) := by
          have := congrArg (List.drop 1) hD
          rwa [List.drop_drop, List.drop_drop] at this
        have hpx := fun W hW => HP2.out W l[j] hmem hW
        have HPX := Lib.hid hpx
        have HR := Lib.hid hR
        have HT := Lib.hid hT
        have HFT := Lib.hid hft
        have HDN := Lib.hid hDn
        have HG := Lib.hid hG
        have HRL := Lib.hid hRl
        have HLJ : Hid (∀ R' : List Zc, R' = R.set i l[j] → R'.take (i + 1) = R.take i ++ [l[j]] ∧ R'.drop (j + 1) = R.drop (j + 1)) := Lib.hid fun R' e => by
          subst e
          refine ⟨?_, ?_⟩
          · rw [List.take_add_one, List.getElem?_set_self hiR, List.take_set_of_le (by omega)]
            rfl
          · rw [List.drop_set_of_lt (by omega)]
        generalize hold : R[i] = ro at g0 g1 g2
        obtain ⟨⟨oa, on_, oc⟩, ou, o1, o2⟩ := ro
        dsimp only at g0 g1 g2
        clear hR hT hD hG hft hDn hpx hmem hRj hold
        obtain ⟨lx, hlx⟩ : ∃ lx, l[j] = lx := ⟨_, rfl⟩
        rw [hlx] at f0 f1 f2 HPX HFT HLJ
        clear hlx hjl
        obtain ⟨⟨xa, xn, xc⟩, us, x1, x2⟩ := lx
        dsimp only at f0 f1 f2
        unfold zV at HPX
        dsimp only at HPX
        go_upto_region 8 with fail
        obtain ⟨w3, hw3⟩ : ∃ w3 : World, wr.alloc (.cells #[.slice xa xn xc, .int .i64 x1, .int .i64 x2] 56) = w3 := ⟨_, rfl⟩
        obtain ⟨bx, hbx⟩ : ∃ bx, wr.heap.size = bx := ⟨_, rfl⟩
        have C3 : Blk w3 bx 56 #[.slice xa xn xc, .int .i64 x1, .int .i64 x2] := by rw [← hw3, ← hbx]; exact Blk.new _ _ _
        have B3 : Below wr.heap.size wr w3 := by rw [← hw3]; exact Ba (B0 wr) _
        have G3 : w.grownBy w3 (some g) := by rw [← hw3]; exact only_alloc HG.out _
        rw [hw3, hbx]
        have c0 := C3.cell 0
        have c1 := C3.cell 1
        have c2 := C3.cell 2
        simp only [List.getElem?_toArray, List.getElem?_cons_zero, List.getElem?_cons_succ] at c0 c1 c2
        have HC3 := Lib.hid C3
        have HB3 := Lib.hid B3
        have HG3 := Lib.hid G3
        have hbx2 : bx ≠ g := by have := HR.out.lt; omega
        clear C3 B3 G3 hw3 hbx f0 f1 f2
        have hcall := HPX.out w3 HG3.out
        cases hq : p (x1, x2) with
        | true =>
          rw [hq] at hcall HFT
          have HCL := Lib.hid hcall
          have HF2 : Hid ((l.take (j + 1)).filter (fun c => !p c.2.2) = (l.take j).filter fun c => !p c.2.2) := Lib.hid (by rw [HFT.out, if_pos rfl])
          clear hcall hq g0 g1 g2 hfz
          go_wp2_with (go_at_fn gf; refine HCL.out.mono ?_; rintro e w5 ⟨rfl, hb5⟩; have HB5 := Lib.hid hb5; clear hb5)
          go_roundw
          case rel =>
            refine ⟨i, j + 1, R, rfl, by go_num, by omega, by omega, (HR.out.below HB3.out).below HB5.out, HRL.out, ?_, HDN.out, ?_⟩
            · show _ = _
              rw [HF2.out]; exact HT.out
            · exact ⟨HB5.out.os.trans HG3.out.os, HB5.out.tape.trans HG3.out.tape, HB5.out.output.trans HG3.out.output, Nat.le_trans HG3.out.size HB5.out.size, fun q h1 h2 => (HB5.out.block q (Nat.lt_of_lt_of_le h1 HG3.out.size)).trans (HG3.out.block q h1 h2)⟩
          case measure => simp [intOf]; omega
        | false =>
          rw [hq] at hcall HFT
          have HCL := Lib.hid hcall
          have HF2 : Hid ((l.take (j + 1)).filter (fun c => !p c.2.2) = (l.take j).filter (fun c => !p c.2.2) ++ [((xa, xn, xc), us, x1, x2)]) := Lib.hid (by rw [HFT.out, if_neg (by decide)])
          clear hcall hq g0 g1 g2 hfz
          go_wp2_with (go_at_fn gf; refine HCL.out.mono ?_; rintro e w5 ⟨rfl, hb5⟩; have HB5 := Lib.hid hb5; have hR5 := (HR.out.below HB3.out).below hb5; obtain ⟨g0, g1, g2⟩ := hR5.cell hiR; have hfz := hR5.frozen; have HR5 := Lib.hid hR5; have C5 := HC3.out.below hb5 HC3.out.lt; have d0 := C5.cell 0; have d1 := C5.cell 1; have d2 := C5.cell 2; simp only [List.getElem?_toArray, List.getElem?_cons_zero, List.getElem?_cons_succ] at d0 d1 d2; clear hb5 hR5 C5)
          go_roundw
          case rel =>
            have hG5 : w.grownBy w5 (some g) := ⟨HB5.out.os.trans HG3.out.os, HB5.out.tape.trans HG3.out.tape, HB5.out.output.trans HG3.out.output, Nat.le_trans HG3.out.size HB5.out.size, fun q h1 h2 => (HB5.out.block q (Nat.lt_of_lt_of_le h1 HG3.out.size)).trans (HG3.out.block q h1 h2)⟩
            obtain ⟨t1, t2⟩ := HLJ.out _ rfl
            refine ⟨i + 1, j + 1, R.set i ((xa, xn, xc), us, x1, x2), by go_num, by go_num, by omega, by omega, HR5.out.set hiR ((xa, xn, xc), us, x1, x2), by show _ = _; rw [List.length_set]; exact HRL.out, ?_, ?_, ?_⟩
            · show _ = _
              rw [t1, HF2.out, HT.out]
            · show _ = _
              rw [t2]; exact HDN.out
            · exact only_setCell (only_setCell (only_setCell hG5 (.inl rfl) _) (.inl rfl) _) (.inl rfl) _
          case measure => simp [intOf]; omega
      · obtain rfl : j = n := by omega
        have hTl : R.take i = l.filter fun c => !p c.2.2 := by rw [hT, List.take_of_length_le (by rw [HN.out]; omega)]
        obtain ⟨cur, hB, hcc⟩ := id hR
        have hcl : ∀ ty, (Builtin.clear_ #[67] ty #[.slice (some ⟨g, i * 3, none⟩) (j - i) (c - i)]).run Tryd.prog wr = .ok (.tuple #[]) (wr.setCells g (i * 3) (clrL (j - i))) := fun ty =>
          run_clear_z wr ty g (i * 3) (j - i) (c - i) (by omega) (fun q hq => by
            have hqR : (i * 3 + q) / 3 < R.length := by omega
            obtain ⟨u0, u1, u2⟩ := hR.cell hqR
            have hm : i * 3 + q = (i * 3 + q) / 3 * 3 ∨ i * 3 + q = (i * 3 + q) / 3 * 3 + 1 ∨ i * 3 + q = (i * 3 + q) / 3 * 3 + 2 := by omega
            rcases hm with e | e | e
            · rw [e, u0]; rfl
            · rw [e, u1]; rfl
            · rw [e, u2]; rfl) hR.frozen
        have HCC := Lib.hid hcc
        have HB := Lib.hid hB
        have HG := Lib.hid hG
        have HTL := Lib.hid hTl
        have HRL := Lib.hid hRl
        clear hR hRl hT hD hG hTl hB hcc
        go_wp2
        go_ret
        refine ⟨.slice (some ⟨g, 0, none⟩) i c, rfl, ?_, setCells_grown g _ _ _ _ HG.out⟩
        rw [← HTL.out]
        obtain ⟨cur', h1, h2⟩ := setCells_blk g _ (clrL (j - i)) (i * 3) wr cur HB.out
        have hlt2 : (R.take i).length = i := by rw [List.length_take, HRL.out]; omega
        refine ⟨some ⟨g, 0, none⟩, c, by rw [hlt2], by rw [hlt2]; omega, by rw [hlt2]; omega, fun q hq => ?_⟩
        have hqi : q < i := by rw [hlt2] at hq; exact hq
        have hqR : q < R.length := by rw [HRL.out]; omega
        obtain ⟨u0, u1, u2⟩ := HCC.out q hqR
        refine ⟨⟨g, 0, none⟩, zCs R[q], rfl, ⟨hbg, h1.lt⟩, rfl, ?_, ?_⟩
        · unfold ZC
          rw [List.getElem_take]
        · have e : (⟨g, 0, none⟩ : Addr).add (q * 3) = ⟨g, q * 3, none⟩ := by
            unfold Addr.add
            split
            · rename_i w0; rw [w0]
            · simp
          rw [e]
          intro k u hu
          unfold zCs at hu
          have hk : k = 0 ∨ k = 1 ∨ k = 2 := by
            have := (List.getElem?_eq_some_iff.1 hu).1
            simp at this
            omega
          rcases hk with rfl | rfl | rfl
          · simp at hu
            subst hu
            simpa [Addr.add] using (h1.cell (q * 3)).trans ((h2 _ (by omega)).trans u0)
          · simp at hu
            subst hu
            simpa [Addr.add] using (h1.cell (q * 3 + 1)).trans ((h2 _ (by omega)).trans u1)
          · simp at hu
            subst hu
            simpa [Addr.add] using (h1.cell (q * 3 + 2)).trans ((h2 _ (by omega)).trans u2)
end Go.Proofs.YtahlfndlkfoikaaDoor
