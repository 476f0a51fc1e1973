/- Walks over slices at chains: IndexFunc, DeleteFunc. Walks over chain: To. Walks over slices at contacts: Repeat. Walks over chain: the closure of Least. Walks over chain: Least. -/
import Derived.Test.YtahlfndlkfoikaaDoorEd
import Derived.Lib.SliceRun
import Derived.Laws.IdiomCopy
import Derived.Test.YtahlfndlkfoikaaDoorEi
import Derived.Test.YtahlfndlkfoikaaDoorEo
import Derived.Test.YtahlfndlkfoikaaDoorSm
import Derived.Test.YtahlfndlkfoikaaDoorEe
import Derived.Test.YtahlfndlkfoikaaDoorEf
import Derived.Test.YtahlfndlkfoikaaDoorEs
import Derived.Test.YtahlfndlkfoikaaDoorRegW
import Derived.Test.YtahlfndlkfoikaaDoorKd
namespace Go.Proofs.YtahlfndlkfoikaaDoor
open Go Go.RowKit Go.Shelf
/-- A chain with the slice of its couplers. -/
abbrev Zc := (Option Addr × Nat × Nat) × Cha.Ch
def zCs (x : Zc) : List Value := [.slice x.1.1 x.1.2.1 x.1.2.2, .int .i64 x.2.2.1, .int .i64 x.2.2.2]
def zV (x : Zc) : Value := .agg #[.slice x.1.1 x.1.2.1 x.1.2.2, .int .i64 x.2.2.1, .int .i64 x.2.2.2]
def ZC (_ : World) (cs : List Value) (x : Zc) : Prop := cs = zCs x
abbrev SlZ (F : Nat → Prop) (w : World) (v : Value) (l : List Zc) : Prop := Sl F 3 ZC w v l
abbrev SlCh (F : Nat → Prop) (w : World) (v : Value) (l : List Cha.Ch) : Prop := Sl F 3 ChC w v l
theorem slZ_open {F : Nat → Prop} {w : World} {v : Value} {l : List Zc} (h : SlZ F w v l) : ∃ A c, v = .slice A l.length c ∧ l.length ≤ c ∧ l.length ≤ 140737488355328 ∧
    ∀ i (hi : i < l.length), ∃ ad, A = some ad ∧ F ad.block ∧ Flds w (ad.add (i * 3)) (zCs l[i]) := by
  obtain ⟨A, c, hv, hc, hl, hi⟩ := h
  refine ⟨A, c, hv, hc, hl, fun i hil => ?_⟩
  obtain ⟨ad, cs, h1, h2, h3, h4, h5⟩ := hi i hil
  unfold ZC at h4
  subst h4
  exact ⟨ad, h1, h2, h5⟩
/-- The chains of a row, with the slices of their couplers. -/
theorem ownCh_z {base : Nat} {w : World} {v : Value} {L : List Cha.Ch} (h : OwnCh base w v L) : ∃ Z : List Zc, Z.map (·.2) = L ∧ OwnL base 56 3 ZC w v Z ∧ ∀ z ∈ Z, SlI (IsC w) w (.slice z.1.1 z.1.2.1 z.1.2.2) z.2.1 := by
  obtain ⟨cs, h1, h2, h3⟩ := h
  have hz : ∀ i : Fin L.length, ∃ z : Option Addr × Nat × Nat, cs[i.val]? = some (zCs (z, L[i])) ∧ SlI (IsC w) w (.slice z.1 z.2.1 z.2.2) L[i].1 := fun i => by
    obtain ⟨c, e, _, u, hu, hs⟩ := h2 i.val i.isLt
    obtain ⟨A, cc, rfl, _⟩ := SlI.open hs
    exact ⟨(A, L[i].1.length, cc), by rw [e, hu]; rfl, hs⟩
  let Z : List Zc := List.ofFn fun i : Fin L.length => ((hz i).choose, L[i])
  have hlen : Z.length = L.length := by simp [Z]
  have hget : ∀ i (hi : i < Z.length), Z[i] = ((hz ⟨i, by omega⟩).choose, L[i]'(by omega)) := fun i hi => by simp [Z]
  refine ⟨Z, ?_, ⟨cs, by rw [h1, hlen], fun i hi => ?_, by rw [hlen]; exact h3⟩, fun z hz' => ?_⟩
  · refine List.ext_getElem (by simp [hlen]) fun i hi hi' => ?_
    rw [List.getElem_map, hget]
  · refine ⟨zCs Z[i], ?_, rfl, rfl⟩
    rw [hget]
    exact (hz ⟨i, by omega⟩).choose_spec.1
  · obtain ⟨i, hi, rfl⟩ := List.getElem_of_mem hz'
    rw [hget]
    exact (hz ⟨i, by omega⟩).choose_spec.2
/-- What a predicate handed to the library says, in whatever world X allows. -/
def PredH (p : Cou.Ct → Bool) (g : Nat) (lb : Array Value) (l : List Zc) (X : World → Prop) : Prop :=
  ∀ (W : World) (x : Zc), x ∈ l → X W → Calls Tryd.prog g (#[zV x] ++ lb) W fun e w' => e = .returned (.bool (p x.2.2)) ∧ Below W.heap.size W w'
/-- The first one that a predicate takes. -/
def FstH (p : Cou.Ct → Bool) (l : List Zc) (r : Int) : Prop := (r = -1 ∧ ∀ x ∈ l, p x.2.2 = false) ∨ ∃ k : Nat, ∃ h : k < l.length, r = k ∧ p l[k].2.2 = true ∧ ∀ j (_ : j < k), p (l[j]'(by omega)).2.2 = false
set_option maxRecDepth 100000 in
set_option maxHeartbeats 1000000 in
theorem indexf_ch (p : Cou.Ct → Bool) (v : Value) (l : List Zc) (g : Nat) (lb : Array Value) (eg : ∀ args w, (callFunc g args).run Tryd.prog w = .ok (.enter g args) w) (w : World) (F : Nat → Prop) (hF : ∀ b, F b → b < w.heap.size)
    (hr : SlZ F w v l) (hp : PredH p g lb l fun W => Below w.heap.size w W) :
    Calls Tryd.prog 74 #[v, .func (.func g) #[] lb] w fun e w' => ∃ r, e = .returned (.int .i64 r) ∧ FstH p l r ∧ Below w.heap.size w w' := by
  obtain ⟨A, c, rfl, hlc, hlen, hat⟩ := slZ_open hr
  obtain ⟨n, hn⟩ : ∃ n, l.length = n := ⟨_, rfl⟩
  have HN := Lib.hid hn
  have HAT := Lib.hid hat
  have HP := Lib.hid hp
  rw [hn] at hlen hlc ⊢
  clear hr hat hp hn
  go_enter Tryd.func74, Tryd.ntmps74
  go_wp2_with fail
  go_loopw [8] (fun s wr => ∃ k : Nat, k ≤ n ∧ s = .int .i64 k ∧ Aside (∀ j (h : j < l.length), j < k → p l[j].2.2 = false) ∧ Aside (Below w.heap.size w wr)) (fun s _ => n - (intOf s).toNat)
  case atStart => exact ⟨0, by omega, rfl, (fun j _ h => absurd h (by omega)), B0 w⟩
  case round =>
    obtain ⟨k, hk, rfl, hA, hB⟩ := hrel
    replace hA : ∀ j (h : j < l.length), j < k → p l[j].2.2 = false := hA
    replace hB : Below w.heap.size w wr := hB
    by_cases hlt : k < n
    · have hkl : (k : Int) < n := by omega
      have hkl1 : k < l.length := by rw [HN.out]; exact hlt
      obtain ⟨ad, rfl, hfb, hfl⟩ := HAT.out k hkl1
      have hfb2 : (ad.add (k * 3)).block < w.heap.size := by rw [block_of_add]; exact hF _ hfb
      have hfl2 := hfl.below hB hfb2
      have f0 := hfl2.f0 rfl
      have f1 := hfl2.f1 rfl
      have f2 := hfl2.f2 rfl
      have hcall := HP.out wr l[k] (List.getElem_mem hkl1) hB
      unfold zV at hcall
      have HA := Lib.hid hA
      have HB := Lib.hid hB
      cases hq : p l[k].2.2 with
      | true =>
        rw [hq] at hcall
        have HC := Lib.hid hcall
        have HQ := Lib.hid hq
        clear hcall hq hA hB hfl hfl2
        go_wp2_with (go_at_fn g; refine HC.out.mono ?_; rintro e w' ⟨rfl, hb⟩)
        go_ret
        exact ⟨k, rfl, .inr ⟨k, hkl1, rfl, HQ.out, fun j hj => HA.out j (by omega) hj⟩, Bt HB.out hb⟩
      | false =>
        rw [hq] at hcall
        have HC := Lib.hid hcall
        have HQ := Lib.hid hq
        clear hcall hq hA hB hfl hfl2
        go_wp2_with (go_at_fn g; refine HC.out.mono ?_; rintro e w' ⟨rfl, hb⟩)
        go_roundw
        case rel => exact ⟨k + 1, by omega, by go_num, (fun j h hj => by
          by_cases e : j = k
          · subst e; exact HQ.out
          · exact HA.out j h (by omega)), Bt HB.out hb⟩
        case measure => simp [intOf]; omega
    · obtain rfl : k = n := by omega
      have HA := Lib.hid hA
      have HB := Lib.hid hB
      clear hA hB
      go_wp2
      go_ret
      exact ⟨-1, rfl, .inl ⟨rfl, fun x hx => by
        obtain ⟨j, hj, rfl⟩ := List.getElem_of_mem hx
        exact HA.out j hj (by rw [← HN.out]; exact hj)⟩, HB.out⟩
theorem flatten_get {k : Nat} : ∀ {cs : List (List Value)} {i j : Nat} (_ : ∀ c ∈ cs, c.length = k) (hi : i < cs.length) (_ : j < k), cs.flatten[i * k + j]? = cs[i][j]?
  | [], _, _, _, hi, _ => absurd hi (by simp)
  | c :: r, 0, j, h, _, hj => by
    have := h c (by simp)
    simp only [List.flatten_cons, List.getElem_cons_zero, Nat.zero_mul, Nat.zero_add]
    rw [List.getElem?_append_left (by omega)]
  | c :: r, i + 1, j, h, hi, hj => by
    have hc := h c (by simp)
    have ih := flatten_get (cs := r) (i := i) (j := j) (fun x hx => h x (by simp [hx])) (by simpa using hi) hj
    simp only [List.flatten_cons, List.getElem_cons_succ]
    rw [List.getElem?_append_right (by rw [hc, Nat.add_mul]; omega), show (i + 1) * k + j - c.length = i * k + j by rw [hc, Nat.add_mul]; omega, ih]
/-- A row of chains in a block. -/
def RowZ (w : World) (g : Nat) (R : List Zc) : Prop := ∃ cur : Array Value, Blk w g 56 cur ∧ ∀ i (h : i < R.length), cur[i * 3]? = some (.slice R[i].1.1 R[i].1.2.1 R[i].1.2.2) ∧ cur[i * 3 + 1]? = some (.int .i64 R[i].2.2.1) ∧ cur[i * 3 + 2]? = some (.int .i64 R[i].2.2.2)
theorem RowZ.below {w w' : World} {g : Nat} {R : List Zc} (h : RowZ w g R) (hb : Below w.heap.size w w') : RowZ w' g R := by
  obtain ⟨cur, h1, h2⟩ := h
  exact ⟨cur, h1.below hb h1.lt, h2⟩
theorem RowZ.lt {w : World} {g : Nat} {R : List Zc} (h : RowZ w g R) : g < w.heap.size := by
  obtain ⟨cur, h1, _⟩ := h
  exact h1.lt
theorem RowZ.cell {w : World} {g : Nat} {R : List Zc} (h : RowZ w g R) {i : Nat} (hi : i < R.length) : w.cell? ⟨g, i * 3, none⟩ = some (.slice R[i].1.1 R[i].1.2.1 R[i].1.2.2) ∧ w.cell? ⟨g, i * 3 + 1, none⟩ = some (.int .i64 R[i].2.2.1) ∧ w.cell? ⟨g, i * 3 + 2, none⟩ = some (.int .i64 R[i].2.2.2) := by
  obtain ⟨cur, h1, h2⟩ := h
  exact ⟨(h1.cell _).trans (h2 i hi).1, (h1.cell _).trans (h2 i hi).2.1, (h1.cell _).trans (h2 i hi).2.2⟩
theorem RowZ.frozen {w : World} {g : Nat} {R : List Zc} (h : RowZ w g R) (i : Nat) : w.frozen? ⟨g, i, none⟩ = false := by
  obtain ⟨cur, h1, _⟩ := h
  exact h1.frozen i
theorem RowZ.set {w : World} {g : Nat} {R : List Zc} (h : RowZ w g R) {i : Nat} (hi : i < R.length) (c : Zc) : RowZ (((w.setCell ⟨g, i * 3, none⟩ (.slice c.1.1 c.1.2.1 c.1.2.2)).setCell ⟨g, i * 3 + 1, none⟩ (.int .i64 c.2.2.1)).setCell ⟨g, i * 3 + 2, none⟩ (.int .i64 c.2.2.2)) g (R.set i c) := by
  obtain ⟨cur, h1, h2⟩ := h
  refine ⟨_, ((h1.set_ (i * 3) _).set_ (i * 3 + 1) _).set_ (i * 3 + 2) _, fun j hj => ?_⟩
  rw [List.length_set] at hj
  have hb : ∀ q, q < R.length → q * 3 + 2 < cur.size := fun q hq => by
    have := (h2 q hq).2.2
    exact (Array.getElem?_eq_some_iff.1 this).1
  have hbi := hb i hi
  by_cases e : i = j
  · subst e
    rw [List.getElem_set_self]
    refine ⟨?_, ?_, ?_⟩
    · rw [Array.getElem?_setIfInBounds_ne (by omega), Array.getElem?_setIfInBounds_ne (by omega), Array.getElem?_setIfInBounds_self_of_lt (by omega)]
    · rw [Array.getElem?_setIfInBounds_ne (by omega), Array.getElem?_setIfInBounds_self_of_lt (by simp; omega)]
    · rw [Array.getElem?_setIfInBounds_self_of_lt (by simpa using hbi)]
  · rw [List.getElem_set_ne e]
    refine ⟨?_, ?_, ?_⟩
    · rw [Array.getElem?_setIfInBounds_ne (by omega), Array.getElem?_setIfInBounds_ne (by omega), Array.getElem?_setIfInBounds_ne (by omega)]
      exact (h2 j hj).1
    · rw [Array.getElem?_setIfInBounds_ne (by omega), Array.getElem?_setIfInBounds_ne (by omega), Array.getElem?_setIfInBounds_ne (by omega)]
      exact (h2 j hj).2.1
    · rw [Array.getElem?_setIfInBounds_ne (by omega), Array.getElem?_setIfInBounds_ne (by omega), Array.getElem?_setIfInBounds_ne (by omega)]
      exact (h2 j hj).2.2
theorem ownL_rowZ {base : Nat} {w : World} {v : Value} {l : List Zc} (h : OwnL base 56 3 ZC w v l) (hl : 0 < l.length) : ∃ g cap, v = .slice (some ⟨g, 0, none⟩) l.length cap ∧ l.length ≤ cap ∧ cap ≤ maxLen ∧ base ≤ g ∧ RowZ w g l := by
  obtain ⟨cs, h1, h2, h3⟩ := h
  rcases h3.2 with ⟨_, h0⟩ | ⟨g, cap, cur, hv, hb, hh, hc1, hc2, hc3, hc4⟩
  · omega
  · have hall : ∀ c ∈ cs, c.length = 3 := fun c hc => by
      obtain ⟨j, hj, rfl⟩ := List.getElem_of_mem hc
      obtain ⟨c', e, hl, _⟩ := h2 j (by omega)
      rw [List.getElem?_eq_getElem hj] at e
      injection e with e
      subst e
      exact hl
    refine ⟨g, cap, hv, hc1, hc2, hb, cur, hh, fun i hi => ?_⟩
    obtain ⟨c, e, hl2, hr⟩ := h2 i hi
    unfold ZC at hr
    have hic : i < cs.length := by omega
    rw [List.getElem?_eq_getElem hic] at e
    injection e with e
    have hg : ∀ j, j < 3 → cur[i * 3 + j]? = (zCs l[i])[j]? := fun j hj => by
      have := flatten_get (k := 3) hall hic hj
      rw [← hc4, List.getElem?_take, if_pos (show i * 3 + j < l.length * 3 by omega), Array.getElem?_toList, e, hr] at this
      exact this
    exact ⟨hg 0 (by omega), hg 1 (by omega), hg 2 (by omega)⟩
theorem setCells_grown (g : Nat) : ∀ (vs : List Value) (o : Nat) (a w : World), a.grownBy w (some g) → a.grownBy (w.setCells g o vs) (some g)
  | [], _, _, _, h => h
  | v :: r, o, a, _, h => setCells_grown g r (o + 1) a _ (only_setCell h (.inl rfl) v)
theorem setCells_blk (g : Nat) (t : TypeId) : ∀ (vs : List Value) (o : Nat) (w : World) (cur : Array Value), Blk w g t cur → ∃ cur', Blk (w.setCells g o vs) g t cur' ∧ ∀ p, p < o → cur'[p]? = cur[p]?
  | [], _, _, cur, h => ⟨cur, h, fun _ _ => rfl⟩
  | v :: r, o, w, cur, h => by
    obtain ⟨cur', h1, h2⟩ := setCells_blk g t r (o + 1) (w.setCell ⟨g, o, none⟩ v) _ (h.set_ o v)
    refine ⟨cur', h1, fun p hp => ?_⟩
    rw [h2 p (by omega), Array.getElem?_setIfInBounds_ne (by omega)]
def clrL (n : Nat) : List Value := (Builtin.zeroCells (Value.agg #[.slice none 0 0, .int .i64 0, .int .i64 0]).cells n).toList
theorem clrL_len (n : Nat) : (clrL n).length = n * 3 := by simp [clrL, Builtin.zeroCells, Value.cells]
theorem clrL_one (n : Nat) : ∀ v ∈ clrL n, v.oneCell' = true := fun v hv => by
  obtain ⟨i, hi, rfl⟩ := List.getElem_of_mem hv
  rw [clrL_len] at hi
  have hm : i % 3 = 0 ∨ i % 3 = 1 ∨ i % 3 = 2 := by omega
  rcases hm with e | e | e <;> simp [clrL, Builtin.zeroCells, Value.cells, e, Value.oneCell']
theorem run_clear_z (w : World) (ty : TypeId) (g o n c : Nat) (hn : 0 < n) (hc : ∀ j, j < n * 3 → (w.cell? ⟨g, o + j, none⟩).isSome = true) (hf : ∀ j, w.frozen? ⟨g, j, none⟩ = false) :
    (Builtin.clear_ #[67] ty #[.slice (some ⟨g, o, none⟩) n c]).run Tryd.prog w = .ok (.tuple #[]) (w.setCells g o (clrL n)) := by
  have hst := run_storeCells_cells (P := Tryd.prog) g o (clrL n) 0 w (by simpa [clrL_len] using hc) (by simpa using fun j _ => hf (o + j)) (clrL_one n)
  simp only [Nat.add_zero] at hst
  obtain ⟨m, rfl⟩ : ∃ m, n = m + 1 := ⟨n - 1, by omega⟩
  unfold clrL at hst ⊢
  simp [Builtin.clear_, run_underlying Tryd.underlying67, hst]
/-- The elements that stay, one more. -/
theorem filter_takeZ {p : Cou.Ct → Bool} {l : List Zc} {j : Nat} (hj : j < l.length) : (l.take (j + 1)).filter (fun c => !p c.2.2) = if p l[j].2.2 = true then (l.take j).filter (fun c => !p c.2.2) else (l.take j).filter (fun c => !p c.2.2) ++ [l[j]] := by
  rw [List.take_add_one, List.getElem?_eq_getElem hj, List.filter_append]
  by_cases h : p l[j].2.2 = true
  · rw [if_pos h]; simp [h]
  · rw [if_neg h]; simp [h]
set_option maxRecDepth 100000 in
set_option maxHeartbeats 4000000 in
theorem deletef_z (p : Cou.Ct → Bool) (l : List Zc) (hl : l.length ≤ 1000000) (gf : Nat) (lb : Array Value) (eg : ∀ args w, (callFunc gf args).run Tryd.prog w = .ok (.enter gf args) w) (base : Nat) (v : Value) (w : World) (hO : OwnL base 56 3 ZC w v l) (hp : PredH p gf lb l fun W => w.grownBy W v.ownBlock) :
    Calls Tryd.prog 55 #[v, .func (.func gf) #[] lb] w fun e w' => ∃ v', e = .returned v' ∧ SlZ (fun b => base ≤ b ∧ b < w'.heap.size) w' v' (l.filter fun c => !p c.2.2) ∧ w.grownBy w' v.ownBlock := by
  have hsl : SlZ (fun b => b < w.heap.size) w v l := hO.sl (by omega) (fun b _ q _ => q)
  have HIX := Lib.hid (indexf_ch p v l gf lb eg w _ (fun _ h => h) hsl fun W x hx hb => hp W x hx (only_of_below hb _))
  obtain ⟨A, c, rfl, _, _, _⟩ := id hsl
  obtain ⟨n, hn⟩ : ∃ n, l.length = n := ⟨_, rfl⟩
  have HN := Lib.hid hn
  have HO := Lib.hid hO
  have HP := Lib.hid hp
  rw [hn] at hl HIX ⊢
  clear hO hp hsl hn
  go_enter Tryd.func55, Tryd.ntmps55
  go_upto_region 2 with (go_at_call 74; (with_reducible refine (HIX.out.mono ?_)); rintro e w2 ⟨r, rfl, hr, hb2⟩; have HB2 := Lib.hid hb2; clear hb2)
  rcases hr with ⟨rfl, hall⟩ | ⟨k0, hk0, rfl, hk1, hk2⟩
  · have HZ : Hid (l.filter (fun c => !p c.2.2) = l) := Lib.hid (List.filter_eq_self.2 fun x hx => by rw [hall x hx]; rfl)
    clear hall
    go_wp2
    go_ret
    refine ⟨_, rfl, ?_, only_of_below HB2.out _⟩
    rw [HZ.out]
    have h9 := (HO.out.keep (R' := ZC) (w' := w2) rfl (fun xs hx => hx.kept (row := none) (only_of_below HB2.out none) (by cases hv : (Value.slice A l.length c).ownBlock <;> simp)) (fun _ _ h => h)).sl (F := fun b => base ≤ b ∧ b < w2.heap.size) (by rw [HN.out]; omega) (fun b q1 q2 _ => ⟨q1, q2⟩)
    rw [HN.out] at h9
    exact h9
  · obtain ⟨g, cap, e, hcap, hcm, hbg, hR⟩ := ownL_rowZ HO.out (by omega)
    rw [HN.out] at e hcap
    injection e with e1 e2 e3
    subst e1
    subst e3
    have hne : ((k0 : Int) == -1) = false := by simp
    have hkn : k0 < n := by have := HN.out; omega
    have hs0 : l.take k0 = (l.take (k0 + 1)).filter (fun c => !p c.2.2) := by
      rw [filter_takeZ hk0, if_pos hk1]
      refine (List.filter_eq_self.2 fun x hx => ?_).symm
      rw [List.mem_take_iff_getElem] at hx
      obtain ⟨j, hj, rfl⟩ := hx
      rw [hk2 j (by omega)]
      rfl
    have HP2 := Lib.hid (fun (W : World) (x : Zc) (hx : x ∈ l) (hW : w.grownBy W (some g)) => HP.out W x hx hW)
    have HR2 := Lib.hid (hR.below HB2.out)
    have HG2 : Hid (w.grownBy w2 (some g)) := Lib.hid (only_of_below HB2.out _)
    have HS0 := Lib.hid hs0
    have hcI : (n : Int) ≤ c := by omega
    clear hs0 hk1 hk2 hR HP HIX
    go_wp2
    go_loopw [5, 6] (fun s5 s6 wr => ∃ (i j : Nat) (R : List Zc), s5 = .int .i64 i ∧ s6 = .int .i64 j ∧ i < j ∧ j ≤ n ∧ Aside (RowZ wr g R) ∧ Aside (R.length = n) ∧ Aside (R.take i = (l.take j).filter fun c => !p c.2.2) ∧ Aside (R.drop j = l.drop j) ∧ Aside (w.grownBy wr (some g))) (fun _ s6 _ => n - (intOf s6).toNat)
    case atStart => exact ⟨k0, k0 + 1, l, rfl, by go_num, by omega, by omega, HR2.out, HN.out, HS0.out, rfl, HG2.out⟩
    case round =>
      clear HR2 HG2 HS0
      obtain ⟨i, j, R, rfl, rfl, hij, hj, hR, hRl, hT, hD, hG⟩ := hrel
      replace hR : RowZ wr g R := hR
      replace hRl : R.length = n := hRl
      replace hT : R.take i = (l.take j).filter fun c => !p c.2.2 := hT
      replace hD : R.drop j = l.drop j := hD
      replace hG : w.grownBy wr (some g) := hG
      by_cases hlt : j < n
      · have hjI : (j : Int) < n := by omega
        have hiI : (i : Int) < n := by omega
        have hjR : j < R.length := by omega
        have hjl : j < l.length := by have := HN.out; omega
        have hiR : i < R.length := by omega
        have hRj : R[j] = l[j] := by
          have h1 : (R.drop j)[0]? = (l.drop j)[0]? := by rw [hD]
          rw [List.getElem?_drop, List.getElem?_drop, Nat.add_zero, List.getElem?_eq_getElem hjR, List.getElem?_eq_getElem hjl] at h1
          injection h1
        have hft := filter_takeZ (p := p) hjl
        obtain ⟨f0, f1, f2⟩ := hR.cell hjR
        rw [hRj] at f0 f1 f2
        obtain ⟨g0, g1, g2⟩ := hR.cell hiR
        have hfz := hR.frozen
        have hmem := List.getElem_mem hjl
        have hDn : R.drop (j + 1) = l.drop (j + 1) := by
          have := congrArg (List.drop 1) hD
          rwa [List.drop_drop, List.drop_drop] at this
        have hpx := fun W hW => HP2.out W l[j] hmem hW
        have HPX := Lib.hid hpx
        have HR := Lib.hid hR
        have HT := Lib.hid hT
        have HFT := Lib.hid hft
        have HDN := Lib.hid hDn
        have HG := Lib.hid hG
        have HRL := Lib.hid hRl
        have HLJ : Hid (∀ R' : List Zc, R' = R.set i l[j] → R'.take (i + 1) = R.take i ++ [l[j]] ∧ R'.drop (j + 1) = R.drop (j + 1)) := Lib.hid fun R' e => by
          subst e
          refine ⟨?_, ?_⟩
          · rw [List.take_add_one, List.getElem?_set_self hiR, List.take_set_of_le (by omega)]
            rfl
          · rw [List.drop_set_of_lt (by omega)]
        generalize hold : R[i] = ro at g0 g1 g2
        obtain ⟨⟨oa, on_, oc⟩, ou, o1, o2⟩ := ro
        dsimp only at g0 g1 g2
        clear hR hT hD hG hft hDn hpx hmem hRj hold
        obtain ⟨lx, hlx⟩ : ∃ lx, l[j] = lx := ⟨_, rfl⟩
        rw [hlx] at f0 f1 f2 HPX HFT HLJ
        clear hlx hjl
        obtain ⟨⟨xa, xn, xc⟩, us, x1, x2⟩ := lx
        dsimp only at f0 f1 f2
        unfold zV at HPX
        dsimp only at HPX
        go_upto_region 8 with fail
        obtain ⟨w3, hw3⟩ : ∃ w3 : World, wr.alloc (.cells #[.slice xa xn xc, .int .i64 x1, .int .i64 x2] 56) = w3 := ⟨_, rfl⟩
        obtain ⟨bx, hbx⟩ : ∃ bx, wr.heap.size = bx := ⟨_, rfl⟩
        have C3 : Blk w3 bx 56 #[.slice xa xn xc, .int .i64 x1, .int .i64 x2] := by rw [← hw3, ← hbx]; exact Blk.new _ _ _
        have B3 : Below wr.heap.size wr w3 := by rw [← hw3]; exact Ba (B0 wr) _
        have G3 : w.grownBy w3 (some g) := by rw [← hw3]; exact only_alloc HG.out _
        rw [hw3, hbx]
        have c0 := C3.cell 0
        have c1 := C3.cell 1
        have c2 := C3.cell 2
        simp only [List.getElem?_toArray, List.getElem?_cons_zero, List.getElem?_cons_succ] at c0 c1 c2
        have HC3 := Lib.hid C3
        have HB3 := Lib.hid B3
        have HG3 := Lib.hid G3
        have hbx2 : bx ≠ g := by have := HR.out.lt; omega
        clear C3 B3 G3 hw3 hbx f0 f1 f2
        have hcall := HPX.out w3 HG3.out
        cases hq : p (x1, x2) with
        | true =>
          rw [hq] at hcall HFT
          have HCL := Lib.hid hcall
          have HF2 : Hid ((l.take (j + 1)).filter (fun c => !p c.2.2) = (l.take j).filter fun c => !p c.2.2) := Lib.hid (by rw [HFT.out, if_pos rfl])
          clear hcall hq g0 g1 g2 hfz
          go_wp2_with (go_at_fn gf; refine HCL.out.mono ?_; rintro e w5 ⟨rfl, hb5⟩; have HB5 := Lib.hid hb5; clear hb5)
          go_roundw
          case rel =>
            refine ⟨i, j + 1, R, rfl, by go_num, by omega, by omega, (HR.out.below HB3.out).below HB5.out, HRL.out, ?_, HDN.out, ?_⟩
            · show _ = _
              rw [HF2.out]; exact HT.out
            · exact ⟨HB5.out.os.trans HG3.out.os, HB5.out.tape.trans HG3.out.tape, HB5.out.output.trans HG3.out.output, Nat.le_trans HG3.out.size HB5.out.size, fun q h1 h2 => (HB5.out.block q (Nat.lt_of_lt_of_le h1 HG3.out.size)).trans (HG3.out.block q h1 h2)⟩
          case measure => simp [intOf]; omega
        | false =>
          rw [hq] at hcall HFT
          have HCL := Lib.hid hcall
          have HF2 : Hid ((l.take (j + 1)).filter (fun c => !p c.2.2) = (l.take j).filter (fun c => !p c.2.2) ++ [((xa, xn, xc), us, x1, x2)]) := Lib.hid (by rw [HFT.out, if_neg (by decide)])
          clear hcall hq g0 g1 g2 hfz
          go_wp2_with (go_at_fn gf; refine HCL.out.mono ?_; rintro e w5 ⟨rfl, hb5⟩; have HB5 := Lib.hid hb5; have hR5 := (HR.out.below HB3.out).below hb5; obtain ⟨g0, g1, g2⟩ := hR5.cell hiR; have hfz := hR5.frozen; have HR5 := Lib.hid hR5; have C5 := HC3.out.below hb5 HC3.out.lt; have d0 := C5.cell 0; have d1 := C5.cell 1; have d2 := C5.cell 2; simp only [List.getElem?_toArray, List.getElem?_cons_zero, List.getElem?_cons_succ] at d0 d1 d2; clear hb5 hR5 C5)
          go_roundw
          case rel =>
            have hG5 : w.grownBy w5 (some g) := ⟨HB5.out.os.trans HG3.out.os, HB5.out.tape.trans HG3.out.tape, HB5.out.output.trans HG3.out.output, Nat.le_trans HG3.out.size HB5.out.size, fun q h1 h2 => (HB5.out.block q (Nat.lt_of_lt_of_le h1 HG3.out.size)).trans (HG3.out.block q h1 h2)⟩
            obtain ⟨t1, t2⟩ := HLJ.out _ rfl
            refine ⟨i + 1, j + 1, R.set i ((xa, xn, xc), us, x1, x2), by go_num, by go_num, by omega, by omega, HR5.out.set hiR ((xa, xn, xc), us, x1, x2), by show _ = _; rw [List.length_set]; exact HRL.out, ?_, ?_, ?_⟩
            · show _ = _
              rw [t1, HF2.out, HT.out]
            · show _ = _
              rw [t2]; exact HDN.out
            · exact only_setCell (only_setCell (only_setCell hG5 (.inl rfl) _) (.inl rfl) _) (.inl rfl) _
          case measure => simp [intOf]; omega
      · obtain rfl : j = n := by omega
        have hTl : R.take i = l.filter fun c => !p c.2.2 := by rw [hT, List.take_of_length_le (by rw [HN.out]; omega)]
        obtain ⟨cur, hB, hcc⟩ := id hR
        have hcl : ∀ ty, (Builtin.clear_ #[67] ty #[.slice (some ⟨g, i * 3, none⟩) (j - i) (c - i)]).run Tryd.prog wr = .ok (.tuple #[]) (wr.setCells g (i * 3) (clrL (j - i))) := fun ty =>
          run_clear_z wr ty g (i * 3) (j - i) (c - i) (by omega) (fun q hq => by
            have hqR : (i * 3 + q) / 3 < R.length := by omega
            obtain ⟨u0, u1, u2⟩ := hR.cell hqR
            have hm : i * 3 + q = (i * 3 + q) / 3 * 3 ∨ i * 3 + q = (i * 3 + q) / 3 * 3 + 1 ∨ i * 3 + q = (i * 3 + q) / 3 * 3 + 2 := by omega
            rcases hm with e | e | e
            · rw [e, u0]; rfl
            · rw [e, u1]; rfl
            · rw [e, u2]; rfl) hR.frozen
        have HCC := Lib.hid hcc
        have HB := Lib.hid hB
        have HG := Lib.hid hG
        have HTL := Lib.hid hTl
        have HRL := Lib.hid hRl
        clear hR hRl hT hD hG hTl hB hcc
        go_wp2
        go_ret
        refine ⟨.slice (some ⟨g, 0, none⟩) i c, rfl, ?_, setCells_grown g _ _ _ _ HG.out⟩
        rw [← HTL.out]
        obtain ⟨cur', h1, h2⟩ := setCells_blk g _ (clrL (j - i)) (i * 3) wr cur HB.out
        have hlt2 : (R.take i).length = i := by rw [List.length_take, HRL.out]; omega
        refine ⟨some ⟨g, 0, none⟩, c, by rw [hlt2], by rw [hlt2]; omega, by rw [hlt2]; omega, fun q hq => ?_⟩
        have hqi : q < i := by rw [hlt2] at hq; exact hq
        have hqR : q < R.length := by rw [HRL.out]; omega
        obtain ⟨u0, u1, u2⟩ := HCC.out q hqR
        refine ⟨⟨g, 0, none⟩, zCs R[q], rfl, ⟨hbg, h1.lt⟩, rfl, ?_, ?_⟩
        · unfold ZC
          rw [List.getElem_take]
        · have e : (⟨g, 0, none⟩ : Addr).add (q * 3) = ⟨g, q * 3, none⟩ := by
            unfold Addr.add
            split
            · rename_i w0; rw [w0]
            · simp
          rw [e]
          intro k u hu
          unfold zCs at hu
          have hk : k = 0 ∨ k = 1 ∨ k = 2 := by
            have := (List.getElem?_eq_some_iff.1 hu).1
            simp at this
            omega
          rcases hk with rfl | rfl | rfl
          · simp at hu
            subst hu
            simpa [Addr.add] using (h1.cell (q * 3)).trans ((h2 _ (by omega)).trans u0)
          · simp at hu
            subst hu
            simpa [Addr.add] using (h1.cell (q * 3 + 1)).trans ((h2 _ (by omega)).trans u1)
          · simp at hu
            subst hu
            simpa [Addr.add] using (h1.cell (q * 3 + 2)).trans ((h2 _ (by omega)).trans u2)
end Go.Proofs.YtahlfndlkfoikaaDoor
namespace Go.Proofs.YtahlfndlkfoikaaDoor
open Go Go.RowKit Go.Shelf
namespace Cha
/-- What To answers. -/
def toR (a : Cou.Ac) (key c : Cou.Ct) : Int × List Ch := if beginF a [key, c] = 0 then (match allF a key with | none => (4, []) | some L => (0, L.filter fun x => decide (x.2 = c))) else (beginF a [key, c], [])
end Cha
set_option maxRecDepth 100000 in
set_option maxHeartbeats 1000000 in
theorem to1_any (x : Zc) (B : Nat) (c : Cou.Ct) (w : World) (hB : Blk w B 36 #[.int .i64 c.1, .int .i64 c.2]) :
    Calls Tryd.prog 56 (#[zV x] ++ #[.pointer (some ⟨B, 0, none⟩)]) w fun e w' => e = .returned (.bool (!decide (x.2.2 = c))) ∧ Below w.heap.size w w' := by
  obtain ⟨⟨xa, xn, xc⟩, us, x1, x2⟩ := x
  obtain ⟨c1, c2⟩ := c
  have HV : Hid (∀ b, decide (((x1, x2) : Cou.Ct) = (c1, c2)) = b → (Value.bool (!decide (((x1, x2) : Cou.Ct) = (c1, c2)))) = .bool (!b)) := Lib.hid fun b h => by rw [h]
  have b0 := (Bc (Ba (B0 w) (.cells #[.slice xa xn xc, .int .i64 x1, .int .i64 x2] 56)) hB.lt).trans (hB.cell 0)
  have b1 := (Bc (Ba (B0 w) (.cells #[.slice xa xn xc, .int .i64 x1, .int .i64 x2] 56)) hB.lt).trans (hB.cell 1)
  simp only [List.getElem?_toArray, List.getElem?_cons_zero, List.getElem?_cons_succ] at b0 b1
  obtain ⟨w1, hw1⟩ : ∃ w1 : World, w.alloc (.cells #[.slice xa xn xc, .int .i64 x1, .int .i64 x2] 56) = w1 := ⟨_, rfl⟩
  obtain ⟨bx, hbx⟩ : ∃ bx, w.heap.size = bx := ⟨_, rfl⟩
  have d0 : w1.cell? ⟨bx, 1, none⟩ = some (.int .i64 x1) := by rw [← hw1, ← hbx]; simp [go_sem]
  have d1 : w1.cell? ⟨bx, 2, none⟩ = some (.int .i64 x2) := by rw [← hw1, ← hbx]; simp [go_sem]
  have HB1 : Hid (Below w.heap.size w w1) := Lib.hid (by rw [← hw1]; exact Ba (B0 w) _)
  rw [hw1] at b0 b1
  have HW1 := Lib.hid hw1
  have HBX := Lib.hid hbx
  clear hB hw1 hbx
  unfold zV
  dsimp only
  by_cases h1 : x1 = c1
  · subst h1
    by_cases h2 : x2 = c2
    · subst h2
      have HZ := Lib.hid (HV.out true (by simp))
      clear HV
      go_enter Tryd.func56, Tryd.ntmps56
      go_upto_region 1 with fail
      rw [HW1.out, HBX.out]
      go_wp2
      go_ret
      exact ⟨by first | rfl | (rw [HZ.out]; rfl), HB1.out⟩
    · have HZ := Lib.hid (HV.out false (by simp [h2]))
      have e2 : (x2 == c2) = false := by simpa using h2
      clear HV h2
      go_enter Tryd.func56, Tryd.ntmps56
      go_upto_region 1 with fail
      rw [HW1.out, HBX.out]
      go_wp2
      go_ret
      exact ⟨by first | rfl | (rw [HZ.out]; rfl), HB1.out⟩
  · have HZ := Lib.hid (HV.out false (by simp [h1]))
    have e1 : (x1 == c1) = false := by simpa using h1
    clear HV h1
    go_enter Tryd.func56, Tryd.ntmps56
    go_upto_region 1 with fail
    rw [HW1.out, HBX.out]
    go_wp2
    go_ret
    exact ⟨by first | rfl | (rw [HZ.out]; rfl), HB1.out⟩
/-- A row's chains read, from those with their slices. -/
theorem slCh_of_z {F : Nat → Prop} {w : World} {v : Value} {Z : List Zc} (h : SlZ F w v Z) (hs : ∀ z ∈ Z, SlI (IsC w) w (.slice z.1.1 z.1.2.1 z.1.2.2) z.2.1) : SlCh F w v (Z.map (·.2)) := by
  obtain ⟨A, c, rfl, h1, h2, h3⟩ := h
  refine ⟨A, c, by rw [List.length_map], by rwa [List.length_map], by rwa [List.length_map], fun i hi => ?_⟩
  rw [List.length_map] at hi
  obtain ⟨ad, cs, q1, q2, q3, q4, q5⟩ := h3 i hi
  refine ⟨ad, cs, q1, q2, q3, ?_, q5⟩
  unfold ZC zCs at q4
  rw [List.getElem_map]
  exact ⟨_, q4, hs _ (List.getElem_mem hi)⟩
theorem slCh_nil (F : Nat → Prop) (w : World) : SlCh F w (.slice none 0 0) [] := Sl.nil_
set_option maxRecDepth 100000 in
set_option maxHeartbeats 4000000 in
theorem To_any (a : Cou.Ac) (vd vc : Value) (hdr : a.drawn < 2 ^ 64) (key c : Cou.Ct) (w : World) (F : Nat → Prop) (hA : AcAt F w vd vc a) :
    Calls Tryd.prog 30 #[.agg #[vd, vc, .int .u64 a.drawn], .agg #[.int .i64 key.1, .int .i64 key.2], .agg #[.int .i64 c.1, .int .i64 c.2]] w fun e w' => ∃ v, e = .returned (.tuple #[v, .int .i64 (Cha.toR a key c).1]) ∧ SlCh (fun b => w.heap.size ≤ b ∧ b < w'.heap.size) w' v (Cha.toR a key c).2 ∧ Below w.heap.size w w' := by
  obtain ⟨Ad, cd, hvd, -, -⟩ := id hA.dv.open
  obtain ⟨Ac, cc, hvc, -, -⟩ := id hA.cp.open
  subst hvd hvc
  have hF := hA.inW
  obtain ⟨dl, hdl⟩ : ∃ dl, a.divs.length = dl := ⟨_, rfl⟩
  obtain ⟨cl, hcl⟩ : ∃ cl, a.cps.length = cl := ⟨_, rfl⟩
  rw [hdl, hcl] at hA ⊢
  have HBG := Lib.hid (fun W (hb : Below w.heap.size w W) pv pl (hP : SlCt (fun b => b < W.heap.size) W pv pl) => begin_any a (.slice Ad dl cd) (.slice Ac cl cc) hdr pv pl W (fun b => b < W.heap.size) (hA.onB hF hb).all hP)
  have HAL := Lib.hid (fun (hok : Cou.Ok a) (c : Cou.Ct) (hc : CtS c) W (hb : Below w.heap.size w W) => all_any a hok (.slice Ad dl cd) (.slice Ac cl cc) hdr c hc W F (hA.onB hF hb))
  obtain ⟨k1, k2⟩ := key
  obtain ⟨t1, t2⟩ := c
  obtain ⟨w1, hw1⟩ : ∃ w1 : World, ((w.alloc (.cells #[.slice Ad dl cd, .slice Ac cl cc, .int .u64 a.drawn] 33)).alloc (.cells #[.int .i64 k1, .int .i64 k2] 36)).alloc (.cells #[.int .i64 t1, .int .i64 t2] 36) = w1 := ⟨_, rfl⟩
  obtain ⟨bx, hbx⟩ : ∃ bx, w.heap.size = bx := ⟨_, rfl⟩
  obtain ⟨b1, hb1⟩ : ∃ b1, bx + 1 = b1 := ⟨_, rfl⟩
  obtain ⟨b2, hb2⟩ : ∃ b2, b1 + 1 = b2 := ⟨_, rfl⟩
  have KX : Blk w1 bx 33 #[.slice Ad dl cd, .slice Ac cl cc, .int .u64 a.drawn] := by
    rw [← hw1, ← hbx]; exact ((Blk.new _ _ _).alloc _).alloc _
  have KK : Blk w1 b1 36 #[.int .i64 k1, .int .i64 k2] := by
    have := (Blk.new (w.alloc (.cells #[.slice Ad dl cd, .slice Ac cl cc, .int .u64 a.drawn] 33)) 36 #[.int .i64 k1, .int .i64 k2]).alloc (.cells #[.int .i64 t1, .int .i64 t2] 36)
    rw [hw1] at this
    rw [← hb1, ← hbx]; simpa using this
  have KC : Blk w1 b2 36 #[.int .i64 t1, .int .i64 t2] := by
    have := Blk.new ((w.alloc (.cells #[.slice Ad dl cd, .slice Ac cl cc, .int .u64 a.drawn] 33)).alloc (.cells #[.int .i64 k1, .int .i64 k2] 36)) 36 #[.int .i64 t1, .int .i64 t2]
    rw [hw1] at this
    rw [← hb2, ← hb1, ← hbx]; simpa using this
  have B1 : Below w.heap.size w w1 := by rw [← hw1]; exact Ba (Ba (Ba (B0 w) _) _) _
  have HK := Lib.hid (fun W (hb : Below w1.heap.size w1 W) => (show (W.cell? ⟨bx, 0, none⟩ = some (.slice Ad dl cd) ∧ W.cell? ⟨bx, 1, none⟩ = some (.slice Ac cl cc) ∧ W.cell? ⟨bx, 2, none⟩ = some (.int .u64 a.drawn)) ∧ (W.cell? ⟨b1, 0, none⟩ = some (.int .i64 k1) ∧ W.cell? ⟨b1, 1, none⟩ = some (.int .i64 k2)) ∧ W.cell? ⟨b2, 0, none⟩ = some (.int .i64 t1) ∧ W.cell? ⟨b2, 1, none⟩ = some (.int .i64 t2) from
    ⟨⟨(Bc hb KX.lt).trans (KX.cell 0), (Bc hb KX.lt).trans (KX.cell 1), (Bc hb KX.lt).trans (KX.cell 2)⟩, ⟨(Bc hb KK.lt).trans (KK.cell 0), (Bc hb KK.lt).trans (KK.cell 1)⟩, (Bc hb KC.lt).trans (KC.cell 0), (Bc hb KC.lt).trans (KC.cell 1)⟩))
  have HKC := Lib.hid KC
  have HB1 := Lib.hid B1
  have HW1 := Lib.hid hw1
  have HBX := Lib.hid hbx
  have HE1 := Lib.hid hb1
  have HE2 := Lib.hid hb2
  have hbg := HBG.out _ (Bt B1 (Ba (B0 w1) (.cells #[.int .i64 k1, .int .i64 k2, .int .i64 t1, .int .i64 t2] 36))) _ _ (slCt_two w1 (k1, k2) (t1, t2))
  obtain ⟨⟨c0, c1, c2⟩, ⟨c3, c4⟩, c5, c6⟩ := HK.out w1 (B0 w1)
  clear hA hF B1 hw1 hbx hb1 hb2 hdl hcl HBG hdr KX KK KC
  dsimp only
  by_cases hbe : Cha.beginF a [(k1, k2), (t1, t2)] = 0
  · obtain ⟨hrt, hwk, -⟩ := Cha.begin_two hbe
    have hok := Cou.right_ok hrt
    have hin := Cha.wrong_inA hwk
    have hz : Cha.toR a (k1, k2) (t1, t2) = match Cha.allF a (k1, k2) with | none => (4, []) | some L => (0, L.filter fun x => decide (x.2 = (t1, t2))) := by unfold Cha.toR; rw [if_pos hbe]
    rw [hbe] at hbg
    have HBE := Lib.hid hbg
    have HAL2 := Lib.hid (HAL.out hok (k1, k2) (inA_cts hok hin))
    cases hal : Cha.allF a (k1, k2) with
    | none =>
      have HZ : Hid (Cha.toR a (k1, k2) (t1, t2) = (4, [])) := Lib.hid (by rw [hz, hal])
      have hc := HAL2.out
      rw [hal] at hc
      have HC := Lib.hid hc
      clear hz hal hc HAL2 hbe hbg hok hin HAL hrt hwk
      go_enter Tryd.func30, Tryd.ntmps30
      go_upto_region 1 with fail
      rw [HW1.out, HBX.out, HE1.out, HE2.out]
      go_wp2_with (first
        | (go_at_call 38; (with_reducible refine (HBE.out.mono ?_)); rintro e w2 ⟨rfl, hb2⟩; have HB2 := Lib.hid (Bt (Ba (B0 w1) _) hb2); clear c0 c1 c2 c3 c4 c5 c6; obtain ⟨⟨d0, d1, d2⟩, ⟨d3, d4⟩, d5, d6⟩ := HK.out w2 HB2.out; clear hb2)
        | (go_at_call 54; (with_reducible refine ((HC.out _ (Bt HB1.out HB2.out)).mono ?_)); rintro e w3 ⟨v, rfl, -, hb3⟩; have HB3 := Lib.hid (Bt HB2.out hb3); clear hb3 d0 d1 d2 d3 d4 d5 d6))
      go_ret2
      rw [HZ.out]
      exact ⟨_, rfl, slCh_nil _ _, Bt HB1.out HB3.out⟩
    | some L =>
      have HZ : Hid (Cha.toR a (k1, k2) (t1, t2) = (0, L.filter fun x => decide (x.2 = (t1, t2)))) := Lib.hid (by rw [hz, hal])
      have hLl : L.length ≤ 2000 := by
        unfold Cha.allF at hal
        split at hal
        · cases hal
        · split at hal
          · rename_i h
            injection hal with hal
            rw [← hal, List.length_map]; exact h
          · cases hal
      have HLL := Lib.hid hLl
      have hc := HAL2.out
      rw [hal] at hc
      have HC := Lib.hid hc
      clear hz hal hc HAL2 hLl hbe hbg hok hin HAL hrt hwk
      go_enter Tryd.func30, Tryd.ntmps30
      go_upto_region 1 with fail
      rw [HW1.out, HBX.out, HE1.out, HE2.out]
      go_upto_region 7 with (first
        | (go_at_call 38; (with_reducible refine (HBE.out.mono ?_)); rintro e w2 ⟨rfl, hb2⟩; have HB2 := Lib.hid (Bt (Ba (B0 w1) _) hb2); clear c0 c1 c2 c3 c4 c5 c6; obtain ⟨⟨d0, d1, d2⟩, ⟨d3, d4⟩, d5, d6⟩ := HK.out w2 HB2.out; clear hb2)
        | (go_at_call 54; (with_reducible refine ((HC.out _ (Bt HB1.out HB2.out)).mono ?_)); rintro e w3 ⟨v, rfl, hO3, hb3⟩; have HO3 := Lib.hid (OwnCh.more (hO3 L rfl) (Bt (Bt HB1.out HB2.out) (B0 w2)).size); have HO32 := Lib.hid (hO3 L rfl); have HB3 := Lib.hid (Bt HB2.out hb3); clear hb3 hO3 d0 d1 d2 d3 d4 d5 d6))
      obtain ⟨Z, hZ1, hZ2, hZ3⟩ := ownCh_z HO32.out
      have hlt : ∀ b, v.ownBlock = some b → w2.heap.size ≤ b := fun b h => (hZ2.lt b h).1
      have HC3 := Lib.hid (HKC.out.below HB3.out HKC.out.lt)
      have hzl : Z.length ≤ 2000 := by rw [← List.length_map (f := fun z : Zc => z.2), hZ1]; exact HLL.out
      have hb2s : b2 < w2.heap.size := Nat.lt_of_lt_of_le HKC.out.lt HB2.out.size
      have HDF := Lib.hid (deletef_z (fun x => !decide (x = (t1, t2))) Z (by omega) 56 #[.pointer (some ⟨b2, 0, none⟩)] (enters_of Tryd.func56 (by kernel_rfl) rfl) w2.heap.size v w3 hZ2 fun W x _ hW => to1_any x b2 (t1, t2) W (HC3.out.grown hW fun e => by have := hlt b2 e.symm; omega))
      have HZ1 := Lib.hid hZ1
      have HZ2 := Lib.hid hZ2
      have HZ3 := Lib.hid hZ3
      have HLT := Lib.hid hlt
      clear hZ1 hZ2 hZ3 hlt hzl hb2s
      go_wp2_with (go_at_call 55; (with_reducible refine (HDF.out.mono ?_)); rintro e w4 ⟨v4, rfl, hs4, hg4⟩; have HS4 := Lib.hid hs4; have HG4 := Lib.hid hg4; clear hs4 hg4)
      go_ret2
      rw [HZ.out]
      have hle : w.heap.size ≤ w2.heap.size := Nat.le_trans HB1.out.size HB2.out.size
      have hfe : (Z.filter fun c => !!decide (c.2.2 = (t1, t2))).map (·.2) = L.filter fun x => decide (x.2 = (t1, t2)) := by
        rw [← HZ1.out, List.filter_map]
        simp only [Bool.not_not]
        rfl
      have hno : ∀ b, IsC w3 b → some b ≠ v.ownBlock := by
        obtain ⟨cs, _, _, ho⟩ := HZ2.out
        exact isC_own ho (by decide) (by decide)
      refine ⟨v4, rfl, ?_, (Bt HB1.out HB3.out).grown HG4.out (Bt HB1.out HB3.out).size fun k e => Nat.le_trans hle (HLT.out k e)⟩
      have h := slCh_of_z HS4.out fun z hz => by
        have hA3 : Agree (IsC w3) w3 w4 := Agree.grown HG4.out fun b hb => ⟨hb.lt, hno b hb⟩
        exact (SlI.keep (HZ3.out z (List.mem_filter.1 hz).1) hA3).mono fun b hb => hb.grown HG4.out (hno b hb)
      rw [hfe] at h
      exact Sl.mono h fun b hb => ⟨Nat.le_trans hle hb.1, hb.2⟩
  · have HZ : Hid (Cha.toR a (k1, k2) (t1, t2) = (Cha.beginF a [(k1, k2), (t1, t2)], [])) := Lib.hid (by unfold Cha.toR; rw [if_neg hbe])
    have d1 : (Cha.beginF a [(k1, k2), (t1, t2)] != 0) = true := by simpa using hbe
    have HBE := Lib.hid hbg
    clear hbe hbg HAL
    generalize Cha.beginF a [(k1, k2), (t1, t2)] = er at *
    go_enter Tryd.func30, Tryd.ntmps30
    go_upto_region 1 with fail
    rw [HW1.out, HBX.out, HE1.out, HE2.out]
    go_wp2_with (go_at_call 38; (with_reducible refine (HBE.out.mono ?_)); rintro e w2 ⟨rfl, hb2⟩; have HB2 := Lib.hid (Bt (Ba (B0 w1) _) hb2); clear hb2)
    go_ret2
    rw [HZ.out]
    exact ⟨_, rfl, slCh_nil _ _, Bt HB1.out HB2.out⟩
end Go.Proofs.YtahlfndlkfoikaaDoor
namespace Go.Proofs.YtahlfndlkfoikaaDoor
open Go Go.RowKit Go.Shelf
theorem bitsMul_any (n : Nat) (hn : n ≤ 1000000) (w : World) : Calls Tryd.prog 75 #[.int .u64 1, .int .u64 n] w fun e w' => e = .returned (.tuple #[.int .u64 0, .int .u64 n]) ∧ w' = w := by
  have h := Any.bits_Mul Tryd.lays212 1 n (by omega) (by omega) w
  have h1 : 1 * n / 18446744073709551616 = 0 := by omega
  have h2 : 1 * n % 18446744073709551616 = n := by omega
  rw [h1, h2] at h
  exact h
theorem run_copy_ct (w : World) (ty : TypeId) (b o dLen dCap : Nat) (a : Addr) (sLen sCap m : Nat) (cs : List Value) (hm : Nat.min sLen dLen = m) (hn : cs.length = m * 2)
    (hsrc : ∀ j v, cs[j]? = some v → w.cell? (a.add j) = some v) (hc : ∀ j, j < cs.length → (w.cell? ⟨b, o + j, none⟩).isSome = true) (hf : ∀ j, j < cs.length → w.frozen? ⟨b, o + j, none⟩ = false) (h1 : ∀ v ∈ cs, v.oneCell' = true) :
    (Builtin.copy_ #[38, 38] ty #[.slice (some ⟨b, o, none⟩) dLen dCap, .slice (some a) sLen sCap]).run Tryd.prog w = .ok (.int .i64 m) (w.setCells b o cs) := by
  have hl := run_loadCells_list (P := Tryd.prog) w a cs hsrc
  have hst := run_storeCells_cells (P := Tryd.prog) b o cs 0 w (by simpa using hc) (by simpa using hf) h1
  obtain ⟨i, hq, _, hi, _⟩ := info_parts infoCt
  rw [hn] at hl
  have hu : Tryd.prog.underlying 38 = some (.slice 36) := Tryd.underlying38
  simp [Builtin.copy_, run_underlying hu, Builtin.lenOf, Builtin.firstCells, sizeOf, typeInfo, hq, hi, hm, hl, hst]
  rfl
theorem run_copy_ct0 (w : World) (ty : TypeId) (d a : Option Addr) (dLen dCap sLen sCap : Nat) (hm : Nat.min sLen dLen = 0) :
    (Builtin.copy_ #[38, 38] ty #[.slice d dLen dCap, .slice a sLen sCap]).run Tryd.prog w = .ok (.int .i64 0) w := by
  have hl : ∀ (x : Addr), (loadCells x 0).run Tryd.prog w = .ok #[] w := fun x => by simpa using run_loadCells_list (P := Tryd.prog) w x [] (by simp)
  obtain ⟨i, hq, _, hi, _⟩ := info_parts infoCt
  have hu : Tryd.prog.underlying 38 = some (.slice 36) := Tryd.underlying38
  cases d <;> cases a <;> simp [Builtin.copy_, run_underlying hu, Builtin.lenOf, Builtin.firstCells, sizeOf, typeInfo, hq, hm, storeCells, hl] <;> rfl
theorem hmkCt (n : Nat) (hn : n ≤ 1000000) : ∃ cur : Array Value, cur.size = n * 2 ∧ ∀ W : World, (Instr.makeSlice 38 (.int .i64 (n : Int)) (.int .i64 (n : Int))).run Tryd.prog W = .ok (.slice (some ⟨W.heap.size, 0, none⟩) n n) (W.alloc (.cells cur 36)) := by
  obtain ⟨i, hi, hz, hs, hb⟩ := info_parts infoCt
  refine ⟨madeCells (Value.agg #[.int .i64 0, .int .i64 0]).cells (n * 2), by simp [madeCells], fun W => ?_⟩
  have := run_make_rowN (P := Tryd.prog) 38 36 i _ Tryd.underlying38 hi hz .i64 .i64 n n (Nat.le_refl _) (by rw [hb]; omega) (by omega) W
  rw [this, hs]
/-- The cells of many contacts (-1, 0). -/
def patV (j : Nat) : Value := if j % 2 = 0 then .int .i64 (-1) else .int .i64 0
def patL (n : Nat) : List Value := (List.range n).map patV
theorem patL_len (n : Nat) : (patL n).length = n := by simp [patL]
theorem patL_get {n j : Nat} (h : j < n) : (patL n)[j]? = some (patV j) := by simp [patL, h]
theorem patL_one (n : Nat) : ∀ v ∈ patL n, v.oneCell' = true := fun v hv => by
  obtain ⟨j, _, rfl⟩ := List.mem_map.1 hv
  unfold patV
  split <;> rfl
/-- The first m contacts of a row of n are (-1, 0). -/
structure RepSt (w W : World) (g n m : Nat) : Prop where
  old : w.heap.size ≤ g
  bel : Below w.heap.size w W
  all : ∀ j, j < n * 2 → (W.cell? ⟨g, j, none⟩).isSome = true
  fro : ∀ j, W.frozen? ⟨g, j, none⟩ = false
  pat : ∀ j, j < m * 2 → W.cell? ⟨g, j, none⟩ = some (patV j)
theorem RepSt.put {w W : World} {g n m q : Nat} (h : RepSt w W g n m) (hq : m + q ≤ n) : RepSt w (W.setCells g (m * 2) (patL (q * 2))) g n (m + q) := by
  have hin : ∀ j, j < (patL (q * 2)).length → (W.cell? ⟨g, m * 2 + j, none⟩).isSome = true := fun j hj => h.all _ (by rw [patL_len] at hj; omega)
  have hval : ∀ j, j < q * 2 → (W.setCells g (m * 2) (patL (q * 2))).cell? ⟨g, m * 2 + j, none⟩ = some (patV j) := fun j hj => by
    have hj2 : j < (patL (q * 2)).length := by rw [patL_len]; exact hj
    rw [World.cell?_setCells_in g (patL (q * 2)) (m * 2) W hin j hj2]
    have := patL_get hj
    rw [List.getElem?_eq_getElem hj2] at this
    exact this
  have hout : ∀ j, j < m * 2 ∨ m * 2 + q * 2 ≤ j → (W.setCells g (m * 2) (patL (q * 2))).cell? ⟨g, j, none⟩ = W.cell? ⟨g, j, none⟩ := fun j hj => World.cell?_setCells_out g (patL (q * 2)) (m * 2) W ⟨g, j, none⟩ fun _ _ => by rw [patL_len]; exact hj
  refine ⟨h.old, h.bel.grown (setCells_grown g _ _ W W (World.grownBy.refl W _)) h.bel.size (fun k e => by injection e with e; have := h.old; omega), fun j hj => ?_, fun j => by rw [World.frozen?_setCells]; exact h.fro j, fun j hj => ?_⟩
  · rcases Nat.lt_or_ge j (m * 2) with q1 | q1
    · rw [hout j (.inl q1)]; exact h.all j hj
    · rcases Nat.lt_or_ge j (m * 2 + q * 2) with q2 | q2
      · have := hval (j - m * 2) (by omega)
        rw [show m * 2 + (j - m * 2) = j by omega] at this
        rw [this]; rfl
      · rw [hout j (.inr q2)]; exact h.all j hj
  · rcases Nat.lt_or_ge j (m * 2) with q1 | q1
    · rw [hout j (.inl q1)]; exact h.pat j q1
    · have := hval (j - m * 2) (by omega)
      rw [show m * 2 + (j - m * 2) = j by omega] at this
      rw [this]
      unfold patV
      rw [show (j - m * 2) % 2 = j % 2 by omega]
theorem RepSt.drew {w W : World} {g n m : Nat} (h : RepSt w W g n m) : RepSt w W.drew g n m := ⟨h.old, h.bel.drew, h.all, h.fro, h.pat⟩
theorem RepSt.sl {w W : World} {g n c : Nat} (h : RepSt w W g n n) (hn : n ≤ 1000000) (hc : n ≤ c) : SlCt (fun b => b < W.heap.size) W (.slice (some ⟨g, 0, none⟩) n c) (List.replicate n ((-1, 0) : Cou.Ct)) := by
  refine ⟨some ⟨g, 0, none⟩, c, by rw [List.length_replicate], by rwa [List.length_replicate], by rw [List.length_replicate]; omega, fun i hi => ?_⟩
  rw [List.length_replicate] at hi
  have h0 := h.pat (i * 2) (by omega)
  have h1 := h.pat (i * 2 + 1) (by omega)
  have e0 : patV (i * 2) = .int .i64 (-1) := by unfold patV; rw [if_pos (by omega)]
  have e1 : patV (i * 2 + 1) = .int .i64 0 := by unfold patV; rw [if_neg (by omega)]
  rw [e0] at h0
  rw [e1] at h1
  refine ⟨⟨g, 0, none⟩, [.int .i64 (-1), .int .i64 0], rfl, (show (⟨g, i * 2, none⟩ : Addr).block < W.heap.size from World.block_lt_of_cell? _ _ h0), rfl, by rw [List.getElem_replicate]; rfl, ?_⟩
  have e : (⟨g, 0, none⟩ : Addr).add (i * 2) = ⟨g, i * 2, none⟩ := by
    unfold Addr.add
    split
    · rename_i w0; rw [w0]
    · simp
  rw [e]
  intro k u hu
  have hk : k = 0 ∨ k = 1 := by
    have := (List.getElem?_eq_some_iff.1 hu).1
    simp at this
    omega
  rcases hk with rfl | rfl
  · simp at hu
    subst hu
    simpa [Addr.add] using h0
  · simp at hu
    subst hu
    simpa [Addr.add] using h1
theorem RepSt.src {w W : World} {g n m : Nat} (h : RepSt w W g n m) (q : Nat) (hq : q ≤ m) : ∀ j v, (patL (q * 2))[j]? = some v → W.cell? ((⟨g, 0, none⟩ : Addr).add j) = some v := fun j v hv => by
  have hj : j < q * 2 := by
    have := (List.getElem?_eq_some_iff.1 hv).1
    rwa [patL_len] at this
  rw [patL_get hj] at hv
  have e : (⟨g, 0, none⟩ : Addr).add j = ⟨g, j, none⟩ := by
    unfold Addr.add
    split
    · rename_i w0; rw [w0]
    · simp
  rw [e, h.pat j (by omega)]
  exact hv
set_option maxRecDepth 100000 in
set_option maxHeartbeats 2000000 in
theorem repeat_any (n : Nat) (hn : n ≤ 100000) (g : Nat) (w : World) (hB : Blk w g 36 #[.int .i64 (-1), .int .i64 0]) :
    Calls Tryd.prog 59 #[.slice (some ⟨g, 0, none⟩) 1 1, .int .i64 n] w fun e w' => ∃ A c, e = .returned (.slice A n c) ∧ SlCt (fun b => b < w'.heap.size) w' (.slice A n c) (List.replicate n ((-1, 0) : Cou.Ct)) ∧ Below w.heap.size w w' := by
  have HM := Lib.hid (fun W => bitsMul_any n (by omega) W)
  obtain ⟨cur, hcs, hmk⟩ := hmkCt n (by omega)
  have d0 : decide ((n : Int) < 0) = false := decide_eq_false (by omega)
  have d1 : decide ((9223372036854775807 : Int) < (n : Int)) = false := decide_eq_false (by omega)
  have v1 : IntKind.u64.wrap (n : Int) = n := by rw [IntKind.wrap_u64]; omega
  have v2 : IntKind.i64.wrap (n : Int) = n := IntWalk.i64_in _ (by omega)
  obtain ⟨w2, hw2⟩ : ∃ w2 : World, w.alloc (.cells cur 36) = w2 := ⟨_, rfl⟩
  obtain ⟨g2, hg2⟩ : ∃ g2, w.heap.size = g2 := ⟨_, rfl⟩
  have K2 : Blk w2 g2 36 cur := by rw [← hw2, ← hg2]; exact Blk.new _ _ _
  have B2 : Below w.heap.size w w2 := by rw [← hw2]; exact Ba (B0 w) _
  have hmk2 := hmk w
  rw [hw2, hg2] at hmk2
  by_cases h0 : n = 0
  · subst h0
    have hmk0 : (Instr.makeSlice 38 (.int .i64 0) (.int .i64 0)).run Tryd.prog w = .ok (.slice (some ⟨g2, 0, none⟩) 0 0) w2 := hmk2
    have hcp1 : ∀ ty, (Builtin.copy_ #[38, 38] ty #[.slice (some ⟨g2, 0, none⟩) 0 0, .slice (some ⟨g, 0, none⟩) 1 1]).run Tryd.prog w2 = .ok (.int .i64 0) w2 := fun ty => run_copy_ct0 w2 ty _ _ 0 0 1 1 rfl
    have HB2 := Lib.hid B2
    clear hmk hmk2 hw2 hg2 K2 hcs B2 hB
    go_enter Tryd.func59, Tryd.ntmps59
    go_wp2_with (go_at_call 75; (with_reducible refine ((show Calls Tryd.prog 75 #[.int .u64 1, .int .u64 0] _ _ from HM.out _).mono ?_)); rintro e w' ⟨rfl, hw'⟩; rw [hw']; clear hw')
    go_loopg [8] 0 (fun gg s8 wr => s8 = .int .i64 0 ∧ wr = w2)
    case atStart => exact ⟨rfl, rfl⟩
    case round =>
      obtain ⟨rfl, rfl⟩ := hrel
      go_wp2
      go_ret
      exact ⟨_, _, rfl, ⟨_, _, rfl, Nat.le_refl _, by decide, fun i hi => absurd hi (by simp)⟩, HB2.out⟩
  · have hst : RepSt w w2 g2 n 0 := ⟨by omega, B2, fun j hj => by rw [K2.cell]; rw [Array.getElem?_eq_getElem (by rw [hcs]; exact hj)]; rfl, fun j => K2.frozen j, fun j hj => absurd hj (by omega)⟩
    have hst1 := hst.put (q := 1) (by omega)
    have hcp1 : ∀ ty, (Builtin.copy_ #[38, 38] ty #[.slice (some ⟨g2, 0, none⟩) n n, .slice (some ⟨g, 0, none⟩) 1 1]).run Tryd.prog w2 = .ok (.int .i64 1) (w2.setCells g2 0 (patL 2)) := fun ty =>
      run_copy_ct w2 ty g2 0 n n ⟨g, 0, none⟩ 1 1 1 (patL 2) (by show min 1 n = 1; omega) rfl (fun j v hv => by
        have hb := hB.below B2 hB.lt
        have e : (⟨g, 0, none⟩ : Addr).add j = ⟨g, j, none⟩ := by
          unfold Addr.add
          split
          · rename_i w0; rw [w0]
          · simp
        rw [e, hb.cell]
        have hj : j = 0 ∨ j = 1 := by
          have := (List.getElem?_eq_some_iff.1 hv).1
          rw [patL_len] at this
          omega
        rcases hj with rfl | rfl
        · exact hv
        · exact hv) (fun j hj => by rw [Nat.zero_add]; exact hst.all j (by rw [patL_len] at hj; omega)) (fun j _ => hst.fro _) (patL_one 2)
    rw [Nat.zero_mul, Nat.zero_add] at hst1
    obtain ⟨w3, hw3⟩ : ∃ w3 : World, w2.setCells g2 0 (patL 2) = w3 := ⟨_, rfl⟩
    have hst1' : RepSt w w3 g2 n 1 := by rw [← hw3]; exact hst1
    rw [hw3] at hcp1
    have HST := Lib.hid hst1'
    clear hmk hw2 hg2 K2 hcs B2 hB hst hst1 hst1' hw3
    go_enter Tryd.func59, Tryd.ntmps59
    go_wp2_with (go_at_call 75; (with_reducible refine ((HM.out _).mono ?_)); rintro e w' ⟨rfl, hw'⟩; rw [hw']; clear hw')
    clear hmk2 hcp1
    go_loopg [8] n (fun gg s8 wr => ∃ m : Nat, 1 ≤ m ∧ m ≤ n ∧ n - m ≤ gg ∧ s8 = .int .i64 m ∧ Aside (RepSt w wr g2 n m))
    case atStart => exact ⟨1, by omega, by omega, by omega, rfl, HST.out⟩
    case round =>
      obtain ⟨m, hm1, hm2, hgg, rfl, HS⟩ := hrel
      replace HS := Lib.hid HS
      by_cases hlt : m < n
      · have hltI : (m : Int) < n := by omega
        obtain ⟨q, hq⟩ : ∃ q, Nat.min m (n - m) = q := ⟨_, rfl⟩
        have hq1 : 1 ≤ q ∧ m + q ≤ n ∧ q ≤ m := by
          have : Nat.min m (n - m) = min m (n - m) := rfl
          omega
        have hcp : ∀ ty, (Builtin.copy_ #[38, 38] ty #[.slice (some ⟨g2, m * 2, none⟩) (n - m) (n - m), .slice (some ⟨g2, 0, none⟩) m n]).run Tryd.prog wr.drew = .ok (.int .i64 q) (wr.drew.setCells g2 (m * 2) (patL (q * 2))) := fun ty =>
          run_copy_ct wr.drew ty g2 (m * 2) (n - m) (n - m) ⟨g2, 0, none⟩ m n q (patL (q * 2)) hq (patL_len _) (HS.out.src q hq1.2.2) (fun j hj => HS.out.all _ (by rw [patL_len] at hj; omega)) (fun j _ => HS.out.fro _) (patL_one _)
        obtain ⟨mq, hmq⟩ : ∃ mq, m + q = mq := ⟨_, rfl⟩
        have e1 : (m : Int) + q = mq := by omega
        clear hq
        go_upto_region 9 with fail
        go_region
        all_goals
          go_wp2
          go_roundg (n - mq)
          case measure => omega
          case rel => exact ⟨mq, by omega, by omega, by omega, by go_num, (show Aside _ from by show RepSt _ _ _ _ _; rw [← hmq]; exact (HS.out.drew).put hq1.2.1)⟩
      · obtain rfl : m = n := by omega
        go_wp2
        go_ret
        exact ⟨_, _, rfl, HS.out.sl (by omega) (Nat.le_refl _), HS.out.bel⟩
end Go.Proofs.YtahlfndlkfoikaaDoor
namespace Go.Proofs.YtahlfndlkfoikaaDoor
open Go Go.RowKit Go.Shelf
namespace Cha
/-- A chain that is one coupler longer. -/
theorem moreF_last {a : Cou.Ac} {x y : Lk} {at_ : Cou.Ct} (h : y ∈ moreF a x at_) : ∃ (i : Nat) (t : Cou.Ct), y = (x.1 ++ [(i : Int)], x.2 ++ [t]) ∧ Cou.stepF a i at_ = some t := by
  obtain ⟨i, _, hi⟩ := List.mem_filterMap.1 h
  obtain ⟨t, _, _, h3, _, h5⟩ := oneMoreF_eq hi
  exact ⟨i, t, h5, h3⟩
theorem putF_len (Q : List Ch) (y : Lk) : (putF Q y).length ≤ Q.length + 1 := by
  unfold putF; split <;> simp
theorem foldPut_len : ∀ (M : List Lk) (Q : List Ch), (M.foldl putF Q).length ≤ Q.length + M.length
  | [], Q => by simp
  | y :: M, Q => by
    have h1 := foldPut_len M (putF Q y)
    have h2 := putF_len Q y
    simp only [List.foldl_cons, List.length_cons]
    omega
end Cha
/-- What lies where Least stands: the action, the map, the queue. -/
structure LSt (ab sb qb mb base : Nat) (vd vc : Value) (dr : Nat) (v : Value) (Q : List Cha.Ch) (w : World) : Prop where
  act : Blk w ab 33 #[vd, vc, .int .u64 dr]
  seen : Blk w sb 104 #[.map (some mb)]
  que : Blk w qb 67 #[v]
  own : OwnCh base w v Q
  map : SeenC (Cha.ends Q) mb w
  big : base ≤ w.heap.size
/-- The blocks lie in order. -/
structure LOrd (ab sb qb mb base : Nat) : Prop where
  am : ab < mb
  ms : mb < sb
  sq : sb < qb
  qb_ : qb < base
theorem LSt.keep {ab sb qb mb base : Nat} {vd vc : Value} {dr : Nat} {v : Value} {Q : List Cha.Ch} {w w' : World} (h : LSt ab sb qb mb base vd vc dr v Q w) (hb : Below w.heap.size w w') : LSt ab sb qb mb base vd vc dr v Q w' :=
  ⟨h.act.below hb h.act.lt, h.seen.below hb h.seen.lt, h.que.below hb h.que.lt, OwnCh.below h.own hb, h.map.of_block (hb.block mb h.map.lt), Nat.le_trans h.big hb.size⟩
theorem map_obj {l : List Cou.Ct} {mb : Nat} {w : World} (h : SeenC l mb w) : ∃ o : Obj, w.heap[mb]? = some o ∧ o.isCells = false := by
  obtain ⟨es, ⟨a, c, hh, _⟩, _⟩ := h
  exact ⟨_, hh, rfl⟩
theorem isC_map {l : List Cou.Ct} {mb : Nat} {w : World} (h : SeenC l mb w) : ∀ b, IsC w b → some b ≠ some mb := by
  rintro b ⟨cs, hb | hb⟩
  · exact hb.not_turned fun r e => by injection e with e; subst e; exact map_obj h
  · exact hb.not_turned fun r e => by injection e with e; subst e; exact map_obj h
theorem own_map {l : List Cou.Ct} {mb : Nat} {w : World} (h : SeenC l mb w) {base : Nat} {e : TypeId} {k n : Nat} {v : Value} {xs : List Value} (ho : w.ownsRow base e k v n xs) : v.ownBlock = none ∨ v.ownBlock ≠ some mb := by
  cases hv : v.ownBlock with
  | none => exact .inl rfl
  | some r =>
    refine .inr fun q => ?_
    injection q with q
    subst q
    obtain ⟨o, h1, h2⟩ := own_cells ho r hv
    obtain ⟨o', h3, h4⟩ := map_obj h
    rw [h1] at h3
    injection h3 with h3
    subst h3
    rw [h2] at h4; cases h4
theorem isC_que {w : World} {qb : Nat} {cs : Array Value} (h : Blk w qb 67 cs) : ∀ b, IsC w b → some b ≠ some qb := by
  rintro b ⟨cs', hb | hb⟩ e
  · injection e with e
    subst e
    unfold Blk at h hb
    rw [h] at hb
    injection hb with hb
    injection hb with _ hb
    exact absurd hb (by decide)
  · injection e with e
    subst e
    unfold Blk at h hb
    rw [h] at hb
    injection hb with hb
    injection hb with _ hb
    exact absurd hb (by decide)
/-- What holds behind each operation of a drawn region. -/
def FM1 (lim _ab bx _bt n m : Nat) (vd vc : Value) (Ax : Option Addr) (cx dr : Nat) (at1 at2 : Int) (M : List Cha.Lk) (j : Nat) (s : Nat → Value) (w : World) : Prop :=
  match j with
  | 0 => s 10 = .agg #[vd, vc, .int .u64 dr]
  | 1 => s 11 = .pointer (some ⟨bx, 0, none⟩)
  | 2 => s 12 = .slice Ax n cx
  | 3 => s 13 = .agg #[.int .i64 (-1), .int .i64 0]
  | 4 => ∃ g, s 14 = .slice (some ⟨g, 0, none⟩) 1 1 ∧ Blk w g 36 #[.int .i64 (-1), .int .i64 0]
  | 5 => s 15 = .pointer (some ⟨bx, 0, none⟩)
  | 6 => s 16 = .slice Ax n cx
  | 7 => s 17 = .int .i64 n
  | 8 => ∃ A c, s 18 = .slice A n c ∧ SlCt (fun b => b < w.heap.size) w (.slice A n c) (List.replicate n ((-1, 0) : Cou.Ct))
  | 9 => ∃ A c, s 19 = .agg #[.slice Ax n cx, .slice A n c] ∧ SlCt (fun b => b < w.heap.size) w (.slice A n c) (List.replicate n ((-1, 0) : Cou.Ct))
  | 10 => s 20 = .agg #[.int .i64 at1, .int .i64 at2]
  | 11 => ∃ A c, s 21 = .slice A m c ∧ OwnLk lim w (.slice A m c) M
  | 12 => s 22 = .int .i64 m
  | 13 => s 23 = .int .i64 0
  | _ => True
def VM1 (j : Nat) : List Nat := match j with
  | 0 => [10] | 1 => [11] | 2 => [12] | 3 => [13] | 4 => [14] | 5 => [15] | 6 => [16] | 7 => [17] | 8 => [18] | 9 => [19] | 10 => [20] | 11 => [21] | 12 => [22] | 13 => [23] | _ => []
def EM1 (j : Nat) : Bool := j == 11 || j == 12 || j == 13
theorem FM1_V (lim _ab bx _bt n m : Nat) (vd vc : Value) (Ax : Option Addr) (cx dr : Nat) (at1 at2 : Int) (M : List Cha.Lk) (j : Nat) (s s' : Nat → Value) (w : World) (h : ∀ t, t ∈ VM1 j → s' t = s t) (hF : FM1 lim _ab bx _bt n m vd vc Ax cx dr at1 at2 M j s w) : FM1 lim _ab bx _bt n m vd vc Ax cx dr at1 at2 M j s' w := by
  match j with
  | 0 => unfold FM1 at hF ⊢; simp only at hF ⊢; rw [h 10 (by simp [VM1])]; exact hF
  | 1 => unfold FM1 at hF ⊢; simp only at hF ⊢; rw [h 11 (by simp [VM1])]; exact hF
  | 2 => unfold FM1 at hF ⊢; simp only at hF ⊢; rw [h 12 (by simp [VM1])]; exact hF
  | 3 => unfold FM1 at hF ⊢; simp only at hF ⊢; rw [h 13 (by simp [VM1])]; exact hF
  | 4 => unfold FM1 at hF ⊢; simp only at hF ⊢; rw [h 14 (by simp [VM1])]; exact hF
  | 5 => unfold FM1 at hF ⊢; simp only at hF ⊢; rw [h 15 (by simp [VM1])]; exact hF
  | 6 => unfold FM1 at hF ⊢; simp only at hF ⊢; rw [h 16 (by simp [VM1])]; exact hF
  | 7 => unfold FM1 at hF ⊢; simp only at hF ⊢; rw [h 17 (by simp [VM1])]; exact hF
  | 8 => unfold FM1 at hF ⊢; simp only at hF ⊢; rw [h 18 (by simp [VM1])]; exact hF
  | 9 => unfold FM1 at hF ⊢; simp only at hF ⊢; rw [h 19 (by simp [VM1])]; exact hF
  | 10 => unfold FM1 at hF ⊢; simp only at hF ⊢; rw [h 20 (by simp [VM1])]; exact hF
  | 11 => unfold FM1 at hF ⊢; simp only at hF ⊢; rw [h 21 (by simp [VM1])]; exact hF
  | 12 => unfold FM1 at hF ⊢; simp only at hF ⊢; rw [h 22 (by simp [VM1])]; exact hF
  | 13 => unfold FM1 at hF ⊢; simp only at hF ⊢; rw [h 23 (by simp [VM1])]; exact hF
  | _ + 14 => trivial
theorem FM1_below (lim _ab bx _bt n m : Nat) (vd vc : Value) (Ax : Option Addr) (cx dr : Nat) (at1 at2 : Int) (M : List Cha.Lk) (j : Nat) (s : Nat → Value) (w w' : World) (hb : Below w.heap.size w w') (hF : FM1 lim _ab bx _bt n m vd vc Ax cx dr at1 at2 M j s w) : FM1 lim _ab bx _bt n m vd vc Ax cx dr at1 at2 M j s w' := by
  match j with
  | 0 => exact hF
  | 1 => exact hF
  | 2 => exact hF
  | 3 => exact hF
  | 4 => obtain ⟨g, q1, q2⟩ := hF; exact ⟨g, q1, q2.below hb q2.lt⟩
  | 5 => exact hF
  | 6 => exact hF
  | 7 => exact hF
  | 8 => obtain ⟨A, c, q1, q2⟩ := hF; exact ⟨A, c, q1, Sl.mono (SlCt.keep q2 (Agree.below hb fun b h => h)) fun b h => Nat.lt_of_lt_of_le h hb.size⟩
  | 9 => obtain ⟨A, c, q1, q2⟩ := hF; exact ⟨A, c, q1, Sl.mono (SlCt.keep q2 (Agree.below hb fun b h => h)) fun b h => Nat.lt_of_lt_of_le h hb.size⟩
  | 10 => exact hF
  | 11 => obtain ⟨A, c, q1, q2⟩ := hF; exact ⟨A, c, q1, OwnLk.below q2 hb⟩
  | 12 => exact hF
  | 13 => exact hF
  | _ + 14 => trivial
set_option maxRecDepth 100000 in
set_option maxHeartbeats 8000000 in
theorem least1_any (a : Cou.Ac) (hok : Cou.Ok a) (vd vc : Value) (hdr : a.drawn < 2 ^ 64) (F : Nat → Prop) (xv : Value) (x : List Int) (x2 : Cou.Ct) (hxl : x.length ≤ 100000) (at_ : Cou.Ct) (hat : CtS at_) (ab sb qb mb base : Nat) (ho : LOrd ab sb qb mb base) (v : Value) (Q : List Cha.Ch) (hQl : Q.length ≤ 5000) (hQs : ∀ t ∈ Cha.ends Q, CtS t)
    (w : World) (hA : AcAt F w vd vc a) (hx : SlI (IsC w) w xv x) (hq : LSt ab sb qb mb base vd vc a.drawn v Q w) :
    Calls Tryd.prog 57 #[.agg #[xv, .int .i64 x2.1, .int .i64 x2.2], .agg #[.int .i64 at_.1, .int .i64 at_.2], .pointer (some ⟨ab, 0, none⟩), .pointer (some ⟨sb, 0, none⟩), .pointer (some ⟨qb, 0, none⟩)] w fun e w' => (∃ r, e = .returned r) ∧
      ∃ v', LSt ab sb qb mb base vd vc a.drawn v' (Cha.addF a Q x at_) w' ∧ Below mb w w' := by
  obtain ⟨Ax, cx, hxv, -, -, -⟩ := SlI.open hx
  obtain ⟨n, hn⟩ : ∃ n, x.length = n := ⟨_, rfl⟩
  rw [hn] at hxv
  subst hxv
  obtain ⟨M, hM⟩ : ∃ M, Cha.moreF a (x, List.replicate n ((-1, 0) : Cou.Ct)) at_ = M := ⟨_, rfl⟩
  have hZ : Cha.addF a Q x at_ = M.foldl Cha.putF Q := by unfold Cha.addF; rw [hn, hM]
  have hMl : M.length ≤ 40 := by
    have h1 := Cha.moreF_len a (x, List.replicate n ((-1, 0) : Cou.Ct)) at_
    have h2 := hok.nc
    rw [hM] at h1
    omega
  have hMe : ∀ i (hi : i < M.length), ∃ (c : Nat) (t : Cou.Ct), M[i] = (x ++ [(c : Int)], List.replicate n ((-1, 0) : Cou.Ct) ++ [t]) ∧ CtS t := fun i hi => by
    have this : M[i] ∈ Cha.moreF a (x, List.replicate n ((-1, 0) : Cou.Ct)) at_ := by simpa only [hM] using List.getElem_mem hi
    obtain ⟨c, t, h1, h2⟩ := Cha.moreF_last this
    exact ⟨c, t, h1, inA_small hok (Cou.stepF_in hok h2)⟩
  have hn5 : n ≤ 100000 := by rw [← hn]; exact hxl
  obtain ⟨m, hm⟩ : ∃ m, M.length = m := ⟨_, rfl⟩
  obtain ⟨at1, at2⟩ := at_
  obtain ⟨x21, x22⟩ := x2
  obtain ⟨dr, hdrE⟩ : ∃ dr, a.drawn = dr := ⟨_, rfl⟩
  have hMO := fun W (hA2 : AcAt (fun b => b < W.heap.size) W vd vc a) vv (hU : SlI (fun b => b < W.heap.size) W (.slice Ax n cx) x) (hV : SlCt (fun b => b < W.heap.size) W vv (List.replicate n ((-1, 0) : Cou.Ct))) => more_any a hok vd vc hdr (.slice Ax n cx) vv (x, List.replicate n ((-1, 0) : Cou.Ct)) (by rw [List.length_replicate]; exact hn) hxl (at1, at2) hat W _ hA2 hU hV
  rw [hdrE] at hq hMO ⊢
  rw [hM] at hMO
  rw [hZ]
  obtain ⟨w1, hw1⟩ : ∃ w1 : World, (w.alloc (.cells #[.slice Ax n cx, .int .i64 x21, .int .i64 x22] 56)).alloc (.cells #[.int .i64 at1, .int .i64 at2] 36) = w1 := ⟨_, rfl⟩
  obtain ⟨bx, hbx⟩ : ∃ bx, w.heap.size = bx := ⟨_, rfl⟩
  obtain ⟨bt, hbt⟩ : ∃ bt, bx + 1 = bt := ⟨_, rfl⟩
  have KX : Blk w1 bx 56 #[.slice Ax n cx, .int .i64 x21, .int .i64 x22] := by rw [← hw1, ← hbx]; exact (Blk.new _ _ _).alloc _
  have KT : Blk w1 bt 36 #[.int .i64 at1, .int .i64 at2] := by
    have := Blk.new (w.alloc (.cells #[.slice Ax n cx, .int .i64 x21, .int .i64 x22] 56)) 36 #[.int .i64 at1, .int .i64 at2]
    rw [hw1] at this
    rw [← hbt, ← hbx]
    simpa using this
  have B1 : Below w.heap.size w w1 := by rw [← hw1]; exact Ba (Ba (B0 w) _) _
  have hq1 := hq.keep B1
  have HS := Lib.hid (fun W (hb : Below w1.heap.size w1 W) => (show (W.cell? ⟨ab, 0, none⟩ = some vd ∧ W.cell? ⟨ab, 1, none⟩ = some vc ∧ W.cell? ⟨ab, 2, none⟩ = some (.int .u64 dr)) ∧ W.cell? ⟨bx, 0, none⟩ = some (.slice Ax n cx) ∧ W.cell? ⟨bt, 0, none⟩ = some (.int .i64 at1) ∧ W.cell? ⟨bt, 1, none⟩ = some (.int .i64 at2) from
    ⟨⟨(Bc hb hq1.act.lt).trans (hq1.act.cell 0), (Bc hb hq1.act.lt).trans (hq1.act.cell 1), (Bc hb hq1.act.lt).trans (hq1.act.cell 2)⟩, (Bc hb KX.lt).trans (KX.cell 0), (Bc hb KT.lt).trans (KT.cell 0), (Bc hb KT.lt).trans (KT.cell 1)⟩))
  have HAX := Lib.hid (fun W (hb : Below w1.heap.size w1 W) => (show AcAt (fun b => b < W.heap.size) W vd vc a from ((hA.on B1).on hb).all))
  have HXX := Lib.hid (fun W (hb : Below w1.heap.size w1 W) => (show SlI (fun b => b < W.heap.size) W (.slice Ax n cx) x from by
    exact (SlI.keep hx (Agree.below (Bt B1 hb) fun b h => IsC.lt h)).mono fun b h => Nat.lt_of_lt_of_le (IsC.lt h) (Bt B1 hb).size))
  have HMO := Lib.hid hMO
  have HB1 := Lib.hid B1
  have HW1 := Lib.hid hw1
  have HBX := Lib.hid hbx
  have HBT := Lib.hid hbt
  have HQ1 := Lib.hid hq1
  have HML := Lib.hid hm
  have HME := Lib.hid hMe
  have HBW : Hid (mb ≤ w.heap.size) := Lib.hid (Nat.le_of_lt hq.map.lt)
  clear hxl hat hA hx hq hM hZ hMe hMO B1 hw1 hbx hbt hq1 KX KT hdrE hdr hn
  dsimp only
  go_enter Tryd.func57, Tryd.ntmps57
  go_upto_region 1 with fail
  rw [HW1.out, HBX.out, HBT.out]
  have hBB : ∀ (L : Nat → Bool) (i : Nat) (W W' : World), Below W.heap.size W W' → Below w1.heap.size w1 W → Below w1.heap.size w1 W' := fun _ _ _ _ hb h => Bt h hb
  refine region_blocks (by kernel_rfl) ?_
  refine from_lawW 14 EM1 (fun _ W => Below w1.heap.size w1 W) (FM1 w1.heap.size ab bx bt n m vd vc Ax cx dr at1 at2 M) VM1 (by kernel_rfl) rfl (FM1_V _ _ _ _ _ _ _ _ _ _ _ _ _ _) (by kernel_rfl) (by kernel_rfl) (B0 w1).drew ⟨?_, ?_, ?_, ?_, ?_, ?_, ?_, ?_, ?_, ?_, ?_, ?_, ?_, ?_, trivial⟩ ?_
  · refine OpFactW.value rfl (FM1_below _ _ _ _ _ _ _ _ _ _ _ _ _ _) hBB fun L a w2 hl hf D hb => ?_
    have h0 : sl a 2 = .pointer (some ⟨ab, 0, none⟩) := hf 2 (by kernel_rfl)
    have es := HS.out w2 hb
    refine ⟨.agg #[vd, vc, .int .u64 dr], w2, ?_, B0 _, fun s _ h => h 10 rfl⟩
    unfold sl at h0
    simp at h0
    simp [go_sem, h0, es]
  · refine OpFactW.value rfl (FM1_below _ _ _ _ _ _ _ _ _ _ _ _ _ _) hBB fun L a w2 hl hf D hb => ?_
    have h0 : sl a 5 = .pointer (some ⟨bx, 0, none⟩) := hf 5 (by kernel_rfl)
    refine ⟨.pointer (some ⟨bx, 0, none⟩), w2, ?_, B0 _, fun s _ h => h 11 rfl⟩
    unfold sl at h0
    simp at h0
    simp [go_sem, h0]
  · refine OpFactW.value rfl (FM1_below _ _ _ _ _ _ _ _ _ _ _ _ _ _) hBB fun L a w2 hl hf D hb => ?_
    have h0 : sl a 11 = .pointer (some ⟨bx, 0, none⟩) := D 1 (by kernel_rfl)
    have es := HS.out w2 hb
    refine ⟨.slice Ax n cx, w2, ?_, B0 _, fun s _ h => h 12 rfl⟩
    unfold sl at h0
    simp at h0
    simp [go_sem, h0, es]
  · refine OpFactW.value rfl (FM1_below _ _ _ _ _ _ _ _ _ _ _ _ _ _) hBB fun L a w2 hl hf D hb => ?_
    refine ⟨.agg #[.int .i64 (-1), .int .i64 0], w2, ?_, B0 _, fun s _ h => h 13 rfl⟩
    first | kernel_rfl | simp [go_sem, zeroCt]
  · refine OpFactW.value rfl (FM1_below _ _ _ _ _ _ _ _ _ _ _ _ _ _) hBB fun L a w2 hl hf D hb => ?_
    have h1 : sl a 13 = .agg #[.int .i64 (-1), .int .i64 0] := D 3 (by kernel_rfl)
    refine ⟨.slice (some ⟨w2.heap.size, 0, none⟩) 1 1, w2.alloc (.cells #[.int .i64 (-1), .int .i64 0] 36), ?_, Ba (B0 _) _, fun s _ h => ⟨_, h 14 rfl, Blk.new _ _ _⟩⟩
    unfold sl at h1
    simp at h1
    simp [go_sem, h1]
  · refine OpFactW.value rfl (FM1_below _ _ _ _ _ _ _ _ _ _ _ _ _ _) hBB fun L a w2 hl hf D hb => ?_
    have h0 : sl a 5 = .pointer (some ⟨bx, 0, none⟩) := hf 5 (by kernel_rfl)
    refine ⟨.pointer (some ⟨bx, 0, none⟩), w2, ?_, B0 _, fun s _ h => h 15 rfl⟩
    unfold sl at h0
    simp at h0
    simp [go_sem, h0]
  · refine OpFactW.value rfl (FM1_below _ _ _ _ _ _ _ _ _ _ _ _ _ _) hBB fun L a w2 hl hf D hb => ?_
    have h0 : sl a 15 = .pointer (some ⟨bx, 0, none⟩) := D 5 (by kernel_rfl)
    have es := HS.out w2 hb
    refine ⟨.slice Ax n cx, w2, ?_, B0 _, fun s _ h => h 16 rfl⟩
    unfold sl at h0
    simp at h0
    simp [go_sem, h0, es]
  · refine OpFactW.value rfl (FM1_below _ _ _ _ _ _ _ _ _ _ _ _ _ _) hBB fun L a w2 hl hf D hb => ?_
    have h1 : sl a 16 = .slice Ax n cx := D 6 (by kernel_rfl)
    refine ⟨.int .i64 n, w2, ?_, B0 _, fun s _ h => h 17 rfl⟩
    unfold sl at h1
    simp at h1
    simp [go_sem, h1]
  · refine OpFactW.call rfl (FM1_below _ _ _ _ _ _ _ _ _ _ _ _ _ _) hBB fun L a w2 hl hf D hb => ?_
    obtain ⟨g, h1, hB⟩ : ∃ g, sl a 14 = .slice (some ⟨g, 0, none⟩) 1 1 ∧ Blk w2 g 36 #[.int .i64 (-1), .int .i64 0] := D 4 (by kernel_rfl)
    have h2 : sl a 17 = .int .i64 n := D 7 (by kernel_rfl)
    refine ⟨59, #[.slice (some ⟨g, 0, none⟩) 1 1, .int .i64 n], ?_, (repeat_any n hn5 g w2 hB).mono ?_⟩
    · unfold sl at h1 h2
      simp at h1 h2
      simp [go_sem, h1, h2]
    · rintro e w' ⟨A, c, rfl, hs, hb3⟩
      exact ⟨_, rfl, hb3, fun s _ h => ⟨A, c, h 18 rfl, hs⟩⟩
  · refine OpFactW.value rfl (FM1_below _ _ _ _ _ _ _ _ _ _ _ _ _ _) hBB fun L a w2 hl hf D hb => ?_
    have h1 : sl a 12 = .slice Ax n cx := D 2 (by kernel_rfl)
    obtain ⟨A, c, h2, hs⟩ : ∃ A c, sl a 18 = .slice A n c ∧ SlCt (fun b => b < w2.heap.size) w2 (.slice A n c) (List.replicate n ((-1, 0) : Cou.Ct)) := D 8 (by kernel_rfl)
    refine ⟨.agg #[.slice Ax n cx, .slice A n c], w2, ?_, B0 _, fun s _ h => ⟨A, c, h 19 rfl, hs⟩⟩
    unfold sl at h1 h2
    simp at h1 h2
    simp [go_sem, h1, h2]
  · refine OpFactW.value rfl (FM1_below _ _ _ _ _ _ _ _ _ _ _ _ _ _) hBB fun L a w2 hl hf D hb => ?_
    have h0 : sl a 6 = .pointer (some ⟨bt, 0, none⟩) := hf 6 (by kernel_rfl)
    have es := HS.out w2 hb
    refine ⟨.agg #[.int .i64 at1, .int .i64 at2], w2, ?_, B0 _, fun s _ h => h 20 rfl⟩
    unfold sl at h0
    simp at h0
    simp [go_sem, h0, es]
  · refine OpFactW.call rfl (FM1_below _ _ _ _ _ _ _ _ _ _ _ _ _ _) hBB fun L a w2 hl hf D hb => ?_
    have h1 : sl a 10 = .agg #[vd, vc, .int .u64 dr] := D 0 (by kernel_rfl)
    obtain ⟨A, c, h2, hs⟩ : ∃ A c, sl a 19 = .agg #[.slice Ax n cx, .slice A n c] ∧ SlCt (fun b => b < w2.heap.size) w2 (.slice A n c) (List.replicate n ((-1, 0) : Cou.Ct)) := D 9 (by kernel_rfl)
    have h3 : sl a 20 = .agg #[.int .i64 at1, .int .i64 at2] := D 10 (by kernel_rfl)
    refine ⟨58, #[.agg #[vd, vc, .int .u64 dr], .agg #[.slice Ax n cx, .slice A n c], .agg #[.int .i64 at1, .int .i64 at2]], ?_, (HMO.out w2 (HAX.out w2 hb) _ (HXX.out w2 hb) hs).mono ?_⟩
    · unfold sl at h1 h2 h3
      simp at h1 h2 h3
      simp [go_sem, h1, h2, h3]
    · rintro e w' ⟨r, rfl, hO, hb3⟩
      obtain ⟨A', c', rfl, -⟩ := hO.sl (F := fun _ => True) (by rw [HML.out]; omega) fun _ _ _ _ => trivial
      rw [HML.out] at hO ⊢
      exact ⟨_, rfl, hb3, fun s _ h => ⟨A', c', h 21 rfl, OwnLk.more hO hb.size⟩⟩
  · refine OpFactW.value rfl (FM1_below _ _ _ _ _ _ _ _ _ _ _ _ _ _) hBB fun L a w2 hl hf D hb => ?_
    obtain ⟨A, c, h1, -⟩ : ∃ A c, sl a 21 = .slice A m c ∧ OwnLk w1.heap.size w2 (.slice A m c) M := D 11 (by kernel_rfl)
    refine ⟨.int .i64 m, w2, ?_, B0 _, fun s _ h => h 22 rfl⟩
    unfold sl at h1
    simp at h1
    simp [go_sem, h1]
  · refine OpFactW.value rfl (FM1_below _ _ _ _ _ _ _ _ _ _ _ _ _ _) hBB fun L a w2 hl hf D hb => ?_
    exact ⟨.int .i64 0, w2, by first | kernel_rfl | simp [go_sem], B0 _, fun s _ h => h 23 rfl⟩
  intro L y w4 hb4 hF4
  obtain ⟨Am, cm, h21, hO4⟩ : ∃ A c, y 21 = .slice A m c ∧ OwnLk w1.heap.size w4 (.slice A m c) M := hF4 11 (by decide) rfl
  have h22 : y 22 = .int .i64 m := hF4 12 (by decide) rfl
  have h23 : y 23 = .int .i64 0 := hF4 13 (by decide) rfl
  have HO4 := Lib.hid hO4
  have HB4 := Lib.hid hb4
  have HQ4 := Lib.hid (HQ1.out.keep hb4)
  clear hF4 hb4 hO4
  rw [aft14 (d0 := 10) (d1 := 11) (d2 := 12) (d3 := 13) (d4 := 14) (d5 := 15) (d6 := 16) (d7 := 17) (d8 := 18) (d9 := 19) (d10 := 20) (d11 := 21) (d12 := 22) (d13 := 23) (by kernel_rfl) rfl]
  rw [h21, h22, h23]
  simp only [List.set_cons_succ, List.set_cons_zero]
  refine from_end rfl ?_
  clear h21 h22 h23 HXX HAX HMO HS
  obtain ⟨-, hms, hsq, hqb⟩ := id ho
  have HB04 : Hid (Below mb w w4) := Lib.hid ((Bt HB1.out HB4.out).mono HBW.out)
  have HW0 : Hid (w.heap.size ≤ w4.heap.size) := Lib.hid (Bt HB1.out HB4.out).size
  go_wp2_with fail
  go_loopg [23] m (fun gg s23 wr => ∃ (k : Nat) (v' : Value), k ≤ m ∧ m - k ≤ gg ∧ s23 = .int .i64 k ∧ Aside (LSt ab sb qb mb base vd vc dr v' ((M.take k).foldl Cha.putF Q) wr) ∧ Aside (OwnLk w1.heap.size wr (.slice Am m cm) M) ∧ Aside (Below mb w wr) ∧ Aside (∀ t ∈ Cha.ends ((M.take k).foldl Cha.putF Q), CtS t))
  case atStart => exact ⟨0, v, by omega, by omega, rfl, (show Aside _ from by show LSt _ _ _ _ _ _ _ _ _ _ _; rw [List.take_zero]; exact HQ4.out), HO4.out, HB04.out, (show Aside _ from by show ∀ _, _; rw [List.take_zero]; exact hQs)⟩
  case round =>
    obtain ⟨k, v', hk, hg, rfl, HQ, HO, HB, HT⟩ := hrel
    replace HQ := Lib.hid HQ
    replace HO := Lib.hid HO
    replace HB := Lib.hid HB
    replace HT := Lib.hid HT
    by_cases hlt : k < m
    · have hltI : (k : Int) < m := by omega
      have hkM : k < M.length := by rw [HML.out]; exact hlt
      obtain ⟨ad, c5, u, Av, cv, e5, hbl5, hfl5, hu5, hv5⟩ := OwnLk.at_ HO.out (by rw [HML.out]; omega) hkM
      rw [HML.out] at e5
      injection e5 with e5a e5b e5c
      subst e5a
      clear e5b e5c
      obtain ⟨Au, cu, hue, -, -⟩ := SlI.open hu5
      obtain ⟨c, t, hMk, hts⟩ := HME.out k hkM
      have hfold : (M.take (k + 1)).foldl Cha.putF Q = Cha.putF ((M.take k).foldl Cha.putF Q) M[k] := by
        rw [List.take_add_one, List.getElem?_eq_getElem hkM, List.foldl_append]; rfl
      rw [hMk] at hfold hu5 hv5 hfl5 hue
      dsimp only at hu5 hv5 hfl5 hue
      rw [List.length_append, List.length_replicate, List.length_singleton] at hfl5 hv5
      obtain ⟨nu, hnu⟩ : ∃ nu, (x ++ [(c : Int)]).length = nu := ⟨_, rfl⟩
      rw [hnu] at hue
      subst hue
      obtain ⟨t1, t2⟩ := t
      obtain ⟨Av', cv', ev, -, -, hvat⟩ := SlCt.open hv5
      injection ev with ev1 ev2 ev3
      subst ev1
      clear ev2 ev3
      obtain ⟨adv, rfl, hvb, hvf⟩ := hvat n (by simp)
      have hlast : (List.replicate n ((-1, 0) : Cou.Ct) ++ [(t1, t2)])[n]'(by simp) = (t1, t2) := by rw [List.getElem_append_right (by simp)]; simp
      rw [hlast] at hvf
      have hpl : Cha.lastF (List.replicate n ((-1, 0) : Cou.Ct) ++ [(t1, t2)]) = (t1, t2) := Cha.lastF_snoc _ _
      have hQk := Cha.foldPut_len (M.take k) Q
      rw [List.length_take] at hQk
      obtain ⟨Qk, hQk2⟩ : ∃ Qk, (M.take k).foldl Cha.putF Q = Qk := ⟨_, rfl⟩
      rw [hQk2] at hfold hQk HQ HT
      have hql : Qk.length ≤ 6000 := by omega
      obtain ⟨b8, hb8⟩ : ∃ b8, wr.heap.size = b8 := ⟨_, rfl⟩
      obtain ⟨b9, hb9⟩ : ∃ b9, b8 + 1 = b9 := ⟨_, rfl⟩
      obtain ⟨w5, hw5⟩ : ∃ w5 : World, wr.alloc (.cells #[.slice Au nu cu, .slice (some adv) (n + 1) cv] 109) = w5 := ⟨_, rfl⟩
      have K8 : Blk w5 b8 109 #[.slice Au nu cu, .slice (some adv) (n + 1) cv] := by rw [← hw5, ← hb8]; exact Blk.new _ _ _
      have B5 : Below wr.heap.size wr w5 := by rw [← hw5]; exact Ba (B0 wr) _
      obtain ⟨w6, hw6⟩ : ∃ w6 : World, w5.alloc (.cells #[.int .i64 t1, .int .i64 t2] 36) = w6 := ⟨_, rfl⟩
      have hs5 : w5.heap.size = b9 := by rw [← hw5, ← hb9, ← hb8]; simp
      have K9 : Blk w6 b9 36 #[.int .i64 t1, .int .i64 t2] := by rw [← hw6, ← hs5]; exact Blk.new _ _ _
      have B6 : Below wr.heap.size wr w6 := by rw [← hw6]; exact Ba B5 _
      have K86 : Blk w6 b8 109 #[.slice Au nu cu, .slice (some adv) (n + 1) cv] := by rw [← hw6]; exact K8.alloc _
      have hQ6 := HQ.out.keep B6
      have hlk := seenC_look hQ6.map HT.out (t1, t2) hts
      unfold ctV at hlk
      have hO6 := OwnLk.below HO.out B6
      have hB06 : Below mb w w6 := HB.out.trans (B6.mono (Nat.le_of_lt HQ.out.map.lt))
      have p0 := hfl5.f0 rfl
      have p1 := hfl5.f1 rfl
      have z0 := K8.cell 0
      have z1 := K8.cell 1
      simp only [List.getElem?_toArray, List.getElem?_cons_zero, List.getElem?_cons_succ] at z0 z1
      have hvb2 : (adv.add (n * 2)).block < wr.heap.size := by rw [block_of_add]; exact IsC.lt hvb
      have y0 := (B5.cell (p := adv.add (n * 2)) hvb2).trans (hvf.f0 rfl)
      have y1 := (B5.cell (p := ⟨(adv.add (n * 2)).block, (adv.add (n * 2)).off + 1, none⟩) hvb2).trans (hvf.f1 rfl)
      have s0 := hQ6.seen.cell 0
      have k0 := K9.cell 0
      have k1 := K9.cell 1
      simp only [List.getElem?_toArray, List.getElem?_cons_zero, List.getElem?_cons_succ] at s0 k0 k1
      have e1 : ((n : Int) + 1) - 1 = n := by omega
      have e2 : (n : Int) < (n : Int) + 1 := by omega
      have HW5 := Lib.hid hw5
      have HW6 := Lib.hid hw6
      have HB8 := Lib.hid hb8
      have HS5 := Lib.hid hs5
      have HQ6 := Lib.hid hQ6
      have HO6 := Lib.hid hO6
      have HB06 := Lib.hid hB06
      have HK9 := Lib.hid K9
      have HK86 := Lib.hid K86
      have HU6 : Hid (SlI (IsC w6) w6 (.slice Au nu cu) (x ++ [(c : Int)])) := Lib.hid ((SlI.keep hu5 (Agree.below B6 fun b h => IsC.lt h)).mono fun b h => h.below B6)
      have HFO := Lib.hid hfold
      have HPL := Lib.hid hpl
      have HTS := Lib.hid hts
      have HB69 := Lib.hid hb9
      clear hfl5 hu5 hv5 hvat hvb hvf hlast hMk hfold hpl hQk2 hw5 hw6 hb8 hs5 hQ6 hO6 hB06 K8 K9 K86 B5 B6 hvb2 hts hnu hbl5 hb9 hQk
      go_upto_region 4 with fail
      rw [HW5.out, HB8.out]
      clear p0 p1
      go_upto_region 5 with fail
      rw [HW6.out, HS5.out]
      clear y0 y1 z0 z1
      by_cases htm : (t1, t2) ∈ Cha.ends Qk
      · rw [decide_eq_true htm] at hlk
        have HF2 : Hid ((M.take (k + 1)).foldl Cha.putF Q = Qk) := Lib.hid (by rw [HFO.out]; exact Cha.putF_old (by rw [HPL.out]; exact htm))
        clear htm HFO
        go_wp2_with fail
        go_roundg (m - (k + 1))
        case measure => omega
        case rel => exact ⟨k + 1, v', by omega, by omega, by go_num, (show Aside _ from by show LSt _ _ _ _ _ _ _ _ _ _ _; rw [HF2.out]; exact HQ6.out), HO6.out, HB06.out, (show Aside _ from by show ∀ _, _; rw [HF2.out]; exact HT.out)⟩
      · rw [decide_eq_false htm] at hlk
        have HF2 : Hid ((M.take (k + 1)).foldl Cha.putF Q = Qk ++ [(x ++ [(c : Int)], (t1, t2))]) := Lib.hid (by rw [HFO.out, Cha.putF_new (by rw [HPL.out]; exact htm), HPL.out])
        obtain ⟨w7, hup, hm7, hg7⟩ := seenC_store HQ6.out.map HT.out (t1, t2) HTS.out
        unfold ctV at hup
        have hcm := isC_map HQ6.out.map
        obtain ⟨ds, q1, q2, q3⟩ := HQ6.out.own
        have q37 := q3.kept hg7 (own_map HQ6.out.map q3)
        have hQ7 : OwnCh base w7 v' Qk := OwnL.keep HQ6.out.own rfl (fun _ hx => hx.kept hg7 (own_map HQ6.out.map hx)) fun _ _ hr => hr.grown hg7 hcm
        have hO7 : OwnLk w1.heap.size w7 (.slice (some ad) m cm) M := OwnLk.grown HO6.out hg7 hcm (by
          obtain ⟨_, _, _, r3⟩ := HO6.out
          exact own_map HQ6.out.map r3)
        have nq : ∀ {q : Nat}, q ≠ mb → some q ≠ some mb := fun h e => h (by injection e)
        have hb8m : b8 ≠ mb := by have h1 := HQ.out.map.lt; have h2 := HB8.out; omega
        have hb9m : b9 ≠ mb := by have h1 := HQ.out.map.lt; have h2 := HB8.out; have h3 := HB69.out; omega
        have A7 := HQ6.out.act.grown hg7 (nq (by have := ho.am; omega))
        have S7 := HQ6.out.seen.grown hg7 (nq (by omega))
        have U7 := HQ6.out.que.grown hg7 (nq (by omega))
        have K97 := HK9.out.grown hg7 (nq hb9m)
        have K87 := HK86.out.grown hg7 (nq hb8m)
        have HU7 : Hid (SlI (IsC w7) w7 (.slice Au nu cu) (x ++ [(c : Int)])) := Lib.hid ((SlI.keep HU6.out (Agree.grown hg7 fun b hb => ⟨hb.lt, hcm b hb⟩)).mono fun b hb => hb.grown hg7 (hcm b hb))
        have B07 : Below mb w w7 := HB06.out.grown hg7 (Nat.le_of_lt HQ6.out.map.lt) (fun j e => by injection e with e; omega)
        have m0 := U7.cell 0
        have m1 := K97.cell 0
        have m2 := K97.cell 1
        have m3 := K87.cell 0
        simp only [List.getElem?_toArray, List.getElem?_cons_zero, List.getElem?_cons_succ] at m0 m1 m2 m3
        have hbig7 : base ≤ w7.heap.size := Nat.le_trans HQ6.out.big hg7.size
        have HP1 := Lib.hid q1
        have HQ7 := Lib.hid hQ7
        have HO7 := Lib.hid hO7
        have HA7 := Lib.hid A7
        have HS7 := Lib.hid S7
        have HUU7 := Lib.hid U7
        have HB07 := Lib.hid B07
        have HM7 := Lib.hid hm7
        obtain ⟨ds7, r1, r2, r3⟩ := hQ7
        have HR1 := Lib.hid r1
        have HR2 := Lib.hid r2
        have HR3 := Lib.hid r3
        clear htm HFO q1 q2 q3 q37 hO7 A7 S7 U7 K97 K87 B07 hm7 hg7 hcm r1 r2 r3 nq hb8m hb9m
        go_wp2_with (at_builtin; refine wpList_appS elemCh (by omega) rfl _ _ rfl base v' Qk.length _ rfl (HR3.out.alloc _) ⟨w7.heap.size, 0, none⟩ 1 [.slice Au nu cu, .int .i64 t1, .int .i64 t2] rfl rfl (Flds.new w7 _ _) (by simp [Value.oneCell']) (by omega) (by omega) (Nat.le_trans hbig7 (by simp)) ?_; intro g cap w8 hown8 hg8 hgg; have HO8 := Lib.hid hown8; have HG8 := Lib.hid hg8; have hU8 := (HUU7.out.alloc (.cells #[.slice Au nu cu, .int .i64 t1, .int .i64 t2] 56)).grown hg8 (fun e => by have := (HR3.out.lt qb e.symm).1; omega); have HU8 := Lib.hid hU8; have m8 := hU8.cell 0; have f8 := hU8.frozen 0; simp only [List.getElem?_toArray, List.getElem?_cons_zero] at m8; clear hown8 hg8 hgg hU8)
        obtain ⟨nv, hnv⟩ : ∃ nv : Value, Value.slice (some ⟨g, 0, none⟩) (Qk.length + 1) cap = nv := ⟨_, rfl⟩
        obtain ⟨o7, ho7⟩ : ∃ o7 : Obj, Obj.cells #[.slice Au nu cu, .int .i64 t1, .int .i64 t2] 56 = o7 := ⟨_, rfl⟩
        have hO8 := HO8.out
        have hG8 := HG8.out
        have hR3 := HR3.out
        have hR3a := hR3.alloc o7
        rw [ho7] at hG8
        rw [hnv] at hO8
        try rw [hnv]
        have hvl : ∀ b, v'.ownBlock = some b → base ≤ b := fun b e => (hR3.lt b e).1
        have e8 : ∀ j, j < base → some j ≠ v'.ownBlock := fun j hj e => by have := hvl j e.symm; omega
        have hset : w8.grownBy (w8.setCell ⟨qb, 0, none⟩ nv) (some qb) := only_setCell (World.grownBy.refl w8 _) (.inl rfl) nv
        have hcq := isC_que HU8.out
        have hco := isC_own hR3a (show 56 ≠ 3 by decide) (by decide)
        have hch : ∀ cs y, ChC w7 cs y → ChC (w8.setCell ⟨qb, 0, none⟩ nv) cs y := fun cs y h => ((h.below (Ba (B0 w7) o7)).grown hG8 hco).grown hset hcq
        have hbk : ∀ {j : Nat} {ty : TypeId} {cs' : Array Value}, j ≠ qb → some j ≠ v'.ownBlock → Blk w7 j ty cs' → Blk (w8.setCell ⟨qb, 0, none⟩ nv) j ty cs' := fun h2 h3 hk => (((hk.alloc o7).grown hG8 h3).far h2 nv)
        have hsz8 : w7.heap.size + 1 ≤ w8.heap.size := by simpa using hG8.size
        have hm7 := HM7.out
        have ham := ho.am
        have hmap : SeenC (Cha.ends Qk ++ [(t1, t2)]) mb (w8.setCell ⟨qb, 0, none⟩ nv) := hm7.of_block (((Below.heap_setCell w8 ⟨qb, 0, none⟩ nv mb (by simp; omega)).trans (hG8.block mb (Nat.lt_of_lt_of_le hm7.lt (by simp)) (e8 mb (by omega)))).trans (Below.heap_alloc w7 o7 mb hm7.lt))
        have hown9 : OwnCh base (w8.setCell ⟨qb, 0, none⟩ nv) nv (Qk ++ [(x ++ [(c : Int)], (t1, t2))]) := OwnL.snoc HR1.out HR2.out rfl (hch _ _ ⟨_, rfl, HU7.out⟩) (fun cs y h => hch cs y h) (ownsRow_setCell_below hO8 (by simp; omega) _)
        have hob : OwnLk w1.heap.size (w8.setCell ⟨qb, 0, none⟩ nv) (.slice (some ad) m cm) M := by
          have h1 := OwnLk.below HO7.out (Ba (B0 w7) o7)
          have h2 : OwnLk w1.heap.size w8 (.slice (some ad) m cm) M := OwnLk.grown h1 hG8 hco (by
            obtain ⟨_, _, _, k3⟩ := h1
            exact own_own_ne k3 hR3a (by decide))
          refine OwnLk.grown h2 hset hcq ?_
          obtain ⟨_, _, _, k3⟩ := h2
          exact .inr (own_ne k3 HU8.out (by decide))
        have hb9 : Below mb w (w8.setCell ⟨qb, 0, none⟩ nv) := by
          have hml := hm7.lt
          have x3 := HB07.out.alloc (show mb ≤ w7.heap.size by omega) o7
          have x4 := x3.grown hG8 (by simp; omega) (fun j e => by have := hvl j e; omega)
          exact x4.setCell (by simp; omega) nv
        have hlst : LSt ab sb qb mb base vd vc dr nv ((M.take (k + 1)).foldl Cha.putF Q) (w8.setCell ⟨qb, 0, none⟩ nv) := by
          rw [HF2.out]
          exact ⟨hbk (by omega) (e8 _ (by omega)) HA7.out, hbk (by omega) (e8 _ (by omega)) HS7.out, HU8.out.set_ 0 nv, hown9, by rw [Cha.ends_snoc]; exact hmap, by show base ≤ (w8.setCell _ _).heap.size; simp; omega⟩
        have hcts : ∀ y ∈ Cha.ends ((M.take (k + 1)).foldl Cha.putF Q), CtS y := by
          rw [HF2.out, Cha.ends_snoc]
          intro y hy
          rcases List.mem_append.1 hy with h | h
          · exact HT.out y h
          · simp only [List.mem_singleton] at h
            subst h
            exact HTS.out
        have HL9 := Lib.hid hlst
        have HC9 := Lib.hid hcts
        have HB9 := Lib.hid hb9
        have HO9 := Lib.hid hob
        clear hlst hcts hb9 hob hown9 hmap hch hbk hco hcq hset hO8 hG8 hR3 hR3a hvl e8 ho7 hm7
        go_roundg (m - (k + 1))
        case measure => omega
        case rel => exact ⟨k + 1, nv, by omega, by omega, by go_num, HL9.out, HO9.out, HB9.out, HC9.out⟩
    · obtain rfl : k = m := by omega
      have hQ := HQ.out
      rw [← HML.out, List.take_length] at hQ
      have HQ2 := Lib.hid hQ
      clear hQ
      go_wp2_with fail
      refine bodyPost_end (results_none rfl _ _ _) rfl ?_
      exact ⟨⟨_, rfl⟩, v', HQ2.out, HB.out⟩
end Go.Proofs.YtahlfndlkfoikaaDoor
namespace Go.Proofs.YtahlfndlkfoikaaDoor
open Go Go.RowKit Go.Shelf
namespace Cha
/-- What Least answers. -/
def leastR (a : Cou.Ac) (key c : Cou.Ct) : Int × Option Ch := if beginF a [key, c] = 0 then (0, leastF a key c) else (beginF a [key, c], none)
end Cha
/-- What holds behind each operation of a drawn region. -/
def FLQ (bx sb qb : Nat) (ad : Addr) (n c9 i : Nat) (Au : Option Addr) (nu cu : Nat) (x1 x2 : Int) (j : Nat) (s : Nat → Value) (_w : World) : Prop :=
  match j with
  | 0 => s 46 = .func (.func 57) #[] #[.pointer (some ⟨bx, 0, none⟩), .pointer (some ⟨sb, 0, none⟩), .pointer (some ⟨qb, 0, none⟩)]
  | 1 => s 47 = .slice (some ad) n c9
  | 2 => s 48 = .int .i64 (i : Nat)
  | 3 => s 49 = .pointer (some (ad.add (i * 3)))
  | 4 => s 50 = .agg #[.slice Au nu cu, .int .i64 x1, .int .i64 x2]
  | 5 => s 51 = .slice (some ad) n c9
  | 6 => s 52 = .int .i64 (i : Nat)
  | 7 => s 53 = .pointer (some (ad.add (i * 3)))
  | 8 => s 54 = .pointer (some ⟨(ad.add (i * 3)).block, (ad.add (i * 3)).off + 1, none⟩)
  | 9 => s 55 = .agg #[.int .i64 x1, .int .i64 x2]
  | _ => True
def VLQ (j : Nat) : List Nat := match j with
  | 0 => [46] | 1 => [47] | 2 => [48] | 3 => [49] | 4 => [50] | 5 => [51] | 6 => [52] | 7 => [53] | 8 => [54] | 9 => [55] | _ => []
def ELQ (j : Nat) : Bool := j == 0 || j == 4 || j == 9
theorem FLQ_V (bx sb qb : Nat) (ad : Addr) (n c9 i : Nat) (Au : Option Addr) (nu cu : Nat) (x1 x2 : Int) (j : Nat) (s s' : Nat → Value) (w : World) (h : ∀ t, t ∈ VLQ j → s' t = s t) (hF : FLQ bx sb qb ad n c9 i Au nu cu x1 x2 j s w) : FLQ bx sb qb ad n c9 i Au nu cu x1 x2 j s' w := by
  match j with
  | 0 => unfold FLQ at hF ⊢; simp only at hF ⊢; rw [h 46 (by simp [VLQ])]; exact hF
  | 1 => unfold FLQ at hF ⊢; simp only at hF ⊢; rw [h 47 (by simp [VLQ])]; exact hF
  | 2 => unfold FLQ at hF ⊢; simp only at hF ⊢; rw [h 48 (by simp [VLQ])]; exact hF
  | 3 => unfold FLQ at hF ⊢; simp only at hF ⊢; rw [h 49 (by simp [VLQ])]; exact hF
  | 4 => unfold FLQ at hF ⊢; simp only at hF ⊢; rw [h 50 (by simp [VLQ])]; exact hF
  | 5 => unfold FLQ at hF ⊢; simp only at hF ⊢; rw [h 51 (by simp [VLQ])]; exact hF
  | 6 => unfold FLQ at hF ⊢; simp only at hF ⊢; rw [h 52 (by simp [VLQ])]; exact hF
  | 7 => unfold FLQ at hF ⊢; simp only at hF ⊢; rw [h 53 (by simp [VLQ])]; exact hF
  | 8 => unfold FLQ at hF ⊢; simp only at hF ⊢; rw [h 54 (by simp [VLQ])]; exact hF
  | 9 => unfold FLQ at hF ⊢; simp only at hF ⊢; rw [h 55 (by simp [VLQ])]; exact hF
  | _ + 10 => trivial
theorem FLQ_below (bx sb qb : Nat) (ad : Addr) (n c9 i : Nat) (Au : Option Addr) (nu cu : Nat) (x1 x2 : Int) (j : Nat) (s : Nat → Value) (w w' : World) (_hb : Below w.heap.size w w') (hF : FLQ bx sb qb ad n c9 i Au nu cu x1 x2 j s w) : FLQ bx sb qb ad n c9 i Au nu cu x1 x2 j s w' := by
  match j with
  | 0 => exact hF
  | 1 => exact hF
  | 2 => exact hF
  | 3 => exact hF
  | 4 => exact hF
  | 5 => exact hF
  | 6 => exact hF
  | 7 => exact hF
  | 8 => exact hF
  | 9 => exact hF
  | _ + 10 => trivial
set_option maxRecDepth 100000 in
set_option maxHeartbeats 8000000 in
theorem Least_any (a : Cou.Ac) (vd vc : Value) (hdr : a.drawn < 2 ^ 64) (key c : Cou.Ct) (w : World) (F : Nat → Prop) (hA : AcAt F w vd vc a) :
    Calls Tryd.prog 31 #[.agg #[vd, vc, .int .u64 a.drawn], .agg #[.int .i64 key.1, .int .i64 key.2], .agg #[.int .i64 c.1, .int .i64 c.2]] w fun e w' => ∃ u, e = .returned (.tuple #[.agg #[u, .int .i64 ((Cha.leastR a key c).2.getD ([], (0, 0))).2.1, .int .i64 ((Cha.leastR a key c).2.getD ([], (0, 0))).2.2], .bool (Cha.leastR a key c).2.isSome, .int .i64 (Cha.leastR a key c).1]) ∧ SlI (fun b => b < w'.heap.size) w' u ((Cha.leastR a key c).2.getD ([], (0, 0))).1 ∧ Below w.heap.size w w' := by
  obtain ⟨Ad, cd, hvd, -, -⟩ := id hA.dv.open
  obtain ⟨Ac, cc, hvc, -, -⟩ := id hA.cp.open
  subst hvd hvc
  have hF := hA.inW
  obtain ⟨dl, hdl⟩ : ∃ dl, a.divs.length = dl := ⟨_, rfl⟩
  obtain ⟨cl, hcl⟩ : ∃ cl, a.cps.length = cl := ⟨_, rfl⟩
  rw [hdl, hcl] at hA ⊢
  have HBG := Lib.hid (fun W (hb : Below w.heap.size w W) pv pl (hP : SlCt (fun b => b < W.heap.size) W pv pl) => begin_any a (.slice Ad dl cd) (.slice Ac cl cc) hdr pv pl W (fun b => b < W.heap.size) (hA.onB hF hb).all hP)
  obtain ⟨k1, k2⟩ := key
  obtain ⟨t1, t2⟩ := c
  obtain ⟨w1, hw1⟩ : ∃ w1 : World, (((w.alloc (.cells #[.slice Ad dl cd, .slice Ac cl cc, .int .u64 a.drawn] 33)).alloc (.cells #[.int .i64 k1, .int .i64 k2] 36)).alloc (.cells #[.int .i64 t1, .int .i64 t2] 36)).alloc (.cells #[.slice none 0 0, .int .i64 0, .int .i64 0] 56) = w1 := ⟨_, rfl⟩
  obtain ⟨bx, hbx⟩ : ∃ bx, w.heap.size = bx := ⟨_, rfl⟩
  obtain ⟨b1, hb1⟩ : ∃ b1, bx + 1 = b1 := ⟨_, rfl⟩
  obtain ⟨b2, hb2⟩ : ∃ b2, b1 + 1 = b2 := ⟨_, rfl⟩
  obtain ⟨b6, hb6⟩ : ∃ b6, b2 + 1 = b6 := ⟨_, rfl⟩
  have KX : Blk w1 bx 33 #[.slice Ad dl cd, .slice Ac cl cc, .int .u64 a.drawn] := by
    rw [← hw1, ← hbx]; exact (((Blk.new _ _ _).alloc _).alloc _).alloc _
  have KK : Blk w1 b1 36 #[.int .i64 k1, .int .i64 k2] := by
    have := ((Blk.new (w.alloc (.cells #[.slice Ad dl cd, .slice Ac cl cc, .int .u64 a.drawn] 33)) 36 #[.int .i64 k1, .int .i64 k2]).alloc (.cells #[.int .i64 t1, .int .i64 t2] 36)).alloc (.cells #[.slice none 0 0, .int .i64 0, .int .i64 0] 56)
    rw [hw1] at this
    rw [← hb1, ← hbx]; simpa using this
  have KC : Blk w1 b2 36 #[.int .i64 t1, .int .i64 t2] := by
    have := (Blk.new ((w.alloc (.cells #[.slice Ad dl cd, .slice Ac cl cc, .int .u64 a.drawn] 33)).alloc (.cells #[.int .i64 k1, .int .i64 k2] 36)) 36 #[.int .i64 t1, .int .i64 t2]).alloc (.cells #[.slice none 0 0, .int .i64 0, .int .i64 0] 56)
    rw [hw1] at this
    rw [← hb2, ← hb1, ← hbx]; simpa using this
  have KR : Blk w1 b6 56 #[.slice none 0 0, .int .i64 0, .int .i64 0] := by
    have := Blk.new (((w.alloc (.cells #[.slice Ad dl cd, .slice Ac cl cc, .int .u64 a.drawn] 33)).alloc (.cells #[.int .i64 k1, .int .i64 k2] 36)).alloc (.cells #[.int .i64 t1, .int .i64 t2] 36)) 56 #[.slice none 0 0, .int .i64 0, .int .i64 0]
    rw [hw1] at this
    rw [← hb6, ← hb2, ← hb1, ← hbx]; simpa using this
  have B1 : Below w.heap.size w w1 := by rw [← hw1]; exact Ba (Ba (Ba (Ba (B0 w) _) _) _) _
  have HK := Lib.hid (fun W (hb : Below w1.heap.size w1 W) => (show (W.cell? ⟨bx, 0, none⟩ = some (.slice Ad dl cd) ∧ W.cell? ⟨bx, 1, none⟩ = some (.slice Ac cl cc) ∧ W.cell? ⟨bx, 2, none⟩ = some (.int .u64 a.drawn)) ∧ (W.cell? ⟨b1, 0, none⟩ = some (.int .i64 k1) ∧ W.cell? ⟨b1, 1, none⟩ = some (.int .i64 k2)) ∧ W.cell? ⟨b2, 0, none⟩ = some (.int .i64 t1) ∧ W.cell? ⟨b2, 1, none⟩ = some (.int .i64 t2) from
    ⟨⟨(Bc hb KX.lt).trans (KX.cell 0), (Bc hb KX.lt).trans (KX.cell 1), (Bc hb KX.lt).trans (KX.cell 2)⟩, ⟨(Bc hb KK.lt).trans (KK.cell 0), (Bc hb KK.lt).trans (KK.cell 1)⟩, (Bc hb KC.lt).trans (KC.cell 0), (Bc hb KC.lt).trans (KC.cell 1)⟩))
  have HKX := Lib.hid KX
  have HKK := Lib.hid KK
  have HKC := Lib.hid KC
  have HKR := Lib.hid KR
  have HB1 := Lib.hid B1
  have HW1 := Lib.hid hw1
  have HBX := Lib.hid hbx
  have HE1 := Lib.hid hb1
  have HE2 := Lib.hid hb2
  have HE6 := Lib.hid hb6
  have HAC := Lib.hid (hA.on B1)
  have hbg := HBG.out _ (Bt B1 (Ba (B0 w1) (.cells #[.int .i64 k1, .int .i64 k2, .int .i64 t1, .int .i64 t2] 36))) _ _ (slCt_two w1 (k1, k2) (t1, t2))
  obtain ⟨⟨c0, c1, c2⟩, ⟨c3, c4⟩, c5, c6⟩ := HK.out w1 (B0 w1)
  clear hA hF B1 hw1 hbx hb1 hb2 hb6 HBG KX KK KC KR
  dsimp only
  by_cases hbe : Cha.beginF a [(k1, k2), (t1, t2)] = 0
  · obtain ⟨hrt, hwk, -⟩ := Cha.begin_two hbe
    have hok := Cou.right_ok hrt
    have hin := Cha.wrong_inA hwk
    have hz : Cha.leastR a (k1, k2) (t1, t2) = (0, Cha.leastF a (k1, k2) (t1, t2)) := by unfold Cha.leastR; rw [if_pos hbe]
    rw [hz]
    rw [hbe] at hbg
    have HBE := Lib.hid hbg
    have hk := inA_cts hok hin
    have HOK := Lib.hid hok
    obtain ⟨res, hres⟩ : ∃ res, Cha.leastF a (k1, k2) (t1, t2) = res := ⟨_, rfl⟩
    rw [hres]
    have HRES := Lib.hid hres
    clear hbe hbg hin hrt hwk hz hres
    dsimp only
    have hmm := @run_makeMap Tryd.prog
    go_enter Tryd.func31, Tryd.ntmps31
    go_upto_region 1 with fail
    rw [HW1.out, HBX.out, HE1.out, HE2.out, HE6.out]
    go_upto_region 4 with (go_at_call 38; (with_reducible refine (HBE.out.mono ?_)); rintro e w2 ⟨rfl, hb2⟩; have HB2 := Lib.hid (Bt (Ba (B0 w1) _) hb2); clear c0 c1 c2 c3 c4 c5 c6; obtain ⟨⟨c0, c1, c2⟩, ⟨c3, c4⟩, c5, c6⟩ := HK.out w2 HB2.out; clear hb2)
    obtain ⟨mb, hmb⟩ : ∃ mb, w2.heap.size = mb := ⟨_, rfl⟩
    obtain ⟨sb, hsb⟩ : ∃ sb, mb + 1 = sb := ⟨_, rfl⟩
    obtain ⟨qb, hqb⟩ : ∃ qb, sb + 1 = qb := ⟨_, rfl⟩
    obtain ⟨w3, hw3⟩ : ∃ w3 : World, ((w2.alloc (.map #[] 0)).alloc (.cells #[.map (some mb)] 104)).alloc (.cells #[.slice none 0 0] 67) = w3 := ⟨_, rfl⟩
    have B3 : Below w2.heap.size w2 w3 := by rw [← hw3]; exact Ba (Ba (Ba (B0 w2) _) _) _
    have hs3 : w3.heap.size = qb + 1 := by rw [← hw3, ← hqb, ← hsb, ← hmb]; simp
    have HB3 : Hid (Below w1.heap.size w1 w3) := Lib.hid (Bt HB2.out B3)
    have hL3 : LSt bx sb qb mb (qb + 1) (.slice Ad dl cd) (.slice Ac cl cc) a.drawn (.slice none 0 0) [] w3 := by
      refine ⟨HKX.out.below HB3.out HKX.out.lt, ?_, ?_, OwnL.nil, ?_, by omega⟩
      · have := (Blk.new (w2.alloc (.map #[] 0)) 104 #[.map (some mb)]).alloc (.cells #[.slice none 0 0] 67)
        rw [hw3] at this
        rw [← hsb, ← hmb]
        simpa [hmb] using this
      · have := Blk.new ((w2.alloc (.map #[] 0)).alloc (.cells #[.map (some mb)] 104)) 67 #[.slice none 0 0]
        rw [hw3] at this
        rw [← hqb, ← hsb, ← hmb]
        simpa [hmb] using this
      · refine ⟨[], ?_, by simp, by simp [Cha.ends]⟩
        have h1 := MapAt.made w2
        rw [hmb] at h1
        exact h1.of_block (w' := w3) (by rw [← hw3]; exact (Below.heap_alloc _ _ _ (by simp; omega)).trans (Below.heap_alloc _ _ _ (by simp; omega)))
    have hlord : LOrd bx sb qb mb (qb + 1) := by
      have h1 := HKX.out.lt
      have h2 := HB2.out.size
      exact ⟨by omega, by omega, by omega, by omega⟩
    have hfar : b1 < mb ∧ b2 < mb ∧ b6 < mb ∧ bx < mb ∧ w1.heap.size ≤ mb := by
      have h1 := HKK.out.lt
      have h2 := HKC.out.lt
      have h3 := HKR.out.lt
      have h4 := HKX.out.lt
      have h5 := HB2.out.size
      exact ⟨by omega, by omega, by omega, by omega, by omega⟩
    have HAD := Lib.hid (fun W (hb : Below mb w3 W) (x : List Int) (xv : Value) (x2 at_ : Cou.Ct) (hat : CtS at_) (hxl : x.length ≤ 100000) (hx : SlI (IsC W) W xv x) v Q (hQl : Q.length ≤ 5000) (hQs : ∀ t ∈ Cha.ends Q, CtS t) (hq : LSt bx sb qb mb (qb + 1) (.slice Ad dl cd) (.slice Ac cl cc) a.drawn v Q W) =>
      least1_any a HOK.out (.slice Ad dl cd) (.slice Ac cl cc) hdr (fun b => b < W.heap.size) xv x x2 hxl at_ hat bx sb qb mb (qb + 1) hlord v Q hQl hQs W (by
        have h1 : Below w1.heap.size w1 W := HB3.out.trans (hb.mono hfar.2.2.2.2)
        exact (HAC.out.on h1).all) hx hq)
    have HKT := Lib.hid (fun W (hb : Below mb w3 W) => (show (W.cell? ⟨b2, 0, none⟩ = some (.int .i64 t1) ∧ W.cell? ⟨b2, 1, none⟩ = some (.int .i64 t2)) ∧ Blk W b6 56 #[.slice none 0 0, .int .i64 0, .int .i64 0] from by
      have h1 : Below w1.heap.size w1 W := HB3.out.trans (hb.mono hfar.2.2.2.2)
      exact ⟨(HK.out W h1).2.2, HKR.out.below h1 HKR.out.lt⟩))
    have HBW := Lib.hid (fun W (hb : Below mb w3 W) => Bt HB1.out (show Below w1.heap.size w1 W from HB3.out.trans (hb.mono hfar.2.2.2.2)))
    have HL3 := Lib.hid hL3
    have HST0 := Lib.hid (Cha.least_start a (k1, k2))
    have HFAR := Lib.hid hfar
    have HRF := Lib.hid (fun W (b : Nat) (hb : IsC W b) => hb.lt)
    have HW3 := Lib.hid hw3
    have HMB := Lib.hid hmb
    have HSB := Lib.hid hsb
    have HQB := Lib.hid hqb
    have HLO := Lib.hid hlord
    clear hfar hL3 hs3 B3 hlord hw3 hmb hsb hqb
    have hc0 := HAD.out w3 (Below.refl _ _) [] (.slice none 0 0) (0, 0) (k1, k2) hk (by simp) Sl.nil_ _ [] (by simp) (by simp [Cha.ends]) HL3.out
    have HC0 := Lib.hid hc0
    clear hc0
    go_upto_region 7 with fail
    rw [HMB.out, HSB.out, HQB.out]
    try rw [HW3.out]
    clear hmm HW3 HMB HSB HQB c0 c1 c2 c3 c4 c5 c6 HW1
    obtain ⟨-, ⟨c3, c4⟩, -⟩ := HK.out w3 HB3.out
    go_wp2_with (go_at_call 57; (with_reducible refine (HC0.out.mono ?_)); rintro e w4 ⟨⟨r4, rfl⟩, v4, hl4, hb4⟩; have HL4 := Lib.hid hl4; have HB4 := Lib.hid hb4; clear hl4 hb4 c3 c4)
    clear HC0
    go_loopg [13] 1025 (fun gg s13 wr => ∃ (i : Nat) (v' : Value) (Q : List Cha.Ch), i ≤ 1024 ∧ 1025 - i ≤ gg ∧ s13 = .int .i64 i ∧ Aside (Cha.LI a (k1, k2) i 0 Q) ∧ Aside (Cha.leastQ a (t1, t2) (1025 - i) i Q = res) ∧ Aside (LSt bx sb qb mb (qb + 1) (.slice Ad dl cd) (.slice Ac cl cc) a.drawn v' Q wr) ∧ Aside (Below mb w3 wr))
    case atStart => exact ⟨0, v4, _, by omega, by omega, rfl, HST0.out, (show Aside _ from by show _ = _; exact HRES.out), HL4.out, HB4.out⟩
    case round =>
      obtain ⟨i, v', Q, hi, hg, rfl, HLI, HE, HL, HB⟩ := hrel
      replace HLI : Hid (Cha.LI a (k1, k2) i 0 Q) := Lib.hid HLI
      replace HE : Hid (Cha.leastQ a (t1, t2) (1025 - i) i Q = res) := Lib.hid HE
      replace HL : Hid (LSt bx sb qb mb (qb + 1) (.slice Ad dl cd) (.slice Ac cl cc) a.drawn v' Q wr) := Lib.hid HL
      replace HB : Hid (Below mb w3 wr) := Lib.hid HB
      have hlen := HLI.out.len HOK.out
      have hile := HLI.out.le
      have hsl := HL.out.own.sl (F := fun b => b < wr.heap.size) (by omega) fun b _ h _ => h
      obtain ⟨A9, c9, rfl, -, -, hat⟩ := hsl
      have m0 := HL.out.que.cell 0
      simp only [List.getElem?_toArray, List.getElem?_cons_zero] at m0
      obtain ⟨⟨q0, q1⟩, hK6⟩ := HKT.out wr HB.out
      have HK6 := Lib.hid hK6
      have he := HE.out
      rw [show 1025 - i = (1025 - (i + 1)) + 1 by omega, Cha.leastQ] at he
      obtain ⟨n, hn⟩ : ∃ n, Q.length = n := ⟨_, rfl⟩
      rw [hn] at m0 hlen hile
      have HN := Lib.hid hn
      clear hK6 HE hn
      by_cases hlt : i < n
      · have hltI : (i : Int) < n := by omega
        have hiQ : i < Q.length := by rw [HN.out]; exact hlt
        obtain ⟨ad, cs9, rfl, hb9, -, ⟨u, rfl, hu⟩, hfl⟩ := hat i hiQ
        rw [List.getElem?_eq_getElem hiQ] at he
        have hgs := HLI.out.step HOK.out (List.getElem?_eq_getElem hiQ)
        obtain ⟨ts, hch, -, -⟩ := HLI.out.ch _ (List.getElem_mem hiQ)
        have hxl : Q[i].1.length ≤ 100000 := by
          have h1 := hch.len
          have h2 := hch.short HOK.out
          omega
        have hxin := inA_cts HOK.out (HLI.out.inA HOK.out Q[i].2 (List.mem_map.2 ⟨_, List.getElem_mem hiQ, rfl⟩))
        dsimp only at he
        have hadd : ∀ W, Below wr.heap.size wr W → ∀ x2, _ := fun W hb x2 => HAD.out W (HB.out.trans (hb.mono (Nat.le_of_lt HL.out.map.lt))) Q[i].1 u x2 Q[i].2 hxin hxl ((SlI.keep hu (Agree.below hb fun b h => h.lt)).mono fun b h => h.below hb) _ Q (by rw [HN.out]; omega) (fun t ht => inA_cts HOK.out (HLI.out.inA HOK.out t ht)) (HL.out.keep hb)
        obtain ⟨Au, cu, hue, -, -⟩ := SlI.open hu
        obtain ⟨nu, hnu⟩ : ∃ nu, Q[i].1.length = nu := ⟨_, rfl⟩
        rw [hnu] at hue
        subst hue
        have HADD := Lib.hid hadd
        have HGS := Lib.hid hgs.1
        have HU := Lib.hid hu
        have p0 := hfl.f0 rfl
        have p1 := hfl.f1 rfl
        have p2 := hfl.f2 rfl
        clear hat hadd hgs hu hfl hch hxl hxin hb9 hnu HLI
        obtain ⟨x, hx⟩ : ∃ x, Q[i] = x := ⟨_, rfl⟩
        rw [hx] at he HADD HGS HU p1 p2
        clear hx hiQ
        obtain ⟨xs, x1, x2⟩ := x
        dsimp only at p1 p2 HU
        by_cases hxe : (x1, x2) = (t1, t2)
        · rw [if_pos hxe] at he
          injection hxe with hx1 hx2
          subst hx1 hx2
          clear HADD HGS HRES
          subst he
          go_upto_region 11 with fail
          go_quiet (fail)
          generalize hw5 : World.drewN wr _ = w5
          have hb5 : Below wr.heap.size wr w5 := by rw [← hw5]; exact below_drewN (B0 wr) _
          have p0' : w5.cell? (ad.add (i * 3)) = some (.slice Au nu cu) := by rw [← hw5]; exact p0
          have p1' : w5.cell? ⟨(ad.add (i * 3)).block, (ad.add (i * 3)).off + 1, none⟩ = some (.int .i64 x1) := by rw [← hw5]; exact p1
          have p2' : w5.cell? ⟨(ad.add (i * 3)).block, (ad.add (i * 3)).off + 2, none⟩ = some (.int .i64 x2) := by rw [← hw5]; exact p2
          have m0' : w5.cell? ⟨qb, 0, none⟩ = some (.slice (some ad) n c9) := by rw [← hw5]; exact m0
          have K5 := HK6.out.below hb5 HK6.out.lt
          have r0 := K5.cell 0
          have r1 := K5.cell 1
          have r2 := K5.cell 2
          have f0 := K5.frozen 0
          have f1 := K5.frozen 1
          have f2 := K5.frozen 2
          simp only [List.getElem?_toArray, List.getElem?_cons_zero, List.getElem?_cons_succ] at r0 r1 r2
          have HK5 := Lib.hid K5
          have HB5 := Lib.hid hb5
          clear hw5 hb5 p0 p1 p2 m0 K5 q0 q1
          go_wp2_with fail
          have hK7 := ((HK5.out.set_ 0 (.slice Au nu cu)).set_ 1 (.int .i64 x1)).set_ 2 (.int .i64 x2)
          obtain ⟨w7, hw7⟩ : ∃ w7 : World, ((w5.setCell ⟨b6, 0, none⟩ (.slice Au nu cu)).setCell ⟨b6, 1, none⟩ (.int .i64 x1)).setCell ⟨b6, 2, none⟩ (.int .i64 x2) = w7 := ⟨_, rfl⟩
          have hle : w.heap.size ≤ b6 := by have h1 := HBX.out; have h2 := HE1.out; have h3 := HE2.out; have h4 := HE6.out; omega
          have hB7 : Below w.heap.size w w7 := by rw [← hw7]; exact Bs (Bs (Bs (Bt (HBW.out wr HB.out) HB5.out) _ hle) _ hle) _ hle
          have hs1 : w5.grownBy (w5.setCell ⟨b6, 0, none⟩ (.slice Au nu cu)) (some b6) := only_setCell (World.grownBy.refl w5 _) (.inl rfl) _
          have hs2 : w5.grownBy ((w5.setCell ⟨b6, 0, none⟩ (.slice Au nu cu)).setCell ⟨b6, 1, none⟩ (.int .i64 x1)) (some b6) := only_setCell hs1 (.inl rfl) _
          have hsr : w5.grownBy (((w5.setCell ⟨b6, 0, none⟩ (.slice Au nu cu)).setCell ⟨b6, 1, none⟩ (.int .i64 x1)).setCell ⟨b6, 2, none⟩ (.int .i64 x2)) (some b6) := only_setCell hs2 (.inl rfl) _
          rw [hw7] at hsr
          clear hs1 hs2
          have hno : ∀ b, IsC w5 b → some b ≠ some b6 := by
            rintro b ⟨cs', hb | hb⟩ e
            · injection e with e
              subst e
              have h := HK5.out
              unfold Blk at h hb
              rw [h] at hb
              injection hb with hb
              injection hb with _ hb
              exact absurd hb (by decide)
            · injection e with e
              subst e
              have h := HK5.out
              unfold Blk at h hb
              rw [h] at hb
              injection hb with hb
              injection hb with _ hb
              exact absurd hb (by decide)
          have hU5 : SlI (IsC w5) w5 (.slice Au nu cu) xs := (SlI.keep HU.out (Agree.below HB5.out fun b h => h.lt)).mono fun b h => h.below HB5.out
          have hU7 : SlI (fun b => b < w7.heap.size) w7 (.slice Au nu cu) xs := (SlI.keep hU5 (Agree.grown hsr fun b hb => ⟨hb.lt, hno b hb⟩)).mono fun b hb => (hb.grown hsr (hno b hb)).lt
          rw [hw7] at hK7 ⊢
          have g0 := hK7.cell 0
          have g1 := hK7.cell 1
          have g2 := hK7.cell 2
          simp at g0 g1 g2
          refine bodyPost_ret (v := .tuple #[.agg #[.slice Au nu cu, .int .i64 x1, .int .i64 x2], .bool true, .int .i64 0]) (by simp [results, Tryd.f31, go_sem, g0, g1, g2]) rfl ?_
          exact ⟨_, rfl, hU7, hB7⟩
        · rw [if_neg hxe] at he
          have HE2 := Lib.hid he
          clear he
          have HNX : Hid (Cha.LI a (k1, k2) (i + 1) 0 (Cha.addF a Q xs (x1, x2))) := HGS
          have hi2 : i + 1 ≤ 1024 := by
            have h1 := HNX.out.len HOK.out
            have h2 := HNX.out.le
            omega
          have HAD2 := Lib.hid (fun W (hb : Below wr.heap.size wr W) => HADD.out W hb (x1, x2))
          dsimp only at HAD2
          by_cases h1 : x1 = t1
          · subst h1
            have h2 : (x2 == t2) = false := by simpa using hxe
            clear hxe HADD HGS
            go_upto_region 11 with fail
            go_quiet (fail)
            generalize hw5 : World.drewN wr _ = w5
            have hb5 : Below wr.heap.size wr w5 := by rw [← hw5]; exact below_drewN (B0 wr) _
            have hp0 : w5.cell? (ad.add (i * 3)) = some (.slice Au nu cu) := by rw [← hw5]; exact p0
            have hp1 : w5.cell? ⟨(ad.add (i * 3)).block, (ad.add (i * 3)).off + 1, none⟩ = some (.int .i64 x1) := by rw [← hw5]; exact p1
            have hp2 : w5.cell? ⟨(ad.add (i * 3)).block, (ad.add (i * 3)).off + 2, none⟩ = some (.int .i64 x2) := by rw [← hw5]; exact p2
            have hm0 : w5.cell? ⟨qb, 0, none⟩ = some (.slice (some ad) n c9) := by rw [← hw5]; exact m0
            have hl0 : (ad.add (i * 3)).block < w5.heap.size := World.block_lt_of_cell? _ _ hp0
            have hl1 : qb < w5.heap.size := World.block_lt_of_cell? _ _ hm0
            have HS := Lib.hid (fun W (hb : Below w5.heap.size w5 W) => (show W.cell? ⟨qb, 0, none⟩ = some (.slice (some ad) n c9) ∧ W.cell? (ad.add (i * 3)) = some (.slice Au nu cu) ∧ W.cell? ⟨(ad.add (i * 3)).block, (ad.add (i * 3)).off + 1, none⟩ = some (.int .i64 x1) ∧ W.cell? ⟨(ad.add (i * 3)).block, (ad.add (i * 3)).off + 2, none⟩ = some (.int .i64 x2) from
              ⟨(Bc hb hl1).trans hm0, (hb.cell (p := ad.add (i * 3)) hl0).trans hp0, (Bc hb hl0).trans hp1, (Bc hb hl0).trans hp2⟩))
            have HB5 := Lib.hid hb5
            clear hw5 hb5 hp0 hp1 hp2 hm0 hl0 hl1 p0 p1 p2 m0 q0 q1
            have hBB : ∀ (L : Nat → Bool) (i : Nat) (W W' : World), Below W.heap.size W W' → Below w5.heap.size w5 W → Below w5.heap.size w5 W' := fun _ _ _ _ hb h => Bt h hb
            go_upto_region 13 with fail
            refine region_blocks (by kernel_rfl) ?_
            refine from_lawW 10 ELQ (fun _ W => Below w5.heap.size w5 W) (FLQ bx sb qb ad n c9 i Au nu cu x1 x2) VLQ (by kernel_rfl) rfl (FLQ_V _ _ _ _ _ _ _ _ _ _ _ _) (by kernel_rfl) (by kernel_rfl) ((B0 w5).drew) ⟨?_, ?_, ?_, ?_, ?_, ?_, ?_, ?_, ?_, ?_, trivial⟩ ?_
            · refine OpFactW.value rfl (FLQ_below _ _ _ _ _ _ _ _ _ _ _ _) hBB fun L a w2 hl hf D hb => ?_
              have h0 : sl a 12 = .func (.func 57) #[] #[.pointer (some ⟨bx, 0, none⟩), .pointer (some ⟨sb, 0, none⟩), .pointer (some ⟨qb, 0, none⟩)] := hf 12 (by kernel_rfl)
              refine ⟨.func (.func 57) #[] #[.pointer (some ⟨bx, 0, none⟩), .pointer (some ⟨sb, 0, none⟩), .pointer (some ⟨qb, 0, none⟩)], w2, ?_, B0 _, fun s _ h => h 46 rfl⟩
              unfold sl at h0
              simp [go_sem, h0]
            · refine OpFactW.value rfl (FLQ_below _ _ _ _ _ _ _ _ _ _ _ _) hBB fun L a w2 hl hf D hb => ?_
              have h0 : sl a 11 = .pointer (some ⟨qb, 0, none⟩) := hf 11 (by kernel_rfl)
              have es := HS.out w2 hb
              refine ⟨.slice (some ad) n c9, w2, ?_, B0 _, fun s _ h => h 47 rfl⟩
              unfold sl at h0
              simp at h0
              simp [go_sem, h0, es]
            · refine OpFactW.value rfl (FLQ_below _ _ _ _ _ _ _ _ _ _ _ _) hBB fun L a w2 hl hf D hb => ?_
              have h0 : sl a 13 = .int .i64 (i : Nat) := hf 13 (by kernel_rfl)
              refine ⟨.int .i64 (i : Nat), w2, ?_, B0 _, fun s _ h => h 48 rfl⟩
              unfold sl at h0
              simp [go_sem, h0]
            · refine OpFactW.value rfl (FLQ_below _ _ _ _ _ _ _ _ _ _ _ _) hBB fun L a w2 hl hf D hb => ?_
              have h1 : sl a 47 = .slice (some ad) n c9 := D 1 (by kernel_rfl)
              have h2 : sl a 48 = .int .i64 (i : Nat) := D 2 (by kernel_rfl)
              refine ⟨.pointer (some (ad.add (i * 3))), w2, ?_, B0 _, fun s _ h => h 49 rfl⟩
              unfold sl at h1 h2
              simp at h1 h2
              simp [go_sem, h1, h2, hltI]
            · refine OpFactW.value rfl (FLQ_below _ _ _ _ _ _ _ _ _ _ _ _) hBB fun L a w2 hl hf D hb => ?_
              have h0 : sl a 49 = .pointer (some (ad.add (i * 3))) := D 3 (by kernel_rfl)
              have es := HS.out w2 hb
              refine ⟨.agg #[.slice Au nu cu, .int .i64 x1, .int .i64 x2], w2, ?_, B0 _, fun s _ h => h 50 rfl⟩
              unfold sl at h0
              simp at h0
              simp [go_sem, h0, es]
            · refine OpFactW.value rfl (FLQ_below _ _ _ _ _ _ _ _ _ _ _ _) hBB fun L a w2 hl hf D hb => ?_
              have h0 : sl a 11 = .pointer (some ⟨qb, 0, none⟩) := hf 11 (by kernel_rfl)
              have es := HS.out w2 hb
              refine ⟨.slice (some ad) n c9, w2, ?_, B0 _, fun s _ h => h 51 rfl⟩
              unfold sl at h0
              simp at h0
              simp [go_sem, h0, es]
            · refine OpFactW.value rfl (FLQ_below _ _ _ _ _ _ _ _ _ _ _ _) hBB fun L a w2 hl hf D hb => ?_
              have h0 : sl a 13 = .int .i64 (i : Nat) := hf 13 (by kernel_rfl)
              refine ⟨.int .i64 (i : Nat), w2, ?_, B0 _, fun s _ h => h 52 rfl⟩
              unfold sl at h0
              simp [go_sem, h0]
            · refine OpFactW.value rfl (FLQ_below _ _ _ _ _ _ _ _ _ _ _ _) hBB fun L a w2 hl hf D hb => ?_
              have h1 : sl a 51 = .slice (some ad) n c9 := D 5 (by kernel_rfl)
              have h2 : sl a 52 = .int .i64 (i : Nat) := D 6 (by kernel_rfl)
              refine ⟨.pointer (some (ad.add (i * 3))), w2, ?_, B0 _, fun s _ h => h 53 rfl⟩
              unfold sl at h1 h2
              simp at h1 h2
              simp [go_sem, h1, h2, hltI]
            · refine OpFactW.value rfl (FLQ_below _ _ _ _ _ _ _ _ _ _ _ _) hBB fun L a w2 hl hf D hb => ?_
              have h1 : sl a 53 = .pointer (some (ad.add (i * 3))) := D 7 (by kernel_rfl)
              refine ⟨.pointer (some ⟨(ad.add (i * 3)).block, (ad.add (i * 3)).off + 1, none⟩), w2, ?_, B0 _, fun s _ h => h 54 rfl⟩
              unfold sl at h1
              simp at h1
              simp [go_sem, h1]
            · refine OpFactW.value rfl (FLQ_below _ _ _ _ _ _ _ _ _ _ _ _) hBB fun L a w2 hl hf D hb => ?_
              have h0 : sl a 54 = .pointer (some ⟨(ad.add (i * 3)).block, (ad.add (i * 3)).off + 1, none⟩) := D 8 (by kernel_rfl)
              have es := HS.out w2 hb
              refine ⟨.agg #[.int .i64 x1, .int .i64 x2], w2, ?_, B0 _, fun s _ h => h 55 rfl⟩
              unfold sl at h0
              simp at h0
              simp [go_sem, h0, es]
            intro L y w6 hb6 hF6
            have h46 : y 46 = .func (.func 57) #[] #[.pointer (some ⟨bx, 0, none⟩), .pointer (some ⟨sb, 0, none⟩), .pointer (some ⟨qb, 0, none⟩)] := hF6 0 (by decide) rfl
            have h50 : y 50 = .agg #[.slice Au nu cu, .int .i64 x1, .int .i64 x2] := hF6 4 (by decide) rfl
            have h55 : y 55 = .agg #[.int .i64 x1, .int .i64 x2] := hF6 9 (by decide) rfl
            have HB6 := Lib.hid (Bt HB5.out hb6)
            clear hF6 hb6 HS
            rw [aft10 (d0 := 46) (d1 := 47) (d2 := 48) (d3 := 49) (d4 := 50) (d5 := 51) (d6 := 52) (d7 := 53) (d8 := 54) (d9 := 55) (by kernel_rfl) rfl]
            rw [h46, h50, h55]
            simp only [List.set_cons_succ, List.set_cons_zero]
            refine from_list 11 (by kernel_rfl) (by simp only [List.take_succ_cons, List.take_zero, List.drop_succ_cons, List.drop_zero]; exact rfl) ?_
            (intro Q' hQ' hX; clear hX)
            go_wp2_with (go_at_call 57; (with_reducible refine ((HAD2.out _ HB6.out).mono ?_)); rintro e w7 ⟨⟨r5, rfl⟩, v5, hl5, hb7⟩; have HL5 := Lib.hid hl5; have HB7 := Lib.hid ((HB.out.trans (HB6.out.mono (Nat.le_of_lt HL.out.map.lt))).trans hb7); clear hl5 hb7)
            refine from_end rfl ?_
            go_wp2_with fail
            go_roundg (1025 - (i + 1))
            case measure => omega
            case rel => exact ⟨i + 1, v5, _, hi2, by omega, by go_num, HNX.out, HE2.out, HL5.out, HB7.out⟩
          · have h2 : (x1 == t1) = false := by simpa using h1
            clear hxe HADD HGS h1
            go_upto_region 11 with fail
            go_quiet (fail)
            generalize hw5 : World.drewN wr _ = w5
            have hb5 : Below wr.heap.size wr w5 := by rw [← hw5]; exact below_drewN (B0 wr) _
            have hp0 : w5.cell? (ad.add (i * 3)) = some (.slice Au nu cu) := by rw [← hw5]; exact p0
            have hp1 : w5.cell? ⟨(ad.add (i * 3)).block, (ad.add (i * 3)).off + 1, none⟩ = some (.int .i64 x1) := by rw [← hw5]; exact p1
            have hp2 : w5.cell? ⟨(ad.add (i * 3)).block, (ad.add (i * 3)).off + 2, none⟩ = some (.int .i64 x2) := by rw [← hw5]; exact p2
            have hm0 : w5.cell? ⟨qb, 0, none⟩ = some (.slice (some ad) n c9) := by rw [← hw5]; exact m0
            have hl0 : (ad.add (i * 3)).block < w5.heap.size := World.block_lt_of_cell? _ _ hp0
            have hl1 : qb < w5.heap.size := World.block_lt_of_cell? _ _ hm0
            have HS := Lib.hid (fun W (hb : Below w5.heap.size w5 W) => (show W.cell? ⟨qb, 0, none⟩ = some (.slice (some ad) n c9) ∧ W.cell? (ad.add (i * 3)) = some (.slice Au nu cu) ∧ W.cell? ⟨(ad.add (i * 3)).block, (ad.add (i * 3)).off + 1, none⟩ = some (.int .i64 x1) ∧ W.cell? ⟨(ad.add (i * 3)).block, (ad.add (i * 3)).off + 2, none⟩ = some (.int .i64 x2) from
              ⟨(Bc hb hl1).trans hm0, (hb.cell (p := ad.add (i * 3)) hl0).trans hp0, (Bc hb hl0).trans hp1, (Bc hb hl0).trans hp2⟩))
            have HB5 := Lib.hid hb5
            clear hw5 hb5 hp0 hp1 hp2 hm0 hl0 hl1 p0 p1 p2 m0 q0 q1
            have hBB : ∀ (L : Nat → Bool) (i : Nat) (W W' : World), Below W.heap.size W W' → Below w5.heap.size w5 W → Below w5.heap.size w5 W' := fun _ _ _ _ hb h => Bt h hb
            go_upto_region 13 with fail
            refine region_blocks (by kernel_rfl) ?_
            refine from_lawW 10 ELQ (fun _ W => Below w5.heap.size w5 W) (FLQ bx sb qb ad n c9 i Au nu cu x1 x2) VLQ (by kernel_rfl) rfl (FLQ_V _ _ _ _ _ _ _ _ _ _ _ _) (by kernel_rfl) (by kernel_rfl) ((B0 w5).drew) ⟨?_, ?_, ?_, ?_, ?_, ?_, ?_, ?_, ?_, ?_, trivial⟩ ?_
            · refine OpFactW.value rfl (FLQ_below _ _ _ _ _ _ _ _ _ _ _ _) hBB fun L a w2 hl hf D hb => ?_
              have h0 : sl a 12 = .func (.func 57) #[] #[.pointer (some ⟨bx, 0, none⟩), .pointer (some ⟨sb, 0, none⟩), .pointer (some ⟨qb, 0, none⟩)] := hf 12 (by kernel_rfl)
              refine ⟨.func (.func 57) #[] #[.pointer (some ⟨bx, 0, none⟩), .pointer (some ⟨sb, 0, none⟩), .pointer (some ⟨qb, 0, none⟩)], w2, ?_, B0 _, fun s _ h => h 46 rfl⟩
              unfold sl at h0
              simp [go_sem, h0]
            · refine OpFactW.value rfl (FLQ_below _ _ _ _ _ _ _ _ _ _ _ _) hBB fun L a w2 hl hf D hb => ?_
              have h0 : sl a 11 = .pointer (some ⟨qb, 0, none⟩) := hf 11 (by kernel_rfl)
              have es := HS.out w2 hb
              refine ⟨.slice (some ad) n c9, w2, ?_, B0 _, fun s _ h => h 47 rfl⟩
              unfold sl at h0
              simp at h0
              simp [go_sem, h0, es]
            · refine OpFactW.value rfl (FLQ_below _ _ _ _ _ _ _ _ _ _ _ _) hBB fun L a w2 hl hf D hb => ?_
              have h0 : sl a 13 = .int .i64 (i : Nat) := hf 13 (by kernel_rfl)
              refine ⟨.int .i64 (i : Nat), w2, ?_, B0 _, fun s _ h => h 48 rfl⟩
              unfold sl at h0
              simp [go_sem, h0]
            · refine OpFactW.value rfl (FLQ_below _ _ _ _ _ _ _ _ _ _ _ _) hBB fun L a w2 hl hf D hb => ?_
              have h1 : sl a 47 = .slice (some ad) n c9 := D 1 (by kernel_rfl)
              have h2 : sl a 48 = .int .i64 (i : Nat) := D 2 (by kernel_rfl)
              refine ⟨.pointer (some (ad.add (i * 3))), w2, ?_, B0 _, fun s _ h => h 49 rfl⟩
              unfold sl at h1 h2
              simp at h1 h2
              simp [go_sem, h1, h2, hltI]
            · refine OpFactW.value rfl (FLQ_below _ _ _ _ _ _ _ _ _ _ _ _) hBB fun L a w2 hl hf D hb => ?_
              have h0 : sl a 49 = .pointer (some (ad.add (i * 3))) := D 3 (by kernel_rfl)
              have es := HS.out w2 hb
              refine ⟨.agg #[.slice Au nu cu, .int .i64 x1, .int .i64 x2], w2, ?_, B0 _, fun s _ h => h 50 rfl⟩
              unfold sl at h0
              simp at h0
              simp [go_sem, h0, es]
            · refine OpFactW.value rfl (FLQ_below _ _ _ _ _ _ _ _ _ _ _ _) hBB fun L a w2 hl hf D hb => ?_
              have h0 : sl a 11 = .pointer (some ⟨qb, 0, none⟩) := hf 11 (by kernel_rfl)
              have es := HS.out w2 hb
              refine ⟨.slice (some ad) n c9, w2, ?_, B0 _, fun s _ h => h 51 rfl⟩
              unfold sl at h0
              simp at h0
              simp [go_sem, h0, es]
            · refine OpFactW.value rfl (FLQ_below _ _ _ _ _ _ _ _ _ _ _ _) hBB fun L a w2 hl hf D hb => ?_
              have h0 : sl a 13 = .int .i64 (i : Nat) := hf 13 (by kernel_rfl)
              refine ⟨.int .i64 (i : Nat), w2, ?_, B0 _, fun s _ h => h 52 rfl⟩
              unfold sl at h0
              simp [go_sem, h0]
            · refine OpFactW.value rfl (FLQ_below _ _ _ _ _ _ _ _ _ _ _ _) hBB fun L a w2 hl hf D hb => ?_
              have h1 : sl a 51 = .slice (some ad) n c9 := D 5 (by kernel_rfl)
              have h2 : sl a 52 = .int .i64 (i : Nat) := D 6 (by kernel_rfl)
              refine ⟨.pointer (some (ad.add (i * 3))), w2, ?_, B0 _, fun s _ h => h 53 rfl⟩
              unfold sl at h1 h2
              simp at h1 h2
              simp [go_sem, h1, h2, hltI]
            · refine OpFactW.value rfl (FLQ_below _ _ _ _ _ _ _ _ _ _ _ _) hBB fun L a w2 hl hf D hb => ?_
              have h1 : sl a 53 = .pointer (some (ad.add (i * 3))) := D 7 (by kernel_rfl)
              refine ⟨.pointer (some ⟨(ad.add (i * 3)).block, (ad.add (i * 3)).off + 1, none⟩), w2, ?_, B0 _, fun s _ h => h 54 rfl⟩
              unfold sl at h1
              simp at h1
              simp [go_sem, h1]
            · refine OpFactW.value rfl (FLQ_below _ _ _ _ _ _ _ _ _ _ _ _) hBB fun L a w2 hl hf D hb => ?_
              have h0 : sl a 54 = .pointer (some ⟨(ad.add (i * 3)).block, (ad.add (i * 3)).off + 1, none⟩) := D 8 (by kernel_rfl)
              have es := HS.out w2 hb
              refine ⟨.agg #[.int .i64 x1, .int .i64 x2], w2, ?_, B0 _, fun s _ h => h 55 rfl⟩
              unfold sl at h0
              simp at h0
              simp [go_sem, h0, es]
            intro L y w6 hb6 hF6
            have h46 : y 46 = .func (.func 57) #[] #[.pointer (some ⟨bx, 0, none⟩), .pointer (some ⟨sb, 0, none⟩), .pointer (some ⟨qb, 0, none⟩)] := hF6 0 (by decide) rfl
            have h50 : y 50 = .agg #[.slice Au nu cu, .int .i64 x1, .int .i64 x2] := hF6 4 (by decide) rfl
            have h55 : y 55 = .agg #[.int .i64 x1, .int .i64 x2] := hF6 9 (by decide) rfl
            have HB6 := Lib.hid (Bt HB5.out hb6)
            clear hF6 hb6 HS
            rw [aft10 (d0 := 46) (d1 := 47) (d2 := 48) (d3 := 49) (d4 := 50) (d5 := 51) (d6 := 52) (d7 := 53) (d8 := 54) (d9 := 55) (by kernel_rfl) rfl]
            rw [h46, h50, h55]
            simp only [List.set_cons_succ, List.set_cons_zero]
            refine from_list 11 (by kernel_rfl) (by simp only [List.take_succ_cons, List.take_zero, List.drop_succ_cons, List.drop_zero]; exact rfl) ?_
            (intro Q' hQ' hX; clear hX)
            go_wp2_with (go_at_call 57; (with_reducible refine ((HAD2.out _ HB6.out).mono ?_)); rintro e w7 ⟨⟨r5, rfl⟩, v5, hl5, hb7⟩; have HL5 := Lib.hid hl5; have HB7 := Lib.hid ((HB.out.trans (HB6.out.mono (Nat.le_of_lt HL.out.map.lt))).trans hb7); clear hl5 hb7)
            refine from_end rfl ?_
            go_wp2_with fail
            go_roundg (1025 - (i + 1))
            case measure => omega
            case rel => exact ⟨i + 1, v5, _, hi2, by omega, by go_num, HNX.out, HE2.out, HL5.out, HB7.out⟩
      · obtain rfl : i = n := by omega
        rw [List.getElem?_eq_none (by rw [HN.out]; exact Nat.le_refl _)] at he
        clear HRES
        subst he
        have K5 := HK6.out
        have r0 := K5.cell 0
        have r1 := K5.cell 1
        have r2 := K5.cell 2
        have f0 := K5.frozen 0
        have f1 := K5.frozen 1
        have f2 := K5.frozen 2
        simp only [List.getElem?_toArray, List.getElem?_cons_zero, List.getElem?_cons_succ] at r0 r1 r2
        clear K5 hat HLI
        go_wp2_with fail
        have hK7 := ((HK6.out.set_ 0 (.slice none 0 0)).set_ 1 (.int .i64 0)).set_ 2 (.int .i64 0)
        obtain ⟨w7, hw7⟩ : ∃ w7 : World, ((wr.setCell ⟨b6, 0, none⟩ (.slice none 0 0)).setCell ⟨b6, 1, none⟩ (.int .i64 0)).setCell ⟨b6, 2, none⟩ (.int .i64 0) = w7 := ⟨_, rfl⟩
        have hle : w.heap.size ≤ b6 := by have h1 := HBX.out; have h2 := HE1.out; have h3 := HE2.out; have h4 := HE6.out; omega
        have hB7 : Below w.heap.size w w7 := by rw [← hw7]; exact Bs (Bs (Bs (HBW.out wr HB.out) _ hle) _ hle) _ hle
        rw [hw7] at hK7 ⊢
        have g0 := hK7.cell 0
        have g1 := hK7.cell 1
        have g2 := hK7.cell 2
        simp at g0 g1 g2
        refine bodyPost_ret (v := .tuple #[.agg #[.slice none 0 0, .int .i64 0, .int .i64 0], .bool false, .int .i64 0]) (by simp [results, Tryd.f31, go_sem, g0, g1, g2]) rfl ?_
        exact ⟨_, rfl, Sl.nil_, hB7⟩
  · have HZ : Hid (Cha.leastR a (k1, k2) (t1, t2) = (Cha.beginF a [(k1, k2), (t1, t2)], none)) := Lib.hid (by unfold Cha.leastR; rw [if_neg hbe])
    have d1 : (Cha.beginF a [(k1, k2), (t1, t2)] != 0) = true := by simpa using hbe
    have HBE := Lib.hid hbg
    clear hbe hbg
    generalize Cha.beginF a [(k1, k2), (t1, t2)] = er at *
    go_enter Tryd.func31, Tryd.ntmps31
    go_upto_region 1 with fail
    rw [HW1.out, HBX.out, HE1.out, HE2.out, HE6.out]
    go_wp2_with (go_at_call 38; (with_reducible refine (HBE.out.mono ?_)); rintro e w2 ⟨rfl, hb2⟩; have HB2 := Lib.hid (Bt (Ba (B0 w1) _) hb2); have K2 := HKR.out.below HB2.out HKR.out.lt; have r0 := K2.cell 0; have r1 := K2.cell 1; have r2 := K2.cell 2; have f0 := K2.frozen 0; have f1 := K2.frozen 1; have f2 := K2.frozen 2; have HK2 := Lib.hid K2; simp only [List.getElem?_toArray, List.getElem?_cons_zero, List.getElem?_cons_succ] at r0 r1 r2; clear K2 hb2)
    have hK3 := ((HK2.out.set_ 0 (.slice none 0 0)).set_ 1 (.int .i64 0)).set_ 2 (.int .i64 0)
    obtain ⟨w3, hw3⟩ : ∃ w3 : World, ((w2.setCell ⟨b6, 0, none⟩ (.slice none 0 0)).setCell ⟨b6, 1, none⟩ (.int .i64 0)).setCell ⟨b6, 2, none⟩ (.int .i64 0) = w3 := ⟨_, rfl⟩
    have hle : w.heap.size ≤ b6 := by have h1 := HBX.out; have h2 := HE1.out; have h3 := HE2.out; have h4 := HE6.out; omega
    have hB3 : Below w.heap.size w w3 := by rw [← hw3]; exact Bs (Bs (Bs (Bt HB1.out HB2.out) _ hle) _ hle) _ hle
    rw [hw3] at hK3 ⊢
    have g0 := hK3.cell 0
    have g1 := hK3.cell 1
    have g2 := hK3.cell 2
    simp at g0 g1 g2
    refine bodyPost_ret (v := .tuple #[.agg #[.slice none 0 0, .int .i64 0, .int .i64 0], .bool false, .int .i64 er]) (by simp [results, Tryd.f31, go_sem, g0, g1, g2]) rfl ?_
    rw [HZ.out]
    exact ⟨_, rfl, Sl.nil_, hB3⟩
end Go.Proofs.YtahlfndlkfoikaaDoor
