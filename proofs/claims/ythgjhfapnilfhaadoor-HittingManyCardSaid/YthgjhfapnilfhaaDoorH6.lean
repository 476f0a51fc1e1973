/- Walks over the reference of hitting: equal lists, the list of bits, the bits of a list. Walks over the reference of hitting: the bits of a list, the error of a list, the first set that is missed, what is left of a list. Words for drawn regions: a call that makes memory, its result a plain value. -/
import Derived.Test.YthgjhfapnilfhaaDoorH5
import Derived.IntWalk
import Derived.BigQuiet
import Derived.BigGuardPart
namespace Go.Proofs.YthgjhfapnilfhaaDoor
open Go Go.RowKit
theorem eq_dropI (a b : List Int) (k : Nat) (ha : k < a.length) (hb : k < b.length) : decide (a.drop k = b.drop k) = (decide (a[k] = b[k]) && decide (a.drop (k + 1) = b.drop (k + 1))) := by
  have e1 := List.drop_eq_getElem_cons ha
  have e2 := List.drop_eq_getElem_cons hb
  rw [e1, e2]
  generalize a[k] = x
  generalize b[k] = y
  by_cases h : x = y <;> simp [h]
set_option maxHeartbeats 1000000 in
theorem same_any (va vb : Value) (a b : List Int) (w : World) (F G : Nat → Prop) (hF : ∀ b, F b → b < w.heap.size) (hG : ∀ b, G b → b < w.heap.size) (ha : SlI F w va a) (hb : SlI G w vb b) :
    Calls Tryd.prog 22 #[va, vb] w fun e w' => e = .returned (.bool (decide (a = b))) ∧ Below w.heap.size w w' := by
  obtain ⟨A, c, rfl, _, hla, hca⟩ := ha.open
  obtain ⟨B, d, rfl, _, hlb, hcb⟩ := hb.open
  clear ha hb
  by_cases hl : a.length = b.length
  · have hl' : ((a.length : Int) != b.length) = false := by simp [hl]
    have HL := Lib.hid hl
    clear hl
    go_enter Tryd.func22, Tryd.ntmps22
    go_wp2
    go_loopg [5] a.length (fun gg s wr => ∃ kk : Nat, kk ≤ a.length ∧ a.length - kk ≤ gg ∧ s = .int .i64 kk ∧ Aside (Below w.heap.size w wr) ∧ Aside (decide (a = b) = decide (a.drop kk = b.drop kk)))
    case atStart => exact ⟨0, Nat.zero_le _, by omega, rfl, B0 w, rfl⟩
    case round =>
      obtain ⟨kk, hkk, hg, rfl, BW, A1⟩ := hrel
      by_cases hlt : kk < a.length
      · have hltb : kk < b.length := by have := HL.out; omega
        obtain ⟨ad, rfl, hb1, hc1⟩ := hca kk hlt
        obtain ⟨bd, rfl, hb2, hc2⟩ := hcb kk hltb
        have hst := eq_dropI a b kk hlt hltb
        have h1 := (BW.out.cell (p := ad.add kk) (by rw [block_of_add]; exact hF _ hb1)).trans hc1
        have h2 := (BW.out.cell (p := bd.add kk) (by rw [block_of_add]; exact hG _ hb2)).trans hc2
        have i1 : (kk : Int) < a.length := by omega
        have i2 : (kk : Int) < b.length := by omega
        generalize a[kk] = x at *
        generalize b[kk] = y at *
        have HS := Lib.hid hst
        clear hca hcb hst hc1 hc2
        by_cases hxy : x = y
        · subst hxy
          go_wp2_with fail
          go_quiet (fail)
          go_wp2
          go_roundg (a.length - (kk + 1))
          case measure => omega
          case rel => exact ⟨kk + 1, by omega, by omega, by go_num, below_drewN BW.out _, A1.out.trans (by rw [HS.out]; simp)⟩
        · have hxy' : (x != y) = true := by simpa using hxy
          have hfin : decide (a = b) = false := by rw [A1.out, HS.out, decide_eq_false hxy]; rfl
          have HF := Lib.hid hfin
          clear hfin hxy
          go_wp2_with fail
          go_quiet (fail)
          go_wp2
          go_ret
          exact ⟨by rw [HF.out]; rfl, below_drewN BW.out _⟩
      · have : kk = a.length := by omega
        subst this
        clear hca hcb
        go_wp2
        go_ret
        exact ⟨by rw [A1.out, List.drop_length, HL.out, List.drop_length]; rfl, BW.out⟩
  · have hl' : ((a.length : Int) != b.length) = true := by simp; omega
    have hne : decide (a = b) = false := decide_eq_false fun h => hl (by rw [h])
    have HN := Lib.hid hne
    clear hne hl hca hcb
    go_enter Tryd.func22, Tryd.ntmps22
    go_wp2
    go_ret
    exact ⟨by rw [HN.out]; rfl, B0 w⟩
/-- The bits below i. -/
def lowB (x i : Nat) : List Nat := (List.range i).filter fun j => x.testBit j
theorem lowB_succ (x i : Nat) : lowB x (i + 1) = lowB x i ++ (if x.testBit i then [i] else []) := by
  unfold lowB
  rw [List.range_succ, List.filter_append, List.filter_cons, List.filter_nil]
theorem lowB_len (x i : Nat) : (lowB x i).length ≤ i := Nat.le_trans (List.length_filter_le _ _) (by simp)
theorem lowB_end {x i : Nat} (h : x >>> i = 0) (hi : i ≤ 64) : lowB x i = Hit.members x := by
  obtain ⟨d, hd⟩ := Nat.exists_eq_add_of_le hi
  unfold lowB Hit.members
  rw [hd, List.range_add, List.filter_append]
  have : ((List.range d).map (i + ·)).filter (fun j => x.testBit j) = [] := by
    rw [List.filter_eq_nil_iff]
    intro j hj
    obtain ⟨k, _, rfl⟩ := List.mem_map.1 hj
    rw [Hit.shr_zero h (by omega)]; simp
  rw [this, List.append_nil]
theorem lowB_all (x : Nat) : lowB x 64 = Hit.members x := rfl
set_option maxHeartbeats 1000000 in
theorem members_any (x : Nat) (hx : x < 4294967296) (w : World) :
    Calls Tryd.prog 24 #[.int .u64 x] w fun e w' => ∃ A n c, e = .returned (.slice A n c) ∧ n = (Hit.members x).length ∧ Own0 w' w.heap.size 3 1 A n c (cellsV vN (Hit.members x)) ∧ Below w.heap.size w w' := by
  go_enter Tryd.func24, Tryd.ntmps24
  go_wp2
  go_loopg [3, 4] 64 (fun gg s3 s4 wr => ∃ (i : Nat) (A : Option Addr) (n c : Nat), i ≤ 32 ∧ 64 - i ≤ gg ∧ s4 = .int .i64 i ∧ s3 = .slice A n c ∧ n ≤ i ∧ Aside (n = (lowB x i).length) ∧ Aside (Own0 wr w.heap.size 3 1 A n c (cellsV vN (lowB x i))) ∧ Aside (Below w.heap.size w wr))
  case atStart => exact ⟨0, none, 0, 0, by omega, by omega, rfl, rfl, by omega, rfl, Own0.nil, B0 w⟩
  case round =>
    obtain ⟨i, A, n, c, hi, hg, rfl, rfl, hni, HN, HO, HB⟩ := hrel
    obtain ⟨y, hy⟩ : ∃ y, x >>> i = y := ⟨_, rfl⟩
    have hsh : (x : Int) / 2 ^ i = (y : Int) := by
      rw [← hy, Nat.shiftRight_eq_div_pow]
      have e : (2 : Int) ^ i = ((2 ^ i : Nat) : Int) := by simp
      rw [e]; rfl
    have hyx : y < 4294967296 := by rw [← hy, Nat.shiftRight_eq_div_pow]; exact Nat.lt_of_le_of_lt (Nat.div_le_self _ _) hx
    have hmin : min i 64 = i := by omega
    by_cases h0 : y = 0
    · have h0' : ((y : Int) != 0) = false := by simp [h0]
      have he := lowB_end (by rw [hy, h0]) (by omega : i ≤ 64)
      have HE := Lib.hid he
      clear he hy h0
      go_wp2
      go_ret
      exact ⟨A, n, c, rfl, by rw [← HE.out]; exact HN.out, by rw [← HE.out]; exact HO.out, HB.out⟩
    · have h0' : ((y : Int) != 0) = true := by simp; omega
      have hi31 : i ≤ 31 := by
        rcases Nat.lt_or_ge i 32 with h | h
        · omega
        · exfalso; apply h0; rw [← hy, Nat.shiftRight_eq_div_pow]
          exact Nat.div_eq_of_lt (Nat.lt_of_lt_of_le hx (show 2 ^ 32 ≤ 2 ^ i from Nat.pow_le_pow_right (by decide) h))
      have hand : bits .and .u64 (y : Int) 1 = ((y % 2 : Nat) : Int) := by
        rw [show (1 : Int) = ((1 : Nat) : Int) from rfl, Hit.u64_and y 1 (by omega) (by decide), Nat.and_one_is_mod]
      have htb : x.testBit i = decide (y % 2 = 1) := by
        rw [← hy, ← Nat.testBit_zero, Nat.testBit_shiftRight, Nat.add_zero]
      have hls := lowB_succ x i
      have HY := Lib.hid hy
      have HLS := Lib.hid hls
      clear hy hls h0
      by_cases hb : y % 2 = 1
      · have hls : lowB x (i + 1) = lowB x i ++ [i] := by rw [HLS.out, htb, decide_eq_true hb]; rfl
        have HL2 := Lib.hid hls
        rw [hb] at hand
        clear hls htb hb HLS
        go_wp2_with (at_builtin; refine wpList_app0 elemI rfl _ _ rfl (Own0.alloc HO.out _) rfl wr.heap.size (.int .i64 (i : Int)) rfl (by simp) rfl (by omega) (by omega) (by have := HB.out.size; simp; omega) ?_; intro A' c' w2 q1 q2; have Q1 := Lib.hid q1; have Q2 := Lib.hid (Bg0 (Ba HB.out _) (Own0.alloc HO.out _) (Nat.le_refl _) q2); clear q1 q2)
        go_roundg (64 - (i + 1))
        case measure => omega
        case rel => exact ⟨i + 1, A', n + 1, c', by omega, by omega, by go_num, rfl, by omega, by have := HN.out; show n + 1 = (lowB x (i + 1)).length; rw [HL2.out]; simp; exact this, by rw [HL2.out, cellsV_snoc]; exact Q1.out, Q2.out⟩
      · have hls : lowB x (i + 1) = lowB x i := by rw [HLS.out, htb, decide_eq_false hb]; simp
        have hb0 : y % 2 = 0 := by omega
        have HL2 := Lib.hid hls
        rw [hb0] at hand
        clear hls htb hb HLS hb0
        go_wp2
        go_roundg (64 - (i + 1))
        case measure => omega
        case rel => exact ⟨i + 1, A, n, c, by omega, by omega, by go_num, rfl, by omega, by have := HN.out; show n = (lowB x (i + 1)).length; rw [HL2.out]; exact this, by rw [HL2.out]; exact HO.out, HB.out⟩
end Go.Proofs.YthgjhfapnilfhaaDoor
namespace Go.Proofs.YthgjhfapnilfhaaDoor
open Go Go.RowKit
set_option maxHeartbeats 1000000 in
theorem bits_any (vl : Value) (ns : List Nat) (hn : ∀ x ∈ ns, x < 64) (w : World) (F : Nat → Prop) (hr : SlI F w vl (Hit.ints ns)) :
    Calls Tryd.prog 101 #[vl] w fun e w' => e = .returned (.int .u64 (Hit.word ns : Nat)) ∧ w = w' := by
  obtain ⟨A, c, rfl, hlc, hl, hat⟩ := hr.open
  rw [ints_length] at hlc hl ⊢
  clear hr
  have hbd : ∀ k, Hit.word (ns.take k) < 2 ^ 64 := fun k => Hit.word_lt fun x hx => hn x (List.mem_of_mem_take hx)
  go_enter Tryd.func101, Tryd.ntmps101
  go_wp2
  go_loopg [3, 4] ns.length (fun gg s3 s wr => ∃ k : Nat, k ≤ ns.length ∧ ns.length - k ≤ gg ∧ s = .int .i64 k ∧ s3 = .int .u64 (Hit.word (ns.take k) : Nat) ∧ wr = w)
  case atStart => exact ⟨0, by omega, by omega, rfl, rfl, rfl⟩
  case round =>
    obtain ⟨k, hk, hg, rfl, rfl, rfl⟩ := hrel
    by_cases hlt : k < ns.length
    · have hki : decide ((k : Int) < ns.length) = true := decide_eq_true (by omega)
      obtain ⟨ad, rfl, hf, hc⟩ := hat k (by rw [ints_length]; exact hlt)
      rw [ints_get] at hc
      have hx := hn ns[k] (List.getElem_mem hlt)
      have hs := word_take ns k hlt
      have h1 := Hit.two_u64w ns[k] hx
      have h2 := Hit.u64_or _ _ (hbd k) (Hit.bit_lt hx)
      rw [← h1] at h2
      have h3 : ((ns[k] : Nat) : Int) % 18446744073709551616 = ns[k] := by omega
      have h4 : min ns[k] 64 = ns[k] := by omega
      have HS := Lib.hid hs
      have H2 := Lib.hid h2
      generalize Hit.word (ns.take k) = acc at *
      generalize ns[k] = x at *
      clear hat hn hbd h1 h2 hs
      go_wp2
      go_roundg (ns.length - (k + 1))
      case measure => omega
      case rel => exact ⟨k + 1, by omega, by omega, by go_num, by rw [HS.out, ← H2.out], rfl⟩
    · have hki : decide ((k : Int) < ns.length) = false := decide_eq_false (by omega)
      have : k = ns.length := by omega
      subst this
      clear hat hbd
      go_wp2
      go_ret
      exact ⟨by rw [List.take_length]; rfl, rfl⟩
set_option maxHeartbeats 1000000 in
theorem missedR_any (n : Int) (vs : Value) (ws : List Nat) (hw : ∀ s ∈ ws, s < 4294967296) (x : Nat) (hx : x < 4294967296) (w : World) (F : Nat → Prop) (hF : ∀ b, F b → b < w.heap.size) (hr : SlII F w vs (setsOf ws)) :
    Calls Tryd.prog 56 #[.agg #[.int .i64 n, vs], .int .u64 x] w fun e w' => e = .returned (.int .i64 (missF ws x)) ∧ Below w.heap.size w w' := by
  have hr' := hr
  obtain ⟨As, cs, rfl, hlc, hll, hat⟩ := hr.open
  rw [setsOf_length] at hlc hll
  clear hr
  go_enter Tryd.func56, Tryd.ntmps56
  go_wp2_with fail
  obtain ⟨w1, hw1⟩ : ∃ w1 : World, w.alloc (.cells #[.int .i64 n, .slice As (setsOf ws).length cs] 69) = w1 := ⟨_, rfl⟩
  have c1 : w1.cell? ⟨w.heap.size, 1, none⟩ = some (.slice As ws.length cs) := by rw [← hw1]; simp [go_sem, setsOf_length]
  have s1 : w.heap.size < w1.heap.size := by rw [← hw1]; simp
  have B1 : Below w.heap.size w w1 := by rw [← hw1]; exact Ba (B0 w) _
  rw [hw1]
  clear hw1
  have HB1 := Lib.hid B1
  clear B1
  go_loopg [5] ws.length (fun gg s wr => ∃ k : Nat, k ≤ ws.length ∧ ws.length - k ≤ gg ∧ s = .int .i64 k ∧ Aside (∀ j (hj : j < ws.length), j < k → (ws[j] &&& x == 0) = false) ∧ wr = w1)
  case atStart => exact ⟨0, by omega, by omega, rfl, fun j _ hj => absurd hj (Nat.not_lt_zero _), rfl⟩
  case round =>
    obtain ⟨k, hk, hg, rfl, HA, rfl⟩ := hrel
    by_cases hlt : k < ws.length
    · have hki : decide ((k : Int) < ws.length) = true := decide_eq_true (by omega)
      have hki2 : (k : Int) < ws.length := by omega
      obtain ⟨ad, u, rfl, hf, hc, hu⟩ := hat k (by rw [setsOf_length]; exact hlt)
      rw [setsOf_get] at hu
      have hc' := (HB1.out.cell (p := ad.add k) (by rw [block_of_add]; exact hF _ hf)).trans hc
      have hws := hw _ (List.getElem_mem hlt)
      have hC : Calls Tryd.prog 101 #[u] wr fun e w' => e = .returned (.int .u64 ((ws[k] : Nat) : Int)) ∧ wr = w' := by
        have := bits_any u (Hit.members ws[k]) (fun y hy => (Hit.mem_members.1 hy).1) wr F (hu.keep (Agree.below HB1.out hF))
        rw [Hit.word_members (Nat.lt_of_lt_of_le hws (by decide))] at this
        exact this
      have hand := Hit.u64_and ws[k] x (by omega) (by omega)
      have HC := Lib.hid hC
      by_cases hz : ws[k] &&& x = 0
      · have hm : missF ws x = k := idxF_hit ws (fun s => s &&& x == 0) k HA.out hlt (by simpa using hz)
        rw [hz] at hand
        have HM := Lib.hid hm
        generalize ws[k] = q at *
        clear hat hu hc hr' hC hm hz
        go_wp2_with (go_at_call 101; refine HC.out.mono ?_; rintro e w' ⟨rfl, rfl⟩)
        go_ret
        exact ⟨by rw [HM.out]; rfl, HB1.out⟩
      · have hne : (((ws[k] &&& x : Nat) : Int) == 0) = false := by simp; exact hz
        have hA : ∀ j (hj : j < ws.length), j < k + 1 → (ws[j] &&& x == 0) = false := fun j hj hjk => by
          by_cases e : j = k
          · subst e; simpa using hz
          · exact HA.out j hj (by omega)
        have HA2 := Lib.hid hA
        generalize hq : ws[k] = q at *
        generalize q &&& x = z at *
        clear hat hu hc hr' hC hz hq HA hA
        go_wp2_with (go_at_call 101; refine HC.out.mono ?_; rintro e w' ⟨rfl, rfl⟩)
        go_roundg (ws.length - (k + 1))
        case measure => omega
        case rel => exact ⟨k + 1, by omega, by omega, by go_num, HA2.out, rfl⟩
    · have hki : decide ((k : Int) < ws.length) = false := decide_eq_false (by omega)
      have : k = ws.length := by omega
      subst this
      have hm : missF ws x = -1 := idxF_miss ws (fun s => s &&& x == 0) fun j hj => HA.out j hj hj
      have HM := Lib.hid hm
      clear hat hr' hm
      go_wp2
      go_ret
      exact ⟨by rw [HM.out]; rfl, HB1.out⟩
end Go.Proofs.YthgjhfapnilfhaaDoor
namespace Go.Proofs.YthgjhfapnilfhaaDoor
open Go Go.RowKit
theorem wp_region_class_lit {P : Program} {C : World → Prop} {id : Nat} {Q : Exit → Act → World → Prop} {a : Act} {w : World} {l : List Oper} (hm : P.follows .mixedOrders = true) (hB : Region.lexB .any l.toArray = true) (hC : C { w with drawn := w.drawn + 1 })
    (h : wpQuiet P l.toArray C (fun a' => ∀ w', C w' → Q .normal a' w') l a) : (Code.region id l.toArray true).wp P Q a w :=
  wp_region_quiet (C := C) hm hB hC (by simpa using h)
/-- The worlds that leave all that was in w1. -/
def Cls (w1 : World) : Type := { x : World // Below w1.heap.size w1 x }
def Cls.w {w1 : World} (q : Cls w1) : World := q.1
theorem Cls.b {w1 : World} (q : Cls w1) : Below w1.heap.size w1 q.w := q.2
def Cls.mk' {w1 w : World} (h : Below w1.heap.size w1 w) : Cls w1 := ⟨w, h⟩
instance (w1 : World) : Nonempty (Cls w1) := ⟨⟨w1, Below.refl _ _⟩⟩
end Go.Proofs.YthgjhfapnilfhaaDoor
