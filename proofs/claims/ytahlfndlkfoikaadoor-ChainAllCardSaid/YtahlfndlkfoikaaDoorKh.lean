/- Walks over coupler: names of ranks. Walks over coupler: check. -/
import Derived.Test.YtahlfndlkfoikaaDoorKa
import Derived.Test.YtahlfndlkfoikaaDoorKd
namespace Go.Proofs.YtahlfndlkfoikaaDoor
open Go Go.RowKit Go.Shelf
namespace Cou
def letF (b : Nat) : Bool := (decide (65 ≤ b) && decide (b ≤ 90)) || (decide (97 ≤ b) && decide (b ≤ 122))
def byteF (b : Nat) : Bool := letF b || (decide (48 ≤ b) && decide (b ≤ 57)) || decide (b = 95)
/-- The byte of a name at i. -/
def at_ (s : ByteArray) (i : Nat) : Nat := if h : i < s.size then s[i].toNat else 0
def NameOk (s : ByteArray) : Prop := s.size ≠ 0 ∧ s.size ≤ 32 ∧ letF (at_ s 0) = true ∧ ∀ i, i < s.size → i ≠ 0 → byteF (at_ s i) = true
instance (s : ByteArray) : Decidable (NameOk s) := by unfold NameOk; infer_instance
def nameF (s : ByteArray) : Bool := decide (NameOk s)
end Cou
set_option maxHeartbeats 1000000 in
theorem letter_any (b : Nat) (hb : b < 256) (w : World) : Calls Tryd.prog 80 #[.int .u8 b] w fun e w' => e = .returned (.bool (Cou.letF b)) ∧ w' = w := by
  go_enter Tryd.func80, Tryd.ntmps80
  go_wp2
  all_goals
    go_ret
    refine ⟨?_, rfl⟩
    show Ending.returned (Value.bool _) = _
    congr 2
    unfold Cou.letF
    rw [Bool.eq_iff_iff]
    simp
    omega
set_option maxHeartbeats 1000000 in
theorem isName_any (s : ByteArray) (w : World) : Calls Tryd.prog 71 #[.string s] w fun e w' => e = .returned (.bool (Cou.nameF s)) ∧ w' = w := by
  have hemp : s.toList.isEmpty = decide (s.size = 0) := by
    rw [ByteArray.toList_eq, ← ByteArray.size_data, ← Array.length_toList]
    cases s.data.toList <;> simp
  by_cases h0 : s.size = 0
  · have d0 : s.toList.isEmpty = true := by rw [hemp]; exact decide_eq_true h0
    have HZ : Hid (Cou.nameF s = false) := Lib.hid (decide_eq_false fun h => h.1 h0)
    clear hemp h0
    go_enter Tryd.func71, Tryd.ntmps71
    go_wp2
    go_ret
    exact ⟨by rw [HZ.out]; rfl, rfl⟩
  have d0 : s.toList.isEmpty = false := by rw [hemp]; exact decide_eq_false h0
  clear hemp
  rcases Nat.lt_or_ge 32 s.size with h1 | h1
  · have d1 : decide ((32 : Int) < s.size) = true := decide_eq_true (by omega)
    have HZ : Hid (Cou.nameF s = false) := Lib.hid (decide_eq_false fun h => by have := h.2.1; omega)
    clear h1
    go_enter Tryd.func71, Tryd.ntmps71
    go_wp2
    go_ret
    exact ⟨by rw [HZ.out]; rfl, rfl⟩
  have d1 : decide ((32 : Int) < s.size) = false := decide_eq_false (by omega)
  have hpos : 0 < s.size := by omega
  have ha0 : Cou.at_ s 0 = s[0].toNat := by unfold Cou.at_; rw [dif_pos hpos]
  have hL0 := fun W => letter_any s[0].toNat (UInt8.toNat_lt _) W
  rw [← ha0] at hL0
  cases hl0 : Cou.letF (Cou.at_ s 0) with
  | false =>
    rw [hl0] at hL0
    have HL0 := Lib.hid hL0
    have HZ : Hid (Cou.nameF s = false) := Lib.hid (decide_eq_false fun h => by have := h.2.2.1; rw [hl0] at this; cases this)
    clear hL0 hl0
    go_enter Tryd.func71, Tryd.ntmps71
    go_wp2_with (go_at_call 80; rw [← ha0]; (with_reducible refine ((HL0.out _).mono ?_)); rintro e w5 ⟨rfl, rfl⟩)
    go_ret
    exact ⟨by rw [HZ.out]; rfl, rfl⟩
  | true =>
    rw [hl0] at hL0
    have HL0 := Lib.hid hL0
    clear hL0
    go_enter Tryd.func71, Tryd.ntmps71
    go_wp2_with (go_at_call 80; rw [← ha0]; (with_reducible refine ((HL0.out _).mono ?_)); rintro e w5 ⟨rfl, rfl⟩)
    clear HL0 ha0 d0 d1
    go_loopg [3] s.size (fun gg s3 wr => ∃ k : Nat, 1 ≤ k ∧ k ≤ s.size ∧ s.size - k ≤ gg ∧ s3 = .int .i64 k ∧ Aside (∀ i, i < k → i ≠ 0 → Cou.byteF (Cou.at_ s i) = true) ∧ wr = w5)
    case atStart => exact ⟨1, by omega, by omega, by omega, rfl, fun i h1 h2 => absurd h1 (by omega), rfl⟩
    case round =>
      obtain ⟨k, hk1, hk, hg, rfl, HA, rfl⟩ := hrel
      by_cases hlt : k < s.size
      · have hki : decide ((k : Int) < s.size) = true := decide_eq_true (by omega)
        have hkl : (k : Int) < s.size := by omega
        have hbk : Cou.at_ s k = s[k].toNat := by unfold Cou.at_; rw [dif_pos hlt]
        have hb256 : s[k].toNat < 256 := UInt8.toNat_lt _
        have hN : Cou.byteF (Cou.at_ s k) = true → ∀ i, i < k + 1 → i ≠ 0 → Cou.byteF (Cou.at_ s i) = true := fun h i h1 h2 => by
          rcases Nat.lt_or_ge i k with h3 | h3
          · exact HA i h3 h2
          · have : i = k := by omega
            subst this; exact h
        have hF : Cou.byteF (Cou.at_ s k) = false → Cou.nameF s = false := fun h => decide_eq_false fun q => by
          have := q.2.2.2 k hlt (by omega)
          rw [h] at this; cases this
        rw [hbk] at hN hF
        have HN := Lib.hid hN
        have HF := Lib.hid hF
        clear hN hF HA hbk
        obtain ⟨b, hb⟩ : ∃ b, s[k].toNat = b := ⟨_, rfl⟩
        rw [hb] at hb256 HN HF
        have hL := fun W => letter_any b hb256 W
        cases hl : Cou.letF b with
        | true =>
          rw [hl] at hL
          have HL := Lib.hid hL
          have hby : Cou.byteF b = true := by unfold Cou.byteF; rw [hl]; rfl
          clear hL hl
          go_wp2_with (go_at_call 80; (with_reducible refine ((HL.out _).mono ?_)); rintro e w6 ⟨rfl, rfl⟩)
          go_roundg (s.size - (k + 1))
          case measure => omega
          case rel => exact ⟨k + 1, by omega, by omega, by omega, by go_num, HN.out hby, rfl⟩
        | false =>
          rw [hl] at hL
          have HL := Lib.hid hL
          have hby0 : Cou.byteF b = ((decide (48 ≤ b) && decide (b ≤ 57)) || decide (b = 95)) := by unfold Cou.byteF; rw [hl]; rfl
          clear hL hl
          by_cases hd : 48 ≤ b ∧ b ≤ 57
          · have e1 : decide ((b : Int) < 48) = false := decide_eq_false (by omega)
            have e2 : decide ((57 : Int) < b) = false := decide_eq_false (by omega)
            have hby : Cou.byteF b = true := by rw [hby0, decide_eq_true hd.1, decide_eq_true hd.2]; rfl
            clear hby0 hd
            go_wp2_with (go_at_call 80; (with_reducible refine ((HL.out _).mono ?_)); rintro e w6 ⟨rfl, rfl⟩)
            go_roundg (s.size - (k + 1))
            case measure => omega
            case rel => exact ⟨k + 1, by omega, by omega, by omega, by go_num, HN.out hby, rfl⟩
          · have hdd : (decide (48 ≤ b) && decide (b ≤ 57)) = false := by rw [← Bool.decide_and]; exact decide_eq_false hd
            rw [hdd, Bool.false_or] at hby0
            have hor : b < 48 ∨ 57 < b := by omega
            by_cases h95 : b = 95
            · have hby : Cou.byteF b = true := by rw [hby0]; exact decide_eq_true h95
              have e1 : decide ((b : Int) < 48) = false := decide_eq_false (by omega)
              have e2 : decide ((57 : Int) < b) = true := decide_eq_true (by omega)
              have e3 : ((b : Int) != 95) = false := by simp; omega
              clear hby0 hdd hd hor h95
              go_wp2_with (go_at_call 80; (with_reducible refine ((HL.out _).mono ?_)); rintro e w6 ⟨rfl, rfl⟩)
              go_roundg (s.size - (k + 1))
              case measure => omega
              case rel => exact ⟨k + 1, by omega, by omega, by omega, by go_num, HN.out hby, rfl⟩
            · have HZ : Hid (Cou.nameF s = false) := Lib.hid (HF.out (by rw [hby0]; exact decide_eq_false h95))
              have e3 : ((b : Int) != 95) = true := by simp; omega
              clear hby0 hdd hd h95
              rcases hor with hor | hor
              · have e1 : decide ((b : Int) < 48) = true := decide_eq_true (by omega)
                clear hor
                go_wp2_with (go_at_call 80; (with_reducible refine ((HL.out _).mono ?_)); rintro e w6 ⟨rfl, rfl⟩)
                go_ret
                exact ⟨by rw [HZ.out]; rfl, rfl⟩
              · have e1 : decide ((b : Int) < 48) = false := decide_eq_false (by omega)
                have e2 : decide ((57 : Int) < b) = true := decide_eq_true (by omega)
                clear hor
                go_wp2_with (go_at_call 80; (with_reducible refine ((HL.out _).mono ?_)); rintro e w6 ⟨rfl, rfl⟩)
                go_ret
                exact ⟨by rw [HZ.out]; rfl, rfl⟩
      · have hki : decide ((k : Int) < s.size) = false := decide_eq_false (by omega)
        have hkk : k = s.size := by omega
        have HZ : Hid (Cou.nameF s = true) := Lib.hid (decide_eq_true ⟨h0, h1, hl0, fun i hi h2 => HA i (by omega) h2⟩)
        clear HA
        go_wp2
        go_ret
        exact ⟨by rw [HZ.out]; rfl, rfl⟩
end Go.Proofs.YtahlfndlkfoikaaDoor
namespace Go.Proofs.YtahlfndlkfoikaaDoor
open Go Go.RowKit Go.Shelf
namespace Cou
def compF (c : Int × Int) : Int := if c.1 < 0 ∨ 127 < c.2 then 3 else if c.2 < c.1 then 23 else 0
def oneF (nd : Nat) (cps : List Cpl) (i : Nat) (x : Cpl) : Int :=
  if nameF x.name = false then 8
  else if (cps.take i).any (fun y => decide (y.name = x.name)) = true then 9
  else if x.from_ < 0 ∨ (nd : Int) ≤ x.from_ ∨ x.to < 0 ∨ (nd : Int) ≤ x.to then 10
  else if x.shift < -127 ∨ 127 < x.shift then 3
  else if x.from_ = x.to ∧ x.shift = 0 then 7 else 0
/-- The first error from coupler cps.length - d on. -/
def goF (nd : Nat) (cps : List Cpl) : Nat → Int
  | 0 => 0
  | d + 1 => match cps[cps.length - (d + 1)]? with
    | none => 0
    | some x => if oneF nd cps (cps.length - (d + 1)) x = 0 then goF nd cps d else oneF nd cps (cps.length - (d + 1)) x
def divF : List (Int × Int) → Int
  | [] => 0
  | c :: r => if compF c = 0 then divF r else 23
def checkF (divs : List (Int × Int)) (cps : List Cpl) : Int :=
  if 8 < divs.length ∨ 40 < cps.length then 4 else if divF divs = 0 then goF divs.length cps cps.length else 23
theorem divF_drop {l : List (Int × Int)} {k : Nat} (h : k < l.length) : divF (l.drop k) = if compF l[k] = 0 then divF (l.drop (k + 1)) else 23 := by
  rw [List.drop_eq_getElem_cons h, divF]
theorem goF_at {nd : Nat} {cps : List Cpl} {k : Nat} (h : k < cps.length) : goF nd cps (cps.length - k) = if oneF nd cps k cps[k] = 0 then goF nd cps (cps.length - (k + 1)) else oneF nd cps k cps[k] := by
  obtain ⟨d, hd⟩ : ∃ d, cps.length - k = d + 1 := ⟨cps.length - k - 1, by omega⟩
  rw [hd, goF]
  have e : cps.length - (d + 1) = k := by omega
  have e2 : cps.length - (k + 1) = d := by omega
  rw [e, e2, List.getElem?_eq_getElem h]
end Cou
set_option maxHeartbeats 1000000 in
theorem compass_any (lo hi : Int) (w : World) : Calls Tryd.prog 70 #[.agg #[.int .i64 lo, .int .i64 hi]] w fun e w' => e = .returned (.int .i64 (Cou.compF (lo, hi))) ∧ Below w.heap.size w w' := by
  by_cases h1 : lo < 0
  · have d1 : decide (lo < 0) = true := decide_eq_true h1
    have HZ : Hid (Cou.compF (lo, hi) = 3) := Lib.hid (by unfold Cou.compF; rw [if_pos (.inl h1)])
    clear h1
    go_enter Tryd.func70, Tryd.ntmps70
    go_wp2
    go_ret
    exact ⟨by rw [HZ.out]; rfl, Ba (B0 w) _⟩
  · have d1 : decide (lo < 0) = false := decide_eq_false h1
    by_cases h2 : 127 < hi
    · have d2 : decide (127 < hi) = true := decide_eq_true h2
      have HZ : Hid (Cou.compF (lo, hi) = 3) := Lib.hid (by unfold Cou.compF; rw [if_pos (.inr h2)])
      clear h1 h2
      go_enter Tryd.func70, Tryd.ntmps70
      go_wp2
      go_ret
      exact ⟨by rw [HZ.out]; rfl, Ba (B0 w) _⟩
    · have d2 : decide (127 < hi) = false := decide_eq_false h2
      have hz : Cou.compF (lo, hi) = if hi < lo then 23 else 0 := by unfold Cou.compF; rw [if_neg (by simp only; omega)]
      by_cases h3 : hi < lo
      · have d3 : decide (hi < lo) = true := decide_eq_true h3
        rw [if_pos h3] at hz
        have HZ := Lib.hid hz
        clear h1 h2 h3 hz
        go_enter Tryd.func70, Tryd.ntmps70
        go_wp2
        go_ret
        exact ⟨by rw [HZ.out]; rfl, Ba (B0 w) _⟩
      · have d3 : decide (hi < lo) = false := decide_eq_false h3
        rw [if_neg h3] at hz
        have HZ := Lib.hid hz
        clear h1 h2 h3 hz
        go_enter Tryd.func70, Tryd.ntmps70
        go_wp2
        go_ret
        exact ⟨by rw [HZ.out]; rfl, Ba (B0 w) _⟩
theorem bytes_eq (a b : ByteArray) : (a.toList == b.toList) = decide (a = b) := by
  rw [ByteArray.toList_eq, ByteArray.toList_eq]
  by_cases h : a = b
  · subst h; simp
  · rw [decide_eq_false h, beq_eq_false_iff_ne]
    intro e
    exact h (ByteArray.ext (Array.toList_inj.1 e))
/-- A coupler as a value. -/
def cplV (x : Cou.Cpl) : Value := .agg #[.string x.name, .int .i64 x.from_, .int .i64 x.to, .int .i64 x.shift, .bool x.thru]
set_option maxHeartbeats 1000000 in
theorem same_any (nm : ByteArray) (x : Cou.Cpl) (b : Nat) (w : World) (hb : b < w.heap.size) (h0 : w.cell? ⟨b, 0, none⟩ = some (.string nm)) : Calls Tryd.prog 73 #[cplV x, .pointer (some ⟨b, 0, none⟩)] w fun e w' => e = .returned (.bool (decide (x.name = nm))) ∧ Below w.heap.size w w' := by
  have h1 : ∀ o, (w.alloc o).cell? ⟨b, 0, none⟩ = some (.string nm) := fun o => (Bc (Ba (B0 w) o) hb).trans h0
  unfold cplV
  go_enter Tryd.func73, Tryd.ntmps73
  go_wp2
  go_ret
  exact ⟨by rw [← bytes_eq]; rfl, Ba (B0 w) _⟩
def PredC (p : Cou.Cpl → Bool) (g : Nat) (lb : Array Value) (w : World) : Prop :=
  ∀ (W : World) (x : Cou.Cpl), Below w.heap.size w W → Calls Tryd.prog g (#[cplV x] ++ lb) W fun e w' => e = .returned (.bool (p x)) ∧ Below W.heap.size W w'
set_option maxHeartbeats 1000000 in
theorem index_any (p : Cou.Cpl → Bool) (v : Value) (l : List Cou.Cpl) (g : Nat) (lb : Array Value) (eg : ∀ args w, (callFunc g args).run Tryd.prog w = .ok (.enter g args) w) (w : World) (F : Nat → Prop) (hF : ∀ b, F b → b < w.heap.size)
    (hr : SlCp F w v l) (hp : PredC p g lb w) :
    Calls Tryd.prog 81 #[v, .func (.func g) #[] lb] w fun e w' => ∃ r, e = .returned (.int .i64 r) ∧ decide (0 ≤ r) = l.any p ∧ Below w.heap.size w w' := by
  obtain ⟨_, _, _, _, hlen, _⟩ := id hr
  obtain ⟨A, c, rfl, hlc, hat⟩ := hr.open
  clear hr
  go_enter Tryd.func81, Tryd.ntmps81
  go_wp2_with fail
  go_loopg [8] l.length (fun gg s wr => ∃ k : Nat, k ≤ l.length ∧ l.length - k ≤ gg ∧ s = .int .i64 k ∧ Aside (l.any p = (l.drop k).any p) ∧ Aside (Below w.heap.size w wr))
  case atStart => exact ⟨0, by omega, by omega, rfl, by rw [List.drop_zero]; trivial, B0 w⟩
  case round =>
    obtain ⟨k, hk, hg, rfl, HA, HB⟩ := hrel
    by_cases hlt : k < l.length
    · have hki : decide ((k : Int) < l.length) = true := decide_eq_true (by omega)
      have hkl : (k : Int) < l.length := by omega
      obtain ⟨ad, rfl, hfb, hfl⟩ := hat k hlt
      have hfb2 : (ad.add (k * 5)).block < w.heap.size := by rw [block_of_add]; exact hF _ hfb
      have hfl2 := hfl.below HB hfb2
      have f0 := hfl2.f0 rfl
      have f1 := hfl2.f1 rfl
      have f2 := hfl2.f2 rfl
      have f3 := hfl2.f3 rfl
      have f4 := hfl2.f4 rfl
      have hcall := hp wr l[k] HB
      unfold cplV at hcall
      have hdr : (l.drop k).any p = (p l[k] || (l.drop (k + 1)).any p) := by rw [List.drop_eq_getElem_cons hlt, List.any_cons]
      have HZ : Hid (l.any p = (p l[k] || (l.drop (k + 1)).any p)) := Lib.hid (HA.trans hdr)
      have HB2 := Lib.hid HB
      generalize l[k] = x at *
      clear hat hp hfl hfl2 HA HB hdr
      cases hq : p x with
      | true =>
        rw [hq] at hcall HZ
        have HC := Lib.hid hcall
        clear hcall hq
        go_wp2_with (go_at_fn g; refine HC.out.mono ?_; rintro e w' ⟨rfl, hb⟩)
        go_ret
        exact ⟨k, rfl, by rw [HZ.out, Bool.true_or]; exact decide_eq_true (by omega), Bt HB2.out hb⟩
      | false =>
        rw [hq, Bool.false_or] at HZ
        rw [hq] at hcall
        have HC := Lib.hid hcall
        clear hcall hq
        go_wp2_with (go_at_fn g; refine HC.out.mono ?_; rintro e w' ⟨rfl, hb⟩)
        go_roundg (l.length - (k + 1))
        case measure => omega
        case rel => exact ⟨k + 1, by omega, by omega, by go_num, HZ.out, Bt HB2.out hb⟩
    · have hki : decide ((k : Int) < l.length) = false := decide_eq_false (by omega)
      have hkk : k = l.length := by omega
      subst hkk
      have HZ : Hid (l.any p = false) := Lib.hid (by rw [HA, List.drop_length]; rfl)
      have HB2 := Lib.hid HB
      clear hat hp HA HB
      go_wp2
      go_ret
      exact ⟨-1, rfl, by rw [HZ.out]; rfl, HB2.out⟩
theorem contains_any (p : Cou.Cpl → Bool) (v : Value) (l : List Cou.Cpl) (g : Nat) (lb : Array Value) (eg : ∀ args w, (callFunc g args).run Tryd.prog w = .ok (.enter g args) w) (w : World) (F : Nat → Prop) (hF : ∀ b, F b → b < w.heap.size)
    (hr : SlCp F w v l) (hp : PredC p g lb w) :
    Calls Tryd.prog 72 #[v, .func (.func g) #[] lb] w fun e w' => e = .returned (.bool (l.any p)) ∧ Below w.heap.size w w' := by
  have HI := Lib.hid (index_any p v l g lb eg w F hF hr hp)
  clear hr hp
  go_enter Tryd.func72, Tryd.ntmps72
  go_wp2_with (go_at_call 81; refine HI.out.mono ?_; rintro e w' ⟨r, rfl, hr, hb⟩)
  go_ret
  exact ⟨by rw [← hr]; rfl, hb⟩
/-- A slice's head. -/
theorem SlCp.head {F : Nat → Prop} {w : World} {A : Option Addr} {c : Nat} {l : List Cou.Cpl} (h : SlCp F w (.slice A l.length c) l) (k : Nat) (hk : k ≤ l.length) : SlCp F w (.slice A k c) (l.take k) := by
  obtain ⟨A', c', hv, h1, h2, h3⟩ := h
  injection hv with e1 _ e2
  subst e1; subst e2
  have hlen : (l.take k).length = k := by rw [List.length_take]; omega
  refine ⟨A, c, by rw [hlen], by omega, by omega, fun i hi => ?_⟩
  obtain ⟨ad, cs, q1, q2, q3, q4, q5⟩ := h3 i (by omega)
  exact ⟨ad, cs, q1, q2, q3, by rw [List.getElem_take]; exact q4, q5⟩
set_option maxRecDepth 100000 in
set_option maxHeartbeats 4000000 in
theorem check_any (vd vc : Value) (divs : List (Int × Int)) (cps : List Cou.Cpl) (w : World) (F : Nat → Prop) (hF : ∀ b, F b → b < w.heap.size) (hd : SlD F w vd divs) (hc : SlCp F w vc cps) :
    Calls Tryd.prog 53 #[vd, vc] w fun e w' => e = .returned (.int .i64 (Cou.checkF divs cps)) ∧ Below w.heap.size w w' := by
  obtain ⟨Ad, cd, rfl, hd1, hdat⟩ := id hd.open
  obtain ⟨Ac, cc, rfl, hc1, hcat⟩ := id hc.open
  by_cases h1 : 8 < divs.length
  · have HZ : Hid (Cou.checkF divs cps = 4) := Lib.hid (by unfold Cou.checkF; rw [if_pos (.inl h1)])
    have d1 : decide ((8 : Int) < divs.length) = true := decide_eq_true (by omega)
    clear hd hc hdat hcat h1
    go_enter Tryd.func53, Tryd.ntmps53
    go_wp2
    go_ret
    exact ⟨by rw [HZ.out]; rfl, B0 w⟩
  have d1 : decide ((8 : Int) < divs.length) = false := decide_eq_false (by omega)
  by_cases h2 : 40 < cps.length
  · have HZ : Hid (Cou.checkF divs cps = 4) := Lib.hid (by unfold Cou.checkF; rw [if_pos (.inr h2)])
    have d2 : decide ((40 : Int) < cps.length) = true := decide_eq_true (by omega)
    clear hd hc hdat hcat h1 h2
    go_enter Tryd.func53, Tryd.ntmps53
    go_wp2
    go_ret
    exact ⟨by rw [HZ.out]; rfl, B0 w⟩
  have d2 : decide ((40 : Int) < cps.length) = false := decide_eq_false (by omega)
  have hz : Cou.checkF divs cps = if Cou.divF divs = 0 then Cou.goF divs.length cps cps.length else 23 := by unfold Cou.checkF; rw [if_neg (by omega)]
  have HZ := Lib.hid hz
  clear hz
  go_enter Tryd.func53, Tryd.ntmps53
  go_wp2
  go_loopg [19] divs.length (fun gg s wr => ∃ k : Nat, k ≤ divs.length ∧ divs.length - k ≤ gg ∧ s = .int .i64 k ∧ Aside (Cou.divF divs = Cou.divF (divs.drop k)) ∧ Aside (Below w.heap.size w wr))
  case atStart => exact ⟨0, by omega, by omega, rfl, by rw [List.drop_zero]; trivial, B0 w⟩
  case round =>
    obtain ⟨k, hk, hg, rfl, HA, HB⟩ := hrel
    by_cases hlt : k < divs.length
    · have hki : decide ((k : Int) < divs.length) = true := decide_eq_true (by omega)
      have hkl : (k : Int) < divs.length := by omega
      obtain ⟨ad, rfl, hfb, hfl⟩ := hdat k hlt
      have hfb2 : (ad.add (k * 2)).block < w.heap.size := by rw [block_of_add]; exact hF _ hfb
      have hfl2 := hfl.below HB hfb2
      have f0 := hfl2.f0 rfl
      have f1 := hfl2.f1 rfl
      have hdr := HA.trans (Cou.divF_drop hlt)
      have HB2 := Lib.hid HB
      have HCO := Lib.hid (fun W => compass_any divs[k].1 divs[k].2 W)
      generalize hx : divs[k] = x at *
      clear hdat hcat hfl hfl2 HA HB hd hc
      by_cases hcf : Cou.compF x = 0
      · rw [if_pos hcf] at hdr
        have HDR := Lib.hid hdr
        have HCF := Lib.hid hcf
        clear hdr hcf
        go_wp2_with (go_at_call 70; (with_reducible refine ((HCO.out _).mono ?_)); rintro e w3 ⟨rfl, hb⟩; rw [HCF.out])
        go_roundg (divs.length - (k + 1))
        case measure => omega
        case rel => exact ⟨k + 1, by omega, by omega, by go_num, HDR.out, Bt (Ba HB2.out _) hb⟩
      · rw [if_neg hcf] at hdr
        have HZ2 : Hid (Cou.checkF divs cps = 23) := Lib.hid (by rw [HZ.out, if_neg (by rw [hdr]; decide)])
        have d3 : (Cou.compF x != 0) = true := by simpa using hcf
        clear hdr hcf HZ
        go_wp2_with (go_at_call 70; (with_reducible refine ((HCO.out _).mono ?_)); rintro e w3 ⟨rfl, hb⟩)
        go_ret
        exact ⟨by rw [HZ2.out]; rfl, Bt (Ba HB2.out _) hb⟩
    · have hki : decide ((k : Int) < divs.length) = false := decide_eq_false (by omega)
      have hkk : k = divs.length := by omega
      subst hkk
      have hz2 : Cou.checkF divs cps = Cou.goF divs.length cps cps.length := by rw [HZ.out, if_pos (by rw [HA, List.drop_length]; rfl)]
      have HZ2 := Lib.hid hz2
      have HB2 := Lib.hid HB
      clear hdat HA HB HZ hz2
      go_wp2
      have hnd : divs.length ≤ 8 := by omega
      generalize divs.length = nd at *
      go_loopg [29] cps.length (fun gg s wr => ∃ k : Nat, k ≤ cps.length ∧ cps.length - k ≤ gg ∧ s = .int .i64 k ∧ Aside (Cou.goF nd cps cps.length = Cou.goF nd cps (cps.length - k)) ∧ Aside (Below w.heap.size w wr))
      case atStart => exact ⟨0, by omega, by omega, rfl, rfl, HB2.out⟩
      case round =>
        clear HB2
        obtain ⟨k, hk, hg2, rfl, HA, HB⟩ := hrel
        by_cases hlt : k < cps.length
        · have hki : decide ((k : Int) < cps.length) = true := decide_eq_true (by omega)
          have hkl : (k : Int) < cps.length := by omega
          have hkc : (k : Int) ≤ cc := by omega
          have hk0 : (0 : Int) ≤ k := by omega
          obtain ⟨ad, rfl, hfb, hfl⟩ := hcat k hlt
          have hfb2 : (ad.add (k * 5)).block < w.heap.size := by rw [block_of_add]; exact hF _ hfb
          have hfl2 := hfl.below HB hfb2
          have f0 := hfl2.f0 rfl
          have f1 := hfl2.f1 rfl
          have f2 := hfl2.f2 rfl
          have f3 := hfl2.f3 rfl
          have f4 := hfl2.f4 rfl
          have hA2 := HA.trans (Cou.goF_at hlt)
          have hHD := (hc.keep (Agree.below HB hF)).head k hk
          have HB2 := Lib.hid HB
          have HW := Lib.hid hHD
          clear hcat hfl hfl2 HA hc hHD
          generalize cps[k] = x at *
          obtain ⟨nm, fr, to_, sh, th⟩ := x
          dsimp only at f0 f1 f2 f3 f4
          have HA2 := Lib.hid hA2
          have HZ3 : Hid (Cou.checkF divs cps = if Cou.oneF nd cps k ⟨nm, fr, to_, sh, th⟩ = 0 then Cou.goF nd cps (cps.length - (k + 1)) else Cou.oneF nd cps k ⟨nm, fr, to_, sh, th⟩) := Lib.hid (HZ2.out.trans hA2)
          have hbx : Below wr.heap.size wr (wr.alloc (.cells #[.string nm, .int .i64 fr, .int .i64 to_, .int .i64 sh, .bool th] 46)) := Ba (B0 wr) _
          have X1 : (wr.alloc (.cells #[.string nm, .int .i64 fr, .int .i64 to_, .int .i64 sh, .bool th] 46)).cell? ⟨wr.heap.size, 1, none⟩ = some (.int .i64 fr) := by simp [go_sem]
          have X2 : (wr.alloc (.cells #[.string nm, .int .i64 fr, .int .i64 to_, .int .i64 sh, .bool th] 46)).cell? ⟨wr.heap.size, 2, none⟩ = some (.int .i64 to_) := by simp [go_sem]
          have X3 : (wr.alloc (.cells #[.string nm, .int .i64 fr, .int .i64 to_, .int .i64 sh, .bool th] 46)).cell? ⟨wr.heap.size, 3, none⟩ = some (.int .i64 sh) := by simp [go_sem]
          have hCN := contains_any (fun y => decide (y.name = nm)) (.slice (some ad) k cc) (cps.take k) 73 #[.pointer (some ⟨wr.heap.size, 0, none⟩)] (enters_of Tryd.func73 (by kernel_rfl) rfl) (wr.alloc (.cells #[.string nm, .int .i64 fr, .int .i64 to_, .int .i64 sh, .bool th] 46)) F
            (fun b hb => Nat.lt_of_lt_of_le (hF b hb) (Nat.le_trans HB.size hbx.size)) (HW.out.keep (Agree.below hbx fun b hb => Nat.lt_of_lt_of_le (hF b hb) HB.size))
            (fun W y hbW => same_any nm y wr.heap.size W (Nat.lt_of_lt_of_le (by simp) hbW.size) ((Bc (k := wr.heap.size) (o := 0) hbW (by simp)).trans (by simp [go_sem])))
          have hNM := fun W => isName_any nm W
          clear hA2 HB hbx HW
          cases hnm : Cou.nameF nm with
          | false =>
            have hcn := hnm
            rw [hnm] at hNM
            have HNM := Lib.hid hNM
            have HCN := Lib.hid hCN
            clear hNM hCN
            have hone : Cou.oneF nd cps k ⟨nm, fr, to_, sh, th⟩ = 8 := by unfold Cou.oneF; dsimp only; rw [if_pos hnm]
            have HE : Hid (Cou.checkF divs cps = 8) := Lib.hid (by rw [HZ3.out, hone, if_neg (by decide)])
            clear hone hnm hcn 
            go_wp2_with (first
            | (go_at_call 71; (with_reducible refine ((HNM.out _).mono ?_)); rintro e w3 ⟨rfl, rfl⟩)
            | (go_at_call 72; (with_reducible refine (HCN.out.mono ?_)); rintro e w4 ⟨rfl, hb4⟩; have c1 := (Bc (k := wr.heap.size) (o := 1) hb4 (by simp)).trans X1; have c2 := (Bc (k := wr.heap.size) (o := 2) hb4 (by simp)).trans X2; have c3 := (Bc (k := wr.heap.size) (o := 3) hb4 (by simp)).trans X3))
            go_ret
            exact ⟨by rw [HE.out]; rfl, Ba HB2.out _⟩
          | true =>
            rw [hnm] at hNM
            have HNM := Lib.hid hNM
            cases hcn : (cps.take k).any (fun y => decide (y.name = nm)) with
            | true =>
              rw [hcn] at hCN
              have HCN := Lib.hid hCN
              clear hNM hCN
              have hone : Cou.oneF nd cps k ⟨nm, fr, to_, sh, th⟩ = 9 := by unfold Cou.oneF; dsimp only; rw [if_neg (by rw [hnm]; decide), if_pos hcn]
              have HE : Hid (Cou.checkF divs cps = 9) := Lib.hid (by rw [HZ3.out, hone, if_neg (by decide)])
              clear hone hnm hcn 
              go_wp2_with (first
            | (go_at_call 71; (with_reducible refine ((HNM.out _).mono ?_)); rintro e w3 ⟨rfl, rfl⟩)
            | (go_at_call 72; (with_reducible refine (HCN.out.mono ?_)); rintro e w4 ⟨rfl, hb4⟩; have c1 := (Bc (k := wr.heap.size) (o := 1) hb4 (by simp)).trans X1; have c2 := (Bc (k := wr.heap.size) (o := 2) hb4 (by simp)).trans X2; have c3 := (Bc (k := wr.heap.size) (o := 3) hb4 (by simp)).trans X3))
              go_ret
              exact ⟨by rw [HE.out]; rfl, Bt (Ba HB2.out _) hb4⟩
            | false =>
              rw [hcn] at hCN
              have HCN := Lib.hid hCN
              clear hNM hCN
              by_cases g1 : fr < 0
              · have d10 : decide (fr < 0) = true := decide_eq_true g1
                have hone : Cou.oneF nd cps k ⟨nm, fr, to_, sh, th⟩ = 10 := by unfold Cou.oneF; dsimp only; rw [if_neg (by rw [hnm]; decide), if_neg (by rw [hcn]; decide), if_pos (.inl g1)]
                have HE : Hid (Cou.checkF divs cps = 10) := Lib.hid (by rw [HZ3.out, hone, if_neg (by decide)])
                clear hone hnm hcn g1
                go_wp2_with (first
            | (go_at_call 71; (with_reducible refine ((HNM.out _).mono ?_)); rintro e w3 ⟨rfl, rfl⟩)
            | (go_at_call 72; (with_reducible refine (HCN.out.mono ?_)); rintro e w4 ⟨rfl, hb4⟩; have c1 := (Bc (k := wr.heap.size) (o := 1) hb4 (by simp)).trans X1; have c2 := (Bc (k := wr.heap.size) (o := 2) hb4 (by simp)).trans X2; have c3 := (Bc (k := wr.heap.size) (o := 3) hb4 (by simp)).trans X3))
                go_ret
                exact ⟨by rw [HE.out]; rfl, Bt (Ba HB2.out _) hb4⟩
              have d10 : decide (fr < 0) = false := decide_eq_false g1
              by_cases g2 : (nd : Int) ≤ fr
              · have d11 : decide ((nd : Int) ≤ fr) = true := decide_eq_true g2
                have hone : Cou.oneF nd cps k ⟨nm, fr, to_, sh, th⟩ = 10 := by unfold Cou.oneF; dsimp only; rw [if_neg (by rw [hnm]; decide), if_neg (by rw [hcn]; decide), if_pos (.inr (.inl g2))]
                have HE : Hid (Cou.checkF divs cps = 10) := Lib.hid (by rw [HZ3.out, hone, if_neg (by decide)])
                clear hone hnm hcn g1 g2
                go_wp2_with (first
            | (go_at_call 71; (with_reducible refine ((HNM.out _).mono ?_)); rintro e w3 ⟨rfl, rfl⟩)
            | (go_at_call 72; (with_reducible refine (HCN.out.mono ?_)); rintro e w4 ⟨rfl, hb4⟩; have c1 := (Bc (k := wr.heap.size) (o := 1) hb4 (by simp)).trans X1; have c2 := (Bc (k := wr.heap.size) (o := 2) hb4 (by simp)).trans X2; have c3 := (Bc (k := wr.heap.size) (o := 3) hb4 (by simp)).trans X3))
                go_ret
                exact ⟨by rw [HE.out]; rfl, Bt (Ba HB2.out _) hb4⟩
              have d11 : decide ((nd : Int) ≤ fr) = false := decide_eq_false g2
              by_cases g3 : to_ < 0
              · have d12 : decide (to_ < 0) = true := decide_eq_true g3
                have hone : Cou.oneF nd cps k ⟨nm, fr, to_, sh, th⟩ = 10 := by unfold Cou.oneF; dsimp only; rw [if_neg (by rw [hnm]; decide), if_neg (by rw [hcn]; decide), if_pos (.inr (.inr (.inl g3)))]
                have HE : Hid (Cou.checkF divs cps = 10) := Lib.hid (by rw [HZ3.out, hone, if_neg (by decide)])
                clear hone hnm hcn g1 g2 g3
                go_wp2_with (first
            | (go_at_call 71; (with_reducible refine ((HNM.out _).mono ?_)); rintro e w3 ⟨rfl, rfl⟩)
            | (go_at_call 72; (with_reducible refine (HCN.out.mono ?_)); rintro e w4 ⟨rfl, hb4⟩; have c1 := (Bc (k := wr.heap.size) (o := 1) hb4 (by simp)).trans X1; have c2 := (Bc (k := wr.heap.size) (o := 2) hb4 (by simp)).trans X2; have c3 := (Bc (k := wr.heap.size) (o := 3) hb4 (by simp)).trans X3))
                go_ret
                exact ⟨by rw [HE.out]; rfl, Bt (Ba HB2.out _) hb4⟩
              have d12 : decide (to_ < 0) = false := decide_eq_false g3
              by_cases g4 : (nd : Int) ≤ to_
              · have d13 : decide ((nd : Int) ≤ to_) = true := decide_eq_true g4
                have hone : Cou.oneF nd cps k ⟨nm, fr, to_, sh, th⟩ = 10 := by unfold Cou.oneF; dsimp only; rw [if_neg (by rw [hnm]; decide), if_neg (by rw [hcn]; decide), if_pos (.inr (.inr (.inr g4)))]
                have HE : Hid (Cou.checkF divs cps = 10) := Lib.hid (by rw [HZ3.out, hone, if_neg (by decide)])
                clear hone hnm hcn g1 g2 g3 g4
                go_wp2_with (first
            | (go_at_call 71; (with_reducible refine ((HNM.out _).mono ?_)); rintro e w3 ⟨rfl, rfl⟩)
            | (go_at_call 72; (with_reducible refine (HCN.out.mono ?_)); rintro e w4 ⟨rfl, hb4⟩; have c1 := (Bc (k := wr.heap.size) (o := 1) hb4 (by simp)).trans X1; have c2 := (Bc (k := wr.heap.size) (o := 2) hb4 (by simp)).trans X2; have c3 := (Bc (k := wr.heap.size) (o := 3) hb4 (by simp)).trans X3))
                go_ret
                exact ⟨by rw [HE.out]; rfl, Bt (Ba HB2.out _) hb4⟩
              have d13 : decide ((nd : Int) ≤ to_) = false := decide_eq_false g4
              have hno : ¬ (fr < 0 ∨ (nd : Int) ≤ fr ∨ to_ < 0 ∨ (nd : Int) ≤ to_) := by omega
              clear g1 g2 g3 g4
              by_cases g5 : sh < -127
              · have d14 : decide (sh < -127) = true := decide_eq_true g5
                have hone : Cou.oneF nd cps k ⟨nm, fr, to_, sh, th⟩ = 3 := by unfold Cou.oneF; dsimp only; rw [if_neg (by rw [hnm]; decide), if_neg (by rw [hcn]; decide), if_neg hno, if_pos (.inl g5)]
                have HE : Hid (Cou.checkF divs cps = 3) := Lib.hid (by rw [HZ3.out, hone, if_neg (by decide)])
                clear hone hnm hcn g5 hno
                go_wp2_with (first
            | (go_at_call 71; (with_reducible refine ((HNM.out _).mono ?_)); rintro e w3 ⟨rfl, rfl⟩)
            | (go_at_call 72; (with_reducible refine (HCN.out.mono ?_)); rintro e w4 ⟨rfl, hb4⟩; have c1 := (Bc (k := wr.heap.size) (o := 1) hb4 (by simp)).trans X1; have c2 := (Bc (k := wr.heap.size) (o := 2) hb4 (by simp)).trans X2; have c3 := (Bc (k := wr.heap.size) (o := 3) hb4 (by simp)).trans X3))
                go_ret
                exact ⟨by rw [HE.out]; rfl, Bt (Ba HB2.out _) hb4⟩
              have d14 : decide (sh < -127) = false := decide_eq_false g5
              by_cases g6 : 127 < sh
              · have d15 : decide (127 < sh) = true := decide_eq_true g6
                have hone : Cou.oneF nd cps k ⟨nm, fr, to_, sh, th⟩ = 3 := by unfold Cou.oneF; dsimp only; rw [if_neg (by rw [hnm]; decide), if_neg (by rw [hcn]; decide), if_neg hno, if_pos (.inr g6)]
                have HE : Hid (Cou.checkF divs cps = 3) := Lib.hid (by rw [HZ3.out, hone, if_neg (by decide)])
                clear hone hnm hcn g5 g6 hno
                go_wp2_with (first
            | (go_at_call 71; (with_reducible refine ((HNM.out _).mono ?_)); rintro e w3 ⟨rfl, rfl⟩)
            | (go_at_call 72; (with_reducible refine (HCN.out.mono ?_)); rintro e w4 ⟨rfl, hb4⟩; have c1 := (Bc (k := wr.heap.size) (o := 1) hb4 (by simp)).trans X1; have c2 := (Bc (k := wr.heap.size) (o := 2) hb4 (by simp)).trans X2; have c3 := (Bc (k := wr.heap.size) (o := 3) hb4 (by simp)).trans X3))
                go_ret
                exact ⟨by rw [HE.out]; rfl, Bt (Ba HB2.out _) hb4⟩
              have d15 : decide (127 < sh) = false := decide_eq_false g6
              have hns : ¬ (sh < -127 ∨ 127 < sh) := by omega
              clear g5 g6
              by_cases g7 : fr = to_
              · have d16 : (fr == to_) = true := by simpa using g7
                by_cases g8 : sh = 0
                · have d17 : (sh == 0) = true := by simpa using g8
                  have hone : Cou.oneF nd cps k ⟨nm, fr, to_, sh, th⟩ = 7 := by unfold Cou.oneF; dsimp only; rw [if_neg (by rw [hnm]; decide), if_neg (by rw [hcn]; decide), if_neg hno, if_neg hns, if_pos ⟨g7, g8⟩]
                  have HE : Hid (Cou.checkF divs cps = 7) := Lib.hid (by rw [HZ3.out, hone, if_neg (by decide)])
                  clear hone hnm hcn g7 g8 hno hns
                  go_wp2_with (first
            | (go_at_call 71; (with_reducible refine ((HNM.out _).mono ?_)); rintro e w3 ⟨rfl, rfl⟩)
            | (go_at_call 72; (with_reducible refine (HCN.out.mono ?_)); rintro e w4 ⟨rfl, hb4⟩; have c1 := (Bc (k := wr.heap.size) (o := 1) hb4 (by simp)).trans X1; have c2 := (Bc (k := wr.heap.size) (o := 2) hb4 (by simp)).trans X2; have c3 := (Bc (k := wr.heap.size) (o := 3) hb4 (by simp)).trans X3))
                  go_ret
                  exact ⟨by rw [HE.out]; rfl, Bt (Ba HB2.out _) hb4⟩
                · have d17 : (sh == 0) = false := by simpa using g8
                  have hone : Cou.oneF nd cps k ⟨nm, fr, to_, sh, th⟩ = 0 := by unfold Cou.oneF; dsimp only; rw [if_neg (by rw [hnm]; decide), if_neg (by rw [hcn]; decide), if_neg hno, if_neg hns, if_neg (fun h => g8 h.2)]
                  have HE : Hid (Cou.goF nd cps cps.length = Cou.goF nd cps (cps.length - (k + 1))) := Lib.hid (by rw [HA2.out, hone, if_pos rfl])
                  clear hone hnm hcn g7 g8 hno hns
                  go_wp2_with (first
            | (go_at_call 71; (with_reducible refine ((HNM.out _).mono ?_)); rintro e w3 ⟨rfl, rfl⟩)
            | (go_at_call 72; (with_reducible refine (HCN.out.mono ?_)); rintro e w4 ⟨rfl, hb4⟩; have c1 := (Bc (k := wr.heap.size) (o := 1) hb4 (by simp)).trans X1; have c2 := (Bc (k := wr.heap.size) (o := 2) hb4 (by simp)).trans X2; have c3 := (Bc (k := wr.heap.size) (o := 3) hb4 (by simp)).trans X3))
                  go_roundg (cps.length - (k + 1))
                  case measure => omega
                  case rel => exact ⟨k + 1, by omega, by omega, by go_num, HE.out, Bt (Ba HB2.out _) hb4⟩
              · have d16 : (fr == to_) = false := by simpa using g7
                have hone : Cou.oneF nd cps k ⟨nm, fr, to_, sh, th⟩ = 0 := by unfold Cou.oneF; dsimp only; rw [if_neg (by rw [hnm]; decide), if_neg (by rw [hcn]; decide), if_neg hno, if_neg hns, if_neg (fun h => g7 h.1)]
                have HE : Hid (Cou.goF nd cps cps.length = Cou.goF nd cps (cps.length - (k + 1))) := Lib.hid (by rw [HA2.out, hone, if_pos rfl])
                clear hone hnm hcn g7 hno hns
                go_wp2_with (first
            | (go_at_call 71; (with_reducible refine ((HNM.out _).mono ?_)); rintro e w3 ⟨rfl, rfl⟩)
            | (go_at_call 72; (with_reducible refine (HCN.out.mono ?_)); rintro e w4 ⟨rfl, hb4⟩; have c1 := (Bc (k := wr.heap.size) (o := 1) hb4 (by simp)).trans X1; have c2 := (Bc (k := wr.heap.size) (o := 2) hb4 (by simp)).trans X2; have c3 := (Bc (k := wr.heap.size) (o := 3) hb4 (by simp)).trans X3))
                go_roundg (cps.length - (k + 1))
                case measure => omega
                case rel => exact ⟨k + 1, by omega, by omega, by go_num, HE.out, Bt (Ba HB2.out _) hb4⟩
        · have hki : decide ((k : Int) < cps.length) = false := decide_eq_false (by omega)
          have hkk : k = cps.length := by omega
          have HE : Hid (Cou.checkF divs cps = 0) := Lib.hid (by rw [HZ2.out, HA, hkk, Nat.sub_self]; rfl)
          have HB2 := Lib.hid HB
          clear hcat HA HB hc
          go_wp2
          go_ret
          exact ⟨by rw [HE.out]; rfl, HB2.out⟩
end Go.Proofs.YtahlfndlkfoikaaDoor
