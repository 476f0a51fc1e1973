/- The statement CheckerAssigns, walked. -/
import Derived.Test.YtnphdmiondccgaaYk
import Derived.Test.YtnphdmiondccgaaW7
namespace Go.Proofs.Ytnphdmiondccgaa
open Go Go.RowKit Go.Shelf
open Asg
/-- A slice's block lies below M. -/
def BB (v : Value) (M : Nat) : Prop := ∀ b, v.ownBlock = some b → b < M
theorem BB.mono {v : Value} {M N : Nat} (h : BB v M) (hn : M ≤ N) : BB v N := fun b hb => Nat.lt_of_lt_of_le (h b hb) hn
theorem own0_bb {w w' : World} {base : Nat} {A B C : Option Addr} {n c k : Nat} {xs : List Value} {ty : TypeId} (h : Own0 w' base 3 1 A n c xs) (hb : BB (.slice B 0 0) w.heap.size) (hr : (Builtin.append_ #[26, 26] ty #[.slice B 0 0, .slice C n k]).run Try.prog w = .ok (.slice A n c) w') (hbel : Below w.heap.size w w') : BB (.slice A n c) w'.heap.size := by
  rcases h with ⟨rfl, rfl, -⟩ | ⟨h0, h⟩
  · obtain ⟨ht, i, z, hi, -⟩ := elemIn
    have h2 := run_append_zero (P := Try.prog) (w := w) B 26 ty 3 i ht hi C k
    have h3 := hr.symm.trans h2
    injection h3 with h3
    injection h3 with h3
    subst h3
    exact hb.mono hbel.size
  · rcases h.2 with ⟨-, e⟩ | ⟨g, cap, cur, hv, -, hh, -⟩
    · omega
    · intro b hb
      rw [hv] at hb
      have : g = b := by simpa [Value.ownBlock] using hb
      subst this
      exact (Array.getElem?_eq_some_iff.1 hh).1
theorem SlI.poke {F : Nat → Prop} {w : World} {v : Value} {l : List Int} (h : SlI F w v l) (p : Addr) (x : Int) : ∃ l' : List Int, l'.length = l.length ∧ SlI F (w.setCell p (.int .i64 x)) v l' := by
  obtain ⟨A, c, rfl, h1, h2, hat⟩ := SlI.open h
  have hq : ∀ (q : Addr) (y : Int), w.cell? q = some (.int .i64 y) → ∃ y' : Int, (w.setCell p (.int .i64 x)).cell? q = some (.int .i64 y') := fun q y hy => by
    by_cases e : p = q
    · subst e; exact ⟨x, World.cell?_setCell_same _ _ _ hy⟩
    · exact ⟨y, (World.cell?_setCell_other _ _ _ _ e).trans hy⟩
  have hc : ∀ i : Fin l.length, ∃ y' : Int, ∃ ad, A = some ad ∧ F ad.block ∧ (w.setCell p (.int .i64 x)).cell? (ad.add i) = some (.int .i64 y') := fun i => by
    obtain ⟨ad, rfl, hf, hc⟩ := hat i i.2
    obtain ⟨y', hy⟩ := hq _ _ hc
    exact ⟨y', ad, rfl, hf, hy⟩
  refine ⟨List.ofFn fun i => (hc i).choose, by simp, A, c, by simp, by simpa using h1, by simpa using h2, fun i hi => ?_⟩
  have hi' : i < l.length := by simpa using hi
  obtain ⟨ad, rfl, hf, hy⟩ := (hc ⟨i, hi'⟩).choose_spec
  refine ⟨ad, _, rfl, hf, rfl, rfl, fun j u hu => ?_⟩
  cases j with
  | zero =>
    simp at hu
    subst hu
    rw [Nat.mul_one, add_of_add, Nat.add_zero]
    simpa using hy
  | succ j => simp at hu
theorem own0_open {w : World} {M : Nat} {A : Option Addr} {n c : Nat} {xs : List Value} (h : Own0 w M 3 1 A n c xs) (h0 : 0 < n) : ∃ g cur, A = some ⟨g, 0, none⟩ ∧ Blk w g 3 cur ∧ M ≤ g := by
  rcases h with ⟨rfl, -, -⟩ | ⟨-, h⟩
  · omega
  · rcases h.2 with ⟨-, e⟩ | ⟨g, cap, cur, hv, hm, hh, -⟩
    · omega
    · injection hv with hv
      exact ⟨g, cur, hv, hh, hm⟩
theorem own0_sl {w : World} {M lo : Nat} {A : Option Addr} {n c : Nat} {l : List Int} (h : Own0 w M 3 1 A n c (inCs l)) (hl : l.length = n) (hn : n ≤ 1000000) (hM : lo ≤ M) : SlI (fun b => lo ≤ b ∧ b < w.heap.size) w (.slice A n c) l := by
  rcases h with ⟨rfl, rfl, -⟩ | ⟨-, h⟩
  · rw [List.length_eq_zero_iff.1 hl]
    exact ⟨A, 0, rfl, by simp, by simp, fun i hi => absurd hi (by simp)⟩
  · rw [← hl] at h ⊢
    exact (slI_ownB h (by omega)).mono fun b hb => ⟨by omega, hb.2⟩
theorem ap_grown {w w' : World} {n : Nat} {v : Value} (h : (n = 0 ∧ Below w.heap.size w w') ∨ (0 < n ∧ w.grownBy w' v.ownBlock)) : w.grownBy w' v.ownBlock := by
  rcases h with ⟨-, h⟩ | ⟨-, h⟩
  · exact only_of_below h _
  · exact h
theorem ap_blk {w w' : World} {rb n c M : Nat} {A : Option Addr} {xs : List Value} {t : TypeId} {cs : Array Value} (hK : Blk w rb t cs) (h : (n = 0 ∧ Below w.heap.size w w') ∨ (0 < n ∧ w.grownBy w' (Value.slice A n c).ownBlock)) (ho : Own0 w M 3 1 A n c xs) (ht : t ≠ 3 := by decide) : Blk w' rb t cs := by
  rcases h with ⟨-, h⟩ | ⟨h0, h⟩
  · exact hK.below h hK.lt
  · rcases ho with ⟨e, -⟩ | ⟨-, ho⟩
    · omega
    · exact hK.grown h fun e => own_blk_ne ho hK (fun e => ht e.symm) e.symm
theorem own0_slV {w : World} {M : Nat} {A : Option Addr} {n c : Nat} {l : List Int} (h : Own0 w M 3 1 A n c (inCs l)) (hl : l.length = n) (hn : n ≤ 1000000) : SlI (fun b => (Value.slice A n c).ownBlock = some b ∧ M ≤ b ∧ b < w.heap.size) w (.slice A n c) l := by
  rcases h with ⟨rfl, rfl, -⟩ | ⟨-, h⟩
  · rw [List.length_eq_zero_iff.1 hl]
    exact ⟨A, 0, rfl, by simp, by simp, fun i hi => absurd hi (by simp)⟩
  · rw [← hl] at h ⊢
    refine Sl.of_own (cs := l.map fun x => [.int .i64 x]) h rfl (by omega) ?_ (by simp) (fun i hi => ⟨[.int .i64 l[i]], by simp [hi], rfl, rfl⟩) fun b h1 h2 h3 => ⟨h3, h1, h2⟩
    clear h hl hn
    induction l with
    | nil => rfl
    | cons x l ih => simpa [inCs] using ih
/-- Some result lies in a box. -/
def AfterP (w : World) (rb : Nat) (wx : World) : Prop := ∃ (C0 C2 C3 : Option Addr) (p0 d0 p2 d2 p3 d3 : Nat) (tot : Int) (m0 m2 m3 : List Int), (m0.length = p0 ∧ m2.length = p2 ∧ m3.length = p3) ∧
  Blk wx rb 28 #[.slice C0 p0 d0, .int .i64 tot, .slice C2 p2 d2, .slice C3 p3 d3] ∧ (SlI (fun b => b < wx.heap.size) wx (.slice C0 p0 d0) m0 ∧ SlI (fun b => b < wx.heap.size) wx (.slice C2 p2 d2) m2 ∧ SlI (fun b => b < wx.heap.size) wx (.slice C3 p3 d3) m3) ∧ Below w.heap.size w wx
theorem AfterP.poke {w wx : World} {rb g k : Nat} (h : AfterP w rb wx) (hg : w.heap.size ≤ g) (hne : rb ≠ g) (x : Int) : AfterP w rb (wx.setCell ⟨g, k, none⟩ (.int .i64 x)) := by
  obtain ⟨C0, C2, C3, p0, d0, p2, d2, p3, d3, tot, m0, m2, m3, ⟨e0, e2, e3⟩, hK, ⟨s0, s2, s3⟩, hB⟩ := h
  obtain ⟨m0', e0', s0'⟩ := s0.poke ⟨g, k, none⟩ x
  obtain ⟨m2', e2', s2'⟩ := s2.poke ⟨g, k, none⟩ x
  obtain ⟨m3', e3', s3'⟩ := s3.poke ⟨g, k, none⟩ x
  have hz : ∀ b, b < wx.heap.size → b < (wx.setCell ⟨g, k, none⟩ (.int .i64 x)).heap.size := fun b hb => by rw [World.size_setCell]; exact hb
  exact ⟨C0, C2, C3, p0, d0, p2, d2, p3, d3, tot, m0', m2', m3', ⟨e0'.trans e0, e2'.trans e2, e3'.trans e3⟩, hK.far (p := ⟨g, k, none⟩) hne _, ⟨s0'.mono hz, s2'.mono hz, s3'.mono hz⟩, Bs hB _ hg⟩
theorem AfterP.drewN {w wx : World} {rb : Nat} (h : AfterP w rb wx) (n : Nat) : AfterP w rb (wx.drewN n) := by
  obtain ⟨C0, C2, C3, p0, d0, p2, d2, p3, d3, tot, m0, m2, m3, e, hK, s, hB⟩ := h
  exact ⟨C0, C2, C3, p0, d0, p2, d2, p3, d3, tot, m0, m2, m3, e, hK, s, below_drewN hB n⟩
theorem u8_wrap_nat (a : Nat) : IntKind.u8.wrap ((a : Int) + 1) = (((a + 1) % 256 : Nat) : Int) := by rw [IntKind.wrap_u8]; omega
theorem tmod_nat (a n : Nat) : (a : Int).tmod n = ((a % n : Nat) : Int) := by rw [Int.tmod_eq_emod_of_nonneg (by omega)]; omega
/-- What holds behind each operation of a drawn region. -/
def FK (rb lo n0 c0 n2 c2 n3 c3 : Nat) (A0 A2 A3 : Option Addr) (tot : Int) (l0 l2 l3 : List Int) (j : Nat) (s : Nat → Value) (w : World) : Prop :=
  match j with
  | 0 => ∃ B0 : Option Addr, s 45 = .slice B0 0 0 ∧ BB (s 45) w.heap.size
  | 1 => s 46 = .pointer (some ⟨rb, 0, none⟩)
  | 2 => s 47 = .slice A0 n0 c0
  | 3 => ∃ (M : Nat) (B1 : Option Addr) (d1 : Nat), s 48 = .slice B1 n0 d1 ∧ Own0 w M 3 1 B1 n0 d1 (inCs l0) ∧ lo ≤ M ∧ M ≤ w.heap.size ∧ BB (s 48) w.heap.size
  | 4 => ∃ B0 : Option Addr, s 49 = .slice B0 0 0 ∧ BB (s 49) w.heap.size
  | 5 => s 50 = .pointer (some ⟨rb, 2, none⟩)
  | 6 => s 51 = .slice A2 n2 c2
  | 7 => ∃ (M : Nat) (B1 : Option Addr) (d1 : Nat), s 52 = .slice B1 n2 d1 ∧ Own0 w M 3 1 B1 n2 d1 (inCs l2) ∧ lo ≤ M ∧ M ≤ w.heap.size ∧ BB (s 52) w.heap.size ∧ BB (s 48) M
  | 8 => ∃ B0 : Option Addr, s 53 = .slice B0 0 0 ∧ BB (s 53) w.heap.size
  | 9 => s 54 = .pointer (some ⟨rb, 3, none⟩)
  | 10 => s 55 = .slice A3 n3 c3
  | 11 => ∃ (M : Nat) (B1 : Option Addr) (d1 : Nat), s 56 = .slice B1 n3 d1 ∧ Own0 w M 3 1 B1 n3 d1 (inCs l3) ∧ lo ≤ M ∧ M ≤ w.heap.size ∧ BB (s 56) w.heap.size ∧ BB (s 52) M
  | 12 => s 57 = .pointer (some ⟨rb, 0, none⟩)
  | _ => True
def VK (j : Nat) : List Nat := match j with
  | 0 => [45] | 1 => [46] | 2 => [47] | 3 => [48] | 4 => [49] | 5 => [50] | 6 => [51] | 7 => [52, 48] | 8 => [53] | 9 => [54] | 10 => [55] | 11 => [56, 52] | 12 => [57] | _ => []
def EK (j : Nat) : Bool := j == 3 || j == 7 || j == 11 || j == 12
theorem FK_V (rb lo n0 c0 n2 c2 n3 c3 : Nat) (A0 A2 A3 : Option Addr) (tot : Int) (l0 l2 l3 : List Int) (j : Nat) (s s' : Nat → Value) (w : World) (h : ∀ t, t ∈ VK j → s' t = s t) (hF : FK rb lo n0 c0 n2 c2 n3 c3 A0 A2 A3 tot l0 l2 l3 j s w) : FK rb lo n0 c0 n2 c2 n3 c3 A0 A2 A3 tot l0 l2 l3 j s' w := by
  match j with
  | 0 => unfold FK at hF ⊢; simp only at hF ⊢; rw [h 45 (by simp [VK])]; exact hF
  | 1 => unfold FK at hF ⊢; simp only at hF ⊢; rw [h 46 (by simp [VK])]; exact hF
  | 2 => unfold FK at hF ⊢; simp only at hF ⊢; rw [h 47 (by simp [VK])]; exact hF
  | 3 => unfold FK at hF ⊢; simp only at hF ⊢; rw [h 48 (by simp [VK])]; exact hF
  | 4 => unfold FK at hF ⊢; simp only at hF ⊢; rw [h 49 (by simp [VK])]; exact hF
  | 5 => unfold FK at hF ⊢; simp only at hF ⊢; rw [h 50 (by simp [VK])]; exact hF
  | 6 => unfold FK at hF ⊢; simp only at hF ⊢; rw [h 51 (by simp [VK])]; exact hF
  | 7 => unfold FK at hF ⊢; simp only at hF ⊢; rw [h 52 (by simp [VK]), h 48 (by simp [VK])]; exact hF
  | 8 => unfold FK at hF ⊢; simp only at hF ⊢; rw [h 53 (by simp [VK])]; exact hF
  | 9 => unfold FK at hF ⊢; simp only at hF ⊢; rw [h 54 (by simp [VK])]; exact hF
  | 10 => unfold FK at hF ⊢; simp only at hF ⊢; rw [h 55 (by simp [VK])]; exact hF
  | 11 => unfold FK at hF ⊢; simp only at hF ⊢; rw [h 56 (by simp [VK]), h 52 (by simp [VK])]; exact hF
  | 12 => unfold FK at hF ⊢; simp only at hF ⊢; rw [h 57 (by simp [VK])]; exact hF
  | _ + 13 => trivial
theorem FK_below (rb lo n0 c0 n2 c2 n3 c3 : Nat) (A0 A2 A3 : Option Addr) (tot : Int) (l0 l2 l3 : List Int) (j : Nat) (s : Nat → Value) (w w' : World) (hb : Below w.heap.size w w') (hF : FK rb lo n0 c0 n2 c2 n3 c3 A0 A2 A3 tot l0 l2 l3 j s w) : FK rb lo n0 c0 n2 c2 n3 c3 A0 A2 A3 tot l0 l2 l3 j s w' := by
  match j with
  | 0 => obtain ⟨B0, q1, q2⟩ := hF; exact ⟨B0, q1, q2.mono hb.size⟩
  | 1 => exact hF
  | 2 => exact hF
  | 3 => obtain ⟨M, B1, d1, q1, q2, q3, q4, q5⟩ := hF; exact ⟨M, B1, d1, q1, q2.below hb, q3, Nat.le_trans q4 hb.size, q5.mono hb.size⟩
  | 4 => obtain ⟨B0, q1, q2⟩ := hF; exact ⟨B0, q1, q2.mono hb.size⟩
  | 5 => exact hF
  | 6 => exact hF
  | 7 => obtain ⟨M, B1, d1, q1, q2, q3, q4, q5, q6⟩ := hF; exact ⟨M, B1, d1, q1, q2.below hb, q3, Nat.le_trans q4 hb.size, q5.mono hb.size, q6⟩
  | 8 => obtain ⟨B0, q1, q2⟩ := hF; exact ⟨B0, q1, q2.mono hb.size⟩
  | 9 => exact hF
  | 10 => exact hF
  | 11 => obtain ⟨M, B1, d1, q1, q2, q3, q4, q5, q6⟩ := hF; exact ⟨M, B1, d1, q1, q2.below hb, q3, Nat.le_trans q4 hb.size, q5.mono hb.size, q6⟩
  | 12 => exact hF
  | _ + 13 => trivial
set_option maxRecDepth 100000 in
set_option maxHeartbeats 8000000 in
theorem law_assigns (A : Option Addr) (c n : Nat) (costs : List (List Int)) (hn : costs.length = n) (kd at_ sz : Nat) (by_ : Int) (hkd : kd < 256) (hat : at_ < 256) (w : World) (h : SlII (fun b => b < w.heap.size) w (.slice A n c) costs) :
    Calls Try.prog 3 #[.slice A n c, .agg #[.int .u8 (kd : Int), .int .u8 (at_ : Int), .int .i64 by_, .int .u8 (sz : Int)]] w fun e w' => e = .returned (.bool true) ∧ Below w.heap.size w w' := by
  obtain ⟨w1, hw1⟩ : ∃ w1 : World, w.alloc (.cells #[.int .u8 (kd : Int), .int .u8 (at_ : Int), .int .i64 by_, .int .u8 (sz : Int)] 24) = w1 := ⟨_, rfl⟩
  have hB1 : Below w.heap.size w w1 := by rw [← hw1]; exact Ba (B0 w) _
  have hY1 : Blk w1 w.heap.size 24 #[.int .u8 (kd : Int), .int .u8 (at_ : Int), .int .i64 by_, .int .u8 (sz : Int)] := by rw [← hw1]; exact Blk.new _ _ _
  obtain ⟨yb, hyb⟩ : ∃ yb, w.heap.size = yb := ⟨_, rfl⟩
  rw [hyb] at hY1
  have HKN := Lib.hid (fun W => known54_any W)
  have HH := Lib.hid h
  have HN := Lib.hid hn
  have HB1 := Lib.hid hB1
  have HY1 := Lib.hid hY1
  have HW1 := Lib.hid hw1
  have HYB := Lib.hid hyb
  clear h hn hB1 hY1 hw1 hyb
  go_enter Try.func3, Try.ntmps3
  go_upto_region 1 with fail
  have hw1 := HW1.out
  have hyb := HYB.out
  rw [hw1]
  rw [hyb]
  clear hw1 HW1 hyb
  by_cases h5 : n ≤ 5
  · have d5 : decide ((5 : Int) < n) = false := decide_eq_false (by omega)
    go_upto_region 3 with (go_at_call 4; (with_reducible refine ((HKN.out _).mono ?_)); rintro e w2 ⟨rfl, hb2⟩; have HB2 := Lib.hid (Bt HB1.out hb2); have HY2 := Lib.hid (HY1.out.below hb2 HY1.out.lt); clear hb2)
    go_wp2_with fail
    go_loopg [5] n (fun gg s5 wr => ∃ i : Nat, i ≤ n ∧ n - i ≤ gg ∧ s5 = .int .i64 i ∧ Aside (∀ j, j < i → (costs.getD j []).length ≤ 8) ∧ wr = w2)
    case atStart => exact ⟨0, by omega, by omega, rfl, fun j hj => absurd hj (by omega), rfl⟩
    case round =>
      obtain ⟨i, hi, hg, rfl, HJ, rfl⟩ := hrel
      obtain ⟨w2, rfl⟩ : ∃ w2 : World, w2 = wr := ⟨_, rfl⟩
      replace HJ : Hid (∀ j, j < i → (costs.getD j []).length ≤ 8) := Lib.hid HJ
      by_cases hlt : i < n
      · have hiI : (i : Int) < n := by omega
        obtain ⟨A', c', e, -, -, hat'⟩ := SlII.open HH.out
        injection e with e1 e2 e3
        subst e1
        obtain ⟨ad, u, rfl, hf, hci, hui⟩ := hat' i (by rw [HN.out]; exact hlt)
        obtain ⟨Ai, ci, rfl, -, -, -⟩ := SlI.open hui
        obtain ⟨q, hq⟩ : ∃ q, costs[i].length = q := ⟨_, rfl⟩
        have hq2 : (costs.getD i []).length = q := by rw [getD_in (by rw [HN.out]; exact hlt)]; exact hq
        rw [hq] at hci
        have k1 := (HB2.out.cell (p := ad.add i) (by rw [block_of_add]; exact hf)).trans hci
        have HQ2 := Lib.hid hq2
        clear hat' hci hui hq hq2 e2 e3
        by_cases h8 : q ≤ 8
        · have d8 : decide ((8 : Int) < q) = false := decide_eq_false (by omega)
          go_wp2_with fail
          go_roundg (n - (i + 1))
          case measure => omega
          case rel => exact ⟨i + 1, by omega, by omega, by go_num, (show Aside _ from fun j hj => by
            by_cases e : j = i
            · subst e; rw [HQ2.out]; exact h8
            · exact HJ.out j (by omega)), rfl⟩
        · have d8 : decide ((8 : Int) < q) = true := decide_eq_true (by omega)
          have d8' : (8 : Int) < q := by omega
          go_wp2_with fail
          go_ret
          exact ⟨rfl, HB2.out⟩
      · obtain rfl : i = n := by omega
        have HBE := Lib.hid (best_any A c i costs HN.out h5 HJ.out w2 (HH.out.bel HB2.out))
        go_upto_region 9 with (go_at_call 5; (with_reducible refine (HBE.out.mono ?_)); rintro e w3 ⟨A0, A2, A3, n0, c0, n2, c2, n3, c3, tot, e0, l0, l2, l3, rfl, hlen, hs0, hs2, hs3, ll0, ll2, ll3, hb3⟩; have HLEN := Lib.hid hlen; have HS0 := Lib.hid hs0; have HS2 := Lib.hid hs2; have HS3 := Lib.hid hs3; have HLL := Lib.hid (And.intro ll0 (And.intro ll2 ll3)); have HB3 := Lib.hid (Bt HB2.out hb3); have HY3 := Lib.hid (HY2.out.below hb3 HY2.out.lt); clear hlen hs0 hs2 hs3 ll0 ll2 ll3 hb3)
        obtain ⟨w4, hw4⟩ : ∃ w4 : World, w3.alloc (.cells #[.slice A0 n0 c0, .int .i64 tot, .slice A2 n2 c2, .slice A3 n3 c3] 28) = w4 := ⟨_, rfl⟩
        obtain ⟨rb, hrb⟩ : ∃ rb, w3.heap.size = rb := ⟨_, rfl⟩
        have hB4 : Below w3.heap.size w3 w4 := by rw [← hw4]; exact Ba (B0 _) _
        have hR4 : Blk w4 rb 28 #[.slice A0 n0 c0, .int .i64 tot, .slice A2 n2 c2, .slice A3 n3 c3] := by rw [← hw4, ← hrb]; exact Blk.new _ _ _
        have hyr : yb < rb := by rw [← hrb]; exact HY3.out.lt
        rw [hw4]
        rw [hrb]
        have HB4 := Lib.hid (Bt HB3.out hB4)
        have HR4 := Lib.hid hR4
        have HY4 := Lib.hid (HY3.out.below hB4 HY3.out.lt)
        have HT0 := Lib.hid (HS0.out.bel hB4)
        have HT2 := Lib.hid (HS2.out.bel hB4)
        have HT3 := Lib.hid (HS3.out.bel hB4)
        have HWR := Lib.hid (show w.heap.size < rb by rw [← hrb]; exact Nat.lt_of_lt_of_le (Nat.lt_of_lt_of_le HY3.out.lt (Nat.le_refl _) |> fun h => by have := HYB.out; omega) (Nat.le_refl _))
        clear hw4 hrb hB4 hR4 HS0 HS2 HS3 HY3 HB3 HBE
        have k0 := HR4.out.cell 0
        have k1 := HR4.out.cell 1
        have k2 := HR4.out.cell 2
        have k3 := HR4.out.cell 3
        simp only [List.getElem?_toArray, List.getElem?_cons_zero, List.getElem?_cons_succ] at k0 k1 k2 k3
        go_cut [44] from 37 to 43 (fun s44 wx => s44 = .bool false ∧ Aside (Below w4.heap.size w4 wx))
        case first =>
          by_cases he : e0 = 0
          · subst he
            have HAS := Lib.hid (assigns_any A c i costs HN.out h5 HJ.out A0 A2 A3 n0 c0 n2 c2 n3 c3 l0 l2 l3 HLEN.out.1 HLEN.out.2.1 HLEN.out.2.2 tot w4 (HH.out.bel HB4.out) HT0.out HT2.out HT3.out)
            go_wp2_with (go_at_call 6; (with_reducible refine (HAS.out.mono ?_)); rintro e w5 ⟨rfl, hb5⟩; have HB5 := Lib.hid hb5; clear hb5)
            go_meet
            exact ⟨rfl, HB5.out⟩
          · have hI : (e0 == 0) = false := by simpa using he
            go_wp2_with fail
            go_meet
            exact ⟨rfl, B0 _⟩
        case rest =>
          obtain ⟨rfl, hb5⟩ := hcut
          obtain ⟨w5, rfl⟩ : ∃ w5 : World, w5 = wc := ⟨_, rfl⟩
          obtain ⟨lo, hlo⟩ : ∃ lo, w5.heap.size = lo := ⟨_, rfl⟩
          have hb5' : Below w4.heap.size w4 w5 := hb5
          have HB45 := Lib.hid (Bt HB4.out hb5')
          have HR5 := Lib.hid (HR4.out.below hb5' HR4.out.lt)
          have HY5 := Lib.hid (HY4.out.below hb5' HY4.out.lt)
          have hU0 := HT0.out.bel hb5'
          have hU2 := HT2.out.bel hb5'
          have hU3 := HT3.out.bel hb5'
          have HB5 : Hid (Below lo w5 w5) := Lib.hid (by rw [← hlo]; exact B0 _)
          have HLO : Hid (lo ≤ w5.heap.size) := Lib.hid (by omega)
          have HRB := Lib.hid (show rb < lo by rw [← hlo]; exact HR5.out.lt)
          have hrd : ∀ (C : Option Addr) (n c : Nat) (l : List Int), SlI (fun b => b < w5.heap.size) w5 (.slice C n c) l → ∀ W, Below lo w5 W → Reads W lo 1 C n (inCs l) := fun C n c l hs W hb => (SlI.reads hs (fun b h => by rw [← hlo]; exact h)).below hb
          have HR0 := Lib.hid (hrd _ _ _ _ hU0)
          have HR2 := Lib.hid (hrd _ _ _ _ hU2)
          have HR3 := Lib.hid (hrd _ _ _ _ hU3)
          have HL0 : Hid (n0 ≤ 1000000000) := Lib.hid (by have := HLEN.out.1; have := HLL.out.1; omega)
          have HL2 : Hid (n2 ≤ 1000000000) := Lib.hid (by have := HLEN.out.2.1; have := HLL.out.2.1; omega)
          have HL3 : Hid (n3 ≤ 1000000000) := Lib.hid (by have := HLEN.out.2.2; have := HLL.out.2.2; omega)
          have HS := Lib.hid (fun W (hb : Below lo w5 W) => by
            have hk := HR5.out.below hb HRB.out
            have k0 := hk.cell 0
            have k2 := hk.cell 2
            have k3 := hk.cell 3
            simp only [List.getElem?_toArray, List.getElem?_cons_zero, List.getElem?_cons_succ] at k0 k2 k3
            exact (show W.cell? ⟨rb, 0, none⟩ = some (.slice A0 n0 c0) ∧ W.cell? ⟨rb, 2, none⟩ = some (.slice A2 n2 c2) ∧ W.cell? ⟨rb, 3, none⟩ = some (.slice A3 n3 c3) from ⟨k0, k2, k3⟩))
          have hBB : ∀ (L : Nat → Bool) (i : Nat) (W W' : World), Below W.heap.size W W' → Below lo w5 W → Below lo w5 W' := fun _ _ _ _ hb h => h.trans (hb.mono (Nat.le_trans HLO.out h.size))
          have HLOE := Lib.hid hlo
          clear k0 k1 k2 k3 hb5 hb5' hU0 hU2 hU3 hrd hlo HT0 HT2 HT3
          go_upto_region 11 with fail
          refine region_blocks (by kernel_rfl) ?_
          refine from_lawW 13 EK (fun _ W => Below lo w5 W) (FK rb lo n0 c0 n2 c2 n3 c3 A0 A2 A3 tot l0 l2 l3) VK (by kernel_rfl) rfl (FK_V _ _ _ _ _ _ _ _ _ _ _ _ _ _ _) (by kernel_rfl) (by kernel_rfl) (HB5.out.drew) ⟨?_, ?_, ?_, ?_, ?_, ?_, ?_, ?_, ?_, ?_, ?_, ?_, ?_, trivial⟩ ?_
          · refine OpFactW.value rfl (FK_below _ _ _ _ _ _ _ _ _ _ _ _ _ _ _) hBB fun L a wx hl hf D hb => ?_
            refine ⟨.slice (some ⟨wx.heap.size, 0, none⟩) 0 0, wx.alloc (.cells #[] 3), by simp [go_sem], Ba (B0 _) _, fun s _ h => ⟨_, h 45 rfl, ?_⟩⟩
            rw [h 45 rfl]
            intro b hb
            have : wx.heap.size = b := by simpa [Value.ownBlock] using hb
            rw [World.size_alloc]
            omega
          · refine OpFactW.value rfl (FK_below _ _ _ _ _ _ _ _ _ _ _ _ _ _ _) hBB fun L a wx hl hf D hb => ?_
            have h0 : sl a 6 = .pointer (some ⟨rb, 0, none⟩) := hf 6 (by kernel_rfl)
            refine ⟨.pointer (some ⟨rb, 0, none⟩), wx, ?_, B0 _, fun s _ h => h 46 rfl⟩
            unfold sl at h0
            simp at h0
            simp [go_sem, h0]
          · refine OpFactW.value rfl (FK_below _ _ _ _ _ _ _ _ _ _ _ _ _ _ _) hBB fun L a wx hl hf D hb => ?_
            have h0 : sl a 46 = .pointer (some ⟨rb, 0, none⟩) := D 1 (by kernel_rfl)
            have es := HS.out wx hb
            refine ⟨.slice A0 n0 c0, wx, ?_, B0 _, fun s _ h => h 47 rfl⟩
            unfold sl at h0
            simp at h0
            simp [go_sem, h0, es]
          · refine OpFactW.value rfl (FK_below _ _ _ _ _ _ _ _ _ _ _ _ _ _ _) hBB fun L a wx hl hf D hb => ?_
            obtain ⟨B9, h1, hb1⟩ : ∃ B9 : Option Addr, sl a 45 = .slice B9 0 0 ∧ BB (sl a 45) wx.heap.size := D 0 (by kernel_rfl)
            have h2 : sl a 47 = .slice A0 n0 c0 := D 2 (by kernel_rfl)
            obtain ⟨B1, d1, w', hrun, hbel, hown⟩ := run_copy (P := Try.prog) (w := wx) elemIn (by omega) 26 B9 lo A0 n0 c0 (inCs l0) (HR0.out wx hb) (inCs_one _) (HL0.out) (by omega)
            have hbb : BB (.slice B1 n0 d1) w'.heap.size := own0_bb hown (by rw [h1] at hb1; exact hb1) hrun hbel
            refine ⟨.slice B1 n0 d1, w', ?_, hbel, fun s hs h => ⟨wx.heap.size, B1, d1, h 48 rfl, hown, Nat.le_trans HLO.out hb.size, hbel.size, by rw [h 48 rfl]; exact hbb⟩⟩
            unfold sl at h1 h2
            simp at h1 h2
            unfold execOp
            simp [resolve, invoke, builtin, Act.eval, h1, h2, hrun]
          · refine OpFactW.value rfl (FK_below _ _ _ _ _ _ _ _ _ _ _ _ _ _ _) hBB fun L a wx hl hf D hb => ?_
            refine ⟨.slice (some ⟨wx.heap.size, 0, none⟩) 0 0, wx.alloc (.cells #[] 3), by simp [go_sem], Ba (B0 _) _, fun s _ h => ⟨_, h 49 rfl, ?_⟩⟩
            rw [h 49 rfl]
            intro b hb
            have : wx.heap.size = b := by simpa [Value.ownBlock] using hb
            rw [World.size_alloc]
            omega
          · refine OpFactW.value rfl (FK_below _ _ _ _ _ _ _ _ _ _ _ _ _ _ _) hBB fun L a wx hl hf D hb => ?_
            have h0 : sl a 6 = .pointer (some ⟨rb, 0, none⟩) := hf 6 (by kernel_rfl)
            refine ⟨.pointer (some ⟨rb, 2, none⟩), wx, ?_, B0 _, fun s _ h => h 50 rfl⟩
            unfold sl at h0
            simp at h0
            simp [go_sem, h0]
          · refine OpFactW.value rfl (FK_below _ _ _ _ _ _ _ _ _ _ _ _ _ _ _) hBB fun L a wx hl hf D hb => ?_
            have h0 : sl a 50 = .pointer (some ⟨rb, 2, none⟩) := D 5 (by kernel_rfl)
            have es := HS.out wx hb
            refine ⟨.slice A2 n2 c2, wx, ?_, B0 _, fun s _ h => h 51 rfl⟩
            unfold sl at h0
            simp at h0
            simp [go_sem, h0, es]
          · refine OpFactW.value rfl (FK_below _ _ _ _ _ _ _ _ _ _ _ _ _ _ _) hBB fun L a wx hl hf D hb => ?_
            obtain ⟨B9, h1, hb1⟩ : ∃ B9 : Option Addr, sl a 49 = .slice B9 0 0 ∧ BB (sl a 49) wx.heap.size := D 4 (by kernel_rfl)
            have h2 : sl a 51 = .slice A2 n2 c2 := D 6 (by kernel_rfl)
            obtain ⟨-, -, -, -, -, -, -, hprev⟩ : ∃ (M : Nat) (B1 : Option Addr) (d1 : Nat), sl a 48 = .slice B1 n0 d1 ∧ Own0 wx M 3 1 B1 n0 d1 (inCs l0) ∧ lo ≤ M ∧ M ≤ wx.heap.size ∧ BB (sl a 48) wx.heap.size := D 3 (by kernel_rfl)
            obtain ⟨B1, d1, w', hrun, hbel, hown⟩ := run_copy (P := Try.prog) (w := wx) elemIn (by omega) 26 B9 lo A2 n2 c2 (inCs l2) (HR2.out wx hb) (inCs_one _) (HL2.out) (by omega)
            have hbb : BB (.slice B1 n2 d1) w'.heap.size := own0_bb hown (by rw [h1] at hb1; exact hb1) hrun hbel
            refine ⟨.slice B1 n2 d1, w', ?_, hbel, fun s hs h => ⟨wx.heap.size, B1, d1, h 52 rfl, hown, Nat.le_trans HLO.out hb.size, hbel.size, by rw [h 52 rfl]; exact hbb, by rw [hs 48 (by simp)]; exact hprev⟩⟩
            unfold sl at h1 h2
            simp at h1 h2
            unfold execOp
            simp [resolve, invoke, builtin, Act.eval, h1, h2, hrun]
          · refine OpFactW.value rfl (FK_below _ _ _ _ _ _ _ _ _ _ _ _ _ _ _) hBB fun L a wx hl hf D hb => ?_
            refine ⟨.slice (some ⟨wx.heap.size, 0, none⟩) 0 0, wx.alloc (.cells #[] 3), by simp [go_sem], Ba (B0 _) _, fun s _ h => ⟨_, h 53 rfl, ?_⟩⟩
            rw [h 53 rfl]
            intro b hb
            have : wx.heap.size = b := by simpa [Value.ownBlock] using hb
            rw [World.size_alloc]
            omega
          · refine OpFactW.value rfl (FK_below _ _ _ _ _ _ _ _ _ _ _ _ _ _ _) hBB fun L a wx hl hf D hb => ?_
            have h0 : sl a 6 = .pointer (some ⟨rb, 0, none⟩) := hf 6 (by kernel_rfl)
            refine ⟨.pointer (some ⟨rb, 3, none⟩), wx, ?_, B0 _, fun s _ h => h 54 rfl⟩
            unfold sl at h0
            simp at h0
            simp [go_sem, h0]
          · refine OpFactW.value rfl (FK_below _ _ _ _ _ _ _ _ _ _ _ _ _ _ _) hBB fun L a wx hl hf D hb => ?_
            have h0 : sl a 54 = .pointer (some ⟨rb, 3, none⟩) := D 9 (by kernel_rfl)
            have es := HS.out wx hb
            refine ⟨.slice A3 n3 c3, wx, ?_, B0 _, fun s _ h => h 55 rfl⟩
            unfold sl at h0
            simp at h0
            simp [go_sem, h0, es]
          · refine OpFactW.value rfl (FK_below _ _ _ _ _ _ _ _ _ _ _ _ _ _ _) hBB fun L a wx hl hf D hb => ?_
            obtain ⟨B9, h1, hb1⟩ : ∃ B9 : Option Addr, sl a 53 = .slice B9 0 0 ∧ BB (sl a 53) wx.heap.size := D 8 (by kernel_rfl)
            have h2 : sl a 55 = .slice A3 n3 c3 := D 10 (by kernel_rfl)
            obtain ⟨-, -, -, -, -, -, -, hprev, -⟩ : ∃ (M : Nat) (B1 : Option Addr) (d1 : Nat), sl a 52 = .slice B1 n2 d1 ∧ Own0 wx M 3 1 B1 n2 d1 (inCs l2) ∧ lo ≤ M ∧ M ≤ wx.heap.size ∧ BB (sl a 52) wx.heap.size ∧ BB (sl a 48) M := D 7 (by kernel_rfl)
            obtain ⟨B1, d1, w', hrun, hbel, hown⟩ := run_copy (P := Try.prog) (w := wx) elemIn (by omega) 26 B9 lo A3 n3 c3 (inCs l3) (HR3.out wx hb) (inCs_one _) (HL3.out) (by omega)
            have hbb : BB (.slice B1 n3 d1) w'.heap.size := own0_bb hown (by rw [h1] at hb1; exact hb1) hrun hbel
            refine ⟨.slice B1 n3 d1, w', ?_, hbel, fun s hs h => ⟨wx.heap.size, B1, d1, h 56 rfl, hown, Nat.le_trans HLO.out hb.size, hbel.size, by rw [h 56 rfl]; exact hbb, by rw [hs 52 (by simp)]; exact hprev⟩⟩
            unfold sl at h1 h2
            simp at h1 h2
            unfold execOp
            simp [resolve, invoke, builtin, Act.eval, h1, h2, hrun]
          · refine OpFactW.value rfl (FK_below _ _ _ _ _ _ _ _ _ _ _ _ _ _ _) hBB fun L a wx hl hf D hb => ?_
            have h0 : sl a 6 = .pointer (some ⟨rb, 0, none⟩) := hf 6 (by kernel_rfl)
            refine ⟨.pointer (some ⟨rb, 0, none⟩), wx, ?_, B0 _, fun s _ h => h 57 rfl⟩
            unfold sl at h0
            simp at h0
            simp [go_sem, h0]
          intro L9 y w6 hb6 hF6
          obtain ⟨M0, B0', d0, h48, ho0, hlo0, hM0, bb0⟩ : ∃ (M : Nat) (B1 : Option Addr) (d1 : Nat), y 48 = .slice B1 n0 d1 ∧ Own0 w6 M 3 1 B1 n0 d1 (inCs l0) ∧ lo ≤ M ∧ M ≤ w6.heap.size ∧ BB (y 48) w6.heap.size := hF6 3 (by decide) rfl
          obtain ⟨M2, B2', d2, h52, ho2, hlo2, hM2, bb2, bd2⟩ : ∃ (M : Nat) (B1 : Option Addr) (d1 : Nat), y 52 = .slice B1 n2 d1 ∧ Own0 w6 M 3 1 B1 n2 d1 (inCs l2) ∧ lo ≤ M ∧ M ≤ w6.heap.size ∧ BB (y 52) w6.heap.size ∧ BB (y 48) M := hF6 7 (by decide) rfl
          obtain ⟨M3, B3', d3, h56, ho3, hlo3, hM3, bb3, bd3⟩ : ∃ (M : Nat) (B1 : Option Addr) (d1 : Nat), y 56 = .slice B1 n3 d1 ∧ Own0 w6 M 3 1 B1 n3 d1 (inCs l3) ∧ lo ≤ M ∧ M ≤ w6.heap.size ∧ BB (y 56) w6.heap.size ∧ BB (y 52) M := hF6 11 (by decide) rfl
          have h57 : y 57 = .pointer (some ⟨rb, 0, none⟩) := hF6 12 (by decide) rfl
          rw [h48] at bd2
          rw [h52] at bd3
          have hK6 := HR5.out.below hb6 HRB.out
          have HO0 := Lib.hid ho0
          have HO2 := Lib.hid ho2
          have HO3 := Lib.hid ho3
          have HM := Lib.hid (And.intro hlo0 (And.intro hlo2 (And.intro hlo3 (And.intro hM0 (And.intro hM2 hM3)))))
          have HD2 := Lib.hid bd2
          have HD3 := Lib.hid bd3
          have HB6 := Lib.hid hb6
          have HK6 := Lib.hid hK6
          clear hF6 ho0 ho2 ho3 hlo0 hlo2 hlo3 hM0 hM2 hM3 bb0 bb2 bb3 bd2 bd3 hb6 hK6 HS
          rw [aft13 (d0 := 45) (d1 := 46) (d2 := 47) (d3 := 48) (d4 := 49) (d5 := 50) (d6 := 51) (d7 := 52) (d8 := 53) (d9 := 54) (d10 := 55) (d11 := 56) (d12 := 57) (by kernel_rfl) rfl]
          rw [h48, h52, h56, h57]
          simp only [List.set_cons_succ, List.set_cons_zero]
          have f0 := HK6.out.frozen 0
          have f2 := HK6.out.frozen 2
          have f3 := HK6.out.frozen 3
          have z0 := HK6.out.cell 0
          have z2 := HK6.out.cell 2
          have z3 := HK6.out.cell 3
          simp only [List.getElem?_toArray, List.getElem?_cons_zero, List.getElem?_cons_succ] at z0 z2 z3
          refine from_list 18 (by kernel_rfl) (by simp only [List.take_succ_cons, List.take_zero, List.drop_succ_cons, List.drop_zero]; exact rfl) ?_
          (intro Q' hQ' hX; clear hX)
          go_wp2_with fail
          refine from_end rfl ?_
          obtain ⟨w7, hw7⟩ : ∃ w7 : World, ((w6.setCell ⟨rb, 0, none⟩ (.slice B0' n0 d0)).setCell ⟨rb, 2, none⟩ (.slice B2' n2 d2)).setCell ⟨rb, 3, none⟩ (.slice B3' n3 d3) = w7 := ⟨_, rfl⟩
          have hK7 := ((HK6.out.set_ 0 (.slice B0' n0 d0)).set_ 2 (.slice B2' n2 d2)).set_ 3 (.slice B3' n3 d3)
          have ofar : ∀ {M n d : Nat} {B : Option Addr} {xs : List Value}, Own0 w6 M 3 1 B n d xs → Own0 w7 M 3 1 B n d xs := fun h => by
            rw [← hw7]
            exact Own0.far ((HK6.out.set_ 0 _).set_ 2 _) (by decide) (Own0.far (HK6.out.set_ 0 _) (by decide) (Own0.far HK6.out (by decide) h 0 _) 2 _) 3 _
          have ho0 := ofar HO0.out
          have ho2 := ofar HO2.out
          have ho3 := ofar HO3.out
          have hyrb : yb ≠ rb := by omega
          have hy6 := HY5.out.below HB6.out (by have := HRB.out; omega)
          have hY7 := ((hy6.far (p := ⟨rb, 0, none⟩) hyrb (.slice B0' n0 d0)).far (p := ⟨rb, 2, none⟩) hyrb (.slice B2' n2 d2)).far (p := ⟨rb, 3, none⟩) hyrb (.slice B3' n3 d3)
          have hrw : w.heap.size ≤ rb := Nat.le_of_lt HWR.out
          have hb56 : Below w5.heap.size w5 w6 := by rw [HLOE.out]; exact HB6.out
          have hB7 : Below w.heap.size w w7 := by
            rw [← hw7]
            exact Bs (Bs (Bs (Bt HB45.out hb56) _ hrw) _ hrw) _ hrw
          have hsz : w6.heap.size = w7.heap.size := by rw [← hw7]; simp only [World.size_setCell]
          rw [hw7] at hK7 hY7 ⊢
          have hM := HM.out
          rw [hsz] at hM
          have HM7 := Lib.hid hM
          have HK7 : Hid (Blk w7 rb 28 #[.slice B0' n0 d0, .int .i64 tot, .slice B2' n2 d2, .slice B3' n3 d3]) := Lib.hid hK7
          have HY7 := Lib.hid hY7
          have HB7 := Lib.hid hB7
          have HP0 := Lib.hid ho0
          have HP2 := Lib.hid ho2
          have HP3 := Lib.hid ho3
          have HLW := Lib.hid (show w.heap.size ≤ lo by have := HRB.out; omega)
          have HRL := Lib.hid (show rb < lo from HRB.out)
          clear hw7 hK7 ofar ho0 ho2 ho3 hyrb hy6 hY7 hrw hb56 hB7 hsz hM HM HK6 HO0 HO2 HO3 HB6 HY5 HR5 HB45 HB5 HLO HRB HLOE f0 f2 f3 z0 z2 z3 hBB HR0 HR2 HR3
          have y0 := HY7.out.cell 0
          have y1 := HY7.out.cell 1
          have y2 := HY7.out.cell 2
          have z0 := HK7.out.cell 0
          have z1 := HK7.out.cell 1
          have z2 := HK7.out.cell 2
          have z3 := HK7.out.cell 3
          have f1 := HK7.out.frozen 1
          have f2 := HK7.out.frozen 2
          simp only [List.getElem?_toArray, List.getElem?_cons_zero, List.getElem?_cons_succ] at y0 y1 y2 z0 z1 z2 z3
          obtain ⟨r, hr⟩ : ∃ r, kd % 6 = r := ⟨_, rfl⟩
          have hr1 : (kd : Int) % 6 = r := by omega
          have hr2 : (kd : Int).tmod 6 = r := by rw [Int.tmod_eq_emod_of_nonneg (by omega)]; exact hr1
          have hr6 : r < 6 := by omega
          have ha0 : AfterP w rb w7 := ⟨B0', B2', B3', n0, d0, n2, d2, n3, d3, tot, l0, l2, l3, HLEN.out, HK7.out,
            ⟨(own0_sl HP0.out HLEN.out.1 (by have := HLEN.out.1; have := HLL.out.1; omega) HM7.out.1).mono fun _ h => h.2, (own0_sl HP2.out HLEN.out.2.1 (by have := HLEN.out.2.1; have := HLL.out.2.1; omega) HM7.out.2.1).mono fun _ h => h.2, (own0_sl HP3.out HLEN.out.2.2 (by have := HLEN.out.2.2; have := HLL.out.2.2; omega) HM7.out.2.2.1).mono fun _ h => h.2⟩, HB7.out⟩
          have HA0 := Lib.hid ha0
          have HR := Lib.hid hr
          clear ha0 hr
          go_upto_block 2 with fail
          clear hr1 hr2 y0
          go_cut [] from 91 to 155 (fun wx => AfterP w rb wx)
          case first =>
            have h6 : r = 0 ∨ r = 1 ∨ r = 2 ∨ r = 3 ∨ r = 4 ∨ r = 5 := by omega
            rcases h6 with rfl | rfl | rfl | rfl | rfl | rfl
            · go_wp2_with fail
              go_meet
              have hne : ∀ b, (lo ≤ b ∧ b < w7.heap.size) → b ≠ rb := fun b hb => by have := HRL.out; omega
              have hag : Agree (fun b => lo ≤ b ∧ b < w7.heap.size) w7 (w7.setCell ⟨rb, 1, none⟩ (.int .i64 by_)) := Agree.setCell (p := ⟨rb, 1, none⟩) _ hne
              have hz : ∀ b, (lo ≤ b ∧ b < w7.heap.size) → b < (w7.setCell ⟨rb, 1, none⟩ (.int .i64 by_)).heap.size := fun b hb => by rw [World.size_setCell]; exact hb.2
              exact ⟨B0', B2', B3', n0, d0, n2, d2, n3, d3, by_, l0, l2, l3, HLEN.out, HK7.out.set_ 1 _,
                ⟨(SlI.keep (own0_sl HP0.out HLEN.out.1 (by have := HLEN.out.1; have := HLL.out.1; omega) HM7.out.1) hag).mono hz, (SlI.keep (own0_sl HP2.out HLEN.out.2.1 (by have := HLEN.out.2.1; have := HLL.out.2.1; omega) HM7.out.2.1) hag).mono hz, (SlI.keep (own0_sl HP3.out HLEN.out.2.2 (by have := HLEN.out.2.2; have := HLL.out.2.2; omega) HM7.out.2.2.1) hag).mono hz⟩, Bs HB7.out _ (Nat.le_of_lt HWR.out)⟩
            · skip
              by_cases h0 : n0 = 0
              · have d0 : decide ((0 : Int) < n0) = false := decide_eq_false (by omega)
                have d1 : decide (0 < n0) = false := decide_eq_false (by omega)
                go_wp2_with fail
                go_meet
                exact HA0.out
              · have d0 : decide ((0 : Int) < n0) = true := decide_eq_true (by omega)
                have d1 : decide (0 < n0) = true := decide_eq_true (by omega)
                have d2 : (0 : Int) < n0 := by omega
                obtain ⟨g, cur, hB, hG, hMg⟩ := own0_open HP0.out (by omega)
                subst hB
                have hsl := own0_sl HP0.out HLEN.out.1 (by have := HLEN.out.1; have := HLL.out.1; omega) HM7.out.1
                obtain ⟨q, hq⟩ : ∃ q, at_ % n0 = q := ⟨_, rfl⟩
                have hqn : q < n0 := by rw [← hq]; exact Nat.mod_lt _ (by omega)
                have hqI : (q : Int) < n0 := by omega
                obtain ⟨ad, hA, hcell, -⟩ := ints_cell hsl HLEN.out.1 (fun _ h => h.2) q hqn
                injection hA with hA
                subst hA
                rw [addr0] at hcell
                have hfz := hG.frozen q
                have e1 : (at_ : Int).tmod n0 = q := by rw [tmod_nat, hq]
                have e2 : (at_ : Int) % n0 = q := by rw [← hq]; omega
                have e3 : IntKind.i64.wrap (at_ : Int) = at_ := IntWalk.i64_in _ (by omega)
                have e3' : IntKind.i64.wrap (q : Int) = q := IntWalk.i64_in _ (by have := HLEN.out.1; have := HLL.out.1; omega)
                have e4 : ¬ ((n0 : Int) = 0) := by omega
                have e5 : ((n0 : Int) == 0) = false := by simpa using h0
                have hgr : rb ≠ g := by have := HM7.out.1; have := HRL.out; omega
                have hgw : w.heap.size ≤ g := by have := HM7.out.1; have := HLW.out; omega
                have HPK := Lib.hid (HA0.out.poke (k := q) hgw hgr by_)
                clear hsl hq hG hMg hgr hgw
                go_upto_region 22 with fail
                go_region
                all_goals (go_wp2_with fail; go_meet)
                all_goals exact HPK.out.drewN 1
            · skip
              by_cases h0 : n2 = 0
              · have d0 : decide ((0 : Int) < n2) = false := decide_eq_false (by omega)
                have d1 : decide (0 < n2) = false := decide_eq_false (by omega)
                go_wp2_with fail
                go_meet
                exact HA0.out
              · have d0 : decide ((0 : Int) < n2) = true := decide_eq_true (by omega)
                have d1 : decide (0 < n2) = true := decide_eq_true (by omega)
                have d2 : (0 : Int) < n2 := by omega
                obtain ⟨g, cur, hB, hG, hMg⟩ := own0_open HP2.out (by omega)
                subst hB
                have hsl := own0_sl HP2.out HLEN.out.2.1 (by have := HLEN.out.2.1; have := HLL.out.2.1; omega) HM7.out.2.1
                obtain ⟨q, hq⟩ : ∃ q, at_ % n2 = q := ⟨_, rfl⟩
                have hqn : q < n2 := by rw [← hq]; exact Nat.mod_lt _ (by omega)
                have hqI : (q : Int) < n2 := by omega
                obtain ⟨ad, hA, hcell, -⟩ := ints_cell hsl HLEN.out.2.1 (fun _ h => h.2) q hqn
                injection hA with hA
                subst hA
                rw [addr0] at hcell
                have hfz := hG.frozen q
                have e1 : (at_ : Int).tmod n2 = q := by rw [tmod_nat, hq]
                have e2 : (at_ : Int) % n2 = q := by rw [← hq]; omega
                have e3 : IntKind.i64.wrap (at_ : Int) = at_ := IntWalk.i64_in _ (by omega)
                have e3' : IntKind.i64.wrap (q : Int) = q := IntWalk.i64_in _ (by have := HLEN.out.2.1; have := HLL.out.2.1; omega)
                have e4 : ¬ ((n2 : Int) = 0) := by omega
                have e5 : ((n2 : Int) == 0) = false := by simpa using h0
                have hgr : rb ≠ g := by have := HM7.out.2.1; have := HRL.out; omega
                have hgw : w.heap.size ≤ g := by have := HM7.out.2.1; have := HLW.out; omega
                have HPK := Lib.hid (HA0.out.poke (k := q) hgw hgr by_)
                clear hsl hq hG hMg hgr hgw
                go_upto_region 26 with fail
                go_region
                all_goals (go_wp2_with fail; go_meet)
                all_goals exact HPK.out.drewN 1
            · skip
              by_cases h0 : n3 = 0
              · have d0 : decide ((0 : Int) < n3) = false := decide_eq_false (by omega)
                have d1 : decide (0 < n3) = false := decide_eq_false (by omega)
                go_wp2_with fail
                go_meet
                exact HA0.out
              · have d0 : decide ((0 : Int) < n3) = true := decide_eq_true (by omega)
                have d1 : decide (0 < n3) = true := decide_eq_true (by omega)
                have d2 : (0 : Int) < n3 := by omega
                obtain ⟨g, cur, hB, hG, hMg⟩ := own0_open HP3.out (by omega)
                subst hB
                have hsl := own0_sl HP3.out HLEN.out.2.2 (by have := HLEN.out.2.2; have := HLL.out.2.2; omega) HM7.out.2.2.1
                obtain ⟨q, hq⟩ : ∃ q, at_ % n3 = q := ⟨_, rfl⟩
                have hqn : q < n3 := by rw [← hq]; exact Nat.mod_lt _ (by omega)
                have hqI : (q : Int) < n3 := by omega
                obtain ⟨ad, hA, hcell, -⟩ := ints_cell hsl HLEN.out.2.2 (fun _ h => h.2) q hqn
                injection hA with hA
                subst hA
                rw [addr0] at hcell
                have hfz := hG.frozen q
                have e1 : (at_ : Int).tmod n3 = q := by rw [tmod_nat, hq]
                have e2 : (at_ : Int) % n3 = q := by rw [← hq]; omega
                have e3 : IntKind.i64.wrap (at_ : Int) = at_ := IntWalk.i64_in _ (by omega)
                have e3' : IntKind.i64.wrap (q : Int) = q := IntWalk.i64_in _ (by have := HLEN.out.2.2; have := HLL.out.2.2; omega)
                have e4 : ¬ ((n3 : Int) = 0) := by omega
                have e5 : ((n3 : Int) == 0) = false := by simpa using h0
                have hgr : rb ≠ g := by have := HM7.out.2.2.1; have := HRL.out; omega
                have hgw : w.heap.size ≤ g := by have := HM7.out.2.2.1; have := HLW.out; omega
                have HPK := Lib.hid (HA0.out.poke (k := q) hgw hgr by_)
                clear hsl hq hG hMg hgr hgw
                go_upto_region 30 with fail
                go_region
                all_goals (go_wp2_with fail; go_meet)
                all_goals exact HPK.out.drewN 1
            · go_wp2_with (at_builtin; refine wpList_app0 elemIn rfl _ _ rfl (HP2.out.alloc _) rfl w7.heap.size (.int .i64 by_) rfl (by simp [go_sem]) rfl (by have := HL2.out; have := HLEN.out.2.1; have := HLL.out.2.1; omega) (by omega) (by rw [World.size_alloc]; have := HM7.out.2.2.2.2.1; omega) ?_; intro A8 c8 w8 hown hgr; have HOW := Lib.hid hown; have HGR := Lib.hid hgr; have hK8 : Blk w8 rb 28 #[.slice B0' n0 d0, .int .i64 tot, .slice B2' n2 d2, .slice B3' n3 d3] := ap_blk (HK7.out.alloc _) hgr (HP2.out.alloc _); have g2 := hK8.frozen 2; have x2 := hK8.cell 2; simp only [List.getElem?_toArray, List.getElem?_cons_zero, List.getElem?_cons_succ] at x2; have HK8 := Lib.hid hK8; clear hown hgr hK8)
              go_meet
              obtain ⟨w7a, hw7a⟩ : ∃ w7a : World, w7.alloc (.cells #[.int .i64 by_] 3) = w7a := ⟨_, rfl⟩
              have hgr := ap_grown HGR.out
              rw [hw7a] at hgr
              have hB7a : Below w7.heap.size w7 w7a := by rw [← hw7a]; exact Ba (B0 _) _
              have hrow : ∀ b, (Value.slice B2' n2 d2).ownBlock = some b → n2 = 0 ∨ M2 ≤ b := fun b hb => by
                rcases Nat.eq_zero_or_pos n2 with e | e
                · exact .inl e
                · obtain ⟨g, cur, hA, -, hg⟩ := own0_open HP2.out e
                  rw [hA] at hb
                  have : g = b := by simpa [Value.ownBlock] using hb
                  exact .inr (by omega)
              have hkeep : ∀ (C : Option Addr) (k d : Nat) (l : List Int) (F : Nat → Prop), (∀ b, F b → lo ≤ b ∧ b < w7.heap.size ∧ (n2 = 0 ∨ (Value.slice B2' n2 d2).ownBlock ≠ some b)) → SlI F w7 (.slice C k d) l → SlI (fun b => b < (w8.setCell ⟨rb, 2, none⟩ (.slice A8 (n2 + 1) c8)).heap.size) (w8.setCell ⟨rb, 2, none⟩ (.slice A8 (n2 + 1) c8)) (.slice C k d) l := fun C k d l F hF hs => by
                have a1 : Agree F w7 w7a := Agree.below hB7a fun b hb => (hF b hb).2.1
                have a2 : Agree F w7a w8 := by
                  rcases HGR.out with ⟨-, h⟩ | ⟨h0, h⟩
                  · rw [hw7a] at h
                    exact Agree.below h fun b hb => Nat.lt_of_lt_of_le (hF b hb).2.1 hB7a.size
                  · rw [hw7a] at h
                    exact Agree.grown h fun b hb => ⟨Nat.lt_of_lt_of_le (hF b hb).2.1 hB7a.size, fun e => (hF b hb).2.2.elim (fun e0 => by omega) fun hne => hne e.symm⟩
                have a3 : Agree F w8 (w8.setCell ⟨rb, 2, none⟩ (.slice A8 (n2 + 1) c8)) := Agree.setCell (p := ⟨rb, 2, none⟩) _ (show ∀ b, F b → b ≠ rb from fun b hb => by have := (hF b hb).1; have := HRL.out; omega)
                refine (SlI.keep hs ((a1.trans a2).trans a3)).mono fun b hb => ?_
                rw [World.size_setCell]
                exact Nat.lt_of_lt_of_le (hF b hb).2.1 (Nat.le_trans hB7a.size hgr.size)
              have hM := HM7.out
              have hl0 : n0 ≤ 1000000 := by have := HLEN.out.1; have := HLL.out.1; omega
              have hl2 : n2 + 1 ≤ 1000000 := by have := HLEN.out.2.1; have := HLL.out.2.1; omega
              have hl3 : n3 ≤ 1000000 := by have := HLEN.out.2.2; have := HLL.out.2.2; omega
              have s0 := hkeep _ _ _ _ _ (fun b hb => ⟨by omega, hb.2.2, by
                rcases Nat.eq_zero_or_pos n2 with e | e
                · exact .inl e
                · refine .inr fun hb2 => ?_
                  have h1 := HD2.out b hb.1
                  rcases hrow b hb2 with h | h <;> omega⟩) (own0_slV HP0.out HLEN.out.1 hl0)
              have s3 := hkeep _ _ _ _ _ (fun b hb => ⟨by omega, hb.2.2, .inr fun hb2 => by
                have h1 := HD3.out b hb2
                omega⟩) (own0_slV HP3.out HLEN.out.2.2 hl3)
              have how := HOW.out
              rw [show inCs l2 ++ [Value.int .i64 by_] = inCs (l2 ++ [by_]) by simp [inCs]] at how
              have s2 := own0_sl how (by rw [List.length_append, HLEN.out.2.1]; rfl) hl2 hM.2.1
              have s2' : SlI (fun b => b < (w8.setCell ⟨rb, 2, none⟩ (.slice A8 (n2 + 1) c8)).heap.size) (w8.setCell ⟨rb, 2, none⟩ (.slice A8 (n2 + 1) c8)) (.slice A8 (n2 + 1) c8) (l2 ++ [by_]) :=
                (SlI.keep s2 (Agree.setCell (p := ⟨rb, 2, none⟩) _ (show ∀ b, (lo ≤ b ∧ b < w8.heap.size) → b ≠ rb from fun b hb => by have := HRL.out; omega))).mono fun b hb => by rw [World.size_setCell]; exact hb.2
              have hB8 : Below w.heap.size w w8 := by
                have h7 := Bt HB7.out hB7a
                rcases HGR.out with ⟨-, h⟩ | ⟨h0, h⟩
                · rw [hw7a] at h; exact Bt h7 h
                · rw [hw7a] at h
                  refine h7.grown h h7.size fun b e => ?_
                  have := HLW.out
                  rcases hrow b e with h | h <;> omega
              exact ⟨B0', A8, B3', n0, d0, n2 + 1, c8, n3, d3, tot, l0, l2 ++ [by_], l3, ⟨HLEN.out.1, by rw [List.length_append, HLEN.out.2.1]; rfl, HLEN.out.2.2⟩, HK8.out.set_ 2 _, ⟨s0, s2', s3⟩, Bs hB8 _ (Nat.le_of_lt HWR.out)⟩
            · by_cases h0 : 1 < n2
              · have u0 : decide ((1 : Int) < n2) = true := decide_eq_true (by omega)
                have u1 : decide (1 < n2) = true := decide_eq_true (by omega)
                have u2 : (1 : Int) < n2 := by omega
                obtain ⟨g, cur, hB, hG, hMg⟩ := own0_open HP2.out (by omega)
                subst hB
                have hsl := own0_sl HP2.out HLEN.out.2.1 (by have := HLEN.out.2.1; have := HLL.out.2.1; omega) HM7.out.2.1
                obtain ⟨q, hq⟩ : ∃ q, at_ % n2 = q := ⟨_, rfl⟩
                have hqn : q < n2 := by rw [← hq]; exact Nat.mod_lt _ (by omega)
                have hqI : (q : Int) < n2 := by omega
                obtain ⟨ad, hA, hcell, -⟩ := ints_cell hsl HLEN.out.2.1 (fun _ h => h.2) q hqn
                injection hA with hA
                subst hA
                rw [addr0] at hcell
                have hfz := hG.frozen q
                have e1 : (at_ : Int).tmod n2 = q := by rw [tmod_nat, hq]
                have e2 : (at_ : Int) % n2 = q := by rw [← hq]; omega
                have e3 : IntKind.i64.wrap (at_ : Int) = at_ := IntWalk.i64_in _ (by omega)
                have e3' : IntKind.i64.wrap (q : Int) = q := IntWalk.i64_in _ (by have := HLEN.out.2.1; have := HLL.out.2.1; omega)
                have e4 : ¬ ((n2 : Int) = 0) := by omega
                have e5 : ((n2 : Int) == 0) = false := by simpa using e4
                have hgr : rb ≠ g := by have := HM7.out.2.1; have := HRL.out; omega
                have hgy : yb ≠ g := by have := HM7.out.2.1; have := HRL.out; omega
                have hgw : w.heap.size ≤ g := by have := HM7.out.2.1; have := HLW.out; omega
                obtain ⟨x, hx⟩ : ∃ x, g0 l2 q = x := ⟨_, rfl⟩
                rw [hx] at hcell
                obtain ⟨x1, hx1⟩ : ∃ x1, IntKind.i64.wrap (x + 1) = x1 := ⟨_, rfl⟩
                obtain ⟨w8, hw8⟩ : ∃ w8 : World, (w7.setCell ⟨g, q, none⟩ (.int .i64 x1)).drew = w8 := ⟨_, rfl⟩
                have hP8 : AfterP w rb w8 := by rw [← hw8]; exact (HA0.out.poke hgw hgr x1).drewN 1
                have hK8 := (HK7.out.far (p := ⟨g, q, none⟩) hgr (.int .i64 x1)).drew
                have hY8 := (HY7.out.far (p := ⟨g, q, none⟩) hgy (.int .i64 x1)).drew
                have hG8 := (hG.set_ q (.int .i64 x1)).drew
                obtain ⟨l2', hl2', hsl2⟩ := hsl.poke ⟨g, q, none⟩ x1
                have hsz : w7.heap.size = w8.heap.size := by rw [← hw8]; exact (World.size_setCell ..).symm
                replace hsl2 : SlI (fun b => lo ≤ b ∧ b < w7.heap.size) w8 (.slice (some ⟨g, 0, none⟩) n2 d2) l2' := by rw [← hw8]; exact hsl2
                rw [hw8] at hK8 hY8 hG8
                have HP8 := Lib.hid hP8
                have HK8 := Lib.hid hK8
                have HY8 := Lib.hid hY8
                have HG8 := Lib.hid hG8
                have HSL := Lib.hid hsl2
                have HL2' := Lib.hid (hl2'.trans HLEN.out.2.1)
                have HSZ := Lib.hid hsz
                clear hP8 hK8 hY8 hG8 hsl2 hl2' hsz hsl hq hG hMg hx
                go_upto_region 15 with fail
                go_region
                go_upto_region 16 with fail
                try rw [hw8]
                clear hw8 e1 e2 e3' hcell hfz hx1 z0 z1 z2 z3 f1 f2 y1 y2
                have y1 := HY8.out.cell 1
                have z2 := HK8.out.cell 2
                simp only [List.getElem?_toArray, List.getElem?_cons_zero, List.getElem?_cons_succ] at y1 z2
                obtain ⟨a2, ha2⟩ : ∃ a2, (at_ + 1) % 256 = a2 := ⟨_, rfl⟩
                have e6 : IntKind.u8.wrap ((at_ : Int) + 1) = a2 := by rw [← ha2]; exact u8_wrap_nat at_
                obtain ⟨q', hq'⟩ : ∃ q', a2 % n2 = q' := ⟨_, rfl⟩
                have hqn' : q' < n2 := by rw [← hq']; exact Nat.mod_lt _ (by omega)
                have hqI' : (q' : Int) < n2 := by omega
                have e1 : (a2 : Int).tmod n2 = q' := by rw [tmod_nat, hq']
                have e2 : (a2 : Int) % n2 = q' := by rw [← hq']; omega
                have ha3 : a2 < 256 := by omega
                have e7 : IntKind.i64.wrap (a2 : Int) = a2 := IntWalk.i64_in _ (by omega)
                have e3' : IntKind.i64.wrap (q' : Int) = q' := IntWalk.i64_in _ (by have := HLEN.out.2.1; have := HLL.out.2.1; omega)
                obtain ⟨ad, hA, hcell, -⟩ := ints_cell HSL.out HL2'.out (fun b h => by rw [← HSZ.out]; exact h.2) q' hqn'
                injection hA with hA
                subst hA
                rw [addr0] at hcell
                have hfz := HG8.out.frozen q'
                obtain ⟨x, hx⟩ : ∃ x, g0 l2' q' = x := ⟨_, rfl⟩
                rw [hx] at hcell
                obtain ⟨x2, hx2⟩ : ∃ x2, IntKind.i64.wrap (x - 1) = x2 := ⟨_, rfl⟩
                have HP9 := Lib.hid (HP8.out.poke (k := q') hgw hgr x2)
                clear ha2 hq' hx hgr hgw hgy
                go_region
                all_goals (go_wp2_with fail; go_meet)
                all_goals exact HP9.out.drewN 1
              · have u0 : decide ((1 : Int) < n2) = false := decide_eq_false (by omega)
                have u1 : decide (1 < n2) = false := decide_eq_false (by omega)
                go_wp2_with fail
                go_meet
                exact HA0.out
          case rest =>
            obtain ⟨C0, C2, C3, p0, e0', p2, e2', p3, e3', tt, m0, m2, m3, ⟨q0, q2, q3⟩, hK, ⟨s0, s2, s3⟩, hB⟩ := hcut
            obtain ⟨w8, rfl⟩ : ∃ w8 : World, w8 = wc := ⟨_, rfl⟩
            have HAS := Lib.hid (assigns_any A c i costs HN.out h5 HJ.out C0 C2 C3 p0 e0' p2 e2' p3 e3' m0 m2 m3 q0 q2 q3 tt w8 (HH.out.bel hB) s0 s2 s3)
            have HB8 := Lib.hid hB
            have z0 := hK.cell 0
            have z1 := hK.cell 1
            have z2 := hK.cell 2
            have z3 := hK.cell 3
            simp only [List.getElem?_toArray, List.getElem?_cons_zero, List.getElem?_cons_succ] at z0 z1 z2 z3
            clear hK s0 s2 s3 hB q0 q2 q3
            go_wp2_with (go_at_call 6; (with_reducible refine (HAS.out.mono ?_)); rintro e w9 ⟨rfl, hb9⟩; have HB9 := Lib.hid (Bt HB8.out hb9); clear hb9)
            go_ret
            exact ⟨rfl, HB9.out⟩
  · have d5 : decide ((5 : Int) < n) = true := decide_eq_true (by omega)
    have d5' : (5 : Int) < n := by omega
    go_wp2_with (go_at_call 4; first
      | ((with_reducible refine ((HKN.out w1).mono ?_)); rintro e w2 ⟨rfl, hb2⟩; have HB2 := Lib.hid (Bt HB1.out hb2); clear hb2)
      | ((with_reducible refine ((HKN.out _).mono ?_)); rintro e w3 ⟨rfl, hb3⟩; have HB3 := Lib.hid (Bt HB2.out hb3); clear hb3))
    go_ret
    exact ⟨rfl, HB3.out⟩
end Go.Proofs.Ytnphdmiondccgaa
