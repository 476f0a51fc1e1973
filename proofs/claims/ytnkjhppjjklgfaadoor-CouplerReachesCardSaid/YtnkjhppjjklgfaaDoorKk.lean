/- Walks over coupler: contacts. -/
import Derived.Test.YtnkjhppjjklgfaaDoorKj
namespace Go.Proofs.YtnkjhppjjklgfaaDoor
open Go Go.RowKit Go.Shelf
namespace Cou
/-- n contacts of division d, from key k on. -/
def keysF (d : Int) : Int → Nat → List Ct
  | _, 0 => []
  | k, n + 1 => (d, k) :: keysF d (k + 1) n
/-- All contacts of divisions, of which the first has number d. -/
def ctsF : Nat → List (Int × Int) → List Ct
  | _, [] => []
  | d, c :: r => keysF d c.1 (c.2 + 1 - c.1).toNat ++ ctsF (d + 1) r
theorem keysF_mem {d : Int} {t : Ct} : ∀ {k : Int} {n : Nat}, t ∈ keysF d k n ↔ t.1 = d ∧ k ≤ t.2 ∧ t.2 < k + n
  | k, 0 => by simp [keysF]
  | k, n + 1 => by
    rw [keysF, List.mem_cons, keysF_mem]
    constructor
    · rintro (rfl | h)
      · exact ⟨rfl, Int.le_refl _, by show k < _; omega⟩
      · omega
    · intro h
      by_cases e : t.2 = k
      · exact .inl (Prod.ext h.1 e)
      · exact .inr (by omega)
theorem keysF_len {d : Int} : ∀ {k : Int} {n : Nat}, (keysF d k n).length = n
  | _, 0 => rfl
  | k, n + 1 => by rw [keysF, List.length_cons, keysF_len]
theorem ctsF_mem {t : Ct} : ∀ {l : List (Int × Int)} {d : Nat}, t ∈ ctsF d l ↔ ∃ i, ∃ h : i < l.length, t.1 = d + i ∧ l[i].1 ≤ t.2 ∧ t.2 ≤ l[i].2
  | [], d => by simp [ctsF]
  | c :: r, d => by
    rw [ctsF, List.mem_append, keysF_mem, ctsF_mem]
    constructor
    · rintro (h | ⟨i, hi, h1, h2⟩)
      · exact ⟨0, by simp, by omega, by simp only [List.getElem_cons_zero]; omega⟩
      · exact ⟨i + 1, by simpa using hi, by omega, by simpa using h2⟩
    · rintro ⟨i, hi, h1, h2⟩
      cases i with
      | zero => simp only [List.getElem_cons_zero] at h2; exact .inl (by omega)
      | succ i => exact .inr ⟨i, by simpa using hi, by omega, by simpa using h2⟩
theorem ctsF_inA {a : Ac} {t : Ct} : t ∈ ctsF 0 a.divs ↔ InA a t := by
  rw [ctsF_mem]
  unfold InA inB
  constructor
  · rintro ⟨i, hi, h1, h2, h3⟩
    have e : t.1.toNat = i := by omega
    refine ⟨by omega, by omega, ?_⟩
    rw [e, List.getD_eq_getElem?_getD, List.getElem?_eq_getElem hi]
    simp only [Option.getD_some, Bool.and_eq_true, decide_eq_true_eq]
    exact ⟨h2, h3⟩
  · rintro ⟨h1, h2, h3⟩
    have hi : t.1.toNat < a.divs.length := by omega
    rw [List.getD_eq_getElem?_getD, List.getElem?_eq_getElem hi] at h3
    simp only [Option.getD_some, Bool.and_eq_true, decide_eq_true_eq] at h3
    exact ⟨t.1.toNat, hi, by omega, h3.1, h3.2⟩
theorem ctsF_len : ∀ {l : List (Int × Int)} {d : Nat}, (∀ c ∈ l, 0 ≤ c.1 ∧ c.1 ≤ c.2 ∧ c.2 ≤ 127) → (ctsF d l).length ≤ 128 * l.length
  | [], _, _ => by simp [ctsF]
  | c :: r, d, h => by
    have h1 := h c (by simp)
    have h2 := ctsF_len (d := d + 1) fun c hc => h c (List.mem_cons_of_mem _ hc)
    rw [ctsF, List.length_append, keysF_len, List.length_cons]
    omega
end Cou
set_option maxRecDepth 100000 in
set_option maxHeartbeats 2000000 in
theorem contacts_any (a : Cou.Ac) (hok : Cou.Ok a) (vd vc : Value) (w : World) (F : Nat → Prop) (hA : AcAt F w vd vc a) :
    Calls Tryd.prog 41 #[.agg #[vd, vc, .int .u64 a.drawn]] w fun e w' => ∃ v, e = .returned v ∧ SlCt (fun b => w.heap.size ≤ b) w' v (Cou.ctsF 0 a.divs) ∧ Below w.heap.size w w' := by
  obtain ⟨Ad, cd, rfl, hd1, hdat⟩ := id hA.dv.open
  have hF := hA.inW
  have hdv := hok.div
  have hlen : (Cou.ctsF 0 a.divs).length ≤ 1024 := by
    have := Cou.ctsF_len (d := 0) hdv
    have := hok.nd
    omega
  clear hA
  go_enter Tryd.func41, Tryd.ntmps41
  go_wp2_with fail
  obtain ⟨w1, hw1⟩ : ∃ w1 : World, w.alloc (.cells #[.slice Ad a.divs.length cd, vc, .int .u64 a.drawn] 34) = w1 := ⟨_, rfl⟩
  have B1 : Below w.heap.size w w1 := by rw [← hw1]; exact Ba (B0 w) _
  rw [hw1]
  clear hw1
  have HB1 := Lib.hid B1
  clear B1
  have hnd := hok.nd
  go_loopg [3, 10] a.divs.length (fun gg s3 s10 wr => ∃ (k : Nat) (out : List Cou.Ct), k ≤ a.divs.length ∧ a.divs.length - k ≤ gg ∧ s10 = .int .i64 k ∧ Aside (OwnL w.heap.size 28 2 CtC wr s3 out) ∧ Aside (out ++ Cou.ctsF k (a.divs.drop k) = Cou.ctsF 0 a.divs) ∧ Aside (Below w.heap.size w wr))
  case atStart => exact ⟨0, [], by omega, by omega, rfl, OwnL.nil, by rw [List.drop_zero]; rfl, HB1.out⟩
  case round =>
    obtain ⟨k, out, hk, hg, rfl, HO, HE, HB⟩ := hrel
    by_cases hlt : k < a.divs.length
    · have hki : decide ((k : Int) < a.divs.length) = true := decide_eq_true (by omega)
      have hkl : (k : Int) < a.divs.length := by omega
      obtain ⟨ad, rfl, hfb, hfl⟩ := hdat k hlt
      have hfb2 : (ad.add (k * 2)).block < w.heap.size := by rw [block_of_add]; exact hF _ hfb
      have hfl2 := hfl.below HB hfb2
      have f0 := hfl2.f0 rfl
      have f1 := hfl2.f1 rfl
      have hdk := hdv a.divs[k] (List.getElem_mem hlt)
      have hE2 : out ++ (Cou.keysF k a.divs[k].1 (a.divs[k].2 + 1 - a.divs[k].1).toNat ++ Cou.ctsF (k + 1) (a.divs.drop (k + 1))) = Cou.ctsF 0 a.divs := by
        rw [← HE, List.drop_eq_getElem_cons hlt, Cou.ctsF]
      generalize a.divs[k] = x at *
      obtain ⟨lo, hi⟩ := x
      dsimp only at f0 f1 hdk hE2
      have HEx := Lib.hid hE2
      have HOx := Lib.hid HO
      have HBx := Lib.hid HB
      clear HE HO HB hE2 hfl hfl2 HB1
      go_wp2_with fail
      obtain ⟨bx, hbx⟩ : ∃ bx, wr.heap.size = bx := ⟨_, rfl⟩
      obtain ⟨w2, hw2⟩ : ∃ w2 : World, wr.alloc (.cells #[.int .i64 lo, .int .i64 hi] 58) = w2 := ⟨_, rfl⟩
      have hBb : Blk w2 bx 58 #[.int .i64 lo, .int .i64 hi] := by rw [← hw2, ← hbx]; exact Blk.new _ _ _
      have hOb : OwnL w.heap.size 28 2 CtC w2 u3 out := by rw [← hw2]; exact HOx.out.alloc _ fun _ _ h => h
      have hWb : Below w.heap.size w w2 := by rw [← hw2]; exact Ba HBx.out _
      rw [hw2, hbx]
      obtain ⟨n, hn⟩ : ∃ n, (hi + 1 - lo).toNat = n := ⟨_, rfl⟩
      rw [hn] at HEx
      have hn1 : lo + (n : Int) = hi + 1 := by omega
      have hn2 : n ≤ 128 := by omega
      clear hw2 hbx HOx HBx hn f0 f1
      have HBb := Lib.hid hBb
      have HOb := Lib.hid hOb
      have HWb := Lib.hid hWb
      clear hBb hOb hWb
      go_loopg [3, 6] n (fun gg s3 s6 wr2 => ∃ (j : Nat) (out2 : List Cou.Ct), j ≤ n ∧ n - j ≤ gg ∧ s6 = .int .i64 (lo + j) ∧ Aside (OwnL w.heap.size 28 2 CtC wr2 s3 out2) ∧ Aside (out2 ++ (Cou.keysF k (lo + j) (n - j) ++ Cou.ctsF (k + 1) (a.divs.drop (k + 1))) = Cou.ctsF 0 a.divs) ∧ Aside (Blk wr2 bx 58 #[.int .i64 lo, .int .i64 hi]) ∧ Aside (Below w.heap.size w wr2))
      case atStart => exact ⟨0, out, by omega, by omega, by simp, HOb.out, (show Aside _ from by show _ = _; simpa using HEx.out), HBb.out, HWb.out⟩
      case round =>
        clear HOb HEx HBb HWb
        obtain ⟨j, out2, hj, hg2, rfl, HO2, HE2, HB2, HW2⟩ := hrel
        have b1 := HB2.cell 1
        simp only [List.getElem?_toArray, List.getElem?_cons_zero, List.getElem?_cons_succ] at b1
        by_cases hjl : j < n
        · have hkj : decide (lo + (j : Int) ≤ hi) = true := decide_eq_true (by omega)
          obtain ⟨cs, q1, q2, q3⟩ := id HO2
          have hol : out2.length ≤ 1024 := by
            have := congrArg List.length HE2
            simp only [List.length_append] at this
            omega
          have he3 : (out2 ++ [((k : Int), lo + (j : Int))]) ++ (Cou.keysF k (lo + (j + 1 : Nat)) (n - (j + 1)) ++ Cou.ctsF (k + 1) (a.divs.drop (k + 1))) = Cou.ctsF 0 a.divs := by
            rw [← HE2, show n - j = (n - (j + 1)) + 1 by omega, Cou.keysF, show lo + ((j + 1 : Nat) : Int) = lo + j + 1 by omega]
            simp
          have hbs := HW2.size
          have H3 := Lib.hid he3
          have HB3 := Lib.hid HB2
          have HW3 := Lib.hid HW2
          have HQ1 := Lib.hid q1
          have HQ2 := Lib.hid q2
          have HQ3 := Lib.hid q3
          have HL3 := Lib.hid HO2.lt
          clear HE2 HB2 HW2 HO2 q1 q2 q3 he3
          go_wp2_with (at_builtin; refine wpList_appS elemCt (by omega) rfl _ _ rfl w.heap.size _ out2.length _ rfl (HQ3.out.alloc _) ⟨wr.heap.size, 0, none⟩ 1 [.int .i64 (k : Int), .int .i64 (lo + (j : Int))] rfl rfl (Flds.new wr _ _) (by simp [Value.oneCell']) (by omega) (by omega) (by simp; omega) ?_; intro g cap w8 hown8 hg8 hgg; have HO8 := Lib.hid hown8; have HG8 := Lib.hid hg8; clear hown8 hg8 hgg)
          go_roundg (n - (j + 1))
          case measure => omega
          case rel =>
            refine ⟨j + 1, out2 ++ [((k : Int), lo + (j : Int))], by omega, by omega, by go_num, OwnL.snoc HQ1.out HQ2.out rfl rfl (fun _ _ h => h) HO8.out, H3.out, ((HB3.out.alloc _).grown HG8.out fun e => ?_), (Ba HW3.out _).grown HG8.out (by simp; omega) fun b e => (HL3.out b e).1⟩
            exact own_ne HQ3.out HB3.out (by decide) e.symm
        · have hkj : decide (lo + (j : Int) ≤ hi) = false := decide_eq_false (by omega)
          have hjn : j = n := by omega
          subst hjn
          have he3 : out2 ++ Cou.ctsF (k + 1) (a.divs.drop (k + 1)) = Cou.ctsF 0 a.divs := by rw [← HE2, Nat.sub_self]; simp [Cou.keysF]
          have H3 := Lib.hid he3
          have HO3 := Lib.hid HO2
          have HW3 := Lib.hid HW2
          clear HE2 HB2 HW2 HO2 he3
          go_wp2_with fail
          go_roundg (a.divs.length - (k + 1))
          case measure => omega
          case rel => exact ⟨k + 1, out2, by omega, by omega, by go_num, HO3.out, H3.out, HW3.out⟩
    · have hki : decide ((k : Int) < a.divs.length) = false := decide_eq_false (by omega)
      have hkk : k = a.divs.length := by omega
      subst hkk
      have he : out = Cou.ctsF 0 a.divs := by rw [← HE, List.drop_length]; simp [Cou.ctsF]
      subst he
      have HOx := Lib.hid HO
      have HBx := Lib.hid HB
      clear HE HO HB hdat HB1
      go_wp2_with fail
      go_ret
      exact ⟨_, rfl, HOx.out.sl (by omega) (fun b h _ _ => h), HBx.out⟩
end Go.Proofs.YtnkjhppjjklgfaaDoor
