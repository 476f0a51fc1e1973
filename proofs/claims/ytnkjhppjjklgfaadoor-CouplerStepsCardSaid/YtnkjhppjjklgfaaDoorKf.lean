/- Walks over coupler: reach. -/
import Derived.Test.YtnkjhppjjklgfaaDoorKe
import Derived.Test.YtnkjhppjjklgfaaDoorKo
namespace Go.Proofs.YtnkjhppjjklgfaaDoor
open Go Go.RowKit Go.Shelf
namespace Cou
/-- What the queue holds behind k played contacts. -/
structure L1 (a : Ac) (pl : List Ct) (k : Nat) (Q : List Ct) : Prop where
  nd : Q.Nodup
  inA : ∀ x ∈ Q, InA a x
  mem : ∀ t, t ∈ Q ↔ ∃ p ∈ pl.take k, ∃ i, a.drawn.testBit i = true ∧ stepF a i p = some t
/-- What it holds behind i of its own. -/
structure L2 (a : Ac) (pl : List Ct) (i : Nat) (Q : List Ct) : Prop where
  nd : Q.Nodup
  inA : ∀ x ∈ Q, InA a x
  hop : ∀ x ∈ Q, Hop a pl x
  fst : ∀ p ∈ pl, ∀ j t, a.drawn.testBit j = true → stepF a j p = some t → t ∈ Q
  cl : ∀ c ∈ Q.take i, ∀ j t, a.drawn.testBit j = true → thruF a j = true → stepF a j c = some t → t ∈ Q
  le : i ≤ Q.length
variable {a : Ac} {pl : List Ct} {Q Q' : List Ct}
theorem L1.start : L1 a pl 0 [] := ⟨List.nodup_nil, by simp, fun t => by simp⟩
theorem L1.next {k : Nat} (h : L1 a pl k Q) (hk : k < pl.length) (hn : Q'.Nodup) (hi : ∀ x ∈ Q', InA a x) (hm : ∀ t, t ∈ Q' ↔ t ∈ Q ∨ ∃ i, a.drawn.testBit i = true ∧ Cond a false pl[k] i t) : L1 a pl (k + 1) Q' := ⟨hn, hi, fun t => by
  rw [hm, h.mem, List.take_add_one, List.getElem?_eq_getElem hk]
  constructor
  · rintro (⟨p, hp, q⟩ | ⟨i, h1, h2⟩)
    · exact ⟨p, List.mem_append.2 (.inl hp), q⟩
    · exact ⟨pl[k], List.mem_append.2 (.inr (by simp)), i, h1, h2.2⟩
  · rintro ⟨p, hp, q⟩
    rcases List.mem_append.1 hp with hp | hp
    · exact .inl ⟨p, hp, q⟩
    · simp only [Option.toList_some, List.mem_singleton] at hp
      subst hp
      obtain ⟨i, h1, h2⟩ := q
      exact .inr ⟨i, h1, by simp, h2⟩⟩
theorem L1.last (h : L1 a pl pl.length Q) : L2 a pl 0 Q := ⟨h.nd, h.inA, fun x hx => by
  obtain ⟨p, hp, i, h1, h2⟩ := (h.mem x).1 hx
  exact .first (List.mem_of_mem_take hp) h1 h2, fun p hp j t h1 h2 => (h.mem t).2 ⟨p, by rw [List.take_length]; exact hp, j, h1, h2⟩, by simp, Nat.zero_le _⟩
theorem L2.next {i : Nat} (h : L2 a pl i Q) (hi : i < Q.length) (hp : Q <+: Q') (hn : Q'.Nodup) (hA : ∀ x ∈ Q', InA a x) (hm : ∀ t, t ∈ Q' ↔ t ∈ Q ∨ ∃ j, a.drawn.testBit j = true ∧ Cond a true Q[i] j t) : L2 a pl (i + 1) Q' := by
  have hsub : ∀ x ∈ Q, x ∈ Q' := fun x hx => (hm x).2 (.inl hx)
  obtain ⟨R, rfl⟩ := hp
  refine ⟨hn, hA, fun x hx => ?_, fun p hp j t h1 h2 => hsub _ (h.fst p hp j t h1 h2), fun c hc j t h1 h2 h3 => ?_, by simp; omega⟩
  · rcases (hm x).1 hx with q | ⟨j, h1, h2⟩
    · exact h.hop x q
    · exact .more (h.hop _ (List.getElem_mem hi)) h1 (h2.1 rfl) h2.2
  · rw [List.take_append_of_le_length (by omega), List.take_add_one, List.getElem?_eq_getElem hi] at hc
    rcases List.mem_append.1 hc with hc | hc
    · exact hsub _ (h.cl c hc j t h1 h2 h3)
    · simp only [Option.toList_some, List.mem_singleton] at hc
      subst hc
      exact (hm t).2 (.inr ⟨j, h1, fun _ => h2, h3⟩)
theorem L2.done (h : L2 a pl Q.length Q) (t : Ct) : t ∈ Q ↔ Hop a pl t :=
  ⟨h.hop t, Hop.sub h.fst (fun c hc => h.cl c (by rw [List.take_length]; exact hc))⟩
end Cou
/-- What is said of the sort. -/
def SortSaid : Prop := ∀ (Q : List Cou.Ct) (_ : Q.Nodup) (base : Nat) (v : Value) (w : World) (_ : OwnL base 28 2 CtC w v Q) (_ : Q.length ≤ 1024) (_ : base ≤ w.heap.size),
    Calls Tryd.prog 61 #[v, .func (.func 62) #[] #[]] w fun e w' => e = .returned (.tuple #[]) ∧ ∃ l, SlCt (fun b => base ≤ b) w' v l ∧ Cou.Srt l ∧ (∀ t, t ∈ l ↔ t ∈ Q) ∧ Below base w w'
set_option maxRecDepth 100000 in
set_option maxHeartbeats 4000000 in
theorem reach_walk (hSort : SortSaid) (a : Cou.Ac) (hok : Cou.Ok a) (vd vc : Value) (pv : Value) (pl : List Cou.Ct) (hpl : ∀ p ∈ pl, CtS p) (w : World) (F : Nat → Prop) (hA : AcAt F w vd vc a) (hP : SlCt F w pv pl) (hT : Tab64 w) (hF : ∀ b, F b → b < w.heap.size) (hg : 0 < w.heap.size) :
    Calls Tryd.prog 38 #[.agg #[vd, vc, .int .u64 a.drawn], pv] w fun e w' => ∃ v l, e = .returned v ∧ SlCt (fun b => w.heap.size ≤ b) w' v l ∧ Cou.Srt l ∧ (∀ t, t ∈ l ↔ Cou.Hop a pl t) ∧ Below w.heap.size w w' := by
  obtain ⟨Ad, cd, hvd, _⟩ := id hA.dv.open
  obtain ⟨Ac, cc, hvc, _⟩ := id hA.cp.open
  obtain ⟨Ap, cp, rfl, hpc, hpl2, hpat⟩ := id hP
  subst hvd; subst hvc
  have hmm := @run_makeMap Tryd.prog
  obtain ⟨ab, hab⟩ : ∃ ab, w.heap.size = ab := ⟨_, rfl⟩
  obtain ⟨w1, hw1⟩ : ∃ w1 : World, (((w.alloc (.cells #[.slice Ad a.divs.length cd, .slice Ac a.cps.length cc, .int .u64 a.drawn] 34)).alloc (.cells #[.slice none 0 0] 36)).alloc (.map #[] 0)).alloc (.cells #[.map (some (ab + 1 + 1))] 119) = w1 := ⟨_, rfl⟩
  have hB1 : Below w.heap.size w w1 := by rw [← hw1]; exact Ba (Ba (Ba (Ba (B0 w) _) _) _) _
  have hs1 : w1.heap.size = ab + 4 := by rw [← hw1, ← hab]; simp
  have hQ1 : QSt ab (ab + 1) (ab + 1 + 1) (ab + 1 + 1 + 1) (ab + 4) (.slice Ad a.divs.length cd) (.slice Ac a.cps.length cc) a.drawn (.slice none 0 0) [] w1 := by
    refine ⟨?_, ?_, ?_, OwnL.nil, ?_, by omega⟩
    · rw [← hw1, ← hab]; exact (((Blk.new w _ _).alloc _).alloc _).alloc _
    · have := Blk.new (((w.alloc (.cells #[.slice Ad a.divs.length cd, .slice Ac a.cps.length cc, .int .u64 a.drawn] 34)).alloc (.cells #[.slice none 0 0] 36)).alloc (.map #[] 0)) 119 #[.map (some (ab + 1 + 1))]
      rw [hw1] at this
      simpa [hab] using this
    · have := ((Blk.new (w.alloc (.cells #[.slice Ad a.divs.length cd, .slice Ac a.cps.length cc, .int .u64 a.drawn] 34)) 36 #[.slice none 0 0]).alloc (.map #[] 0)).alloc (.cells #[.map (some (ab + 1 + 1))] 119)
      rw [hw1] at this
      simpa [hab] using this
    · refine ⟨[], ?_, by simp, by simp⟩
      have h1 := MapAt.made ((w.alloc (.cells #[.slice Ad a.divs.length cd, .slice Ac a.cps.length cc, .int .u64 a.drawn] 34)).alloc (.cells #[.slice none 0 0] 36))
      have h2 := h1.of_block (w' := w1) (by rw [← hw1]; exact Below.heap_alloc _ _ _ (by simp))
      simpa [hab] using h2
  have ho : QOrd ab (ab + 1) (ab + 1 + 1) (ab + 1 + 1 + 1) (ab + 4) := ⟨by omega, by omega, by omega, by omega⟩
  go_enter Tryd.func38, Tryd.ntmps38
  rw [hab]
  go_wp2
  clear hmm hw1
  have hord := ho.aq
  have HQ1 := Lib.hid hQ1
  have HB1 := Lib.hid hB1
  have HA := Lib.hid hA
  have HT := Lib.hid hT
  clear hQ1 hB1 hA hT hP
  go_loopg [15] pl.length (fun gg s wr => ∃ k : Nat, k ≤ pl.length ∧ pl.length - k ≤ gg ∧ s = .int .i64 k ∧ Aside (∃ v Q, QSt ab (ab + 1) (ab + 1 + 1) (ab + 1 + 1 + 1) (ab + 4) (.slice Ad a.divs.length cd) (.slice Ac a.cps.length cc) a.drawn v Q wr ∧ Cou.L1 a pl k Q) ∧ Aside (Below w.heap.size w wr))
  case atStart => exact ⟨0, by omega, by omega, rfl, ⟨_, _, HQ1.out, .start⟩, HB1.out⟩
  case round =>
    obtain ⟨k, hk, hg2, rfl, ⟨v, Q, hQ, hL⟩, hB⟩ := hrel
    have hbg := hQ.big
    by_cases hlt : k < pl.length
    · have hki : decide ((k : Int) < pl.length) = true := decide_eq_true (by omega)
      have hkl : (k : Int) < pl.length := by omega
      obtain ⟨ad, cs, rfl, hfb, hcl, hcs, hfl⟩ := hpat k hlt
      unfold CtC at hcs
      subst hcs
      have hfb2 : (ad.add (k * 2)).block < w.heap.size := by rw [block_of_add]; exact hF _ hfb
      have hfl2 := hfl.below hB hfb2
      have f0 := hfl2.f0 rfl
      have f1 := hfl2.f1 rfl
      have hsm := hpl pl[k] (List.getElem_mem hlt)
      have hTK := take_any a hok (.slice Ad a.divs.length cd) (.slice Ac a.cps.length cc) F false pl[k] ⟨hsm.2.2.1, hsm.2.2.2⟩ ab (ab + 1) (ab + 1 + 1) (ab + 1 + 1 + 1) (ab + 4) ho (by rw [← hab]; exact hF) (by rw [← hab]; exact hg) v Q hL.nd hL.inA (wr.alloc (.cells #[.int .i64 pl[k].1, .int .i64 pl[k].2] 28)) (HA.out.onB hF (Ba hB _)) (HT.out.below (Ba hB _)) (hQ.keep (Ba (B0 wr) _))
      have HTK := Lib.hid hTK
      have HL := Lib.hid hL
      have HB := Lib.hid hB
      clear hTK hL hB hfl hfl2 hpat hQ
      go_wp2_with (go_at_call 60; (with_reducible refine (HTK.out.mono ?_)); rintro e w3 ⟨⟨r, rfl⟩, v', Q', q1, q2, q3, q4, q5, q6⟩)
      go_roundg (pl.length - (k + 1))
      case measure => omega
      case rel => exact ⟨k + 1, by omega, by omega, by go_num, ⟨v', Q', q1, HL.out.next hlt q3 q4 q5⟩, (Ba HB.out _).trans (q6.mono (by omega))⟩
    · have hki : decide ((k : Int) < pl.length) = false := decide_eq_false (by omega)
      have hkl : k = pl.length := by omega
      subst hkl
      have HL := Lib.hid hL.last
      have HB := Lib.hid hB
      have HQ := Lib.hid hQ
      clear hL hB hQ hpat HQ1 HB1
      have m0 := HQ.out.que.cell 0
      simp only [List.getElem?_toArray, List.getElem?_cons_zero] at m0
      have HSo := Lib.hid hSort
      clear hSort
      go_wp2
      clear m0
      go_loopg [10] 1024 (fun gg s wr2 => ∃ i : Nat, i ≤ 1024 ∧ 1024 - i ≤ gg ∧ s = .int .i64 i ∧ Aside (∃ v Q, QSt ab (ab + 1) (ab + 1 + 1) (ab + 1 + 1 + 1) (ab + 4) (.slice Ad a.divs.length cd) (.slice Ac a.cps.length cc) a.drawn v Q wr2 ∧ Cou.L2 a pl i Q) ∧ Aside (Below w.heap.size w wr2))
      case atStart => exact ⟨0, by omega, by omega, rfl, ⟨v, Q, HQ.out, HL.out⟩, HB.out⟩
      case round =>
        clear HQ HL HB
        obtain ⟨i, hi, hg3, rfl, ⟨v, Q, hQ, hL⟩, hB⟩ := hrel
        have hbg := hQ.big
        have hsh := Cou.cts_short hok hL.nd hL.inA
        have hsl := hQ.own.sl (F := fun b => ab + 4 ≤ b) (by omega) (fun b h _ _ => h)
        have m0 := hQ.que.cell 0
        simp only [List.getElem?_toArray, List.getElem?_cons_zero] at m0
        have hle := hL.le
        by_cases hlt : i < Q.length
        · obtain ⟨A, c, rfl, hc1, hc2, hat⟩ := id hsl
          have hki : decide ((i : Int) < Q.length) = true := decide_eq_true (by omega)
          have hkl : (i : Int) < Q.length := by omega
          obtain ⟨ad, cs, rfl, hfb, hcl, hcs, hfl⟩ := hat i hlt
          unfold CtC at hcs
          subst hcs
          have f0 := hfl.f0 rfl
          have f1 := hfl.f1 rfl
          have hsm := inA_small hok (hL.inA Q[i] (List.getElem_mem hlt))
          have hTK := take_any a hok (.slice Ad a.divs.length cd) (.slice Ac a.cps.length cc) F true Q[i] ⟨hsm.2.2.1, hsm.2.2.2⟩ ab (ab + 1) (ab + 1 + 1) (ab + 1 + 1 + 1) (ab + 4) ho (by rw [← hab]; exact hF) (by rw [← hab]; exact hg) _ Q hL.nd hL.inA wr (HA.out.onB hF hB) (HT.out.below hB) hQ
          have HTK := Lib.hid hTK
          have HL := Lib.hid hL
          have HB := Lib.hid hB
          clear hTK hL hB hfl hat hQ hsl
          go_wp2_with (go_at_call 60; (with_reducible refine (HTK.out.mono ?_)); rintro e w3 ⟨⟨r, rfl⟩, v', Q', q1, q2, q3, q4, q5, q6⟩)
          go_roundg (1024 - (i + 1))
          case measure => omega
          case rel => exact ⟨i + 1, by omega, by omega, by go_num, ⟨v', Q', q1, HL.out.next hlt q2 q3 q4 q5⟩, HB.out.trans (q6.mono (by omega))⟩
        · have hiq : i = Q.length := by omega
          subst hiq
          have hki : decide ((Q.length : Int) < Q.length) = false := decide_eq_false (by omega)
          have hSO := HSo.out Q hL.nd (ab + 4) v wr hQ.own hsh hQ.big
          have HSO := Lib.hid hSO
          have HD := Lib.hid hL.done
          have HB := Lib.hid hB
          have hqb := hQ.que
          have HQB := Lib.hid hqb
          obtain ⟨A, c, rfl, hc1, hc2, hat⟩ := id hsl
          clear hSO hL hB hqb hat hsl HSo hQ
          go_wp2_with (go_at_call 61; (with_reducible refine (HSO.out.mono ?_)); rintro e w3 ⟨rfl, l, q1, q2, q3, q4⟩; have m1 := (HQB.out.below q4 (by omega)).cell 0; simp only [List.getElem?_toArray, List.getElem?_cons_zero] at m1)
          go_ret
          exact ⟨_, l, rfl, q1.mono (fun b h => by show ab ≤ b; omega), q2, fun t => (q3 t).trans (HD.out t), by rw [← hab]; exact HB.out.trans (q4.mono (by omega))⟩
end Go.Proofs.YtnkjhppjjklgfaaDoor
