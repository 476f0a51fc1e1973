/- Walks over coupler: right, Reach, Step. -/
import Derived.Test.YtnkjhppjjklgfaaDoorKh
import Derived.Test.YtnkjhppjjklgfaaDoorKf
import Derived.Test.YtnkjhppjjklgfaaDoorKs
namespace Go.Proofs.YtnkjhppjjklgfaaDoor
open Go Go.RowKit Go.Shelf
theorem reach_any (a : Cou.Ac) (hok : Cou.Ok a) (vd vc : Value) (pv : Value) (pl : List Cou.Ct) (hpl : ∀ p ∈ pl, CtS p) (w : World) (F : Nat → Prop) (hA : AcAt F w vd vc a) (hP : SlCt F w pv pl) (hT : Tab64 w) (hF : ∀ b, F b → b < w.heap.size) (hg : 0 < w.heap.size) :
    Calls Tryd.prog 38 #[.agg #[vd, vc, .int .u64 a.drawn], pv] w fun e w' => ∃ v l, e = .returned v ∧ SlCt (fun b => w.heap.size ≤ b) w' v l ∧ Cou.Srt l ∧ (∀ t, t ∈ l ↔ Cou.Hop a pl t) ∧ Below w.heap.size w w' :=
  reach_walk sort_any a hok vd vc pv pl hpl w F hA hP hT hF hg
namespace Cou
def rightF (a : Ac) : Int := if checkF a.divs a.cps = 0 then (if a.drawn >>> a.cps.length = 0 then 0 else 3) else checkF a.divs a.cps
theorem divF_ok {l : List (Int × Int)} (h : divF l = 0) : ∀ c ∈ l, 0 ≤ c.1 ∧ c.1 ≤ c.2 ∧ c.2 ≤ 127 := by
  induction l with
  | nil => simp
  | cons x l ih =>
    rw [divF] at h
    by_cases hx : compF x = 0
    · rw [if_pos hx] at h
      intro c hc
      rcases List.mem_cons.1 hc with e | e
      · subst e
        unfold compF at hx
        by_cases q : c.1 < 0 ∨ 127 < c.2
        · rw [if_pos q] at hx; cases hx
        · rw [if_neg q] at hx
          by_cases q2 : c.2 < c.1
          · rw [if_pos q2] at hx; cases hx
          · omega
      · exact ih h c e
    · rw [if_neg hx] at h; cases h
theorem goF_ok {nd : Nat} {cps : List Cpl} : ∀ (d : Nat), d ≤ cps.length → goF nd cps d = 0 → ∀ i (hi : i < cps.length), cps.length - d ≤ i → oneF nd cps i cps[i] = 0
  | 0, _, _, i, hi, h => absurd hi (by omega)
  | d + 1, hd, hg, i, hi, h => by
    have hlt : cps.length - (d + 1) < cps.length := by omega
    rw [goF, List.getElem?_eq_getElem hlt] at hg
    simp only at hg
    by_cases h0 : oneF nd cps (cps.length - (d + 1)) cps[cps.length - (d + 1)] = 0
    · rw [if_pos h0] at hg
      by_cases e : i = cps.length - (d + 1)
      · subst e; exact h0
      · exact goF_ok d (by omega) hg i hi (by omega)
    · rw [if_neg h0] at hg; exact absurd hg h0
theorem oneF_ok {nd : Nat} {cps : List Cpl} {i : Nat} {x : Cpl} (h : oneF nd cps i x = 0) : 0 ≤ x.from_ ∧ x.from_ < nd ∧ 0 ≤ x.to ∧ x.to < nd ∧ -127 ≤ x.shift ∧ x.shift ≤ 127 := by
  unfold oneF at h
  split at h
  · cases h
  · split at h
    · cases h
    · split at h
      · cases h
      · split at h
        · cases h
        · omega
theorem check_ok {divs : List (Int × Int)} {cps : List Cpl} (h : checkF divs cps = 0) : divs.length ≤ 8 ∧ cps.length ≤ 40 ∧ (∀ c ∈ divs, 0 ≤ c.1 ∧ c.1 ≤ c.2 ∧ c.2 ≤ 127) ∧ ∀ x ∈ cps, 0 ≤ x.from_ ∧ x.from_ < divs.length ∧ 0 ≤ x.to ∧ x.to < divs.length ∧ -127 ≤ x.shift ∧ x.shift ≤ 127 := by
  unfold checkF at h
  split at h
  · cases h
  · rename_i hl
    split at h
    · rename_i hd
      refine ⟨by omega, by omega, divF_ok hd, fun x hx => ?_⟩
      obtain ⟨i, hi, rfl⟩ := List.getElem_of_mem hx
      exact oneF_ok (goF_ok cps.length (Nat.le_refl _) h i hi (by omega))
    · cases h
theorem right_ok {a : Ac} (h : rightF a = 0) : Ok a := by
  unfold rightF at h
  split at h
  · rename_i hc
    split at h
    · rename_i hd
      obtain ⟨h1, h2, h3, h4⟩ := check_ok hc
      refine ⟨h1, h2, h3, h4, ?_⟩
      rw [Nat.shiftRight_eq_div_pow] at hd
      rcases (Nat.div_eq_zero_iff).1 hd with q | q
      · exact absurd q (by have := Nat.two_pow_pos a.cps.length; omega)
      · exact q
    · cases h
  · rename_i hc
    exact absurd h hc
end Cou
set_option maxHeartbeats 1000000 in
theorem right_any (a : Cou.Ac) (vd vc : Value) (hdr : a.drawn < 2 ^ 64) (w : World) (F : Nat → Prop) (hA : AcAt F w vd vc a) :
    Calls Tryd.prog 35 #[.agg #[vd, vc, .int .u64 a.drawn]] w fun e w' => e = .returned (.int .i64 (Cou.rightF a)) ∧ Below w.heap.size w w' := by
  obtain ⟨Ad, cd, hvd, hd1, _⟩ := id hA.dv.open
  obtain ⟨Ac, cc, hvc, hc1, _⟩ := id hA.cp.open
  subst hvd; subst hvc
  have hb1 := Ba (B0 w) (.cells #[.slice Ad a.divs.length cd, .slice Ac a.cps.length cc, .int .u64 a.drawn] 34)
  have hCK := check_any (.slice Ad a.divs.length cd) (.slice Ac a.cps.length cc) a.divs a.cps (w.alloc (.cells #[.slice Ad a.divs.length cd, .slice Ac a.cps.length cc, .int .u64 a.drawn] 34)) F (fun b h => Nat.lt_of_lt_of_le (hA.inW b h) hb1.size) (hA.dv.keep (Agree.below hb1 hA.inW)) (hA.cp.keep (Agree.below hb1 hA.inW))
  have HCK := Lib.hid hCK
  clear hA hCK hb1
  by_cases hck : Cou.checkF a.divs a.cps = 0
  · have hz : Cou.rightF a = if a.drawn >>> a.cps.length = 0 then 0 else 3 := by unfold Cou.rightF; rw [if_pos hck]
    have HZ := Lib.hid hz
    have hl40 := (Cou.check_ok hck).2.1
    have hm : min a.cps.length 64 = a.cps.length := by omega
    have hsh : ((a.drawn : Int) / 2 ^ min a.cps.length 64) = ((a.drawn >>> a.cps.length : Nat) : Int) := by
      rw [hm, Nat.shiftRight_eq_div_pow]; simp
    rw [hck] at HCK
    clear hz hck hm hl40
    by_cases hs : a.drawn >>> a.cps.length = 0
    · have d2 : ((a.drawn : Int) / 2 ^ min a.cps.length 64 != 0) = false := by rw [hsh, hs]; rfl
      have HS := Lib.hid hs
      clear hsh hs
      go_enter Tryd.func35, Tryd.ntmps35
      go_wp2_with (go_at_call 34; (with_reducible refine (HCK.out.mono ?_)); rintro e w3 ⟨rfl, hb⟩; have m1 : w3.cell? ⟨w.heap.size, 1, none⟩ = some (.slice Ac a.cps.length cc) := (Bc (k := w.heap.size) (o := 1) hb (by simp)).trans (by simp [go_sem]); have m2 : w3.cell? ⟨w.heap.size, 2, none⟩ = some (.int .u64 a.drawn) := (Bc (k := w.heap.size) (o := 2) hb (by simp)).trans (by simp [go_sem]))
      go_ret
      exact ⟨by rw [HZ.out, if_pos HS.out]; rfl, Bt (Ba (B0 w) _) hb⟩
    · have d2 : ((a.drawn : Int) / 2 ^ min a.cps.length 64 != 0) = true := by
        rw [hsh]
        generalize a.drawn >>> a.cps.length = q at hs
        simp only [bne_iff_ne, ne_eq]
        omega
      have HS := Lib.hid hs
      clear hsh hs
      go_enter Tryd.func35, Tryd.ntmps35
      go_wp2_with (go_at_call 34; (with_reducible refine (HCK.out.mono ?_)); rintro e w3 ⟨rfl, hb⟩; have m1 : w3.cell? ⟨w.heap.size, 1, none⟩ = some (.slice Ac a.cps.length cc) := (Bc (k := w.heap.size) (o := 1) hb (by simp)).trans (by simp [go_sem]); have m2 : w3.cell? ⟨w.heap.size, 2, none⟩ = some (.int .u64 a.drawn) := (Bc (k := w.heap.size) (o := 2) hb (by simp)).trans (by simp [go_sem]))
      go_ret
      exact ⟨by rw [HZ.out, if_neg HS.out]; rfl, Bt (Ba (B0 w) _) hb⟩
  · have HZ : Hid (Cou.rightF a = Cou.checkF a.divs a.cps) := Lib.hid (by unfold Cou.rightF; rw [if_neg hck])
    have d1 : (Cou.checkF a.divs a.cps != 0) = true := by simpa using hck
    clear hck
    go_enter Tryd.func35, Tryd.ntmps35
    go_wp2_with (go_at_call 34; (with_reducible refine (HCK.out.mono ?_)); rintro e w3 ⟨rfl, hb⟩)
    go_ret
    exact ⟨by rw [HZ.out]; rfl, Bt (Ba (B0 w) _) hb⟩
theorem zeroCt (w : World) : (zeroValue 28).run Tryd.prog w = .ok (.agg #[.int .i64 0, .int .i64 0]) w := by kernel_rfl
/-- What Reach answers. -/
def reachErr (a : Cou.Ac) (c : Cou.Ct) : Int := if Cou.rightF a = 0 then Cou.wrongF a c else Cou.rightF a
set_option maxHeartbeats 1000000 in
theorem Reach_any (a : Cou.Ac) (vd vc : Value) (hdr : a.drawn < 2 ^ 64) (c : Cou.Ct) (w : World) (F : Nat → Prop) (hA : AcAt F w vd vc a) (hT : Tab64 w) (hg : 0 < w.heap.size) :
    Calls Tryd.prog 13 #[.agg #[vd, vc, .int .u64 a.drawn], .agg #[.int .i64 c.1, .int .i64 c.2]] w fun e w' => ∃ v l, e = .returned (.tuple #[v, .int .i64 (reachErr a c)]) ∧ SlCt (fun b => w.heap.size ≤ b) w' v l ∧ (reachErr a c ≠ 0 → l = []) ∧ (reachErr a c = 0 → Cou.Srt l ∧ ∀ t, t ∈ l ↔ Cou.Hop a [c] t) ∧ Below w.heap.size w w' := by
  obtain ⟨c1, c2⟩ := c
  obtain ⟨w1, hw1⟩ : ∃ w1 : World, (w.alloc (.cells #[vd, vc, .int .u64 a.drawn] 34)).alloc (.cells #[.int .i64 c1, .int .i64 c2] 28) = w1 := ⟨_, rfl⟩
  have x0 : w1.cell? ⟨w.heap.size, 0, none⟩ = some vd := by rw [← hw1]; simp [go_sem]
  have x1 : w1.cell? ⟨w.heap.size, 1, none⟩ = some vc := by rw [← hw1]; simp [go_sem]
  have x2 : w1.cell? ⟨w.heap.size, 2, none⟩ = some (.int .u64 a.drawn) := by rw [← hw1]; simp [go_sem]
  have y0 : w1.cell? ⟨w.heap.size + 1, 0, none⟩ = some (.int .i64 c1) := by rw [← hw1]; simp [go_sem]
  have y1 : w1.cell? ⟨w.heap.size + 1, 1, none⟩ = some (.int .i64 c2) := by rw [← hw1]; simp [go_sem]
  have B1 : Below w.heap.size w w1 := by rw [← hw1]; exact Ba (Ba (B0 w) _) _
  have l1 : w.heap.size + 1 < w1.heap.size := by rw [← hw1]; simp
  have l0 : w.heap.size < w1.heap.size := by omega
  have hF := hA.inW
  have HRT := Lib.hid (right_any a vd vc hdr w1 F (hA.onB hF B1))
  have HCT := Lib.hid (fun (hok : Cou.Ok a) W (hb : Below w.heap.size w W) => contact_any a hok vd vc (c1, c2) a.drawn W F (hA.onB hF hb))
  have hHRE : ∀ (_ : Cou.Ok a) (_ : CtS (c1, c2)) (W : World) (_ : Below w.heap.size w W), Calls Tryd.prog 38 #[.agg #[vd, vc, .int .u64 a.drawn], .slice (some ⟨W.heap.size, 0, none⟩) 1 1] (W.alloc (.cells #[.int .i64 c1, .int .i64 c2] 28)) fun e w' => ∃ v l, e = .returned v ∧ SlCt (fun b => w.heap.size ≤ b) w' v l ∧ Cou.Srt l ∧ (∀ t, t ∈ l ↔ Cou.Hop a [(c1, c2)] t) ∧ Below W.heap.size W w' := fun hok hs W hb => by
    have hb2 := Ba hb (.cells #[.int .i64 c1, .int .i64 c2] 28)
    have hA2 := hA.onB hF hb2
    have hP : SlCt (fun b => b < (W.alloc (.cells #[.int .i64 c1, .int .i64 c2] 28)).heap.size) (W.alloc (.cells #[.int .i64 c1, .int .i64 c2] 28)) (.slice (some ⟨W.heap.size, 0, none⟩) 1 1) [(c1, c2)] := by
      refine ⟨some ⟨W.heap.size, 0, none⟩, 1, rfl, by simp, by simp, fun i hi => ?_⟩
      have hi0 : i = 0 := by simpa using hi
      subst hi0
      exact ⟨⟨W.heap.size, 0, none⟩, [.int .i64 c1, .int .i64 c2], rfl, by simp, rfl, rfl, by simpa [Addr.add] using Flds.new W [.int .i64 c1, .int .i64 c2] 28⟩
    refine (reach_any a hok vd vc _ [(c1, c2)] (fun p hp => by simp only [List.mem_singleton] at hp; subst hp; exact hs) _ (fun b => b < (W.alloc (.cells #[.int .i64 c1, .int .i64 c2] 28)).heap.size) ⟨fun b h => h, hA2.dv.mono hA2.inW, hA2.cp.mono hA2.inW⟩ hP (hT.below hb2) (fun b h => h) (Nat.lt_of_lt_of_le hg hb2.size)).mono ?_
    rintro e w' ⟨v, l, rfl, q1, q2, q3, q4⟩
    exact ⟨v, l, rfl, q1.mono (fun b h => by have := hb.size; simp at h; show w.heap.size ≤ b; omega), q2, q3, Bt (Ba (B0 W) _) q4⟩
  have HRE := Lib.hid hHRE
  clear hHRE hA hT
  by_cases hr : Cou.rightF a = 0
  · have hok := Cou.right_ok hr
    by_cases hc : Cou.wrongF a (c1, c2) = 0
    · have he : reachErr a (c1, c2) = 0 := by unfold reachErr; rw [if_pos hr, hc]
      have hin : Cou.InA a (c1, c2) := by
        unfold Cou.wrongF at hc
        by_cases q : c1 < 0 ∨ (a.divs.length : Int) ≤ c1
        · rw [if_pos q] at hc; cases hc
        · rw [if_neg q] at hc
          refine ⟨by simp only; omega, by simp only; omega, ?_⟩
          cases hq : Cou.inB (a.divs.getD c1.toNat (0, -1)) c2 with
          | true => rfl
          | false => simp only [hq, cond_false] at hc; cases hc
      have hs := inA_small hok hin
      have HCT2 := Lib.hid (HCT.out hok)
      rw [hc] at HCT2
      have HRE2 := Lib.hid (HRE.out hok hs)
      have HE := Lib.hid he
      rw [hr] at HRT
      clear HCT HRE hs hin he hc hok hr
      go_enter Tryd.func13, Tryd.ntmps13
      go_wp2_with (first
        | (go_at_call 35; (with_reducible refine (HRT.out.mono ?_)); rintro e w2 ⟨rfl, hb2⟩; have x0' := (Bc hb2 l0).trans x0; have x1' := (Bc hb2 l0).trans x1; have x2' := (Bc hb2 l0).trans x2; have y0' := (Bc hb2 l1).trans y0; have y1' := (Bc hb2 l1).trans y1; have B2 := Bt B1 hb2; have l2 := Nat.lt_of_lt_of_le l1 hb2.size)
        | (go_at_call 37; (with_reducible refine ((HCT2.out _ B2).mono ?_)); rintro e w3 ⟨rfl, hb3⟩; have x0'' := (Bc hb3 (Nat.lt_of_succ_lt l2)).trans x0'; have x1'' := (Bc hb3 (Nat.lt_of_succ_lt l2)).trans x1'; have x2'' := (Bc hb3 (Nat.lt_of_succ_lt l2)).trans x2'; have y0'' := (Bc hb3 l2).trans y0'; have y1'' := (Bc hb3 l2).trans y1'; have B3 := Bt B2 hb3)
        | (go_at_call 38; (with_reducible refine ((HRE2.out _ B3).mono ?_)); rintro e w4 ⟨v, l, rfl, q1, q2, q3, q4⟩))
      refine bodyPost_ret (v := .tuple #[v, .int .i64 0]) ?_ rfl ?_
      · simp [results, Tryd.f13, go_sem]
      · exact ⟨v, l, by rw [HE.out], q1, fun h => absurd HE.out h, fun _ => ⟨q2, q3⟩, Bt B3 q4⟩
    · have he : reachErr a (c1, c2) = Cou.wrongF a (c1, c2) := by unfold reachErr; rw [if_pos hr]
      have HCT2 := Lib.hid (HCT.out hok)
      have HE := Lib.hid he
      have d1 : (Cou.wrongF a (c1, c2) != 0) = true := by simpa using hc
      have HN := Lib.hid (show reachErr a (c1, c2) ≠ 0 by rw [he]; exact hc)
      rw [hr] at HRT
      clear HCT HRE he hc hok hr
      go_enter Tryd.func13, Tryd.ntmps13
      go_wp2_with (first
        | (go_at_call 35; (with_reducible refine (HRT.out.mono ?_)); rintro e w2 ⟨rfl, hb2⟩; have x0' := (Bc hb2 l0).trans x0; have x1' := (Bc hb2 l0).trans x1; have x2' := (Bc hb2 l0).trans x2; have y0' := (Bc hb2 l1).trans y0; have y1' := (Bc hb2 l1).trans y1; have B2 := Bt B1 hb2; have l2 := Nat.lt_of_lt_of_le l1 hb2.size)
        | (go_at_call 37; (with_reducible refine ((HCT2.out _ B2).mono ?_)); rintro e w3 ⟨rfl, hb3⟩; have B3 := Bt B2 hb3))
      refine bodyPost_ret (v := .tuple #[.slice none 0 0, .int .i64 (Cou.wrongF a (c1, c2))]) ?_ rfl ?_
      · simp [results, Tryd.f13, go_sem]
      · exact ⟨_, [], by rw [HE.out], Sl.nil_, fun _ => rfl, fun h => absurd h HN.out, B3⟩
  · have he : reachErr a (c1, c2) = Cou.rightF a := by unfold reachErr; rw [if_neg hr]
    have HE := Lib.hid he
    have d1 : (Cou.rightF a != 0) = true := by simpa using hr
    have HN := Lib.hid (show reachErr a (c1, c2) ≠ 0 by rw [he]; exact hr)
    clear HCT HRE he hr
    go_enter Tryd.func13, Tryd.ntmps13
    go_wp2_with (first
      | (go_at_call 35; (with_reducible refine (HRT.out.mono ?_)); rintro e w2 ⟨rfl, hb2⟩; have B2 := Bt B1 hb2))
    refine bodyPost_ret (v := .tuple #[.slice none 0 0, .int .i64 (Cou.rightF a)]) ?_ rfl ?_
    · simp [results, Tryd.f13, go_sem]
    · exact ⟨_, [], by rw [HE.out], Sl.nil_, fun _ => rfl, fun h => absurd h HN.out, B2⟩
end Go.Proofs.YtnkjhppjjklgfaaDoor
