/- Walks over coupler: All. Walks over coupler: Sounding. -/
import Derived.Test.YtnkjhppjjklgfaaDoorOd
namespace Go.Proofs.YtnkjhppjjklgfaaDoor
open Go Go.RowKit Go.Shelf
namespace Nt
theorem mem_iff {x : Nat} (hx : x < 2 ^ 128) {k : Nat} : k ∈ mem x ↔ x.testBit k = true := by
  unfold mem
  rw [List.mem_append, List.mem_map]
  constructor
  · rintro (h | ⟨m, h, rfl⟩)
    · have := (Hit.mem_members.1 h).2
      rw [lo_test, Bool.and_eq_true] at this
      exact this.2
    · have := (Hit.mem_members.1 h).2
      rwa [hi_test] at this
  · intro h
    have hk : k < 128 := by
      rcases Nat.lt_or_ge k 128 with q | q
      · exact q
      · rw [Nat.testBit_lt_two_pow (Nat.lt_of_lt_of_le hx (Nat.pow_le_pow_right (by decide) q))] at h; cases h
    by_cases q : k < 64
    · exact .inl (Hit.mem_members.2 ⟨q, by rw [lo_test, h]; simp [q]⟩)
    · exact .inr ⟨k - 64, Hit.mem_members.2 ⟨by omega, by rw [hi_test, show 64 + (k - 64) = k by omega]; exact h⟩, by omega⟩
theorem mem_lt {x k : Nat} (hk : k ∈ mem x) : k < 128 := by
  unfold mem at hk
  rw [List.mem_append, List.mem_map] at hk
  rcases hk with h | ⟨m, h, rfl⟩
  · have := (Hit.mem_members.1 h).1; omega
  · have := (Hit.mem_members.1 h).1; omega
end Nt
namespace Cou
theorem mem_allL {c : Ct} : ∀ {l : List Nat} {d : Nat}, c ∈ allL d l ↔ ∃ i, i < l.length ∧ ∃ k ∈ Nt.mem (l.getD i 0), c = (((d + i : Nat) : Int), (k : Int))
  | [], d => by simp [allL]
  | x :: l, d => by
    rw [allL, List.mem_append, mem_allL]
    constructor
    · rintro (h | ⟨i, hi, k, hk, rfl⟩)
      · unfold oneL at h
        obtain ⟨k, hk, rfl⟩ := List.mem_map.1 h
        exact ⟨0, by simp, k, by simpa using hk, by simp⟩
      · exact ⟨i + 1, by simp; omega, k, by simpa using hk, by rw [show d + 1 + i = d + (i + 1) by omega]⟩
    · rintro ⟨i, hi, k, hk, rfl⟩
      cases i with
      | zero => exact .inl (List.mem_map.2 ⟨k, by simpa using hk, by simp⟩)
      | succ i => exact .inr ⟨i, by simp at hi; omega, k, by simpa using hk, by rw [show d + 1 + i = d + (i + 1) by omega]⟩
/-- The error of All. -/
def allErr (a : Ac) (ks : List Nat) : Int := if rightF a = 0 then (playedR a ks).2 else rightF a
end Cou
theorem SlCt.bnd {F : Nat → Prop} {w : World} {v : Value} {l : List Cou.Ct} (h : SlCt F w v l) : SlCt (fun b => b < w.heap.size) w v l := by
  obtain ⟨A, c, hv, hc, hl, hat⟩ := h
  refine ⟨A, c, hv, hc, hl, fun i hi => ?_⟩
  obtain ⟨ad, cs, e, hf, hk, hr, hfl⟩ := hat i hi
  refine ⟨ad, cs, e, ?_, hk, hr, hfl⟩
  have := World.block_lt_of_cell? _ _ (hfl 0 (cs[0]'(by omega)) (List.getElem?_eq_getElem _))
  rwa [block_of_add, block_of_add] at this
/-- What All answers. -/
def AllIs (a : Cou.Ac) (ks : List Nat) (B : Nat) (v : Value) (w : World) : Prop := (Cou.allErr a ks ≠ 0 → v = .slice none 0 0) ∧ (Cou.allErr a ks = 0 → ∃ kb M, v = .slice (some ⟨kb, 0, none⟩) a.divs.length a.divs.length ∧ B ≤ kb ∧ Blk w kb 70 (ntCs M).toArray ∧ M.length = a.divs.length ∧ (∀ x ∈ M, x < 2 ^ 128) ∧ ∀ d i, d < a.divs.length → ((M.getD d 0).testBit i = true ↔ Cou.Hop a (Cou.allL 0 ks) ((d : Int), (i : Int))))
set_option maxRecDepth 100000 in
set_option maxHeartbeats 4000000 in
theorem All_any (a : Cou.Ac) (vd vc pv : Value) (hdr : a.drawn < 2 ^ 64) (ks : List Nat) (hks : ∀ x ∈ ks, x < 2 ^ 128) (w : World) (F G : Nat → Prop) (hA : AcAt F w vd vc a) (hG : ∀ b, G b → b < w.heap.size) (hP : SlK G w pv ks) (hT : Tab64 w) (hg : 0 < w.heap.size) :
    Calls Tryd.prog 27 #[.agg #[vd, vc, .int .u64 a.drawn], pv] w fun e w' => ∃ v, e = .returned (.tuple #[v, .int .i64 (Cou.allErr a ks)]) ∧ AllIs a ks w.heap.size v w' ∧ Below w.heap.size w w' := by
  have hFF := hA.inW
  have hRT := fun W (hb : Below w.heap.size w W) => right_any a vd vc hdr W F (hA.onB hFF hb)
  have hPL := fun (hok : Cou.Ok a) W (hb : Below w.heap.size w W) => played_any a hok vd vc pv ks hks a.drawn W F G (hA.onB hFF hb) (fun b h => Nat.lt_of_lt_of_le (hG b h) hb.size) (SlK.keep hP (Agree.below hb hG)) (hT.below hb) (Nat.lt_of_lt_of_le hg hb.size)
  have hRE := fun (hok : Cou.Ok a) (p : Value) (pl : List Cou.Ct) (hpl : ∀ c ∈ pl, CtS c) W (hb : Below w.heap.size w W) (hS : SlCt (fun b => b < W.heap.size) W p pl) => reach_any a hok vd vc p pl hpl W (fun b => b < W.heap.size) ⟨fun b h => h, (hA.onB hFF hb).dv.mono (hA.onB hFF hb).inW, (hA.onB hFF hb).cp.mono (hA.onB hFF hb).inW⟩ hS (hT.below hb) (fun b h => h) (Nat.lt_of_lt_of_le hg hb.size)
  have hKE := fun (hok : Cou.Ok a) (p : Value) (l : List Cou.Ct) (hl : ∀ c ∈ l, Cou.InA a c) (hlen : l.length ≤ 100000) W (hb : Below w.heap.size w W) (hS : SlCt (fun b => b < W.heap.size) W p l) => keys_any a hok vd vc p l hl hlen a.drawn W F (fun b => b < W.heap.size) (hA.onB hFF hb) (fun b h => h) hS
  obtain ⟨Ad, cd, rfl, _, _⟩ := id hA.dv.open
  obtain ⟨Ac, cc, rfl, _, _⟩ := id hA.cp.open
  obtain ⟨Ap, cp, rfl, _, _⟩ := id hP
  obtain ⟨B, hBB⟩ : ∃ B, w.heap.size = B := ⟨_, rfl⟩
  obtain ⟨w1, hw1⟩ : ∃ w1 : World, w.alloc (.cells #[.slice Ad a.divs.length cd, .slice Ac a.cps.length cc, .int .u64 a.drawn] 34) = w1 := ⟨_, rfl⟩
  have AB : Blk w1 B 34 #[.slice Ad a.divs.length cd, .slice Ac a.cps.length cc, .int .u64 a.drawn] := by rw [← hw1, ← hBB]; exact Blk.new _ _ _
  have B1 : Below w.heap.size w w1 := by rw [← hw1]; exact Ba (B0 w) _
  have HW1 := Lib.hid hw1
  have HBB := Lib.hid hBB
  have HAB := Lib.hid AB
  have HB1 := Lib.hid B1
  have HX := Lib.hid (fun W (hb : Below w1.heap.size w1 W) => (show W.cell? ⟨B, 0, none⟩ = some (.slice Ad a.divs.length cd) ∧ W.cell? ⟨B, 1, none⟩ = some (.slice Ac a.cps.length cc) ∧ W.cell? ⟨B, 2, none⟩ = some (.int .u64 a.drawn) from
    ⟨(Bc hb AB.lt).trans (AB.cell 0), (Bc hb AB.lt).trans (AB.cell 1), (Bc hb AB.lt).trans (AB.cell 2)⟩))
  have HRT := Lib.hid hRT
  have HPL := Lib.hid hPL
  have HRE := Lib.hid hRE
  have HKE := Lib.hid hKE
  clear hRT hPL hRE hKE hw1 AB B1 hA hP hT hBB
  by_cases hr : Cou.rightF a = 0
  · have hok := Cou.right_ok hr
    have HRT1 := Lib.hid (HRT.out w1 HB1.out)
    rw [hr] at HRT1
    have HE : Hid (Cou.allErr a ks = (Cou.playedR a ks).2) := Lib.hid (by unfold Cou.allErr; rw [if_pos hr])
    obtain ⟨pl, er, hpr⟩ : ∃ pl er, Cou.playedR a ks = (pl, er) := ⟨_, _, rfl⟩
    by_cases he : er = 0
    · subst he
      have hcase : ks.length = a.divs.length ∧ pl = Cou.allL 0 ks := by
        unfold Cou.playedR at hpr
        by_cases q : ks.length = a.divs.length
        · rw [if_pos q] at hpr
          by_cases q2 : Cou.okAll a ks = true
          · rw [if_pos q2] at hpr
            exact ⟨q, (congrArg Prod.fst hpr).symm⟩
          · rw [if_neg q2] at hpr
            have := congrArg Prod.snd hpr
            cases this
        · rw [if_neg q] at hpr
          have := congrArg Prod.snd hpr
          cases this
      obtain ⟨hkl, rfl⟩ := hcase
      have hsm : ∀ c ∈ Cou.allL 0 ks, CtS c := fun c hc => by
        obtain ⟨i, hi, k, hk, rfl⟩ := Cou.mem_allL.1 hc
        have := Nt.mem_lt hk
        have := hok.nd
        unfold CtS
        dsimp only
        omega
      have hPL1 := fun W (hb : Below w.heap.size w W) => HPL.out hok W hb
      rw [hpr] at hPL1
      have HPL1 := Lib.hid hPL1
      have HRE1 := Lib.hid (fun p W hb hS => HRE.out hok p (Cou.allL 0 ks) hsm W hb hS)
      have HKE1 := Lib.hid (fun p l hl hlen W hb hS => HKE.out hok p l hl hlen W hb hS)
      have HOK := Lib.hid hok
      have HPR := Lib.hid hpr
      obtain ⟨n, hn⟩ : ∃ n, a.divs.length = n := ⟨_, rfl⟩
      have HN := Lib.hid hn
      clear hPL1 hsm hok hr HPL HRE HKE HRT hkl hpr hn
      go_enter Tryd.func27, Tryd.ntmps27
      go_upto_region 1 with fail
      rw [HW1.out, HBB.out]
      obtain ⟨x0, x1, x2⟩ := HX.out w1 (B0 w1)
      go_upto_region 7 with (first
        | (go_at_call 35; (with_reducible refine (HRT1.out.mono ?_)); rintro e w2 ⟨rfl, hb2⟩; have HB2 := Lib.hid hb2; obtain ⟨y0, y1, y2⟩ := HX.out w2 hb2; clear hb2)
        | (go_at_call 50; (with_reducible refine ((HPL1.out _ (Bt HB1.out HB2.out)).mono ?_)); rintro e w3 ⟨v3, rfl, hs3, hb3⟩; have HB3 := Lib.hid (Bt HB2.out hb3); have HS3 := Lib.hid (SlCt.bnd hs3); obtain ⟨z0, z1, z2⟩ := HX.out w3 (Bt HB2.out hb3); clear hb3 hs3))
      clear x0 x1 x2 y0 y1 y2
      have HR3 := Lib.hid (HRE1.out v3 w3.drew (Bt HB1.out HB3.out).drew (show SlCt (fun b => b < w3.drew.heap.size) w3.drew v3 _ from HS3.out))
      go_region_with (first
        | (go_at_call 38; (with_reducible refine (HR3.out.mono ?_)); rintro e w4 ⟨v4, l4, rfl, hs4, ho4, hm4, hb4⟩; have HB4 := Lib.hid (Bt HB3.out (show Below w3.heap.size w3 w4 from (B0 w3).drew.trans hb4)); obtain ⟨t0, t1, t2⟩ := HX.out w4 HB4.out; have HS4 := Lib.hid (SlCt.bnd hs4); have HO4 := Lib.hid ho4; have HM4 := Lib.hid hm4; clear hs4 ho4 hm4 hb4)
        | (go_at_call 51; (with_reducible refine ((HKE1.out _ l4 (fun c hc => ((HM4.out c).1 hc).in_ HOK.out) (Nat.le_trans (Cou.cts_short HOK.out HO4.out.nodup fun c hc => ((HM4.out c).1 hc).in_ HOK.out) (by decide)) _ (Bt HB1.out HB4.out) HS4.out).mono ?_)); rintro e w5 ⟨kb, rfl, hkb, hK5, hb5⟩; have HB5 := Lib.hid (Bt HB4.out hb5); have HK5 := Lib.hid hK5; have HKB := Lib.hid hkb; clear hK5 hb5 hkb))
      all_goals
        go_wp2_with fail
        go_ret2
        refine ⟨.slice (some ⟨kb, 0, none⟩) a.divs.length a.divs.length, by rw [HE.out, HPR.out, HN.out]; rfl, ⟨fun h => absurd (by rw [HE.out, HPR.out]) h, fun _ => ⟨kb, _, rfl, Nat.le_trans (Bt HB1.out HB4.out).size HKB.out, HK5.out, Cou.keysOf_len _ _, Cou.keysOf_lt fun c hc => (((HM4.out c).1 hc).in_ HOK.out).key HOK.out |>.2.2, fun d i hd => ?_⟩⟩, Bt HB1.out HB5.out⟩
        rw [Cou.keysOf_test (fun c hc => ?_) hd]
        · exact HM4.out _
        · have h1 := ((HM4.out c).1 hc).in_ HOK.out
          have h2 := h1.key HOK.out
          exact ⟨h1.1, h1.2.1, h2.2.2.1⟩
    · have HPR := Lib.hid hpr
      have hPL1 := fun W (hb : Below w.heap.size w W) => HPL.out hok W hb
      rw [hpr] at hPL1
      have HPL1 := Lib.hid hPL1
      have d1 : (er != 0) = true := by simpa using he
      have HER := Lib.hid he
      clear hPL1 hok hr HPL HRE HKE HRT hpr he
      go_enter Tryd.func27, Tryd.ntmps27
      go_upto_region 1 with fail
      rw [HW1.out, HBB.out]
      obtain ⟨x0, x1, x2⟩ := HX.out w1 (B0 w1)
      go_wp2_with (first
        | (go_at_call 35; (with_reducible refine (HRT1.out.mono ?_)); rintro e w2 ⟨rfl, hb2⟩; have HB2 := Lib.hid hb2; obtain ⟨y0, y1, y2⟩ := HX.out w2 hb2; clear hb2)
        | (go_at_call 50; (with_reducible refine ((HPL1.out _ (Bt HB1.out HB2.out)).mono ?_)); rintro e w3 ⟨v3, rfl, hs3, hb3⟩; have HB3 := Lib.hid (Bt HB2.out hb3); clear hb3 hs3))
      go_ret2
      exact ⟨_, by rw [HE.out, HPR.out]; rfl, ⟨fun _ => rfl, fun h => absurd (by rw [HE.out, HPR.out] at h; exact h) HER.out⟩, Bt HB1.out HB3.out⟩
  · have HRT1 := Lib.hid (HRT.out w1 HB1.out)
    have HE : Hid (Cou.allErr a ks = Cou.rightF a) := Lib.hid (by unfold Cou.allErr; rw [if_neg hr])
    have d1 : (Cou.rightF a != 0) = true := by simpa using hr
    have HER := Lib.hid hr
    clear HPL HRE HKE HRT hr
    generalize Cou.rightF a = er at *
    go_enter Tryd.func27, Tryd.ntmps27
    go_upto_region 1 with fail
    rw [HW1.out, HBB.out]
    obtain ⟨x0, x1, x2⟩ := HX.out w1 (B0 w1)
    go_wp2_with (go_at_call 35; (with_reducible refine (HRT1.out.mono ?_)); rintro e w2 ⟨rfl, hb2⟩; have HB2 := Lib.hid hb2; obtain ⟨y0, y1, y2⟩ := HX.out w2 hb2; clear hb2)
    go_ret2
    exact ⟨_, by rw [HE.out]; rfl, ⟨fun _ => rfl, fun h => absurd (by rw [HE.out] at h; exact h) HER.out⟩, Bt HB1.out HB2.out⟩
end Go.Proofs.YtnkjhppjjklgfaaDoor
namespace Go.Proofs.YtnkjhppjjklgfaaDoor
open Go Go.RowKit Go.Shelf
/-- A made slice of sets of notes, new, that says P. -/
def KeysIs (n : Nat) (P : Nat → Nat → Prop) (B : Nat) (v : Value) (w : World) : Prop := ∃ kb M, v = .slice (some ⟨kb, 0, none⟩) n n ∧ B ≤ kb ∧ Blk w kb 70 (ntCs M).toArray ∧ M.length = n ∧ (∀ x ∈ M, x < 2 ^ 128) ∧ ∀ d i, d < n → ((M.getD d 0).testBit i = true ↔ P d i)
namespace Cou
/-- The error of Sounding. -/
def soundErr (a : Ac) (ks : List Nat) (off : Nat) : Int := if allErr a ks = 0 then (if off >>> a.divs.length = 0 then 0 else 3) else allErr a ks
theorem playedR_ok {a : Ac} {ks : List Nat} (h : (playedR a ks).2 = 0) : ks.length = a.divs.length ∧ okAll a ks = true ∧ (playedR a ks).1 = allL 0 ks := by
  unfold playedR at *
  by_cases q : ks.length = a.divs.length
  · rw [if_pos q] at h ⊢
    by_cases q2 : okAll a ks = true
    · rw [if_pos q2]
      exact ⟨q, q2, rfl⟩
    · rw [if_neg q2] at h
      cases h
  · rw [if_neg q] at h
    cases h
theorem allErr_ok {a : Ac} {ks : List Nat} (h : allErr a ks = 0) : rightF a = 0 ∧ ks.length = a.divs.length ∧ okAll a ks = true := by
  unfold allErr at h
  by_cases q : rightF a = 0
  · rw [if_pos q] at h
    exact ⟨q, (playedR_ok h).1, (playedR_ok h).2.1⟩
  · rw [if_neg q] at h
    exact absurd h q
/-- What Sounding says. -/
def Snd (a : Ac) (ks : List Nat) (off : Nat) (d i : Nat) : Prop := Hop a (allL 0 ks) ((d : Int), (i : Int)) ∨ (off.testBit d = false ∧ (ks.getD d 0).testBit i = true)
theorem set_getD {M : List Nat} {k : Nat} (x : Nat) (hk : k < M.length) (d : Nat) : (M.set k x).getD d 0 = if d = k then x else M.getD d 0 := by
  rw [List.getD_eq_getElem?_getD, List.getD_eq_getElem?_getD]
  by_cases e : d = k
  · subst e
    rw [List.getElem?_set_self hk, if_pos rfl]; rfl
  · rw [List.getElem?_set_ne (fun q => e q.symm), if_neg e]
theorem snd_step {n k : Nat} {M ks : List Nat} {off : Nat} {H : Nat → Nat → Prop} (hk : k < n) (hM : M.length = n) (hlt : ∀ x ∈ M, x < 2 ^ 128) (hx : ks.getD k 0 < 2 ^ 128) (ht : ∀ d i, d < n → ((M.getD d 0).testBit i = true ↔ H d i ∨ (d < k ∧ off.testBit d = false ∧ (ks.getD d 0).testBit i = true))) (hb : off.testBit k = false) :
    (M.set k (M.getD k 0 ||| ks.getD k 0)).length = n ∧ (∀ x ∈ M.set k (M.getD k 0 ||| ks.getD k 0), x < 2 ^ 128) ∧ ∀ d i, d < n → (((M.set k (M.getD k 0 ||| ks.getD k 0)).getD d 0).testBit i = true ↔ H d i ∨ (d < k + 1 ∧ off.testBit d = false ∧ (ks.getD d 0).testBit i = true)) := by
  refine ⟨by simpa using hM, fun x h => ?_, fun d i hd => ?_⟩
  · rcases List.mem_or_eq_of_mem_set h with h1 | rfl
    · exact hlt x h1
    · refine Nat.or_lt_two_pow ?_ hx
      rw [List.getD_eq_getElem?_getD, List.getElem?_eq_getElem (by omega)]
      exact hlt _ (List.getElem_mem _)
  · rw [set_getD _ (by omega)]
    by_cases e : d = k
    · subst e
      rw [if_pos rfl, Nat.testBit_or, Bool.or_eq_true, ht d i hd]
      constructor
      · rintro ((h | h) | h)
        · exact .inl h
        · omega
        · exact .inr ⟨by omega, hb, h⟩
      · rintro (h | ⟨_, _, h⟩)
        · exact .inl (.inl h)
        · exact .inr h
    · rw [if_neg e, ht d i hd]
      constructor
      · rintro (h | ⟨h1, h2⟩)
        · exact .inl h
        · exact .inr ⟨by omega, h2⟩
      · rintro (h | ⟨h1, h2⟩)
        · exact .inl h
        · exact .inr ⟨by omega, h2⟩
theorem snd_skip {n k : Nat} {M ks : List Nat} {off : Nat} {H : Nat → Nat → Prop} (ht : ∀ d i, d < n → ((M.getD d 0).testBit i = true ↔ H d i ∨ (d < k ∧ off.testBit d = false ∧ (ks.getD d 0).testBit i = true))) (hb : off.testBit k = true) :
    ∀ d i, d < n → ((M.getD d 0).testBit i = true ↔ H d i ∨ (d < k + 1 ∧ off.testBit d = false ∧ (ks.getD d 0).testBit i = true)) := fun d i hd => by
  rw [ht d i hd]
  constructor
  · rintro (h | ⟨h1, h2⟩)
    · exact .inl h
    · exact .inr ⟨by omega, h2⟩
  · rintro (h | ⟨h1, h2, h3⟩)
    · exact .inl h
    · refine .inr ⟨?_, h2, h3⟩
      rcases Nat.lt_or_ge d k with q | q
      · exact q
      · obtain rfl : d = k := by omega
        rw [hb] at h2
        cases h2
end Cou
/-- What Sounding answers. -/
def SndIs (a : Cou.Ac) (ks : List Nat) (off : Nat) (B : Nat) (v : Value) (w : World) : Prop := (Cou.soundErr a ks off ≠ 0 → v = .slice none 0 0) ∧ (Cou.soundErr a ks off = 0 → KeysIs a.divs.length (Cou.Snd a ks off) B v w)
theorem off_bit (off d : Nat) (ho : off < 2 ^ 64) (_hd : d < 64) : (bits .and .u64 (((off >>> d : Nat) : Int)) 1 == 0) = !off.testBit d := by
  have hle : off >>> d ≤ off := by rw [Nat.shiftRight_eq_div_pow]; exact Nat.div_le_self _ _
  have hand : bits .and .u64 ((off >>> d : Nat) : Int) 1 = ((off >>> d &&& 1 : Nat) : Int) := Hit.u64_and (off >>> d) 1 (by omega) (by omega)
  rw [hand, Nat.testBit_eq_decide_div_mod_eq, Nat.and_one_is_mod, Nat.shiftRight_eq_div_pow]
  by_cases h : off / 2 ^ d % 2 = 1
  · rw [h]; rfl
  · have : off / 2 ^ d % 2 = 0 := by omega
    rw [this]; rfl
set_option maxRecDepth 100000 in
set_option maxHeartbeats 4000000 in
theorem Sounding_any (a : Cou.Ac) (vd vc pv : Value) (hdr : a.drawn < 2 ^ 64) (ks : List Nat) (hks : ∀ x ∈ ks, x < 2 ^ 128) (off : Nat) (hoff : off < 2 ^ 64) (w : World) (F G : Nat → Prop) (hA : AcAt F w vd vc a) (hG : ∀ b, G b → b < w.heap.size) (hP : SlK G w pv ks) (hT : Tab64 w) (hg : 0 < w.heap.size) :
    Calls Tryd.prog 24 #[.agg #[vd, vc, .int .u64 a.drawn], pv, .int .u64 off] w fun e w' => ∃ v, e = .returned (.tuple #[v, .int .i64 (Cou.soundErr a ks off)]) ∧ SndIs a ks off w.heap.size v w' ∧ Below w.heap.size w w' := by
  have hFF := hA.inW
  have hAL := fun W (hb : Below w.heap.size w W) => All_any a vd vc pv hdr ks hks W F G (hA.onB hFF hb) (fun b h => Nat.lt_of_lt_of_le (hG b h) hb.size) (SlK.keep hP (Agree.below hb hG)) (hT.below hb) (Nat.lt_of_lt_of_le hg hb.size)
  obtain ⟨Ad, cd, rfl, _, _⟩ := id hA.dv.open
  obtain ⟨Ac, cc, rfl, _, _⟩ := id hA.cp.open
  obtain ⟨Ap, cp, rfl, _, _, hap⟩ := id hP.open
  obtain ⟨B, hBB⟩ : ∃ B, w.heap.size = B := ⟨_, rfl⟩
  obtain ⟨w1, hw1⟩ : ∃ w1 : World, w.alloc (.cells #[.slice Ad a.divs.length cd, .slice Ac a.cps.length cc, .int .u64 a.drawn] 34) = w1 := ⟨_, rfl⟩
  have AB : Blk w1 B 34 #[.slice Ad a.divs.length cd, .slice Ac a.cps.length cc, .int .u64 a.drawn] := by rw [← hw1, ← hBB]; exact Blk.new _ _ _
  have B1 : Below w.heap.size w w1 := by rw [← hw1]; exact Ba (B0 w) _
  have HAL := Lib.hid (hAL w1 B1)
  have HW1 := Lib.hid hw1
  have HBB := Lib.hid hBB
  have HB1 := Lib.hid B1
  have HX := Lib.hid (fun W (hb : Below w1.heap.size w1 W) => (show W.cell? ⟨B, 0, none⟩ = some (.slice Ad a.divs.length cd) ∧ W.cell? ⟨B, 1, none⟩ = some (.slice Ac a.cps.length cc) ∧ W.cell? ⟨B, 2, none⟩ = some (.int .u64 a.drawn) from
    ⟨(Bc hb AB.lt).trans (AB.cell 0), (Bc hb AB.lt).trans (AB.cell 1), (Bc hb AB.lt).trans (AB.cell 2)⟩))
  have s1 := B1.size
  have HAP := Lib.hid hap
  clear hAL hw1 AB B1 hA hP hT hBB hap
  by_cases he : Cou.allErr a ks = 0
  · have hlen := (Cou.allErr_ok he).2.1
    have hok := Cou.right_ok (Cou.allErr_ok he).1
    obtain ⟨n, hn⟩ : ∃ n, a.divs.length = n := ⟨_, rfl⟩
    have hn8 : n ≤ 8 := by rw [← hn]; exact hok.nd
    have hkn : ks.length = n := by omega
    have hsh := shr_of off n (by omega)
    rw [he] at HAL
    have HKN := Lib.hid hkn
    have HN := Lib.hid hn
    have HE := Lib.hid he
    have hs4 : ∀ v w', AllIs a ks w1.heap.size v w' → ∃ kb M, v = .slice (some ⟨kb, 0, none⟩) n n ∧ w1.heap.size ≤ kb ∧ Blk w' kb 70 (ntCs M).toArray ∧ M.length = n ∧ (∀ x ∈ M, x < 2 ^ 128) ∧ ∀ d i, d < n → ((M.getD d 0).testBit i = true ↔ Cou.Hop a (Cou.allL 0 ks) ((d : Int), (i : Int))) := fun v w' h => by
      have h2 := h.2 he
      rw [hn] at h2
      exact h2
    rw [hn] at HX HW1 HAL
    rw [hkn] at HAL ⊢
    rw [hn]
    clear hkn hn hlen hok he
    by_cases h0 : off >>> n = 0
    · have HZ : Hid (Cou.soundErr a ks off = 0) := Lib.hid (by unfold Cou.soundErr; rw [if_pos HE.out, HN.out, if_pos h0])
      have d1 : ((off : Int) / 2 ^ n != 0) = false := by rw [hsh, h0]; rfl
      have hm : min n 64 = n := by omega
      clear hsh h0
      go_enter Tryd.func24, Tryd.ntmps24
      go_upto_region 1 with fail
      rw [HW1.out, HBB.out]
      obtain ⟨x0, x1, x2⟩ := HX.out w1 (B0 w1)
      go_wp2_with (go_at_call 27; (with_reducible refine (HAL.out.mono ?_)); rintro e w2 ⟨v2, rfl, hs2, hb2⟩; obtain ⟨kb, M, rfl, hkb, hK2, hM2, hlt2, hte2⟩ := hs4 _ _ hs2; have HB2 := Lib.hid hb2; obtain ⟨y0, y1, y2⟩ := HX.out w2 hb2; have HK2 := Lib.hid hK2; have HM2 := Lib.hid (And.intro hM2 (And.intro hlt2 hte2)); clear hb2 hs2 hK2 hM2 hlt2 hte2)
      clear y0 y1 y2 hm d1
      go_loopw [29] (fun s29 wr => ∃ (k : Nat) (M' : List Nat), k ≤ n ∧ s29 = .int .i64 k ∧ Aside (Blk wr kb 70 (ntCs M').toArray) ∧ Aside (M'.length = n ∧ (∀ x ∈ M', x < 2 ^ 128) ∧ ∀ d i, d < n → ((M'.getD d 0).testBit i = true ↔ Cou.Hop a (Cou.allL 0 ks) ((d : Int), (i : Int)) ∨ (d < k ∧ off.testBit d = false ∧ (ks.getD d 0).testBit i = true))) ∧ Aside (Below w1.heap.size w1 wr)) (fun s29 _ => n - (intOf s29).toNat)
      case atStart => exact ⟨0, M, by omega, rfl, HK2.out, ⟨HM2.out.1, HM2.out.2.1, fun d i hd => by rw [HM2.out.2.2 d i hd]; simp⟩, HB2.out⟩
      case round =>
        obtain ⟨k, M', hk, rfl, hK, hM, hB⟩ := hrel
        replace hK : Blk wr kb 70 (ntCs M').toArray := hK
        replace hM : M'.length = n ∧ (∀ x ∈ M', x < 2 ^ 128) ∧ ∀ d i, d < n → ((M'.getD d 0).testBit i = true ↔ Cou.Hop a (Cou.allL 0 ks) ((d : Int), (i : Int)) ∨ (d < k ∧ off.testBit d = false ∧ (ks.getD d 0).testBit i = true)) := hM
        replace hB : Below w1.heap.size w1 wr := hB
        by_cases hlt : k < n
        · have hltI : (k : Int) < n := by omega
          have hk1 : k < ks.length := by rw [HKN.out]; exact hlt
          obtain ⟨ap, rfl, hfp, hflp⟩ := HAP.out k hk1
          have hpb : (ap.add (k * 2)).block < w.heap.size := by rw [block_of_add]; exact hG _ hfp
          have q := (hflp.below HB1.out hpb).below hB (Nat.lt_of_lt_of_le hpb HB1.out.size)
          have p0 := q.f0 rfl
          have p1 := q.f1 rfl
          have hgd : ks.getD k 0 = ks[k] := by rw [List.getD_eq_getElem?_getD, List.getElem?_eq_getElem hk1]; rfl
          have hxk : ks[k] < 2 ^ 128 := hks _ (List.getElem_mem hk1)
          have hkM : k < M'.length := by omega
          have hgM : M'.getD k 0 = M'[k] := by rw [List.getD_eq_getElem?_getD, List.getElem?_eq_getElem hkM]; rfl
          obtain ⟨y0, y1⟩ := ntCs_get hkM
          have hun : ∀ W, Calls Tryd.prog 31 #[ntV M'[k], ntV ks[k]] W fun e w' => e = .returned (ntV (M'[k] ||| ks[k])) ∧ Below W.heap.size W w' := fun W => union_any M'[k] ks[k] (hM.2.1 _ (List.getElem_mem hkM)) hxk W
          have hset := ntCs_set hkM (M'[k] ||| ks[k])
          have hst := fun (hb : off.testBit k = false) => Cou.snd_step (off := off) hlt hM.1 hM.2.1 (by rw [hgd]; exact hxk) hM.2.2 hb
          rw [hgM, hgd] at hst
          have hsk := fun (hb : off.testBit k = true) => Cou.snd_skip (off := off) hM.2.2 hb
          have hm : min k 64 = k := by omega
          have hsh := shr_of off k (by omega)
          have hle : off >>> k ≤ off := by rw [Nat.shiftRight_eq_div_pow]; exact Nat.div_le_self _ _
          have hand : bits .and .u64 ((off >>> k : Nat) : Int) 1 = ((off >>> k &&& 1 : Nat) : Int) := Hit.u64_and (off >>> k) 1 (by omega) (by omega)
          have hbit := off_bit off k hoff (by omega)
          rw [hand] at hbit
          have HY := Lib.hid (show (ntCs M').toArray[k * 2]? = some (.int .u64 ((Nt.lo M'[k] : Nat) : Int)) ∧ (ntCs M').toArray[k * 2 + 1]? = some (.int .u64 ((Nt.hi M'[k] : Nat) : Int)) from ⟨by rw [List.getElem?_toArray]; exact y0, by rw [List.getElem?_toArray]; exact y1⟩)
          have HUN := Lib.hid hun
          have HSL := Lib.hid hset
          have HST := Lib.hid hst
          have HSK := Lib.hid hsk
          have HK := Lib.hid hK
          have HM := Lib.hid hM
          have HB := Lib.hid hB
          have HKB := Lib.hid hkb
          clear hun hset hst hsk hK hM hB hle hgd hgM y0 y1 hflp q hxk hkb hks hoff
          generalize M'[k] ||| ks[k] = r at *
          generalize M'[k] = xm at *
          generalize ks[k] = xk at *
          generalize off >>> k &&& 1 = vb at *
          generalize off >>> k = vs at *
          clear hkM hk1
          unfold ntV at *
          go_upto_region 9 with fail
          obtain ⟨w3, hw3⟩ : ∃ w3 : World, wr.alloc (.cells #[.int .u64 ((Nt.lo xk : Nat) : Int), .int .u64 ((Nt.hi xk : Nat) : Int)] 70) = w3 := ⟨_, rfl⟩
          obtain ⟨b7, hb7⟩ : ∃ b7, wr.heap.size = b7 := ⟨_, rfl⟩
          have C7 : Blk w3 b7 70 #[.int .u64 ((Nt.lo xk : Nat) : Int), .int .u64 ((Nt.hi xk : Nat) : Int)] := by rw [← hw3, ← hb7]; exact Blk.new _ _ _
          have B3 : Below wr.heap.size wr w3 := by rw [← hw3]; exact Ba (B0 wr) _
          rw [hw3, hb7]
          have K3 := HK.out.below B3 HK.out.lt
          clear hw3 hb7 p0 p1
          have HB3 := Lib.hid B3
          have HK3 := Lib.hid K3
          cases hb : off.testBit k with
          | true =>
            rw [hb] at hbit
            replace hbit : ((vb : Int) == 0) = false := hbit
            have HM3 := Lib.hid (HSK.out hb)
            clear hb C7 B3 K3
            go_wp2_with fail
            go_roundw
            case rel => exact ⟨k + 1, M', by omega, by go_num, HK3.out, ⟨HM.out.1, HM.out.2.1, HM3.out⟩, Bt HB.out HB3.out⟩
            case measure => simp [intOf]; omega
          | false =>
            rw [hb] at hbit
            replace hbit : ((vb : Int) == 0) = true := hbit
            have HM3 := Lib.hid (HST.out hb)
            clear hb
            go_upto_region 10 with fail
            have d0 := C7.cell 0
            have d1 := C7.cell 1
            simp only [List.getElem?_toArray, List.getElem?_cons_zero, List.getElem?_cons_succ] at d0 d1
            have z0 := (K3.cell (k * 2)).trans HY.out.1
            have z1 := (K3.cell (k * 2 + 1)).trans HY.out.2
            clear C7 B3 K3 hbit hand hsh hm
            go_region_with (go_at_call 31; (with_reducible refine ((HUN.out _).mono ?_)); rintro e w8 ⟨rfl, hb8⟩; have K8 := HK3.out.drew.below hb8 HK3.out.lt; have f8 := K8.frozen; have z80 := (K8.cell (k * 2)).trans HY.out.1; have z81 := (K8.cell (k * 2 + 1)).trans HY.out.2; have HK8 := Lib.hid K8; have HB8 := Lib.hid hb8; clear K8 hb8)
            all_goals
              go_wp2_with fail
              go_roundw
              case rel =>
                refine ⟨k + 1, M'.set k r, by omega, by go_num, ?_, HM3.out, ?_⟩
                · show Blk _ kb _ _
                  rw [← HSL.out]
                  have := (HK8.out.set_ (k * 2) (.int .u64 ((Nt.lo r : Nat) : Int))).set_ (k * 2 + 1) (.int .u64 ((Nt.hi r : Nat) : Int))
                  simp only [List.setIfInBounds_toArray] at this
                  exact this
                · show Below _ _ _
                  have hs := HKB.out
                  exact Bs (Bs (Bt HB.out (Bt HB3.out ((B0 w3).drew.trans (HB8.out.mono (Nat.le_refl _))))) _ (by simp; omega)) _ (by simp; omega)
              case measure => simp [intOf]; omega
        · obtain rfl : k = n := by omega
          have HK := Lib.hid hK
          have HB := Lib.hid hB
          have HM := Lib.hid hM
          have HKB := Lib.hid hkb
          clear hK hB hM
          go_wp2_with fail
          go_ret2
          refine ⟨_, by rw [HZ.out]; rfl, ⟨fun h => absurd HZ.out h, fun _ => ?_⟩, Bt HB1.out HB.out⟩
          rw [HN.out]
          refine ⟨kb, M', rfl, Nat.le_trans HB1.out.size HKB.out, HK.out, HM.out.1, HM.out.2.1, fun d i hd => ?_⟩
          rw [HM.out.2.2 d i hd]
          unfold Cou.Snd
          constructor
          · rintro (h | ⟨_, h⟩)
            · exact .inl h
            · exact .inr h
          · rintro (h | h)
            · exact .inl h
            · exact .inr ⟨hd, h⟩
    · have HZ : Hid (Cou.soundErr a ks off = 3) := Lib.hid (by unfold Cou.soundErr; rw [if_pos HE.out, HN.out, if_neg h0])
      have d1 : ((off : Int) / 2 ^ n != 0) = true := by
        rw [hsh]
        generalize off >>> n = q at h0
        simp only [bne_iff_ne, ne_eq]
        omega
      have hm : min n 64 = n := by omega
      clear hsh h0
      go_enter Tryd.func24, Tryd.ntmps24
      go_upto_region 1 with fail
      rw [HW1.out, HBB.out]
      obtain ⟨x0, x1, x2⟩ := HX.out w1 (B0 w1)
      go_wp2_with (go_at_call 27; (with_reducible refine (HAL.out.mono ?_)); rintro e w2 ⟨v2, rfl, hs2, hb2⟩; have HB2 := Lib.hid hb2; obtain ⟨y0, y1, y2⟩ := HX.out w2 hb2; clear hb2 hs2)
      go_ret2
      exact ⟨_, by rw [HZ.out]; rfl, ⟨fun _ => rfl, fun h => absurd (HZ.out.symm.trans h) (by decide)⟩, Bt HB1.out HB2.out⟩
  · have HE : Hid (Cou.soundErr a ks off = Cou.allErr a ks) := Lib.hid (by unfold Cou.soundErr; rw [if_neg he])
    have d1 : (Cou.allErr a ks != 0) = true := by simpa using he
    have HER := Lib.hid he
    have hs3 : ∀ v w', AllIs a ks w1.heap.size v w' → v = .slice none 0 0 := fun v w' h => h.1 he
    clear he
    generalize Cou.allErr a ks = er at *
    go_enter Tryd.func24, Tryd.ntmps24
    go_upto_region 1 with fail
    rw [HW1.out, HBB.out]
    obtain ⟨x0, x1, x2⟩ := HX.out w1 (B0 w1)
    go_wp2_with (go_at_call 27; (with_reducible refine (HAL.out.mono ?_)); rintro e w2 ⟨v2, rfl, hs2, hb2⟩; obtain rfl := hs3 _ _ hs2; have HB2 := Lib.hid hb2; clear hb2 hs2)
    go_ret2
    exact ⟨_, by rw [HE.out]; rfl, ⟨fun _ => rfl, fun h => absurd (by rw [HE.out] at h; exact h) HER.out⟩, Bt HB1.out HB2.out⟩
end Go.Proofs.YtnkjhppjjklgfaaDoor
