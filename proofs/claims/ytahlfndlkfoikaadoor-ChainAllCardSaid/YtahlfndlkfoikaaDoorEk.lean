/- Walks over chain: Text. -/
import Derived.Test.YtahlfndlkfoikaaDoorEg
import Derived.Test.YtahlfndlkfoikaaDoorEj
namespace Go.Proofs.YtahlfndlkfoikaaDoor
open Go Go.RowKit Go.Shelf
namespace Cha
open Cou
theorem right_name {a : Ac} (h : rightF a = 0) (i : Nat) (hi : i < a.cps.length) : Cou.nameF a.cps[i].name = true := by
  unfold rightF at h
  split at h
  · rename_i hc
    unfold checkF at hc
    split at hc
    · cases hc
    · split at hc
      · have := goF_ok a.cps.length (Nat.le_refl _) hc i hi (by omega)
        unfold oneF at this
        split at this
        · cases this
        · rename_i hn
          simpa using hn
      · cases hc
  · rename_i q; exact absurd h q
theorem right_short {a : Ac} (h : rightF a = 0) (i : Nat) (hi : i < a.cps.length) : a.cps[i].name.size ≤ 40 := by
  have := of_decide_eq_true (right_name h i hi)
  exact Nat.le_trans this.2.1 (by decide)
theorem badF_ok {a : Ac} {f : Bool} {c : Ct} {out : List Ct} {i : Int} (h : badF a f c out i = 0) : 0 ≤ i ∧ i < a.cps.length ∧ ∃ t, stepF a i.toNat c = some t ∧ toF a c i = t ∧ t ∉ out := by
  unfold badF at h
  split at h
  · cases h
  · rename_i h1
    split at h
    · cases h
    · split at h
      · cases h
      · split at h
        · cases h
        · rename_i t ht
          split at h
          · cases h
          · rename_i hn
            exact ⟨by omega, by omega, t, ht, by unfold toF; rw [ht]; rfl, hn⟩
theorem folF_in {a : Ac} (hok : Ok a) : ∀ (l : List Int) (f : Bool) (c : Ct) (out : List Ct), (∀ t ∈ out, InA a t) → (folF a f c out l).1 = 0 → (∀ t ∈ (folF a f c out l).2, InA a t) ∧ ∀ i ∈ l, 0 ≤ i ∧ i < a.cps.length
  | [], _, _, _, ho, _ => ⟨ho, by simp⟩
  | i :: l, f, c, out, ho, h => by
    unfold folF at h ⊢
    split at h
    · rename_i hb
      rw [if_pos hb]
      obtain ⟨h0, h1, t, ht, hto, _⟩ := badF_ok hb
      obtain ⟨r1, r2⟩ := folF_in hok l false _ _ (fun u hu => by
        rcases List.mem_append.1 hu with e | e
        · exact ho u e
        · simp only [List.mem_singleton] at e
          subst e
          rw [hto]
          exact stepF_in hok ht) h
      exact ⟨r1, fun j hj => by
        rcases List.mem_cons.1 hj with e | e
        · subst e; exact ⟨h0, h1⟩
        · exact r2 j e⟩
    · rename_i hb
      exact absurd h hb
/-- What folR says where there is no error. -/
theorem folR_ok {a : Ac} {key : Ct} {cs : List Int} (h : (folR a key cs).1 = 0) : rightF a = 0 ∧ InA a key ∧ (folR a key cs).2.length = cs.length ∧ (∀ t ∈ (folR a key cs).2, InA a t) ∧ ∀ i ∈ cs, 0 ≤ i ∧ i < a.cps.length := by
  unfold folR at h ⊢
  split at h
  · rename_i hb
    rw [if_pos hb]
    have hr : rightF a = 0 := by
      unfold beginF at hb
      split at hb
      · assumption
      · rename_i q; exact absurd hb q
    obtain ⟨hok, hin⟩ := begin_one hb
    unfold followF at h ⊢
    split at h
    · cases h
    · rename_i hne
      rw [if_neg hne]
      obtain ⟨r1, r2⟩ := folF_in hok cs true key [] (by simp) h
      exact ⟨hr, hin, by rw [folF_len a cs true key [] h]; simp, r1, r2⟩
  · rename_i hb; exact absurd h hb
theorem folR_bad {a : Ac} {key : Ct} {cs : List Int} (h : (folR a key cs).1 ≠ 0) : (folR a key cs).2 = [] := by
  unfold folR at h ⊢
  split at h
  · rename_i hb
    rw [if_pos hb]
    unfold followF at h ⊢
    split
    · rfl
    · rename_i hne
      rw [if_neg hne] at h
      exact folF_bad a cs true key [] h
  · rename_i hb
    rw [if_neg hb]
/-- The text behind what is there already. -/
def texF (a : Ac) : List Int → List Ct → ByteArray → ByteArray
  | i :: is, c :: l, s => texF a is l (s ++ ((((⟨#[32]⟩ : ByteArray) ++ ((a.cps[i.toNat]?).elim ⟨#[]⟩ (·.name))) ++ (⟨#[32]⟩ : ByteArray)) ++ nameF c.2.toNat))
  | _, _, s => s
/-- What Text answers. -/
def textR (a : Ac) (key : Ct) (cs : List Int) : Int × ByteArray := if (folR a key cs).1 = 0 then (0, texF a cs (folR a key cs).2 (nameF key.2.toNat)) else ((folR a key cs).1, ⟨#[]⟩)
theorem nameF_short (k : Nat) (h : k ≤ 127) : (nameF k).size ≤ 4 := by
  have : ∀ k : Fin 128, (nameF k.val).size ≤ 4 := by decide +kernel
  exact this ⟨k, by omega⟩
end Cha
set_option maxRecDepth 100000 in
set_option maxHeartbeats 4000000 in
theorem Text_any (a : Cou.Ac) (vd vc : Value) (hdr : a.drawn < 2 ^ 64) (key : Cou.Ct) (cv : Value) (cs : List Int) (w : World) (F : Nat → Prop) (hA : AcAt F w vd vc a) (hC : SlI F w cv cs) (hcl : cs.length ≤ 100000) (hT : TabP w) :
    Calls Tryd.prog 15 #[.agg #[vd, vc, .int .u64 a.drawn], .agg #[.int .i64 key.1, .int .i64 key.2], cv] w fun e w' => e = .returned (.tuple #[.string (Cha.textR a key cs).2, .int .i64 (Cha.textR a key cs).1]) ∧ Below w.heap.size w w' := by
  obtain ⟨Ad, cd, hvd, -, -⟩ := id hA.dv.open
  obtain ⟨Ac, cc, hvc, -, hac⟩ := id hA.cp.open
  subst hvd hvc
  obtain ⟨Av, cc2, rfl, -, -, hat⟩ := hC.open
  have hF := hA.inW
  obtain ⟨dl, hdl⟩ : ∃ dl, a.divs.length = dl := ⟨_, rfl⟩
  obtain ⟨cl, hcl2⟩ : ∃ cl, a.cps.length = cl := ⟨_, rfl⟩
  obtain ⟨n, hn⟩ : ∃ n, cs.length = n := ⟨_, rfl⟩
  have HCL := Lib.hid hcl2
  have HN := Lib.hid hn
  rw [hdl, hcl2] at hA
  have hCn := hC
  rw [hn] at hCn
  rw [hdl, hcl2, hn]
  have HFO := Lib.hid (fun W (hb : Below w.heap.size w W) => Follow_any a (.slice Ad dl cd) (.slice Ac cl cc) hdr key (.slice Av n cc2) cs W F (hA.onB hF hb) (SlI.keep hCn (Agree.below hb hF)) hcl)
  have HNA := Lib.hid (fun W (hb : Below w.heap.size w W) k (hk : k ≤ 127) => Name_any k hk W (hT.below hb))
  have HAC := Lib.hid hac
  have HAT := Lib.hid hat
  have HF := Lib.hid hF
  rw [hn] at hcl
  obtain ⟨k1, k2⟩ := key
  obtain ⟨w1, hw1⟩ : ∃ w1 : World, (w.alloc (.cells #[.slice Ad dl cd, .slice Ac cl cc, .int .u64 a.drawn] 33)).alloc (.cells #[.int .i64 k1, .int .i64 k2] 36) = w1 := ⟨_, rfl⟩
  obtain ⟨bx, hbx⟩ : ∃ bx, w.heap.size = bx := ⟨_, rfl⟩
  obtain ⟨b1, hb1⟩ : ∃ b1, bx + 1 = b1 := ⟨_, rfl⟩
  have c0 : w1.cell? ⟨bx, 0, none⟩ = some (.slice Ad dl cd) := by rw [← hw1, ← hbx]; simp [go_sem]
  have c1 : w1.cell? ⟨bx, 1, none⟩ = some (.slice Ac cl cc) := by rw [← hw1, ← hbx]; simp [go_sem]
  have c2 : w1.cell? ⟨bx, 2, none⟩ = some (.int .u64 a.drawn) := by rw [← hw1, ← hbx]; simp [go_sem]
  have c3 : w1.cell? ⟨b1, 0, none⟩ = some (.int .i64 k1) := by rw [← hw1, ← hb1, ← hbx]; simp [go_sem]
  have c4 : w1.cell? ⟨b1, 1, none⟩ = some (.int .i64 k2) := by rw [← hw1, ← hb1, ← hbx]; simp [go_sem]
  have l1 : b1 < w1.heap.size := by rw [← hw1, ← hb1, ← hbx]; simp
  have B1 : Below w.heap.size w w1 := by rw [← hw1]; exact Ba (Ba (B0 w) _) _
  have HK := Lib.hid (fun W (hb : Below w1.heap.size w1 W) => (show (W.cell? ⟨bx, 0, none⟩ = some (.slice Ad dl cd) ∧ W.cell? ⟨bx, 1, none⟩ = some (.slice Ac cl cc) ∧ W.cell? ⟨bx, 2, none⟩ = some (.int .u64 a.drawn)) ∧ W.cell? ⟨b1, 0, none⟩ = some (.int .i64 k1) ∧ W.cell? ⟨b1, 1, none⟩ = some (.int .i64 k2) from
    ⟨⟨(Bc hb (by omega)).trans c0, (Bc hb (by omega)).trans c1, (Bc hb (by omega)).trans c2⟩, (Bc hb l1).trans c3, (Bc hb l1).trans c4⟩))
  have HB1 := Lib.hid B1
  have HW1 := Lib.hid hw1
  have HBX := Lib.hid hbx
  have HE1 := Lib.hid hb1
  have hfo := HFO.out w1 B1
  clear hA hC hCn hac hat hF B1 hw1 hbx hb1 l1 hdl hcl2 hn hdr hT HFO
  dsimp only
  by_cases hz : (Cha.folR a (k1, k2) cs).1 = 0
  · obtain ⟨hr, hin, hlen, hins, hidx⟩ := Cha.folR_ok hz
    have hok := Cou.right_ok hr
    have HSH := Lib.hid (fun i (hi : i < a.cps.length) => Cha.right_short hr i hi)
    have HZ : Hid (Cha.textR a (k1, k2) cs = (0, Cha.texF a cs (Cha.folR a (k1, k2) cs).2 (Cha.nameF k2.toNat))) := Lib.hid (by unfold Cha.textR; rw [if_pos hz])
    rw [hz] at hfo
    have hkk := hin.key hok
    dsimp only at hkk
    obtain ⟨kn, rfl⟩ : ∃ kn : Nat, k2 = kn := ⟨k2.toNat, by omega⟩
    have hkn : kn ≤ 127 := by omega
    rw [Int.toNat_natCast] at HZ
    obtain ⟨l, hl⟩ : ∃ l, (Cha.folR a (k1, (kn : Int)) cs).2 = l := ⟨_, rfl⟩
    rw [hl] at hfo hlen hins HZ
    rw [HN.out] at hlen
    have HLEN := Lib.hid hlen
    have HINS := Lib.hid (fun i (hi : i < l.length) => (hins l[i] (List.getElem_mem hi)).key hok)
    have HIDX := Lib.hid (fun i (hi : i < cs.length) => hidx cs[i] (List.getElem_mem hi))
    have HFO := Lib.hid hfo
    have HNK := Lib.hid (fun W hb => HNA.out W hb kn hkn)
    have hns := Cha.nameF_short kn hkn
    clear hfo hz hr hok hin hins hidx hlen hl hkk
    obtain ⟨S0, hS0⟩ : ∃ S0, Cha.nameF kn = S0 := ⟨_, rfl⟩
    rw [hS0] at HZ HNK hns
    clear hS0
    go_enter Tryd.func15, Tryd.ntmps15
    go_upto_region 1 with fail
    rw [HW1.out, HBX.out, HE1.out]
    go_wp2_with (first
      | (go_at_call 14; (with_reducible refine (HFO.out.mono ?_)); rintro e w2 ⟨v8, rfl, hS2, hb2⟩; have HS2 := Lib.hid hS2; (have hvs : ∃ A8 c8, v8 = .slice A8 n c8 := by obtain ⟨A8, c8, h, _⟩ := id hS2; rw [HLEN.out] at h; exact ⟨A8, c8, h⟩); obtain ⟨A8, c8, rfl⟩ := hvs; have HB2 := Lib.hid hb2; obtain ⟨⟨d0, d1, d2⟩, d3, d4⟩ := HK.out w2 hb2; clear hb2 hS2 c0 c1 c2 c3 c4)
      | (go_at_call 17; (with_reducible refine ((HNK.out _ (Bt HB1.out HB2.out)).mono ?_)); rintro e w3 ⟨rfl, hb3⟩; have HB3 := Lib.hid (Bt HB2.out hb3); have HS3 := Lib.hid (Sl.mono (SlCt.keep (SlCt.bnd3 HS2.out) (Agree.below hb3 fun b h => h)) fun b h => Nat.lt_of_lt_of_le h hb3.size); clear hb3 d0 d1 d2 d3 d4))
    have hdn : ((n : Nat) : Int) ≤ 100000 := by omega
    go_loopg [10, 36] n (fun gg s10 s36 wr => ∃ (k : Nat) (S : ByteArray), k ≤ n ∧ n - k ≤ gg ∧ s36 = .int .i64 k ∧ s10 = .string S ∧ Aside (S.size ≤ 4 + k * 60) ∧ Aside (Cha.texF a (cs.drop k) (l.drop k) S = Cha.texF a cs l S0) ∧ Aside (Below w3.heap.size w3 wr))
    case atStart => exact ⟨0, S0, by omega, by omega, rfl, rfl, (show Aside _ from by show _ ≤ _; omega), (show Aside _ from by show _ = _; rw [List.drop_zero, List.drop_zero]), B0 w3⟩
    case round =>
      obtain ⟨k, S, hk, hg, rfl, rfl, HS, HE, HB⟩ := hrel
      replace HS : S.size ≤ 4 + k * 60 := HS
      replace HE := Lib.hid HE
      replace HB := Lib.hid HB
      by_cases hlt : k < n
      · have hltI : (k : Int) < n := by omega
        have hk1 : k < l.length := by rw [HLEN.out]; exact hlt
        have hk2 : k < cs.length := by rw [HN.out]; exact hlt
        obtain ⟨A8', c8', e, _, _, h8⟩ := SlCt.open HS3.out
        injection e with e1 e2 e3
        subst e1; clear e2 e3
        obtain ⟨ad8, rfl, hb8, hfl8⟩ := h8 k hk1
        have hq := hfl8.below HB.out (by rw [block_of_add]; exact hb8)
        have q0 := hq.f0 rfl
        have q1 := hq.f1 rfl
        have hkey := HINS.out k hk1
        have hix := HIDX.out k hk2
        obtain ⟨ad, rfl, hfb, hfl⟩ := HAT.out k hk2
        have hfb2 : (ad.add k).block < w.heap.size := by rw [block_of_add]; exact HF.out _ hfb
        have HCE := Lib.hid (fun W (hb : Below w3.heap.size w3 W) => ((Bt HB1.out (Bt HB3.out hb)).cell (p := ad.add k) hfb2).trans hfl)
        have he := HE.out
        rw [List.drop_eq_getElem_cons hk2, List.drop_eq_getElem_cons hk1, Cha.texF] at he
        have HE2 := Lib.hid he
        clear he HE hfl8 hq hfl hfb hfb2 h8
        generalize cs[k] = i at *
        generalize l[k] = x at *
        obtain ⟨x1, x2⟩ := x
        dsimp only at q0 q1 hkey HE2
        obtain ⟨j, rfl⟩ : ∃ j : Nat, i = j := ⟨i.toNat, by omega⟩
        obtain ⟨m, rfl⟩ : ∃ m : Nat, x2 = m := ⟨x2.toNat, by omega⟩
        have hj : j < a.cps.length := by omega
        have hj2 : j < cl := by rw [← HCL.out]; exact hj
        have hj3 : (j : Int) < cl := by omega
        have hm : m ≤ 127 := by omega
        have hsn := HSH.out j hj
        obtain ⟨ad2, rfl, hfb, hfl⟩ := HAC.out j hj
        have hfb2 : (ad2.add (j * 5)).block < w.heap.size := by rw [block_of_add]; exact HF.out _ hfb
        have HCN := Lib.hid (fun W (hb : Below w3.heap.size w3 W) => ((Bt HB1.out (Bt HB3.out hb)).cell (p := ad2.add (j * 5)) hfb2).trans (hfl.f0 rfl))
        have he := HE2.out
        rw [Int.toNat_natCast, Int.toNat_natCast, List.getElem?_eq_getElem hj] at he
        simp only [Option.elim_some] at he
        have HE := Lib.hid he
        clear he HE2 hfl hfb hfb2 hkey hix
        generalize a.cps[j] = y at *
        obtain ⟨nm, fr, to_, sh, th⟩ := y
        dsimp only at hsn HCN HE
        have hns2 := Cha.nameF_short m hm
        have HNM := Lib.hid (fun W hb => HNA.out W hb m hm)
        obtain ⟨s2, hs2⟩ : ∃ s2, Cha.nameF m = s2 := ⟨_, rfl⟩
        rw [hs2] at hns2 HNM HE
        clear hs2 hj hk1 hk2
        obtain ⟨bw, hbw⟩ : ∃ bw, wr.heap.size = bw := ⟨_, rfl⟩
        obtain ⟨w4, hw4⟩ : ∃ w4 : World, wr.alloc (.cells #[.int .i64 x1, .int .i64 m] 36) = w4 := ⟨_, rfl⟩
        have B4 : Below wr.heap.size wr w4 := by rw [← hw4]; exact Ba (B0 wr) _
        have z1 : w4.cell? ⟨bw, 1, none⟩ = some (.int .i64 m) := by rw [← hw4, ← hbw]; simp [go_sem]
        have HB4 := Lib.hid (Bt HB.out B4)
        go_upto_region 10 with fail
        try rw [hw4]
        try rw [hbw]
        clear hw4 hbw B4 q0 q1
        have g1 : ¬ (9223372036854775807 < 1 + nm.size) := by omega
        have g2 : ¬ (9223372036854775807 < 1 + nm.size + 1) := by omega
        have g3 : ¬ (9223372036854775807 < 1 + nm.size + 1 + s2.size) := by omega
        have g4 : ¬ (9223372036854775807 < S.size + (1 + nm.size + 1 + s2.size)) := by omega
        go_upto_region 13 with (go_at_call 17; (with_reducible refine ((HNM.out _ (Bt HB1.out (Bt HB3.out HB4.out))).mono ?_)); rintro e w5 ⟨rfl, hb5⟩; have HB5 := Lib.hid (Bt HB4.out hb5); clear hb5 z1)
        obtain ⟨⟨d0, d1, d2⟩, -, -⟩ := HK.out w5 (Bt HB3.out HB5.out)
        have f1 := HCE.out w5 HB5.out
        have f2 := HCN.out w5 HB5.out
        go_quiet (fail)
        go_wp2_with fail
        go_roundg (n - (k + 1))
        case measure => omega
        case rel => exact ⟨k + 1, _, by omega, by omega, by go_num, rfl, (show Aside _ from by show _ ≤ _; have h32 : (⟨#[32]⟩ : ByteArray).size = 1 := rfl; simp only [ByteArray.size_append, h32]; omega), HE.out, below_drewN HB5.out _⟩
      · obtain rfl : k = n := by omega
        have HE2 : Hid (Cha.textR a (k1, (kn : Int)) cs = (0, S)) := Lib.hid (by
          rw [HZ.out, ← HE.out, List.drop_eq_nil_of_le (by rw [HN.out]; exact Nat.le_refl _), List.drop_eq_nil_of_le (by rw [HLEN.out]; exact Nat.le_refl _), Cha.texF]
          intro _ _ _ _ h; cases h)
        go_wp2_with fail
        go_ret2
        rw [HE2.out]
        exact ⟨rfl, Bt HB1.out (Bt HB3.out HB.out)⟩
  · have HZ : Hid (Cha.textR a (k1, k2) cs = ((Cha.folR a (k1, k2) cs).1, ⟨#[]⟩)) := Lib.hid (by unfold Cha.textR; rw [if_neg hz])
    have d1 : ((Cha.folR a (k1, k2) cs).1 != 0) = true := by simpa using hz
    have HFO := Lib.hid hfo
    clear hfo hz HNA
    generalize (Cha.folR a (k1, k2) cs).1 = er at *
    go_enter Tryd.func15, Tryd.ntmps15
    go_upto_region 1 with fail
    rw [HW1.out, HBX.out, HE1.out]
    go_wp2_with (go_at_call 14; (with_reducible refine (HFO.out.mono ?_)); rintro e w2 ⟨v8, rfl, hS2, hb2⟩; have HB2 := Lib.hid hb2; clear hb2 hS2 c0 c1 c2 c3 c4)
    go_ret2
    rw [HZ.out]
    exact ⟨rfl, Bt HB1.out HB2.out⟩
end Go.Proofs.YtahlfndlkfoikaaDoor
