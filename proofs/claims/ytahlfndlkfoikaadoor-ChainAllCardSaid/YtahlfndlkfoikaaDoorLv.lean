/- Walks over chain's statements: extend. -/
import Derived.Test.YtahlfndlkfoikaaDoorQ4
import Derived.Test.YtahlfndlkfoikaaDoorHb
import Derived.Test.YtahlfndlkfoikaaDoorIa
namespace Go.Proofs.YtahlfndlkfoikaaDoor
open Go Go.RowKit Go.Shelf
theorem inCs_one (l : List Int) : ∀ u ∈ inCs l, u.oneCell' = true := fun u hu => by
  obtain ⟨x, _, rfl⟩ := List.mem_map.1 hu
  rfl
theorem inCs_add (l : List Int) (x : Int) : inCs (l ++ [x]) = inCs l ++ [.int .i64 x] := by simp [inCs]
theorem grown_below {a w w' : World} {row : Option Nat} (h : a.grownBy w row) (hb : Below w.heap.size w w') : a.grownBy w' row :=
  ⟨hb.os.trans h.os, hb.tape.trans h.tape, hb.output.trans h.output, Nat.le_trans h.size hb.size, fun q h1 h2 => (hb.block q (Nat.lt_of_lt_of_le h1 h.size)).trans (h.block q h1 h2)⟩
theorem AcAt.grown {F : Nat → Prop} {w w' : World} {vd vc : Value} {a : Cou.Ac} {row : Option Nat} (h : AcAt F w vd vc a) (hg : w.grownBy w' row) (hr : ∀ b, F b → some b ≠ row) : AcAt F w' vd vc a := by
  have hA : Agree F w w' := Agree.grown hg fun b hb => ⟨h.inW b hb, hr b hb⟩
  exact ⟨fun b hb => Nat.lt_of_lt_of_le (h.inW b hb) hg.size, h.dv.keep hA, h.cp.keep hA⟩
set_option maxRecDepth 100000 in
set_option maxHeartbeats 8000000 in
theorem extend_any (a : Cou.Ac) (hok : Cou.Ok a) (vd vc : Value) (hdr : a.drawn < 2 ^ 64) (key : Cou.Ct) (hin : Cou.InA a key) : ∀ (d : Nat) (xs : List Int) (xv : Value) (out : List Cha.Ch) (ov : Value) (base : Nat) (w : World) (F : Nat → Prop) (_ : AcAt F w vd vc a) (_ : ∀ b, F b → some b ≠ ov.ownBlock) (_ : SlI (IsC w) w xv xs) (_ : OwnCh base w ov out) (_ : base ≤ w.heap.size) (_ : out.length ≤ 401) (_ : xs = [] ∨ ∃ ts, Cha.IsCh a key xs ts) (_ : 1025 ≤ xs.length + d),
    Calls Tryd.prog 32 #[.agg #[vd, vc, .int .u64 a.drawn], .agg #[.int .i64 key.1, .int .i64 key.2], xv, ov] w fun e w' => ∃ v, e = .returned v ∧ OwnCh base w' v (Cha.extG a key d xs out) ∧ w.grownBy w' ov.ownBlock ∧ ∀ b, v.ownBlock = some b → some b = ov.ownBlock ∨ w.heap.size ≤ b := by
  intro d
  induction d with
  | zero =>
    intro xs xv out ov base w F _ _ _ _ _ _ hch hd
    exfalso
    rcases hch with rfl | ⟨ts, h⟩
    · simp at hd
    · have h1 := h.len
      have h2 := h.short hok
      omega
  | succ d ih =>
    intro xs xv out ov base w F hA hFo hX hO hbase hol hch hd
    obtain ⟨Ad, cd, hvd, -, -⟩ := id hA.dv.open
    obtain ⟨Ac, cc, hvc, -, -⟩ := id hA.cp.open
    subst hvd hvc
    obtain ⟨Ax, cx, hxv, -, hxl, -⟩ := SlI.open hX
    subst hxv
    obtain ⟨cl, hcl⟩ : ∃ cl, a.cps.length = cl := ⟨_, rfl⟩
    obtain ⟨dl, hdl⟩ : ∃ dl, a.divs.length = dl := ⟨_, rfl⟩
    have hcl40 : cl ≤ 40 := by rw [← hcl]; exact hok.nc
    have hxs : xs.length ≤ 1024 := by
      rcases hch with rfl | ⟨ts, h⟩
      · simp
      · have h1 := h.len
        have h2 := h.short hok
        omega
    obtain ⟨nx, hnx⟩ : ∃ nx, xs.length = nx := ⟨_, rfl⟩
    have hov : ∀ b, IsC w b → some b ≠ ov.ownBlock := by
      obtain ⟨_, _, _, h⟩ := id hO
      exact isC_own h (by decide) (by decide)
    obtain ⟨FIN, hFIN⟩ : ∃ FIN, Cha.extG a key (d + 1) xs out = FIN := ⟨_, rfl⟩
    have hst : Cha.extL a key (Cha.extG a key d) xs (List.range cl) out = FIN := by rw [← hFIN, Cha.extG, hcl]
    rw [hFIN]
    rw [hcl, hdl] at hA ih ⊢
    rw [hnx] at hX hd hxs ⊢
    obtain ⟨k1, k2⟩ := key
    dsimp only at *
    obtain ⟨w1, hw1⟩ : ∃ w1 : World, (w.alloc (.cells #[.slice Ad dl cd, .slice Ac cl cc, .int .u64 a.drawn] 33)).alloc (.cells #[.int .i64 k1, .int .i64 k2] 36) = w1 := ⟨_, rfl⟩
    obtain ⟨bx, hbx⟩ : ∃ bx, w.heap.size = bx := ⟨_, rfl⟩
    obtain ⟨b1, hb1⟩ : ∃ b1, bx + 1 = b1 := ⟨_, rfl⟩
    have KX : Blk w1 bx 33 #[.slice Ad dl cd, .slice Ac cl cc, .int .u64 a.drawn] := by rw [← hw1, ← hbx]; exact (Blk.new _ _ _).alloc _
    have KB : Blk w1 b1 36 #[.int .i64 k1, .int .i64 k2] := by
      have := Blk.new (w.alloc (.cells #[.slice Ad dl cd, .slice Ac cl cc, .int .u64 a.drawn] 33)) 36 #[.int .i64 k1, .int .i64 k2]
      rw [hw1] at this
      rw [← hb1, ← hbx]
      simpa using this
    have B1 : Below w.heap.size w w1 := by rw [← hw1]; exact Ba (Ba (B0 w) _) _
    have hO1 := OwnCh.below hO B1
    have hX1 : SlI (IsC w1) w1 (.slice Ax nx cx) xs := (SlI.keep hX (Agree.below B1 fun b h => h.lt)).mono fun b h => h.below B1
    have hA1 := hA.on B1
    have hov1 : ∀ b, IsC w1 b → some b ≠ ov.ownBlock := by
      obtain ⟨_, _, _, h⟩ := id hO1
      exact isC_own h (by decide) (by decide)
    have hox : some bx ≠ ov.ownBlock := fun e => by have := (hO.lt bx e.symm).2; omega
    have hob : some b1 ≠ ov.ownBlock := fun e => by have := (hO.lt b1 e.symm).2; omega
    have HKX := Lib.hid (fun W (hg : w1.grownBy W ov.ownBlock) => (show (W.cell? ⟨bx, 0, none⟩ = some (.slice Ad dl cd) ∧ W.cell? ⟨bx, 1, none⟩ = some (.slice Ac cl cc) ∧ W.cell? ⟨bx, 2, none⟩ = some (.int .u64 a.drawn)) ∧ W.cell? ⟨b1, 0, none⟩ = some (.int .i64 k1) ∧ W.cell? ⟨b1, 1, none⟩ = some (.int .i64 k2) from
      ⟨⟨(KX.grown hg hox).cell 0, (KX.grown hg hox).cell 1, (KX.grown hg hox).cell 2⟩, (KB.grown hg hob).cell 0, (KB.grown hg hob).cell 1⟩))
    have HXX := Lib.hid (fun W (hg : w1.grownBy W ov.ownBlock) => (show SlI (IsC W) W (.slice Ax nx cx) xs from (SlI.keep hX1 (Agree.grown hg fun b hb => ⟨hb.lt, hov1 b hb⟩)).mono fun b hb => hb.grown hg (hov1 b hb)))
    have HAX := Lib.hid (fun W (hg : w1.grownBy W ov.ownBlock) => (show AcAt F W (.slice Ad dl cd) (.slice Ac cl cc) a from hA1.grown hg hFo))
    have HFO := Lib.hid (fun W (hg : w1.grownBy W ov.ownBlock) cv cs hC hl => lfollow_any a hok (.slice Ad dl cd) (.slice Ac cl cc) hdr (k1, k2) hin cv cs W (fun b => b < W.heap.size) ((hA1.grown hg hFo).all) hC hl)
    have HIH := Lib.hid ih
    have HO1 := Lib.hid hO1
    have HB1 := Lib.hid B1
    have HW1 := Lib.hid hw1
    have HBX := Lib.hid hbx
    have HE1 := Lib.hid hb1
    have HST := Lib.hid hst
    have HFF := Lib.hid (show ∀ b, F b → b < w.heap.size from hA.inW)
    have HFO2 := Lib.hid hFo
    have HNX := Lib.hid hnx
    have hbs1 : base ≤ w1.heap.size := Nat.le_trans hbase B1.size
    clear hA hX hO hov ih B1 hO1 hX1 hA1 hov1 hox hob KX KB hw1 hbx hb1 hst hFIN hch hxl hFo hcl hdl hnx hbase
    go_enter Tryd.func32, Tryd.ntmps32
    go_upto_region 1 with fail
    rw [HW1.out, HBX.out, HE1.out]
    go_wp2_with fail
    go_loopg [3, 9] cl (fun gg s3 s9 wr => ∃ (i : Nat) (o : List Cha.Ch), i ≤ cl ∧ cl - i ≤ gg ∧ s9 = .int .i64 i ∧ o.length ≤ 401 ∧ Aside (OwnCh base wr s3 o) ∧ Aside (w1.grownBy wr ov.ownBlock) ∧ Aside (∀ b, s3.ownBlock = some b → some b = ov.ownBlock ∨ w1.heap.size ≤ b) ∧ Aside (Cha.extL a (k1, k2) (Cha.extG a (k1, k2) d) xs ((List.range cl).drop i) o = FIN))
    case atStart => exact ⟨0, out, by omega, by omega, rfl, hol, HO1.out, World.grownBy.refl w1 _, (show Aside _ from fun b h => .inl h.symm), (show Aside _ from by show _ = _; rw [List.drop_zero]; exact HST.out)⟩
    case round =>
      obtain ⟨i, o, hi, hg, rfl, hol2, HO, HG, HV, HE⟩ := hrel
      replace HO := Lib.hid (show OwnCh base wr _ o from HO)
      replace HG := Lib.hid (show w1.grownBy wr ov.ownBlock from HG)
      replace HV := Lib.hid HV
      replace HE := Lib.hid (show _ = FIN from HE)
      obtain ⟨m, hm⟩ : ∃ m, o.length = m := ⟨_, rfl⟩
      have hsl := HO.out.sl (F := fun b => b < wr.heap.size) (by omega) fun b _ h _ => h
      obtain ⟨Ao, co, hs3, -⟩ := id hsl
      rw [hm] at hs3 hol2
      subst hs3
      clear hsl
      have HM := Lib.hid hm
      clear hm
      have hGW : w.grownBy wr ov.ownBlock := ⟨HG.out.os.trans HB1.out.os, HG.out.tape.trans HB1.out.tape, HG.out.output.trans HB1.out.output, Nat.le_trans HB1.out.size HG.out.size, fun q h1 h2 => (HG.out.block q (Nat.lt_of_lt_of_le h1 HB1.out.size) h2).trans (HB1.out.block q h1)⟩
      have HGW := Lib.hid hGW
      obtain ⟨⟨c0, c1, c2⟩, c3, c4⟩ := HKX.out wr HG.out
      clear hGW
      have hfin : (¬ i < cl ∨ ¬ m ≤ 400) → FIN = o := fun h => by
        rw [← HE.out]
        rcases Nat.lt_or_ge i cl with q | q
        · rw [List.drop_eq_getElem_cons (by simpa using q), Cha.extL, if_pos (by rw [HM.out]; omega)]
        · rw [List.drop_eq_nil_of_le (by simpa using q), Cha.extL]
      by_cases hlt : i < cl
      · have hiI : (i : Int) < cl := by omega
        have d1 : decide ((i : Int) < cl) = true := decide_eq_true hiI
        by_cases h4 : m ≤ 400
        · have d2 : decide ((m : Int) ≤ 400) = true := decide_eq_true (by omega)
          have d2n : decide (m ≤ 400) = true := decide_eq_true h4
          have hX5 := (HXX.out wr HG.out).reads (B := wr.heap.size) fun b h => h.lt
          clear hfin
          have HX5 := Lib.hid hX5
          clear hX5
          go_upto_region 4 with fail
          clear c0 c1 c2 c3 c4
          go_upto_region 5 with (first
            | (at_builtin; refine wpList_copy elemIn (by omega) rfl _ _ rfl _ rfl wr.heap.size Ax nx cx (inCs xs) rfl (HX5.out.alloc (Nat.le_refl _) _) (inCs_one xs) (by omega) (by omega) ?_; intro A6 c6 w6 hb6 ho6; have HB6 := Lib.hid (Bt (Ba (B0 wr) _) hb6); have HO6 := Lib.hid ho6; clear hb6 ho6)
            | (at_builtin; refine wpList_app0 elemIn rfl _ _ rfl (HO6.out.kept (row := none) (only_of_below (Ba (B0 w6) _) none) (by cases h : (Value.slice A6 nx c6).ownBlock <;> simp)) rfl w6.heap.size (.int .i64 i) rfl (by simp [go_sem]) rfl (by omega) (by omega) (by have := HB6.out.size; simp; omega) ?_; intro A7 c7 w7 ho7 hg7; have HO7 := Lib.hid ho7; have HG7 := Lib.hid hg7; clear ho7 hg7))
          have hb67 : Below wr.heap.size wr w7 := by
            have h0 := Ba HB6.out (.cells #[.int .i64 (i : Nat)] 3)
            rcases HG7.out with ⟨_, h⟩ | ⟨hp, h⟩
            · exact Bt h0 h
            · refine h0.grown h (by have := HB6.out.size; simp; omega) fun b e => ?_
              rcases HO6.out with ⟨q, _⟩ | ⟨_, q⟩
              · omega
              · have := (q.lt b e).1; simp at this; omega
          have hnl : (xs ++ [(i : Int)]).length = nx + 1 := by rw [List.length_append, HNX.out]; rfl
          have hn7 : SlI (IsC w7) w7 (.slice A7 (nx + 1) c7) (xs ++ [(i : Int)]) := by
            rcases HO7.out with ⟨q, _⟩ | ⟨_, q⟩
            · omega
            · exact slI_own (l := xs ++ [(i : Int)]) (by rw [hnl, inCs_add]; exact q) (by rw [hnl]; omega)
          have hg7 := grown_below HG.out hb67
          have hfo := HFO.out w7 hg7 (.slice A7 (nx + 1) c7) (xs ++ [(i : Int)]) (hn7.mono fun b h => h.lt) (by rw [hnl]; omega)
          have HN7 := Lib.hid hn7
          have HB67 := Lib.hid hb67
          have HG71 := Lib.hid hg7
          have HNL := Lib.hid hnl
          have HO72 := Lib.hid (OwnCh.below HO.out hb67)
          obtain ⟨⟨c0, c1, c2⟩, c3, c4⟩ := HKX.out w7 hg7
          have he := HE.out
          rw [List.drop_eq_getElem_cons (by simpa using hlt), List.getElem_range, Cha.extL, if_neg (by rw [HM.out]; omega)] at he
          clear hb67 hn7 hg7 hnl HO6 HO7 HB6 HG7 HX5 HE HO
          by_cases hz : (Cha.followF a (k1, k2) (xs ++ [(i : Int)])).1 = 0
          · have hch := Cha.follow_ch hz
            rw [if_pos hz] at he
            rw [hz] at hfo
            obtain ⟨ts, hts⟩ : ∃ ts, (Cha.followF a (k1, k2) (xs ++ [(i : Int)])).2 = ts := ⟨_, rfl⟩
            rw [hts] at he hfo hch
            have htl : ts.length = nx + 1 := by rw [← hch.len, HNL.out]
            obtain ⟨tt, htt⟩ : ∃ tt, Cha.lastF ts = tt := ⟨_, rfl⟩
            have hlast : ∀ h : nx < ts.length, ts[nx] = tt := fun h => by
              have := Cha.lastF_get (l := ts) (n := nx + 1) htl (by omega)
              rw [← htt, ← this]
              rfl
            rw [htt] at he
            obtain ⟨t1, t2⟩ := tt
            have HFC := Lib.hid hfo
            have HE2 := Lib.hid he
            have HCH := Lib.hid hch
            have HTL := Lib.hid htl
            have HLA := Lib.hid hlast
            clear hfo he hz hts hch htl hlast htt
            go_upto_region 7 with (go_at_call 16; (with_reducible refine (HFC.out.mono ?_)); rintro e w8 ⟨v8, rfl, hs8, hb8⟩; (have hvs : ∃ A8 c8, v8 = .slice A8 (nx + 1) c8 := by obtain ⟨A8, c8, h, _⟩ := id hs8; rw [HTL.out] at h; exact ⟨A8, c8, h⟩); obtain ⟨A8, c8, rfl⟩ := hvs; have HS8 := Lib.hid (SlCt.bnd3 hs8); have HB8 := Lib.hid hb8; clear hb8 hs8 c0 c1 c2 c3 c4)
            obtain ⟨A8', c8', e, -, -, h8⟩ := SlCt.open HS8.out
            injection e with e1 e2 e3
            subst e1; clear e2 e3
            obtain ⟨ad8, rfl, -, hfl8⟩ := h8 nx (by rw [HTL.out]; omega)
            rw [HLA.out (by rw [HTL.out]; omega)] at hfl8
            have z0 := hfl8.f0 rfl
            have z1 := hfl8.f1 rfl
            have e1 : ((nx : Int) + 1) - 1 = nx := by omega
            have e2 : (nx : Int) < (nx : Int) + 1 := by omega
            obtain ⟨ds, q1, q2, q3⟩ := OwnCh.below HO72.out HB8.out
            rw [HM.out] at q1 q3
            have HQ1 := Lib.hid q1
            have HQ2 := Lib.hid q2
            have HQ3 := Lib.hid q3
            have HN8 : Hid (SlI (IsC w8) w8 (.slice A7 (nx + 1) c7) (xs ++ [(i : Int)])) := Lib.hid ((SlI.keep HN7.out (Agree.below HB8.out fun b h => h.lt)).mono fun b h => h.below HB8.out)
            have HG8 := Lib.hid (grown_below HG71.out HB8.out)
            have hbw8 : w1.heap.size ≤ w8.heap.size := HG8.out.size
            clear h8 hfl8 q1 q2 q3
            go_upto_region 8 with (at_builtin; refine wpList_appS elemCh (by omega) rfl _ _ rfl base _ m _ rfl (HQ3.out.alloc _) ⟨w8.heap.size, 0, none⟩ 1 [.slice A7 (nx + 1) c7, .int .i64 t1, .int .i64 t2] rfl rfl (Flds.new w8 _ _) (by simp [Value.oneCell']) (by omega) (by omega) (by simp; omega) ?_; intro g cap w10 hown hg10 hgg; have HOW := Lib.hid hown; have HG10 := Lib.hid hg10; have HGG := Lib.hid hgg; clear hown hg10 hgg z0 z1)
            obtain ⟨o8, ho8⟩ : ∃ o8 : Obj, Obj.cells #[.slice A7 (nx + 1) c7, .int .i64 t1, .int .i64 t2] 56 = o8 := ⟨_, rfl⟩
            have hg10 := HG10.out
            have hgg := HGG.out
            rw [ho8] at hg10 hgg
            have hq3a := HQ3.out.alloc o8
            have hco := isC_own hq3a (show 56 ≠ 3 by decide) (by decide)
            have hgov : some g = ov.ownBlock ∨ w1.heap.size ≤ g := by
              rcases hgg with h | h
              · exact HV.out g h.symm
              · exact .inr (by rw [h]; simp; omega)
            have hg89 := grown_below HG8.out (Ba (B0 w8) o8)
            have hg110 : w1.grownBy w10 ov.ownBlock := ⟨hg10.os.trans hg89.os, hg10.tape.trans hg89.tape, hg10.output.trans hg89.output, Nat.le_trans hg89.size hg10.size, fun q h1 h2 => (hg10.block q (Nat.lt_of_lt_of_le h1 hg89.size) (fun e => by
              rcases HV.out q e.symm with h | h
              · exact h2 h
              · omega)).trans (hg89.block q h1 h2)⟩
            have hn10 : SlI (IsC w10) w10 (.slice A7 (nx + 1) c7) (xs ++ [(i : Int)]) := by
              have h9 : SlI (IsC (w8.alloc o8)) (w8.alloc o8) (.slice A7 (nx + 1) c7) (xs ++ [(i : Int)]) := (SlI.keep HN8.out (Agree.below (Ba (B0 w8) o8) fun b h => h.lt)).mono fun b h => h.below (Ba (B0 w8) o8)
              exact (SlI.keep h9 (Agree.grown hg10 fun b hb => ⟨hb.lt, hco b hb⟩)).mono fun b hb => hb.grown hg10 (hco b hb)
            have hch10 : ∀ cs y, ChC w8 cs y → ChC w10 cs y := fun cs y h => (h.below (Ba (B0 w8) o8)).grown hg10 hco
            have ho10 : OwnCh base w10 (.slice (some ⟨g, 0, none⟩) (m + 1) cap) (o ++ [(xs ++ [(i : Int)], (t1, t2))]) := OwnL.snoc (by rw [HM.out]; exact HQ1.out) HQ2.out rfl (hch10 _ _ ⟨_, rfl, HN8.out⟩) hch10 (by rw [HM.out]; exact HOW.out)
            have hih := HIH.out (xs ++ [(i : Int)]) (.slice A7 (nx + 1) c7) (o ++ [(xs ++ [(i : Int)], (t1, t2))]) (.slice (some ⟨g, 0, none⟩) (m + 1) cap) base w10 F (HAX.out w10 hg110) (fun b hb e => by
                have e2 : b = g := by simpa [Value.ownBlock] using e
                subst e2
                rcases hgov with h | h
                · exact HFO2.out b hb h
                · have := HFF.out b hb
                  have := HB1.out.size
                  omega) hn10 ho10 (Nat.le_trans hbs1 hg110.size) (by rw [List.length_append, HM.out, List.length_singleton]; omega) (.inr ⟨ts, HCH.out⟩) (by rw [HNL.out]; omega)
            obtain ⟨⟨c0, c1, c2⟩, c3, c4⟩ := HKX.out w10 hg110
            have HC := Lib.hid hih
            have HGO := Lib.hid hgov
            have HG110 := Lib.hid hg110
            clear hih hgov hg110 hn10 hch10 ho10 hg89 hco hq3a hgg hg10 ho8 e1 e2 hbw8
            go_wp2_with (go_at_call 32; (with_reducible refine (HC.out.mono ?_)); rintro e w11 ⟨v11, rfl, ho11, hg11, hv11⟩; have HO11 := Lib.hid ho11; have HG11 := Lib.hid hg11; have HV11 := Lib.hid hv11; clear ho11 hg11 hv11 c0 c1 c2 c3 c4)
            go_roundg (cl - (i + 1))
            case measure => omega
            case rel =>
              have hs10 := HG110.out.size
              refine ⟨i + 1, _, by omega, by omega, by go_num, Cha.extG_len a (k1, k2) d _ _ (by rw [List.length_append, HM.out, List.length_singleton]; omega), HO11.out, (show Aside _ from ?_), (show Aside _ from ?_), HE2.out⟩
              · exact ⟨HG11.out.os.trans HG110.out.os, HG11.out.tape.trans HG110.out.tape, HG11.out.output.trans HG110.out.output, Nat.le_trans hs10 HG11.out.size, fun q h1 h2 => (HG11.out.block q (Nat.lt_of_lt_of_le h1 hs10) (fun e => by
                  have e2 : q = g := by simpa [Value.ownBlock] using e
                  subst e2
                  rcases HGO.out with h | h
                  · exact h2 h
                  · omega)).trans (HG110.out.block q h1 h2)⟩
              · intro b hb
                rcases HV11.out b hb with h | h
                · have e2 : b = g := by simpa [Value.ownBlock] using h
                  subst e2
                  exact HGO.out
                · exact .inr (Nat.le_trans hs10 h)
          · rw [if_neg hz] at he
            obtain ⟨er, her⟩ : ∃ er, (Cha.followF a (k1, k2) (xs ++ [(i : Int)])).1 = er := ⟨_, rfl⟩
            rw [her] at hfo hz
            have d5 : (er != 0) = true := by simpa using hz
            have HFC := Lib.hid hfo
            have HE2 := Lib.hid he
            clear hfo he her hz
            go_wp2_with (go_at_call 16; (with_reducible refine (HFC.out.mono ?_)); rintro e w8 ⟨v8, rfl, -, hb8⟩; have HB8 := Lib.hid hb8; clear hb8 c0 c1 c2 c3 c4)
            go_roundg (cl - (i + 1))
            case measure => omega
            case rel => exact ⟨i + 1, o, by omega, by omega, by go_num, by rw [HM.out]; exact hol2, OwnCh.below HO72.out HB8.out, grown_below HG71.out HB8.out, HV.out, HE2.out⟩
        · have d2 : decide ((m : Int) ≤ 400) = false := decide_eq_false (by omega)
          have d2n : decide (m ≤ 400) = false := decide_eq_false h4
          have HFIN := Lib.hid (hfin (.inr h4))
          clear hfin
          go_wp2_with fail
          go_ret
          exact ⟨_, rfl, by rw [HFIN.out]; exact HO.out, HGW.out, fun b h => (HV.out b h).imp id fun q => Nat.le_trans HB1.out.size q⟩
      · have d1 : decide ((i : Int) < cl) = false := decide_eq_false (by omega)
        have HFIN := Lib.hid (hfin (.inl hlt))
        clear hfin
        go_wp2_with fail
        go_ret
        exact ⟨_, rfl, by rw [HFIN.out]; exact HO.out, HGW.out, fun b h => (HV.out b h).imp id fun q => Nat.le_trans HB1.out.size q⟩
end Go.Proofs.YtahlfndlkfoikaaDoor
