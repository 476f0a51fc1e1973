/- Walk over checker: Plays. -/
import Derived.Test.YtnphdmiondccgaaDoorZs
namespace Go.Proofs.YtnphdmiondccgaaDoor
open Go Go.RowKit Go.Shelf
open Pop
/-- What holds after some divisions of the loop. -/
structure PlS (w : World) (b : Nat) (pa : Array Value) (l : List (Dv × Nat)) (s7 s8 : Value) (wr : World) : Prop where
  al : allD l = true
  ft : wr.ownsRow b 3 1 s7 (flatI (pedF l)).length (inCs (flatI (pedF l)))
  mn : OwnL b 32 1 (RdX s8 s7) wr s8 (manF l)
  pl : Blk wr b 43 pa
  bl : Below w.heap.size w wr
theorem PlS.on {w wr wr' : World} {b : Nat} {pa : Array Value} {l : List (Dv × Nat)} {s7 s8 : Value} (h : PlS w b pa l s7 s8 wr) (hb : Below wr.heap.size wr wr') : PlS w b pa l s7 s8 wr' :=
  ⟨h.al, h.ft.kept (only_of_below hb none) (by cases s7.ownBlock with
    | none => exact .inl rfl
    | some g => exact .inr fun e => by cases e), h.mn.keep (R' := RdX s8 s7) rfl (fun _ hx => hx.kept (only_of_below hb none) (by cases s8.ownBlock with
    | none => exact .inl rfl
    | some g => exact .inr fun e => by cases e)) fun _ _ q => q.bel hb, h.pl.below hb h.pl.lt, Bt h.bl hb⟩
theorem own_other {w : World} {base base' : Nat} {e e' : TypeId} {k k' n n' : Nat} {v v' : Value} {xs xs' : List Value} (h : w.ownsRow base e k v n xs) (h' : w.ownsRow base' e' k' v' n' xs') (hne : e ≠ e') : v.ownBlock = none ∨ v.ownBlock ≠ v'.ownBlock := by
  cases hv : v.ownBlock with
  | none => exact .inl rfl
  | some b' => exact .inr (fun e => rows_ne h h' hne b' hv e.symm)
theorem sm_perm {S : List Int} {D : List Nat} (h : S.Perm (flatI D)) : Sm S := fun x hx => by
  obtain ⟨y, -, hn⟩ := mem_flatI.1 (h.mem_iff.1 hx)
  exact mem_le y x hn
theorem sliced_to (A : Option Addr) (k c : Nat) : sliced A 0 k c 1 = .slice A k c := by
  unfold sliced
  cases A <;> simp [add0]
theorem pair_new (x y : Int) (W : World) : SlI (fun b => b < (W.alloc (.cells #[.int .i64 x, .int .i64 y] 3)).heap.size) (W.alloc (.cells #[.int .i64 x, .int .i64 y] 3)) (.slice (some ⟨W.heap.size, 0, none⟩) 2 2) [x, y] := by
  have h := Blk.new W 3 #[.int .i64 x, .int .i64 y]
  exact SlI.pair (by simp [h.cell 0]) (by simp [h.cell 1]) h.lt
set_option maxRecDepth 100000 in
set_option maxHeartbeats 4000000 in
theorem plays_any (hn hs fn fs : Int) (ds : List Dv) (ks : List Nat) (hk4 : ks.length ≤ 4) (hks : ∀ x ∈ ks, x < 2 ^ 128) (vd vk : Value) (F : Nat → Prop) (w : World) (hF : ∀ b, F b → b < w.heap.size) (hD : SlDv F w vd ds) (hK : SlK F w vk ks) :
    Calls Tryd.prog 11 #[plV hn hs fn fs, vd, vk] w fun e w' => e = .returned (.bool (possF hn hs fn fs ds ks)) ∧ Below w.heap.size w w' := by
  obtain ⟨P, hP⟩ : ∃ P, possF hn hs fn fs ds ks = P := ⟨_, rfl⟩
  rw [hP]
  have HP := Lib.hid hP
  obtain ⟨r1, hr1⟩ : ∃ r, withinB 0 10 [hn, fn] = r := ⟨_, rfl⟩
  obtain ⟨r2, hr2⟩ : ∃ r, withinB 0 127 [hs, fs] = r := ⟨_, rfl⟩
  have HPQ := Lib.hid (pl_within hn hs fn fs)
  rw [hr1, hr2] at HPQ
  have HWI1 := Lib.hid (fun v W (h : SlI (fun b => b < W.heap.size) W v [hn, fn]) => within_any 0 10 v [hn, fn] W (fun b => b < W.heap.size) (fun _ h => h) h)
  have HWI2 := Lib.hid (fun v W (h : SlI (fun b => b < W.heap.size) W v [hs, fs]) => within_any 0 127 v [hs, fs] W (fun b => b < W.heap.size) (fun _ h => h) h)
  rw [hr1] at HWI1
  rw [hr2] at HWI2
  unfold plV
  obtain ⟨w1, hw1⟩ : ∃ w1 : World, w.alloc (.cells #[.int .i64 hn, .int .i64 hs, .int .i64 fn, .int .i64 fs] 43) = w1 := ⟨_, rfl⟩
  obtain ⟨b, hb⟩ : ∃ b, w.heap.size = b := ⟨_, rfl⟩
  have HC1 := Lib.hid (show Blk w1 b 43 #[.int .i64 hn, .int .i64 hs, .int .i64 fn, .int .i64 fs] by rw [← hw1, ← hb]; exact Blk.new _ _ _)
  have HB1 := Lib.hid (show Below w.heap.size w w1 by rw [← hw1]; exact Ba (B0 w) _)
  obtain ⟨Ad, cd, rfl, hcd, hlend, hdat⟩ := hD.open
  obtain ⟨Ak, ck, rfl, hck, hlenk, hkat⟩ := hK.open
  have HDA := Lib.hid hdat
  have HKA := Lib.hid hkat
  have HF := Lib.hid hF
  have HKS := Lib.hid hks
  have HW1 := Lib.hid hw1
  have HBB := Lib.hid hb
  have c0 := HC1.out.cell 0
  have c1 := HC1.out.cell 1
  have c2 := HC1.out.cell 2
  have c3 := HC1.out.cell 3
  simp only [List.getElem?_toArray, List.getElem?_cons_zero, List.getElem?_cons_succ] at c0 c1 c2 c3
  obtain ⟨nd, hnd⟩ : ∃ n, ds.length = n := ⟨_, rfl⟩
  obtain ⟨nk, hnk⟩ : ∃ n, ks.length = n := ⟨_, rfl⟩
  rw [hnd] at hcd hlend ⊢
  rw [hnk] at hck hlenk hk4 ⊢
  have HND := Lib.hid hnd
  have HNK := Lib.hid hnk
  clear hdat hkat hF hks hw1 hb hD hK hP hnd hnk hr1 hr2
  go_enter Tryd.func11, Tryd.ntmps11
  go_upto_region 1 with fail
  rw [HW1.out, HBB.out]
  clear HW1
  cases r1 with
  | false =>
    go_wp2_with (go_at_call 29; (with_reducible refine ((HWI1.out _ _ (pair_new _ _ _)).mono ?_)); rintro e w2 ⟨rfl, hb2⟩; have HB2 := Lib.hid (Bt (Ba HB1.out _) hb2); have HC2 := Lib.hid ((HC1.out.alloc (.cells #[.int .i64 hn, .int .i64 fn] 3)).below hb2 (HC1.out.alloc _).lt); have c5 := HC2.out.cell 1; have c6 := HC2.out.cell 3; simp only [List.getElem?_toArray, List.getElem?_cons_zero, List.getElem?_cons_succ] at c5 c6; clear hb2 c0 c1 c2 c3 HC1 HB1)
    go_ret
    exact ⟨by rw [← HP.out]; unfold possF; rw [← HPQ.out]; rfl, HB2.out⟩
  | true =>
    cases r2 with
    | false =>
      go_wp2_with (first | (go_at_call 29; (with_reducible refine ((HWI1.out _ _ (pair_new _ _ _)).mono ?_)); rintro e w2 ⟨rfl, hb2⟩; have HB2 := Lib.hid (Bt (Ba HB1.out _) hb2); have HC2 := Lib.hid ((HC1.out.alloc (.cells #[.int .i64 hn, .int .i64 fn] 3)).below hb2 (HC1.out.alloc _).lt); have c5 := HC2.out.cell 1; have c6 := HC2.out.cell 3; simp only [List.getElem?_toArray, List.getElem?_cons_zero, List.getElem?_cons_succ] at c5 c6; clear hb2 c0 c1 c2 c3 HC1 HB1) | (go_at_call 29; (with_reducible refine ((HWI2.out _ _ (pair_new _ _ _)).mono ?_)); rintro e w3 ⟨rfl, hb3⟩; have HB3 := Lib.hid (Bt (Ba HB2.out _) hb3); have HC3 := Lib.hid ((HC2.out.alloc (.cells #[.int .i64 hs, .int .i64 fs] 3)).below hb3 (HC2.out.alloc _).lt); clear hb3 c5 c6 HC2 HB2))
      go_ret
      exact ⟨by rw [← HP.out]; unfold possF; rw [← HPQ.out]; rfl, HB3.out⟩
    | true =>
      by_cases hlen : nk = nd
      · subst hlen
        go_upto_region 6 with (first | (go_at_call 29; (with_reducible refine ((HWI1.out _ _ (pair_new _ _ _)).mono ?_)); rintro e w2 ⟨rfl, hb2⟩; have HB2 := Lib.hid (Bt (Ba HB1.out _) hb2); have HC2 := Lib.hid ((HC1.out.alloc (.cells #[.int .i64 hn, .int .i64 fn] 3)).below hb2 (HC1.out.alloc _).lt); have c5 := HC2.out.cell 1; have c6 := HC2.out.cell 3; simp only [List.getElem?_toArray, List.getElem?_cons_zero, List.getElem?_cons_succ] at c5 c6; clear hb2 c0 c1 c2 c3 HC1 HB1) | (go_at_call 29; (with_reducible refine ((HWI2.out _ _ (pair_new _ _ _)).mono ?_)); rintro e w3 ⟨rfl, hb3⟩; have HB3 := Lib.hid (Bt (Ba HB2.out _) hb3); have HC3 := Lib.hid ((HC2.out.alloc (.cells #[.int .i64 hs, .int .i64 fs] 3)).below hb3 (HC2.out.alloc _).lt); clear hb3 c5 c6 HC2 HB2))
        have HOK := Lib.hid (show PlOk hn hs fn fs from of_decide_eq_true HPQ.out.symm)
        have hLL : ds.length = ks.length := by rw [HND.out, HNK.out]
        have hZL : (ds.zip ks).length = nk := by rw [List.length_zip, HND.out, HNK.out]; omega
        have HLL := Lib.hid hLL
        have HZL := Lib.hid hZL
        clear hLL hZL HPQ HWI1 HWI2
        go_loopg [7, 8, 39] (nk + 1) (fun gg s7 s8 s39 wr => ∃ k : Nat, k ≤ nk ∧ nk - k ≤ gg ∧ s39 = .int .i64 k ∧ Aside (PlS w b #[.int .i64 hn, .int .i64 hs, .int .i64 fn, .int .i64 fs] ((ds.zip ks).take k) s7 s8 wr))
        case atStart => exact ⟨0, by omega, by omega, rfl, (show PlS _ _ _ _ _ _ _ from ⟨rfl, World.ownsRow_nil _ _ _ _, OwnL.nil, HC3.out, HB3.out⟩)⟩
        case round =>
          clear HC3 HB3
          obtain ⟨k, hk, hgg, rfl, HS⟩ := hrel
          replace HS : Hid (PlS w b #[.int .i64 hn, .int .i64 hs, .int .i64 fn, .int .i64 fs] ((ds.zip ks).take k) u7 u8 wr) := Lib.hid HS
          obtain ⟨wo, rfl⟩ : ∃ wo : World, wo = wr := ⟨_, rfl⟩
          by_cases hlt : k < nk
          · have hltI : (k : Int) < nk := by omega
            have hk1 : k < ds.length := by rw [HND.out]; exact hlt
            have hk2 : k < ks.length := by rw [HNK.out]; exact hlt
            obtain ⟨ad, nm, Bs', ns, cs', rfl, hf, hfl⟩ := HDA.out k hk1
            have hfb : (ad.add (k * 5)).block < w.heap.size := by rw [block_of_add]; exact HF.out _ hf
            have q := hfl.below HS.out.bl hfb
            have p0 := q.f0 rfl
            have p1 := q.f1 rfl
            have p2 := q.f2 rfl
            have p3 := q.f3 rfl
            have p4 := q.f4 rfl
            obtain ⟨pd, hpd⟩ : ∃ y, ds[k].ped = y := ⟨_, rfl⟩
            obtain ⟨lo, hlo⟩ : ∃ y, ds[k].lo = y := ⟨_, rfl⟩
            obtain ⟨hi, hhi⟩ : ∃ y, ds[k].hi = y := ⟨_, rfl⟩
            rw [hpd] at p1
            rw [hlo] at p2
            rw [hhi] at p3
            have HPDk := Lib.hid hpd
            have HLO := Lib.hid hlo
            have HHI := Lib.hid hhi
            clear q hf hfl hfb hpd hlo hhi
            go_upto_region 8 with fail
            obtain ⟨w5, hw5⟩ : ∃ w5 : World, wo.alloc (.cells #[.string nm, .bool pd, .int .i64 lo, .int .i64 hi, .slice Bs' ns cs'] 85) = w5 := ⟨_, rfl⟩
            obtain ⟨g, hg3⟩ : ∃ g, wo.heap.size = g := ⟨_, rfl⟩
            have HD5 := Lib.hid (show Blk w5 g 85 #[.string nm, .bool pd, .int .i64 lo, .int .i64 hi, .slice Bs' ns cs'] by rw [← hw5, ← hg3]; exact Blk.new _ _ _)
            have HS5 := Lib.hid (show PlS w b _ _ u7 u8 w5 from HS.out.on (by rw [← hw5]; exact Ba (B0 wo) _))
            rw [hw5, hg3]
            have d2 := HD5.out.cell 2
            have d3 := HD5.out.cell 3
            simp only [List.getElem?_toArray, List.getElem?_cons_zero, List.getElem?_cons_succ] at d2 d3
            clear hw5 hg3 p0 p1 p2 p3 p4 HS
            obtain ⟨r, hr⟩ : ∃ r, compB lo hi ks[k] = r := ⟨_, rfl⟩
            obtain ⟨x, hx⟩ : ∃ x, ks[k] = x := ⟨_, rfl⟩
            have hbad : r = false → P = false := fun e => by
              rw [← HP.out]
              unfold possF posF
              rw [allD_bad (k := k) (by rw [HZL.out]; exact hlt) (by rw [List.getElem_zip, HLO.out, HHI.out, hr]; exact e)]
              simp
            have HBAD := Lib.hid hbad
            have hxl := HKS.out ks[k] (List.getElem_mem hk2)
            obtain ⟨ap, rfl, hfk, hflk⟩ := HKA.out k hk2
            have hkb : (ap.add (k * 2)).block < w.heap.size := by rw [block_of_add]; exact HF.out _ hfk
            have hk5 : (ap.add (k * 2)).block < w5.heap.size := Nat.lt_of_lt_of_le hkb HS5.out.bl.size
            rw [hx] at hxl hflk hr
            have hcall := fun W => ccompass_any lo hi x hxl W
            rw [hr] at hcall
            have hflw := hflk.below HS5.out.bl hkb
            have HX := Lib.hid hx
            have HR := Lib.hid hr
            unfold ntV at hcall
            obtain ⟨xl, hxl'⟩ : ∃ z, Nt.lo x = z := ⟨_, rfl⟩
            obtain ⟨xh, hxh'⟩ : ∃ z, Nt.hi x = z := ⟨_, rfl⟩
            rw [hxl', hxh'] at hcall hflw
            have k0 : ∀ q : Cls54 w5, q.w.cell? (ap.add (k * 2)) = some (.int .u64 (xl : Int)) := fun q => (hflw.below q.b hk5).f0 rfl
            have k1 : ∀ q : Cls54 w5, q.w.cell? ⟨(ap.add (k * 2)).block, (ap.add (k * 2)).off + 1, none⟩ = some (.int .u64 (xh : Int)) := fun q => (hflw.below q.b hk5).f1 rfl
            have k2 : ∀ q : Cls54 w5, q.w.cell? ⟨g, 2, none⟩ = some (.int .i64 lo) := fun q => (Bc q.b HD5.out.lt).trans d2
            have k3 : ∀ q : Cls54 w5, q.w.cell? ⟨g, 3, none⟩ = some (.int .i64 hi) := fun q => (Bc q.b HD5.out.lt).trans d3
            have HL := Lib.hid (fun q : Cls54 w5 => (show Calls Tryd.prog 30 #[.agg #[.int .i64 lo, .int .i64 hi], .agg #[.int .u64 (xl : Int), .int .u64 (xh : Int)]] q.w fun e w' => e = .returned (.bool r) ∧ ∃ z : Cls54 w5, w' = z.w from (hcall q.w).mono fun e w' ⟨q1, q2⟩ => ⟨q1, Cls54.mk' (Bt q.b q2), rfl⟩))
            have HFK := Lib.hid hflk
            have HKB := Lib.hid hkb
            have HXL := Lib.hid hxl
            clear hcall hr hx hflk hfk hkb hk5 hxl hflw d2 d3 hxl' hxh' hbad
            refine wp_region_class54_lit (C := fun w' => ∃ q : Cls54 w5, w' = q.w) (by kernel_rfl) (by kernel_rfl) ⟨Cls54.mk' (B0 w5).drew, rfl⟩ ?_
            repeat (any_goals (first | go_big_quiet_step (first | (go_at_call 30; with_reducible exact HL.out _)) | quiet_step (first | (go_at_call 30; with_reducible exact HL.out _))))
            refine wpQuiet_nil ?_
            rintro _ ⟨q, rfl⟩
            have HS6 := Lib.hid (HS5.out.on q.b)
            have HD6 := Lib.hid (HD5.out.below q.b HD5.out.lt)
            clear k0 k1 k2 k3 HL HS5 HD5
            generalize q.w = w6 at *
            cases r with
            | false =>
              go_wp2_with fail
              go_ret
              exact ⟨by rw [HBAD.out (by first | trivial | rfl)]; rfl, HS6.out.bl⟩
            | true =>
              have hzn := zip_next hk1 hk2
              rw [HX.out] at hzn
              have HZN := Lib.hid hzn
              have hcmp : compB (ds[k]).lo (ds[k]).hi x = true := by rw [HLO.out, HHI.out]; exact HR.out
              have HAL := Lib.hid (show allD ((ds.zip ks).take k ++ [(ds[k], x)]) = true by rw [allD_snoc, HS6.out.al]; simpa using hcmp)
              have HMB := Lib.hid (fun W => cmembers_any x HXL.out W)
              unfold ntV at HMB
              obtain ⟨n, hml⟩ : ∃ n, (memI x).length = n := ⟨_, rfl⟩
              have hn128 : n ≤ 128 := by rw [← hml]; exact memI_len x
              have HML := Lib.hid hml
              have hflw := HFK.out.below HS6.out.bl HKB.out
              have p0 := hflw.f0 rfl
              have p1 := hflw.f1 rfl
              obtain ⟨xl', hxl'⟩ : ∃ z, Nt.lo x = z := ⟨_, rfl⟩
              obtain ⟨xh', hxh'⟩ : ∃ z, Nt.hi x = z := ⟨_, rfl⟩
              rw [hxl'] at p0 HMB
              rw [hxh'] at p1 HMB
              have hpl := pedF_len ((ds.zip ks).take k)
              rw [List.length_take] at hpl
              have hfl' := cntF_le (pedF ((ds.zip ks).take k))
              rw [← flatI_len] at hfl'
              have hmm := manF_len ((ds.zip ks).take k)
              rw [List.length_take] at hmm
              obtain ⟨m, hm⟩ : ∃ m, (flatI (pedF ((ds.zip ks).take k))).length = m := ⟨_, rfl⟩
              obtain ⟨mm, hmm'⟩ : ∃ m, (manF ((ds.zip ks).take k)).length = m := ⟨_, rfl⟩
              rw [hm] at hfl'
              rw [hmm'] at hmm
              have hm512 : m ≤ 512 := by omega
              have hmm4 : mm ≤ 4 := by omega
              have HM := Lib.hid hm
              have HMM := Lib.hid hmm'
              clear hzn hcmp HBAD hml hflw hxl' hxh' hpl hfl' hmm hm hmm'
              cases pd with
              | true =>
                go_wp2_with (first | (go_at_call 31; (with_reducible refine ((HMB.out _).mono ?_)); rintro e w7 ⟨v7, rfl, hs7, hb7⟩; obtain ⟨A7, c7, rfl, hc7, hl7, -⟩ := hs7.open; rw [HML.out] at hc7 hl7; have HV7 := Lib.hid hs7; have HS7 := Lib.hid (HS6.out.on hb7); have HD7 := Lib.hid (HD6.out.below hb7 HD6.out.lt); have d1 := HD7.out.cell 1; simp only [List.getElem?_toArray, List.getElem?_cons_zero, List.getElem?_cons_succ] at d1; simp only [HML.out] at HV7 ⊢; clear hb7 p0 p1 HS6 HD6 hs7) | (at_builtin; refine wpList_appM elemIn (by omega) rfl _ _ rfl b _ m (inCs (flatI (pedF ((ds.zip ks).take k)))) rfl (by have := HS7.out.ft; rw [HM.out] at this; exact this) w7.heap.size A7 n c7 (inCs (memI x)) rfl (SlI.reads HV7.out fun _ h => h.2) (inCs_one _) (by omega) (by omega) (Nat.le_of_lt HS7.out.pl.lt) ?_; intro v8 w8 hown8 hg8 hgg; have HO8 := Lib.hid hown8; have HG8 := Lib.hid hg8; have HGG := Lib.hid hgg; clear hown8 hg8 hgg d1))
                go_roundg (nk - (k + 1))
                case measure => omega
                case rel =>
                  refine ⟨k + 1, by omega, by omega, by go_num, ?_⟩
                  show PlS _ _ _ _ _ _ _
                  rw [HZN.out]
                  refine ⟨HAL.out, ?_, ?_, HS7.out.pl.grown HG8.out (fun e => own_ne HS7.out.ft HS7.out.pl (by decide) e.symm), HS7.out.bl.grown HG8.out (by have := HS7.out.bl.size; exact this) fun b' e => by have := (HS7.out.ft.lt b' e).1; have := HBB.out; omega⟩
                  · rw [pedF_snoc, if_pos (by rw [HPDk.out]), flatI_snoc, ← inCs_app, List.length_append, HM.out, HML.out]
                    exact HO8.out
                  · rw [manF_snoc, if_neg (by rw [HPDk.out]; simp), List.append_nil]
                    refine HS7.out.mn.keep (R' := RdX u8 v8) rfl (fun xs hx => hx.kept HG8.out ?_) fun _ _ q => RdX.grown q HG8.out (.inr rfl) fun b' h1 h2 h3 => ⟨h2, fun e => ?_⟩
                    · cases hv : u8.ownBlock with
                      | none => exact .inl rfl
                      | some b' => exact .inr (fun e => rows_ne hx HS7.out.ft (by decide) b' hv e.symm)
                    · rcases HGG.out with q1 | q1
                      · exact h3 (q1 ▸ e)
                      · have := q1.symm.trans e
                        injection this with this
                        omega
              | false =>
                by_cases hn0 : n = 0
                · subst hn0
                  go_wp2_with (go_at_call 31; (with_reducible refine ((HMB.out _).mono ?_)); rintro e w7 ⟨v7, rfl, hs7, hb7⟩; obtain ⟨A7, c7, rfl, hc7, hl7, -⟩ := hs7.open; rw [HML.out] at hc7 hl7; have HV7 := Lib.hid hs7; have HS7 := Lib.hid (HS6.out.on hb7); have HD7 := Lib.hid (HD6.out.below hb7 HD6.out.lt); have d1 := HD7.out.cell 1; simp only [List.getElem?_toArray, List.getElem?_cons_zero, List.getElem?_cons_succ] at d1; simp only [HML.out] at HV7 ⊢; clear hb7 p0 p1 HS6 HD6 hs7)
                  go_roundg (nk - (k + 1))
                  case measure => omega
                  case rel =>
                    refine ⟨k + 1, by omega, by omega, by go_num, ?_⟩
                    show PlS _ _ _ _ _ _ _
                    rw [HZN.out]
                    exact ⟨HAL.out, by rw [pedF_snoc, if_neg (by rw [HPDk.out]; simp), List.append_nil]; exact HS7.out.ft, by rw [manF_snoc, if_neg (by rw [HML.out]; omega), List.append_nil]; exact HS7.out.mn, HS7.out.pl, HS7.out.bl⟩
                · have hnI : (0 : Int) < n := by omega
                  have HLO6 := Lib.hid HS6.out.mn.lt
                  go_wp2_with (first | (go_at_call 31; (with_reducible refine ((HMB.out _).mono ?_)); rintro e w7 ⟨v7, rfl, hs7, hb7⟩; obtain ⟨A7, c7, rfl, hc7, hl7, -⟩ := hs7.open; rw [HML.out] at hc7 hl7; have HV7 := Lib.hid hs7; have HS7 := Lib.hid (HS6.out.on hb7); have HD7 := Lib.hid (HD6.out.below hb7 HD6.out.lt); have d1 := HD7.out.cell 1; simp only [List.getElem?_toArray, List.getElem?_cons_zero, List.getElem?_cons_succ] at d1; simp only [HML.out] at HV7 ⊢; have HY7 := Lib.hid hb7.size; clear hb7 p0 p1 hs7) | (at_builtin; obtain ⟨cs, q1, q2, q3⟩ := id HS7.out.mn; rw [HMM.out] at q3; have HQ1 := Lib.hid q1; have HQ2 := Lib.hid q2; have HQ3 := Lib.hid q3; have hbs : b < w7.heap.size := HS7.out.pl.lt; refine wpList_appS elemIs (by omega) rfl _ _ rfl b _ mm _ rfl (HQ3.out.alloc _) ⟨_, 0, none⟩ 1 [.slice A7 n c7] rfl rfl (Flds.new _ _ _) (by simp [Value.oneCell']) (by omega) (by omega) (by simp; omega) ?_; intro g' cap w9 hown9 hg9 hgg; have HO9 := Lib.hid hown9; have HG9 := Lib.hid hg9; have HGG := Lib.hid hgg; clear hown9 hg9 hgg q1 q2 q3))
                  go_roundg (nk - (k + 1))
                  case measure => omega
                  case rel =>
                    refine ⟨k + 1, by omega, by omega, by go_num, ?_⟩
                    show PlS _ _ _ _ _ _ _
                    have HS9 := HS7.out.on (Ba (B0 _) (.cells #[.slice A7 n c7] 32))
                    rw [HZN.out]
                    have hgn : ∀ b', b' < w7.heap.size → u8.ownBlock ≠ some b' → (Value.slice (some ⟨g', 0, none⟩) (mm + 1) cap).ownBlock ≠ some b' := fun b' h1 h2 e => by
                      have e' : g' = b' := by injection e
                      rcases HGG.out with q1 | q1
                      · exact h2 (Eq.trans (Eq.symm q1) (congrArg some e'))
                      · rw [World.size_alloc] at q1
                        omega
                    have hgn1 : ∀ b', b' < (w7.alloc (.cells #[.slice A7 n c7] 32)).heap.size → u8.ownBlock ≠ some b' → u7.ownBlock ≠ some b' → (Value.slice (some ⟨g', 0, none⟩) (mm + 1) cap).ownBlock ≠ some b' ∧ u7.ownBlock ≠ some b' := fun b' h1 h2 h3 => ⟨fun e => by
                      have e' : g' = b' := by injection e
                      rcases HGG.out with q1 | q1
                      · exact h2 (Eq.trans (Eq.symm q1) (congrArg some e'))
                      · omega, h3⟩
                    have hlo9 : ∀ b', u8.ownBlock = some b' → b' < w6.heap.size := fun b' e => (HLO6.out b' e).2
                    have hlo10 : ∀ b', u7.ownBlock = some b' → b' < w6.heap.size := fun b' e => (HS6.out.ft.lt b' e).2
                    refine ⟨HAL.out, ?_, ?_, HS9.pl.grown HG9.out (fun e => own_ne (HQ3.out.alloc _) HS9.pl (by decide) e.symm), HS9.bl.grown HG9.out (by have := HS9.bl.size; exact this) fun b' e => by have := (HS9.mn.lt b' e).1; have := HBB.out; omega⟩
                    · rw [pedF_snoc, if_neg (by rw [HPDk.out]; simp), List.append_nil]
                      refine HS9.ft.kept HG9.out ?_
                      cases hv : u7.ownBlock with
                      | none => exact .inl rfl
                      | some b' => exact .inr (fun e => rows_ne HS9.ft (HQ3.out.alloc _) (by decide) b' hv e.symm)
                    · rw [manF_snoc, if_pos ⟨HPDk.out, by rw [HML.out]; omega⟩]
                      refine OwnL.snoc HQ1.out HQ2.out rfl ?_ (fun _ _ q => RdX.grown (RdX.bel q (Ba (B0 w7) _)) HG9.out (.inl rfl) hgn1) (by rw [HMM.out]; exact HO9.out)
                      refine ⟨_, rfl, Sl.mono (SlI.keep (SlI.keep HV7.out (Agree.below (Ba (B0 w7) _) fun _ q => q.2)) (Agree.grown HG9.out fun b' q => ⟨by rw [World.size_alloc]; omega, fun e => ?_⟩)) fun b' q => ⟨?_, ?_, ?_⟩⟩
                      · have := hlo9 b' e.symm; omega
                      · have := HG9.out.size; rw [World.size_alloc] at this; omega
                      · exact hgn b' q.2 fun e => by have := hlo9 b' e; omega
                      · exact fun e => by have := hlo10 b' e; omega
          · obtain rfl : k = nk := by omega
            have hltI : ¬ (k : Int) < k := by omega
            have htk : (ds.zip ks).take k = ds.zip ks := List.take_of_length_le (by rw [HZL.out]; omega)
            rw [htk] at HS
            obtain ⟨L, hL⟩ : ∃ L, manF (ds.zip ks) = L := ⟨_, rfl⟩
            obtain ⟨D, hD⟩ : ∃ D, pedF (ds.zip ks) = D := ⟨_, rfl⟩
            have hPP : P = (feetF fn fs D && handF hn hs L) := by
              rw [← HP.out]
              unfold possF posF
              rw [HS.out.al, decide_eq_true HOK.out, decide_eq_true HLL.out.symm, hL, hD]
              simp
            have hD4 : D.length ≤ 4 := by rw [← hD]; have := pedF_len (ds.zip ks); rw [HZL.out] at this; omega
            have hL4 : L.length ≤ 4 := by rw [← hL]; have := manF_len (ds.zip ks); rw [HZL.out] at this; omega
            have hf4 : (flatI D).length ≤ 512 := by rw [flatI_len]; have := cntF_le D; omega
            have hLs : ∀ a ∈ L, Sm a := by rw [← hL]; exact manF_sm _
            have hMN := HS.out.mn
            have hFT := HS.out.ft
            rw [hL] at hMN
            rw [hD] at hFT
            have HSO := Lib.hid (csort_any (flatI D) (by omega) b u7 wo hFT)
            obtain ⟨ft, hft⟩ : ∃ r, feetF fn fs D = r := ⟨_, rfl⟩
            rw [hft] at hPP
            have HFTF := Lib.hid hft
            have HFT := Lib.hid hFT
            have HPP := Lib.hid hPP
            have HMN := Lib.hid hMN
            have HLS := Lib.hid hLs
            have HPL := Lib.hid HS.out.pl
            have HBL := Lib.hid HS.out.bl
            have hgu : u7.ownBlock = u7.ownBlock := rfl
            clear htk hL hD hPP hD4 hLs hMN hFT hft hgu HS HP HKA HDA HZL HLL HKS
            cases ft with
            | false =>
              go_wp2_with (first | (go_at_call 32; (with_reducible refine (HSO.out.mono ?_)); rintro e w4 ⟨rfl, S, hpS, hiS, how, hgw⟩; have HG4 := Lib.hid hgw; have HO4 := Lib.hid how; have HPS := Lib.hid hpS; have HIS := Lib.hid hiS; have HP4 := Lib.hid (HPL.out.grown HG4.out (fun e => own_ne HFT.out HPL.out (by decide) e.symm)); have HB4 := Lib.hid (HBL.out.grown HG4.out HBL.out.size fun b' e => by have := (HFT.out.lt b' e).1; have := HBB.out; omega); have e0 := HP4.out.cell 0; have e1 := HP4.out.cell 1; have e2 := HP4.out.cell 2; have e3 := HP4.out.cell 3; simp only [List.getElem?_toArray, List.getElem?_cons_zero, List.getElem?_cons_succ] at e0 e1 e2 e3; have HM4 := Lib.hid (HMN.out.keep (R' := RdX _ u7) (w' := w4) rfl (fun xs hx => hx.kept HG4.out (own_other hx HFT.out (by decide))) fun _ _ q => RdX.grown q HG4.out (.inr rfl) fun _ _ h2 h3 => ⟨h2, h3⟩); clear hpS hiS how hgw) | (go_at_call 33; (with_reducible refine ((holds_any fn fs (fun b' => b' < w4.heap.size) u7 S w4 (fun _ h => h) (Sl.mono (slI_ownB HO4.out (by rw [HPS.out.length_eq]; omega)) fun _ h => h.2) (sm_perm HPS.out)).mono ?_)); rintro e w7 ⟨rfl, hb7⟩; rw [holds_one HOK.out.2.2.2.1, feet_sorted HPS.out HIS.out, HFTF.out]; have HB7 := Lib.hid (Bt HB4.out hb7); have HP7 := Lib.hid (HP4.out.below hb7 HP4.out.lt); have HY7 := Lib.hid hb7; have HSZ := Lib.hid HG4.out.size; clear hb7 e0 e1 e2 e3))
              go_ret
              exact ⟨by rw [HPP.out]; rfl, HB7.out⟩
            | true =>
              obtain ⟨m, hm⟩ : ∃ m, L.length = m := ⟨_, rfl⟩
              obtain ⟨A9, c9, hv9, hc9, hl9, -⟩ := HMN.out.sl (F := fun b' => b' < wo.heap.size) (by omega) (fun _ _ h _ => h)
              rw [hm] at hv9 hc9 hl9 hL4
              subst hv9
              by_cases hm0 : m = 0
              · subst hm0
                go_wp2_with (first | (go_at_call 32; (with_reducible refine (HSO.out.mono ?_)); rintro e w4 ⟨rfl, S, hpS, hiS, how, hgw⟩; have HG4 := Lib.hid hgw; have HO4 := Lib.hid how; have HPS := Lib.hid hpS; have HIS := Lib.hid hiS; have HP4 := Lib.hid (HPL.out.grown HG4.out (fun e => own_ne HFT.out HPL.out (by decide) e.symm)); have HB4 := Lib.hid (HBL.out.grown HG4.out HBL.out.size fun b' e => by have := (HFT.out.lt b' e).1; have := HBB.out; omega); have e0 := HP4.out.cell 0; have e1 := HP4.out.cell 1; have e2 := HP4.out.cell 2; have e3 := HP4.out.cell 3; simp only [List.getElem?_toArray, List.getElem?_cons_zero, List.getElem?_cons_succ] at e0 e1 e2 e3; have HM4 := Lib.hid (HMN.out.keep (R' := RdX _ u7) (w' := w4) rfl (fun xs hx => hx.kept HG4.out (own_other hx HFT.out (by decide))) fun _ _ q => RdX.grown q HG4.out (.inr rfl) fun _ _ h2 h3 => ⟨h2, h3⟩); clear hpS hiS how hgw) | (go_at_call 33; (with_reducible refine ((holds_any fn fs (fun b' => b' < w4.heap.size) u7 S w4 (fun _ h => h) (Sl.mono (slI_ownB HO4.out (by rw [HPS.out.length_eq]; omega)) fun _ h => h.2) (sm_perm HPS.out)).mono ?_)); rintro e w7 ⟨rfl, hb7⟩; rw [holds_one HOK.out.2.2.2.1, feet_sorted HPS.out HIS.out, HFTF.out]; have HB7 := Lib.hid (Bt HB4.out hb7); have HP7 := Lib.hid (HP4.out.below hb7 HP4.out.lt); have HY7 := Lib.hid hb7; have HSZ := Lib.hid HG4.out.size; clear hb7 e0 e1 e2 e3))
                go_ret
                exact ⟨by rw [HPP.out, List.length_eq_zero_iff.1 hm]; rfl, HB7.out⟩
              · have hm0I : ¬ (m : Int) = 0 := by omega
                by_cases hm1 : m = 1
                · subst hm1
                  obtain ⟨a, rfl⟩ := List.length_eq_one_iff.1 hm
                  go_upto_region 24 with (first | (go_at_call 32; (with_reducible refine (HSO.out.mono ?_)); rintro e w4 ⟨rfl, S, hpS, hiS, how, hgw⟩; have HG4 := Lib.hid hgw; have HO4 := Lib.hid how; have HPS := Lib.hid hpS; have HIS := Lib.hid hiS; have HP4 := Lib.hid (HPL.out.grown HG4.out (fun e => own_ne HFT.out HPL.out (by decide) e.symm)); have HB4 := Lib.hid (HBL.out.grown HG4.out HBL.out.size fun b' e => by have := (HFT.out.lt b' e).1; have := HBB.out; omega); have e0 := HP4.out.cell 0; have e1 := HP4.out.cell 1; have e2 := HP4.out.cell 2; have e3 := HP4.out.cell 3; simp only [List.getElem?_toArray, List.getElem?_cons_zero, List.getElem?_cons_succ] at e0 e1 e2 e3; have HM4 := Lib.hid (HMN.out.keep (R' := RdX _ u7) (w' := w4) rfl (fun xs hx => hx.kept HG4.out (own_other hx HFT.out (by decide))) fun _ _ q => RdX.grown q HG4.out (.inr rfl) fun _ _ h2 h3 => ⟨h2, h3⟩); clear hpS hiS how hgw) | (go_at_call 33; (with_reducible refine ((holds_any fn fs (fun b' => b' < w4.heap.size) u7 S w4 (fun _ h => h) (Sl.mono (slI_ownB HO4.out (by rw [HPS.out.length_eq]; omega)) fun _ h => h.2) (sm_perm HPS.out)).mono ?_)); rintro e w7 ⟨rfl, hb7⟩; rw [holds_one HOK.out.2.2.2.1, feet_sorted HPS.out HIS.out, HFTF.out]; have HB7 := Lib.hid (Bt HB4.out hb7); have HP7 := Lib.hid (HP4.out.below hb7 HP4.out.lt); have HY7 := Lib.hid hb7; have HSZ := Lib.hid HG4.out.size; clear hb7 e0 e1 e2 e3))
                  obtain ⟨A', c', hv', -, -, hat⟩ := HM4.out.sl (F := fun b' => b' < w4.heap.size) (by simp) (fun _ _ h _ => h)
                  injection hv' with hA' hl' hc'
                  clear hl'
                  subst hA' hc'
                  obtain ⟨ad, cs, rfl, hfa, hka, ⟨v1, rfl, hs1⟩, hcl⟩ := hat 0 (by simp)
                  obtain ⟨A1, e1, rfl, he1, hn1, -⟩ := hs1.open
                  have hadl : ad.block < w7.heap.size := Nat.lt_of_lt_of_le hfa HY7.out.size
                  have HA0 := (hcl.below HY7.out (by rw [block_of_add]; exact hfa))
                  simp only [Nat.zero_mul, add0] at HA0
                  have k4 : w7.cell? ad = some (.slice A1 a.length e1) := HA0.f0 rfl
                  have HS1 := Lib.hid (show SlI (fun b' => b' < w7.heap.size) w7 (.slice A1 a.length e1) a from Sl.mono (SlI.keep hs1 (Agree.below HY7.out fun _ h => h.1)) fun _ h => Nat.lt_of_lt_of_le h.1 HY7.out.size)
                  have HHO := Lib.hid (fun l => holds_one (notes := hn) HOK.out.2.2.1.1 l)
                  have HPR := Lib.hid (show P = twoF hn hs a by rw [HPP.out]; simp [handF])
                  have hsma := HLS.out a (by simp)
                  have HSM := Lib.hid hsma
                  obtain ⟨n, hna⟩ : ∃ n, a.length = n := ⟨_, rfl⟩
                  change a.length ≤ e1 at he1
                  change a.length ≤ _ at hn1
                  rw [hna] at HS1 k4 he1 hn1
                  have HNA := Lib.hid hna
                  clear HA0 hcl hs1 hat HMN hsma hna hka hm0I hm hm0 hL4 hl9 hf4
                  have HAD := Lib.hid hadl
                  clear hadl hfa hltI hc9 hk hgg hlt
                  have HCL := Lib.hid (fun v W l (h : SlI (fun b' => b' < w7.heap.size) W v l) (hm : Sm l) (hb : Below w7.heap.size w7 W) => (plays1_any hn hs b (fun b' => b' < w7.heap.size) v l W (fun _ h => Nat.lt_of_lt_of_le h hb.size) h hm ((Bc hb HP7.out.lt).trans (by simpa using HP7.out.cell 0)) ((Bc hb HP7.out.lt).trans (by simpa using HP7.out.cell 1))))
                  have HCE := Lib.hid (fun W (hb : Below w7.heap.size w7 W) => (hb.cell (p := ad) HAD.out).trans k4)
                  have HSK := Lib.hid (fun W (hb : Below w7.heap.size w7 W) => (show SlI (fun b' => b' < w7.heap.size) W (.slice A1 n e1) a from HS1.out.keep (Agree.below hb fun _ h => h)))
                  go_upto_region 25 with fail
                  go_loopg [13, 93] (n + 2) (fun gg s13 s93 wr => ∃ i : Nat, i ≤ n + 1 ∧ n + 1 - i ≤ gg ∧ s93 = .int .i64 i ∧ Aside (∀ j, j < i → divG hn hs a j = false) ∧ Aside (Below w7.heap.size w7 wr))
                  case atStart => exact ⟨0, by omega, by omega, rfl, fun j hj => absurd hj (by omega), B0 _⟩
                  case round =>
                    obtain ⟨i, hi, hgg, rfl, HDV, HAS⟩ := hrel
                    replace HDV : Hid (∀ j, j < i → divG hn hs a j = false) := Lib.hid HDV
                    replace HAS : Hid (Below w7.heap.size w7 wr) := Lib.hid HAS
                    clear k4
                    by_cases hlt : i < n + 1
                    · have hltI : (i : Int) < n + 1 := by omega
                      have hin : i ≤ n := by omega
                      have k9 := HCE.out _ HAS.out
                      have hs1 : ∀ w, (Instr.slice 32 (.slice A1 n e1) none (some (.int .i64 (i : Int))) none).run Tryd.prog w = .ok (.slice A1 i e1) w := fun w => by rw [run_to w A1 n e1 i hin he1, sliced_to]
                      have HTO := Lib.hid (fun W (hb : Below w7.heap.size w7 W) => (show SlI (fun b' => b' < w7.heap.size) W (.slice A1 i e1) (a.take i) from by rw [← sliced_to]; exact (HSK.out W hb).to hin))
                      have HFR := Lib.hid (fun W (hb : Below w7.heap.size w7 W) => (HSK.out W hb).from_ hin)
                      have hs2 : ∀ w, (Instr.slice 32 (.slice A1 n e1) (some (.int .i64 (i : Int))) none none).run Tryd.prog w = .ok (sliced A1 i n e1 1) w := fun w => run_from w A1 n e1 i hin
                      obtain ⟨v2, hv2⟩ : ∃ v, sliced A1 i n e1 1 = v := ⟨_, rfl⟩
                      rw [hv2] at hs2 HFR
                      obtain ⟨r1, hr1⟩ : ∃ r, oneF hn hs (a.take i) = r := ⟨_, rfl⟩
                      obtain ⟨r2, hr2⟩ : ∃ r, oneF hn hs (a.drop i) = r := ⟨_, rfl⟩
                      have HR1 := Lib.hid hr1
                      have HR2 := Lib.hid hr2
                      have HDI := Lib.hid (show divG hn hs a i = (r1 && r2) by unfold divG; rw [hr1, hr2])
                      have hnext : divG hn hs a i = false → ∀ j, j < i + 1 → divG hn hs a j = false := fun h j hj => by
                        rcases Nat.lt_succ_iff_lt_or_eq.1 hj with q | q
                        · exact HDV.out j q
                        · rw [q]; exact h
                      have HNX := Lib.hid hnext
                      clear hv2 hr1 hr2 hnext
                      cases r1 with
                      | false =>
                        go_wp2_with (go_at_call 34; (with_reducible refine ((HCL.out _ wr (a.take i) (HTO.out wr HAS.out) (HSM.out.take i) HAS.out).mono ?_)); rintro e w8 ⟨rfl, hb8⟩; rw [HHO.out, HR1.out]; have HA8 := Lib.hid (Bt HAS.out hb8); have k8 := HCE.out _ HA8.out; clear hb8 k9)
                        go_roundg (n + 1 - (i + 1))
                        case measure => omega
                        case rel => exact ⟨i + 1, by omega, by omega, by go_num, HNX.out (by rw [HDI.out]; rfl), HA8.out⟩
                      | true =>
                        cases r2 with
                        | false =>
                          go_wp2_with (first | (go_at_call 34; (with_reducible refine ((HCL.out _ wr (a.take i) (HTO.out wr HAS.out) (HSM.out.take i) HAS.out).mono ?_)); rintro e w8 ⟨rfl, hb8⟩; rw [HHO.out, HR1.out]; have HA8 := Lib.hid (Bt HAS.out hb8); have k8 := HCE.out _ HA8.out; clear hb8 k9) | (go_at_call 34; (with_reducible refine ((HCL.out _ w8 (a.drop i) (HFR.out w8 HA8.out) (HSM.out.drop i) HA8.out).mono ?_)); rintro e w9 ⟨rfl, hb9⟩; rw [HHO.out, HR2.out]; have HA9 := Lib.hid (Bt HA8.out hb9); clear hb9 k8))
                          go_roundg (n + 1 - (i + 1))
                          case measure => omega
                          case rel => exact ⟨i + 1, by omega, by omega, by go_num, HNX.out (by rw [HDI.out]; rfl), HA9.out⟩
                        | true =>
                          go_wp2_with (first | (go_at_call 34; (with_reducible refine ((HCL.out _ wr (a.take i) (HTO.out wr HAS.out) (HSM.out.take i) HAS.out).mono ?_)); rintro e w8 ⟨rfl, hb8⟩; rw [HHO.out, HR1.out]; have HA8 := Lib.hid (Bt HAS.out hb8); have k8 := HCE.out _ HA8.out; clear hb8 k9) | (go_at_call 34; (with_reducible refine ((HCL.out _ w8 (a.drop i) (HFR.out w8 HA8.out) (HSM.out.drop i) HA8.out).mono ?_)); rintro e w9 ⟨rfl, hb9⟩; rw [HHO.out, HR2.out]; have HA9 := Lib.hid (Bt HA8.out hb9); clear hb9 k8))
                          go_ret
                          refine ⟨?_, Bt HB7.out HA9.out⟩
                          rw [HPR.out, show twoF hn hs a = true from List.any_eq_true.2 ⟨i, List.mem_range.2 (by rw [HNA.out]; omega), by rw [HDI.out]; rfl⟩]
                          rfl
                    · have hltI : ¬ (i : Int) < n + 1 := by omega
                      go_wp2_with fail
                      go_ret
                      refine ⟨?_, Bt HB7.out HAS.out⟩
                      rw [HPR.out, show twoF hn hs a = false from List.any_eq_false.2 fun j hj => by rw [HDV.out j (by have := List.mem_range.1 hj; rw [HNA.out] at this; omega)]; simp]
                      rfl
                · have hm1I : ¬ (m : Int) = 1 := by omega
                  by_cases hm2 : m = 2
                  · subst hm2
                    obtain ⟨a, a2, rfl⟩ : ∃ a a2, L = [a, a2] := by
                      match L, hm with
                      | [x, y], _ => exact ⟨x, y, rfl⟩
                    go_upto_region 32 with (first | (go_at_call 32; (with_reducible refine (HSO.out.mono ?_)); rintro e w4 ⟨rfl, S, hpS, hiS, how, hgw⟩; have HG4 := Lib.hid hgw; have HO4 := Lib.hid how; have HPS := Lib.hid hpS; have HIS := Lib.hid hiS; have HP4 := Lib.hid (HPL.out.grown HG4.out (fun e => own_ne HFT.out HPL.out (by decide) e.symm)); have HB4 := Lib.hid (HBL.out.grown HG4.out HBL.out.size fun b' e => by have := (HFT.out.lt b' e).1; have := HBB.out; omega); have e0 := HP4.out.cell 0; have e1 := HP4.out.cell 1; have e2 := HP4.out.cell 2; have e3 := HP4.out.cell 3; simp only [List.getElem?_toArray, List.getElem?_cons_zero, List.getElem?_cons_succ] at e0 e1 e2 e3; have HM4 := Lib.hid (HMN.out.keep (R' := RdX _ u7) (w' := w4) rfl (fun xs hx => hx.kept HG4.out (own_other hx HFT.out (by decide))) fun _ _ q => RdX.grown q HG4.out (.inr rfl) fun _ _ h2 h3 => ⟨h2, h3⟩); clear hpS hiS how hgw) | (go_at_call 33; (with_reducible refine ((holds_any fn fs (fun b' => b' < w4.heap.size) u7 S w4 (fun _ h => h) (Sl.mono (slI_ownB HO4.out (by rw [HPS.out.length_eq]; omega)) fun _ h => h.2) (sm_perm HPS.out)).mono ?_)); rintro e w7 ⟨rfl, hb7⟩; rw [holds_one HOK.out.2.2.2.1, feet_sorted HPS.out HIS.out, HFTF.out]; have HB7 := Lib.hid (Bt HB4.out hb7); have HP7 := Lib.hid (HP4.out.below hb7 HP4.out.lt); have HY7 := Lib.hid hb7; have HSZ := Lib.hid HG4.out.size; clear hb7 e0 e1 e2 e3))
                    obtain ⟨A', c', hv', -, -, hat⟩ := HM4.out.sl (F := fun b' => b' < w4.heap.size) (by simp) (fun _ _ h _ => h)
                    injection hv' with hA' hl' hc'
                    clear hl'
                    subst hA' hc'
                    obtain ⟨ad, cs, rfl, hfa, hka, ⟨v1, rfl, hs1⟩, hcl⟩ := hat 0 (by simp)
                    obtain ⟨ad', cs', hh, -, hka', ⟨v2, rfl, hs2⟩, hcl2⟩ := hat 1 (by simp)
                    obtain rfl : ad = ad' := by injection hh
                    obtain ⟨A1, e1, rfl, he1, hn1, -⟩ := hs1.open
                    obtain ⟨A2, e2, rfl, he2, hn2, -⟩ := hs2.open
                    have HS1 := Lib.hid hs1
                    have HS2 := Lib.hid hs2
                    have hadl : ad.block < w7.heap.size := Nat.lt_of_lt_of_le hfa HY7.out.size
                    have HA0 := (hcl.below HY7.out (by rw [block_of_add]; exact hfa))
                    simp only [Nat.zero_mul, add0] at HA0
                    have HA1 := (hcl2.below HY7.out (by rw [block_of_add]; exact hfa))
                    simp only [Nat.mul_one] at HA1
                    have c0 := HP7.out.cell 0
                    have c1 := HP7.out.cell 1
                    simp only [List.getElem?_toArray, List.getElem?_cons_zero, List.getElem?_cons_succ] at c0 c1
                    have k4 : w7.cell? ad = some (.slice A1 a.length e1) := HA0.f0 rfl
                    have k5 : w7.cell? ⟨ad.block, ad.off + 1, none⟩ = some (.slice A2 a2.length e2) := HA1.f0 rfl
                    have hadl2 : (⟨ad.block, ad.off + 1, none⟩ : Addr).block < w7.heap.size := hadl
                    obtain ⟨r1, hr1⟩ : ∃ r, holdsF hn hs a = r := ⟨_, rfl⟩
                    have hone := holds_one (notes := hn) HOK.out.2.2.1.1 a
                    have HPR := Lib.hid (show P = (r1 && oneF hn hs a2) by rw [HPP.out, ← hr1, hone]; simp [handF])
                    clear HA0 HA1 hcl hcl2 hs1 hs2 hat hone HMN hka hka' he1 he2 hn1 hn2 hm0I hm1I hm hm0 hm1 hL4 hl9 hadl hfa hh hf4
                    cases r1 with
                    | false =>
                      go_wp2_with (go_at_call 34; (with_reducible refine ((plays1_any hn hs b (fun b' => b' < w4.heap.size) _ a w7 (fun _ h => Nat.lt_of_lt_of_le h HY7.out.size) (Sl.mono (SlI.keep HS1.out (Agree.below HY7.out fun _ h => h.1)) fun _ h => h.1) (HLS.out a (by simp)) c0 c1).mono ?_)); rintro e w8 ⟨rfl, hb8⟩; rw [hr1]; have HB8 := Lib.hid (Bt HB7.out hb8); have HZ8 := Lib.hid (Bt HY7.out hb8); have c5 := (Bc hb8 HP7.out.lt).trans c0; have c6 := (Bc hb8 HP7.out.lt).trans c1; have k6 := (Bc hb8 hadl2).trans k5; clear hb8 c0 c1 k4 k5)
                      go_ret
                      exact ⟨by rw [HPR.out]; rfl, HB8.out⟩
                    | true =>
                      go_wp2_with (first | (go_at_call 34; (with_reducible refine ((plays1_any hn hs b (fun b' => b' < w4.heap.size) _ a w7 (fun _ h => Nat.lt_of_lt_of_le h HY7.out.size) (Sl.mono (SlI.keep HS1.out (Agree.below HY7.out fun _ h => h.1)) fun _ h => h.1) (HLS.out a (by simp)) c0 c1).mono ?_)); rintro e w8 ⟨rfl, hb8⟩; rw [hr1]; have HB8 := Lib.hid (Bt HB7.out hb8); have HZ8 := Lib.hid (Bt HY7.out hb8); have c5 := (Bc hb8 HP7.out.lt).trans c0; have c6 := (Bc hb8 HP7.out.lt).trans c1; have k6 := (Bc hb8 hadl2).trans k5; clear hb8 c0 c1 k4 k5) | (go_at_call 34; (with_reducible refine ((plays1_any hn hs b (fun b' => b' < w4.heap.size) _ a2 w8 (fun _ h => Nat.lt_of_lt_of_le h HZ8.out.size) (Sl.mono (SlI.keep HS2.out (Agree.below HZ8.out fun _ h => h.1)) fun _ h => h.1) (HLS.out a2 (by simp)) c5 c6).mono ?_)); rintro e w9 ⟨rfl, hb9⟩; have HB9 := Lib.hid (Bt HB8.out hb9); clear hb9 c5 c6 k6))
                      go_ret
                      exact ⟨by rw [HPR.out, holds_one HOK.out.2.2.1.1 a2]; rfl, HB9.out⟩
                  · have hm2I : ¬ (m : Int) = 2 := by omega
                    go_wp2_with (first | (go_at_call 32; (with_reducible refine (HSO.out.mono ?_)); rintro e w4 ⟨rfl, S, hpS, hiS, how, hgw⟩; have HG4 := Lib.hid hgw; have HO4 := Lib.hid how; have HPS := Lib.hid hpS; have HIS := Lib.hid hiS; have HP4 := Lib.hid (HPL.out.grown HG4.out (fun e => own_ne HFT.out HPL.out (by decide) e.symm)); have HB4 := Lib.hid (HBL.out.grown HG4.out HBL.out.size fun b' e => by have := (HFT.out.lt b' e).1; have := HBB.out; omega); have e0 := HP4.out.cell 0; have e1 := HP4.out.cell 1; have e2 := HP4.out.cell 2; have e3 := HP4.out.cell 3; simp only [List.getElem?_toArray, List.getElem?_cons_zero, List.getElem?_cons_succ] at e0 e1 e2 e3; have HM4 := Lib.hid (HMN.out.keep (R' := RdX _ u7) (w' := w4) rfl (fun xs hx => hx.kept HG4.out (own_other hx HFT.out (by decide))) fun _ _ q => RdX.grown q HG4.out (.inr rfl) fun _ _ h2 h3 => ⟨h2, h3⟩); clear hpS hiS how hgw) | (go_at_call 33; (with_reducible refine ((holds_any fn fs (fun b' => b' < w4.heap.size) u7 S w4 (fun _ h => h) (Sl.mono (slI_ownB HO4.out (by rw [HPS.out.length_eq]; omega)) fun _ h => h.2) (sm_perm HPS.out)).mono ?_)); rintro e w7 ⟨rfl, hb7⟩; rw [holds_one HOK.out.2.2.2.1, feet_sorted HPS.out HIS.out, HFTF.out]; have HB7 := Lib.hid (Bt HB4.out hb7); have HP7 := Lib.hid (HP4.out.below hb7 HP4.out.lt); have HY7 := Lib.hid hb7; have HSZ := Lib.hid HG4.out.size; clear hb7 e0 e1 e2 e3))
                    go_ret
                    refine ⟨?_, HB7.out⟩
                    rw [HPP.out]
                    match L, hm with
                    | _ :: _ :: _ :: _, _ => rfl
                    | [_, _], e => exact absurd e.symm hm2
                    | [_], e => exact absurd e.symm hm1
                    | [], e => exact absurd e.symm hm0
      · have hlenI : ¬ (nk : Int) = nd := by omega
        go_wp2_with (first | (go_at_call 29; (with_reducible refine ((HWI1.out _ _ (pair_new _ _ _)).mono ?_)); rintro e w2 ⟨rfl, hb2⟩; have HB2 := Lib.hid (Bt (Ba HB1.out _) hb2); have HC2 := Lib.hid ((HC1.out.alloc (.cells #[.int .i64 hn, .int .i64 fn] 3)).below hb2 (HC1.out.alloc _).lt); have c5 := HC2.out.cell 1; have c6 := HC2.out.cell 3; simp only [List.getElem?_toArray, List.getElem?_cons_zero, List.getElem?_cons_succ] at c5 c6; clear hb2 c0 c1 c2 c3 HC1 HB1) | (go_at_call 29; (with_reducible refine ((HWI2.out _ _ (pair_new _ _ _)).mono ?_)); rintro e w3 ⟨rfl, hb3⟩; have HB3 := Lib.hid (Bt (Ba HB2.out _) hb3); have HC3 := Lib.hid ((HC2.out.alloc (.cells #[.int .i64 hs, .int .i64 fs] 3)).below hb3 (HC2.out.alloc _).lt); clear hb3 c5 c6 HC2 HB2))
        go_ret
        exact ⟨by rw [← HP.out]; unfold possF; rw [HNK.out, HND.out, decide_eq_false hlen]; simp, HB3.out⟩
end Go.Proofs.YtnphdmiondccgaaDoor
