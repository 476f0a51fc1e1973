/- Walk over span: Possible. -/
import Derived.Test.YtnphdmiondccgaaDoorZq
namespace Go.Proofs.YtnphdmiondccgaaDoor
open Go Go.RowKit Go.Shelf
open Pop
instance (hn hs fn fs : Int) : Decidable (PlOk hn hs fn fs) := by unfold PlOk okP; infer_instance
/-- Whether a player can play keys of divisions. -/
def possF (hn hs fn fs : Int) (ds : List Dv) (ks : List Nat) : Bool := decide (PlOk hn hs fn fs) && (decide (ks.length = ds.length) && posF hn hs fn fs (ds.zip ks))
/-- A flag and an error that say P together. -/
def PosIs (e : Ending) (P : Bool) : Prop := ∃ (b : Bool) (e0 : Int), e = .returned (.tuple #[.bool b, .int .i64 e0]) ∧ (b && decide (e0 = 0)) = P
/-- A row of ints below the world, apart from two rows' own blocks. -/
def RdX (s9 s10 : Value) (w : World) (cs : List Value) (l : List Int) : Prop := ∃ v, cs = [v] ∧ SlI (fun b' => b' < w.heap.size ∧ s9.ownBlock ≠ some b' ∧ s10.ownBlock ≠ some b') w v l
theorem RdX.bel {s9 s10 : Value} {w w' : World} {cs : List Value} {l : List Int} (h : RdX s9 s10 w cs l) (hb : Below w.heap.size w w') : RdX s9 s10 w' cs l := by
  obtain ⟨v, rfl, h⟩ := h
  exact ⟨v, rfl, Sl.mono (SlI.keep h (Agree.below hb fun _ q => q.1)) fun _ q => ⟨Nat.lt_of_lt_of_le q.1 hb.size, q.2⟩⟩
theorem RdX.grown {s9 s10 s9' s10' : Value} {w w' : World} {row : Option Nat} {cs : List Value} {l : List Int} (h : RdX s9 s10 w cs l) (hg : w.grownBy w' row) (hrow : row = s9.ownBlock ∨ row = s10.ownBlock)
    (hn : ∀ b', b' < w.heap.size → s9.ownBlock ≠ some b' → s10.ownBlock ≠ some b' → s9'.ownBlock ≠ some b' ∧ s10'.ownBlock ≠ some b') : RdX s9' s10' w' cs l := by
  obtain ⟨v, rfl, h⟩ := h
  refine ⟨v, rfl, Sl.mono (SlI.keep h (Agree.grown hg fun b' q => ⟨q.1, fun e => ?_⟩)) fun b' q => ⟨Nat.lt_of_lt_of_le q.1 hg.size, hn b' q.1 q.2.1 q.2.2⟩⟩
  rcases hrow with rfl | rfl
  · exact q.2.1 e.symm
  · exact q.2.2 e.symm
theorem rows_ne {w : World} {base base' : Nat} {e e' : TypeId} {k k' n n' : Nat} {v v' : Value} {xs xs' : List Value} (h : w.ownsRow base e k v n xs) (h' : w.ownsRow base' e' k' v' n' xs') (hne : e ≠ e') (b : Nat) (hv : v.ownBlock = some b) : v'.ownBlock ≠ some b := by
  rcases h.2 with hn | ⟨g, cap, cur, rfl, hb, hgg, rest⟩
  · obtain ⟨rfl, -⟩ := hn
    cases hv
  · cases hv
    exact own_ne h' hgg hne
theorem infoNtE : (Tryd.prog.info? 87).map (fun i => (i.zero, i.size, i.bytes)) = some (some (.agg #[.int .u64 0, .int .u64 0]), 2, 16) := by kernel_rfl
theorem elemNs : ElemN Tryd.prog 45 87 2 16 := ⟨Tryd.underlying45, by
  obtain ⟨i, hi, hz, hs, hb⟩ := info_parts infoNtE
  exact ⟨i, _, hi, hz, hs, hb, rfl⟩⟩
theorem infoIsE : (Tryd.prog.info? 32).map (fun i => (i.zero, i.size, i.bytes)) = some (some (.slice none 0 0), 1, 24) := by kernel_rfl
theorem elemIs : ElemN Tryd.prog 51 32 1 24 := ⟨Tryd.underlying51, by
  obtain ⟨i, hi, hz, hs, hb⟩ := info_parts infoIsE
  exact ⟨i, _, hi, hz, hs, hb, rfl⟩⟩
/-- What holds after some divisions of the loop. -/
structure PSt (w : World) (b : Nat) (pa : Array Value) (l : List (Dv × Nat)) (s9 s10 : Value) (wr : World) : Prop where
  al : allD l = true
  mn : OwnL b 32 1 (RdX s9 s10) wr s9 (manF l)
  pd : OwnL b 87 2 NtC wr s10 (pedF l)
  pl : Blk wr b 43 pa
  bl : Below w.heap.size w wr
theorem PSt.on {w wr wr' : World} {b : Nat} {pa : Array Value} {l : List (Dv × Nat)} {s9 s10 : Value} (h : PSt w b pa l s9 s10 wr) (hb : Below wr.heap.size wr wr') : PSt w b pa l s9 s10 wr' :=
  ⟨h.al, h.mn.keep (R' := RdX s9 s10) rfl (fun _ hx => hx.kept (only_of_below hb none) (by cases s9.ownBlock with
    | none => exact .inl rfl
    | some g => exact .inr fun e => by cases e)) fun _ _ q => q.bel hb,
   h.pd.keep (R' := NtC) rfl (fun _ hx => hx.kept (only_of_below hb none) (by cases s10.ownBlock with
    | none => exact .inl rfl
    | some g => exact .inr fun e => by cases e)) fun _ _ q => q, h.pl.below hb h.pl.lt, Bt h.bl hb⟩
set_option maxRecDepth 100000 in
set_option maxHeartbeats 4000000 in
theorem possible_any (hn hs fn fs : Int) (ds : List Dv) (ks : List Nat) (hk4 : ks.length ≤ 4) (hks : ∀ x ∈ ks, x < 2 ^ 128) (vd vk : Value) (F : Nat → Prop) (w : World) (hF : ∀ b, F b → b < w.heap.size) (hD : SlDv F w vd ds) (hK : SlK F w vk ks) (hT : Tab64 w) (hg : 0 < w.heap.size) :
    Calls Tryd.prog 10 #[plV hn hs fn fs, vd, vk] w fun e w' => PosIs e (possF hn hs fn fs ds ks) ∧ Below w.heap.size w w' := by
  obtain ⟨P, hP⟩ : ∃ P, possF hn hs fn fs ds ks = P := ⟨_, rfl⟩
  rw [hP]
  have HP := Lib.hid hP
  have HPE := Lib.hid (fun W => player_err hn hs fn fs W)
  unfold plV
  obtain ⟨w1, hw1⟩ : ∃ w1 : World, w.alloc (.cells #[.int .i64 hn, .int .i64 hs, .int .i64 fn, .int .i64 fs] 43) = w1 := ⟨_, rfl⟩
  obtain ⟨b, hb⟩ : ∃ b, w.heap.size = b := ⟨_, rfl⟩
  have HC1 := Lib.hid (show Blk w1 b 43 #[.int .i64 hn, .int .i64 hs, .int .i64 fn, .int .i64 fs] by rw [← hw1, ← hb]; exact Blk.new _ _ _)
  have HB1 := Lib.hid (show Below w.heap.size w w1 by rw [← hw1]; exact Ba (B0 w) _)
  obtain ⟨Ad, cd, rfl, hcd, hlend, hdat⟩ := hD.open
  obtain ⟨Ak, ck, rfl, hck, hlenk, hkat⟩ := hK.open
  have HDA := Lib.hid hdat
  have HKA := Lib.hid hkat
  have HF := Lib.hid hF
  have HT := Lib.hid hT
  have HKS := Lib.hid hks
  have HW1 := Lib.hid hw1
  have HBB := Lib.hid hb
  have c0 := HC1.out.cell 0
  have c1 := HC1.out.cell 1
  have c2 := HC1.out.cell 2
  have c3 := HC1.out.cell 3
  simp only [List.getElem?_toArray, List.getElem?_cons_zero, List.getElem?_cons_succ] at c0 c1 c2 c3
  obtain ⟨nd, hnd⟩ : ∃ n, ds.length = n := ⟨_, rfl⟩
  obtain ⟨nk, hnk⟩ : ∃ n, ks.length = n := ⟨_, rfl⟩
  rw [hnd] at hcd hlend ⊢
  rw [hnk] at hck hlenk hk4 ⊢
  have HND := Lib.hid hnd
  have HNK := Lib.hid hnk
  clear hdat hkat hF hT hks hw1 hb hD hK hP hnd hnk
  go_enter Tryd.func10, Tryd.ntmps10
  go_upto_region 1 with fail
  rw [HW1.out, HBB.out]
  clear HW1
  go_upto_region 2 with (go_at_call 21; (with_reducible refine ((HPE.out _).mono ?_)); rintro e w2 ⟨⟨e0, rfl, he⟩, hb2⟩; have HE := Lib.hid he; have HC2 := Lib.hid (HC1.out.below hb2 HC1.out.lt); have HB2 := Lib.hid (Bt HB1.out hb2); clear he hb2 c0 c1 c2 c3 HC1 HB1)
  by_cases he0 : e0 = 0
  · subst he0
    have HOK := Lib.hid (HE.out.1 rfl)
    clear HE
    by_cases hlen : nk = nd
    · subst hlen
      go_upto_region 9 with fail
      have hLL : ds.length = ks.length := by rw [HND.out, HNK.out]
      have hZL : (ds.zip ks).length = nk := by rw [List.length_zip, HND.out, HNK.out]; omega
      have HLL := Lib.hid hLL
      have HZL := Lib.hid hZL
      clear hLL hZL
      go_loopg [9, 10, 27] (nk + 1) (fun gg s9 s10 s27 wr => ∃ k : Nat, k ≤ nk ∧ nk - k ≤ gg ∧ s27 = .int .i64 k ∧ Aside (PSt w b #[.int .i64 hn, .int .i64 hs, .int .i64 fn, .int .i64 fs] ((ds.zip ks).take k) s9 s10 wr))
      case atStart => exact ⟨0, by omega, by omega, rfl, (show PSt _ _ _ _ _ _ _ from ⟨rfl, OwnL.nil, OwnL.nil, HC2.out, HB2.out⟩)⟩
      case round =>
        clear HC2 HB2
        obtain ⟨k, hk, hgg, rfl, HS⟩ := hrel
        replace HS : Hid (PSt w b #[.int .i64 hn, .int .i64 hs, .int .i64 fn, .int .i64 fs] ((ds.zip ks).take k) u9 u10 wr) := Lib.hid HS
        obtain ⟨wo, rfl⟩ : ∃ wo : World, wo = wr := ⟨_, rfl⟩
        by_cases hlt : k < nk
        · have hltI : (k : Int) < nk := by omega
          have hk1 : k < ds.length := by rw [HND.out]; exact hlt
          have hk2 : k < ks.length := by rw [HNK.out]; exact hlt
          obtain ⟨ad, nm, Bs', ns, cs', rfl, hf, hfl⟩ := HDA.out k hk1
          have hfb : (ad.add (k * 5)).block < w.heap.size := by rw [block_of_add]; exact HF.out _ hf
          have q := hfl.below HS.out.bl hfb
          have p0 := q.f0 rfl
          have p1 := q.f1 rfl
          have p2 := q.f2 rfl
          have p3 := q.f3 rfl
          have p4 := q.f4 rfl
          obtain ⟨pd, hpd⟩ : ∃ y, ds[k].ped = y := ⟨_, rfl⟩
          obtain ⟨lo, hlo⟩ : ∃ y, ds[k].lo = y := ⟨_, rfl⟩
          obtain ⟨hi, hhi⟩ : ∃ y, ds[k].hi = y := ⟨_, rfl⟩
          rw [hpd] at p1
          rw [hlo] at p2
          rw [hhi] at p3
          have HPDk := Lib.hid hpd
          have HLO := Lib.hid hlo
          have HHI := Lib.hid hhi
          clear q hf hfl hfb hpd hlo hhi
          go_upto_region 11 with fail
          obtain ⟨w3, hw3⟩ : ∃ w3 : World, wo.alloc (.cells #[.string nm, .bool pd, .int .i64 lo, .int .i64 hi, .slice Bs' ns cs'] 85) = w3 := ⟨_, rfl⟩
          obtain ⟨g, hg3⟩ : ∃ g, wo.heap.size = g := ⟨_, rfl⟩
          have HD1 := Lib.hid (show Blk w3 g 85 #[.string nm, .bool pd, .int .i64 lo, .int .i64 hi, .slice Bs' ns cs'] by rw [← hw3, ← hg3]; exact Blk.new _ _ _)
          have HS3 := Lib.hid (show PSt w b _ _ u9 u10 w3 from HS.out.on (by rw [← hw3]; exact Ba (B0 wo) _))
          rw [hw3, hg3]
          have d1 := HD1.out.cell 1
          have d2 := HD1.out.cell 2
          have d3 := HD1.out.cell 3
          simp only [List.getElem?_toArray, List.getElem?_cons_zero, List.getElem?_cons_succ] at d1 d2 d3
          clear hw3 hg3 p0 p1 p2 p3 p4 HS
          have HRA := Lib.hid (fun W => range_any lo hi W)
          unfold ntV at HRA
          go_upto_region 12 with (go_at_call 22; (with_reducible refine ((HRA.out _).mono ?_)); rintro e w4 ⟨⟨y, e1, rfl, hy, he1, hyt⟩, hb4⟩; have HY := Lib.hid hy; have HE1 := Lib.hid he1; have HYT := Lib.hid hyt; have HS4 := Lib.hid (HS3.out.on hb4); have HD4 := Lib.hid (HD1.out.below hb4 HD1.out.lt); clear hy he1 hyt hb4 d1 d2 d3)
          obtain ⟨w5, hw5⟩ : ∃ w5 : World, w4.alloc (.cells #[.int .u64 ((Nt.lo y : Nat) : Int), .int .u64 ((Nt.hi y : Nat) : Int)] 87) = w5 := ⟨_, rfl⟩
          obtain ⟨g5, hg5⟩ : ∃ g, w4.heap.size = g := ⟨_, rfl⟩
          have HN5 := Lib.hid (show Blk w5 g5 87 #[.int .u64 ((Nt.lo y : Nat) : Int), .int .u64 ((Nt.hi y : Nat) : Int)] by rw [← hw5, ← hg5]; exact Blk.new _ _ _)
          have HS5 := Lib.hid (show PSt w b _ _ u9 u10 w5 from HS4.out.on (by rw [← hw5]; exact Ba (B0 w4) _))
          have HD5 := Lib.hid (show Blk w5 g 85 #[.string nm, .bool pd, .int .i64 lo, .int .i64 hi, .slice Bs' ns cs'] by rw [← hw5]; exact HD4.out.alloc _)
          rw [hw5, hg5]
          clear hw5 hg5 HS3 HS4 HD1 HD4
          have hbad : ∀ e : compB lo hi ks[k] = false, P = false := fun e => by
            rw [← HP.out]
            unfold possF posF
            rw [allD_bad (k := k) (by rw [HZL.out]; exact hlt) (by rw [List.getElem_zip, HLO.out, HHI.out]; exact e)]
            simp
          have HBAD := Lib.hid hbad
          clear hbad
          by_cases he1 : e1 = 0
          · subst he1
            have hok := HE1.out.1 rfl
            have hwd := within_dec (HKS.out ks[k] (List.getElem_mem hk2)) (HYT.out rfl)
            have hcb := compB_ok hok ks[k]
            rw [← hcb] at hwd
            obtain ⟨r, hr⟩ : ∃ r, compB lo hi ks[k] = r := ⟨_, rfl⟩
            obtain ⟨x, hx⟩ : ∃ x, ks[k] = x := ⟨_, rfl⟩
            have hxl := HKS.out ks[k] (List.getElem_mem hk2)
            obtain ⟨ap, rfl, hfk, hflk⟩ := HKA.out k hk2
            have hkb : (ap.add (k * 2)).block < w.heap.size := by rw [block_of_add]; exact HF.out _ hfk
            have hk5 : (ap.add (k * 2)).block < w5.heap.size := Nat.lt_of_lt_of_le hkb HS5.out.bl.size
            rw [hr] at hwd
            rw [hx] at hwd hxl hflk
            have hcall := fun W => ntWithin_any x y hxl HY.out W
            rw [hwd] at hcall
            have hflw := hflk.below HS5.out.bl hkb
            have m0 := HN5.out.cell 0
            have m1 := HN5.out.cell 1
            simp only [List.getElem?_toArray, List.getElem?_cons_zero, List.getElem?_cons_succ] at m0 m1
            have HX := Lib.hid hx
            have HR := Lib.hid hr
            unfold ntV at hcall
            obtain ⟨xl, hxl'⟩ : ∃ z, Nt.lo x = z := ⟨_, rfl⟩
            obtain ⟨xh, hxh'⟩ : ∃ z, Nt.hi x = z := ⟨_, rfl⟩
            obtain ⟨yl, hyl⟩ : ∃ z, Nt.lo y = z := ⟨_, rfl⟩
            obtain ⟨yh, hyh⟩ : ∃ z, Nt.hi y = z := ⟨_, rfl⟩
            rw [hxl', hxh'] at hcall hflw
            rw [hyl, hyh] at hcall HN5 ⊢
            rw [hyl] at m0
            rw [hyh] at m1
            have k0 : ∀ q : Cls54 w5, q.w.cell? (ap.add (k * 2)) = some (.int .u64 (xl : Int)) := fun q => (hflw.below q.b hk5).f0 rfl
            have k1 : ∀ q : Cls54 w5, q.w.cell? ⟨(ap.add (k * 2)).block, (ap.add (k * 2)).off + 1, none⟩ = some (.int .u64 (xh : Int)) := fun q => (hflw.below q.b hk5).f1 rfl
            have k2 : ∀ q : Cls54 w5, q.w.cell? ⟨g5, 0, none⟩ = some (.int .u64 (yl : Int)) := fun q => (Bc q.b HN5.out.lt).trans m0
            have k3 : ∀ q : Cls54 w5, q.w.cell? ⟨g5, 1, none⟩ = some (.int .u64 (yh : Int)) := fun q => (Bc q.b HN5.out.lt).trans m1
            have HL := Lib.hid (fun q : Cls54 w5 => (show Calls Tryd.prog 23 #[.agg #[.int .u64 (xl : Int), .int .u64 (xh : Int)], .agg #[.int .u64 (yl : Int), .int .u64 (yh : Int)]] q.w fun e w' => e = .returned (.bool r) ∧ ∃ z : Cls54 w5, w' = z.w from (hcall q.w).mono fun e w' ⟨q1, q2⟩ => ⟨q1, Cls54.mk' (Bt q.b q2), rfl⟩))
            have HFK := Lib.hid hflk
            have HKB := Lib.hid hkb
            have HXL := Lib.hid hxl
            clear hcall hwd hcb hok hr hx hflk hfk hkb hk5 hxl hflw m0 m1 hxl' hxh' hyl hyh HY HE1 HYT
            go_upto_region 14 with fail
            refine wp_region_class54_lit (C := fun w' => ∃ q : Cls54 w5, w' = q.w) (by kernel_rfl) (by kernel_rfl) ⟨Cls54.mk' (B0 w5).drew, rfl⟩ ?_
            repeat (any_goals (first | go_big_quiet_step (first | (go_at_call 23; with_reducible exact HL.out _)) | quiet_step (first | (go_at_call 23; with_reducible exact HL.out _))))
            refine wpQuiet_nil ?_
            rintro _ ⟨q, rfl⟩
            have HS6 := Lib.hid (HS5.out.on q.b)
            have HD6 := Lib.hid (HD5.out.below q.b HD5.out.lt)
            clear k0 k1 k2 k3 HL HS5 HD5 HN5
            generalize q.w = w6 at *
            cases r with
            | false =>
              go_wp2_with fail
              refine bodyPost_ret (v := .tuple #[.bool false, .int .i64 23]) (by simp [results, Tryd.f10, go_sem]) rfl ?_
              exact ⟨⟨false, 23, rfl, by rw [HBAD.out HR.out]; rfl⟩, HS6.out.bl⟩
            | true =>
              have hzn := zip_next hk1 hk2
              rw [HX.out] at hzn
              have HZN := Lib.hid hzn
              have hcmp : compB (ds[k]).lo (ds[k]).hi x = true := by rw [HLO.out, HHI.out, ← HX.out]; exact HR.out
              have HAL := Lib.hid (show allD ((ds.zip ks).take k ++ [(ds[k], x)]) = true by rw [allD_snoc, HS6.out.al]; simpa using hcmp)
              have hpd6 := HD6.out.cell 1
              simp only [List.getElem?_toArray, List.getElem?_cons_zero, List.getElem?_cons_succ] at hpd6
              clear hzn hcmp HBAD
              cases pd with
              | true =>
                have hflw := HFK.out.below HS6.out.bl HKB.out
                have p0 := hflw.f0 rfl
                have p1 := hflw.f1 rfl
                obtain ⟨cs, q1, q2, q3⟩ := id HS6.out.pd
                have hpl := pedF_len ((ds.zip ks).take k)
                rw [List.length_take] at hpl
                obtain ⟨m, hm⟩ : ∃ m, (pedF ((ds.zip ks).take k)).length = m := ⟨_, rfl⟩
                rw [hm] at q3 hpl
                have hm4 : m ≤ 4 := by omega
                obtain ⟨xl', hxl'⟩ : ∃ z, Nt.lo x = z := ⟨_, rfl⟩
                obtain ⟨xh', hxh'⟩ : ∃ z, Nt.hi x = z := ⟨_, rfl⟩
                rw [hxl'] at p0
                rw [hxh'] at p1
                have HNC := Lib.hid (show ∀ W, NtC W [.int .u64 (xl' : Int), .int .u64 (xh' : Int)] x from fun _ => by unfold NtC; rw [hxl', hxh'])
                have HQ1 := Lib.hid q1
                have HQ2 := Lib.hid q2
                have HQ3 := Lib.hid q3
                have HM := Lib.hid hm
                have HLB := Lib.hid HS6.out.pd.lt
                have hbs : b < w6.heap.size := HS6.out.pl.lt
                clear q1 q2 q3 hm hpl hflw hxl' hxh'
                go_wp2_with (at_builtin; refine wpList_appS elemNs (by omega) rfl _ _ rfl b _ m _ rfl (HQ3.out.alloc _) ⟨w6.heap.size, 0, none⟩ 1 [.int .u64 (xl' : Int), .int .u64 (xh' : Int)] rfl rfl (Flds.new w6 _ _) (by simp [Value.oneCell']) (by omega) (by omega) (by simp; omega) ?_; intro g' cap w8 hown8 hg8 hgg; have HO8 := Lib.hid hown8; have HG8 := Lib.hid hg8; have HGG := Lib.hid hgg; clear hown8 hg8 hgg p0 p1 hpd6)
                have HS7 := Lib.hid (HS6.out.on (Ba (B0 w6) (.cells #[.int .u64 (xl' : Int), .int .u64 (xh' : Int)] 87)))
                go_roundg (nk - (k + 1))
                case measure => omega
                case rel =>
                  refine ⟨k + 1, by omega, by omega, by go_num, ?_⟩
                  show PSt _ _ _ _ _ _ _
                  rw [HZN.out]
                  refine ⟨HAL.out, ?_, ?_, HS7.out.pl.grown HG8.out (fun e => own_ne HQ3.out HS6.out.pl (by decide) e.symm), HS7.out.bl.grown HG8.out (by have := HS7.out.bl.size; exact this) fun b' e => by have := (HLB.out b' e).1; have := HBB.out; omega⟩
                  · rw [manF_snoc, if_neg (by rw [HPDk.out]; simp), List.append_nil]
                    refine HS7.out.mn.keep (R' := RdX _ _) rfl (fun xs hx => hx.kept HG8.out ?_) fun _ _ q => RdX.grown q HG8.out (.inr rfl) fun b' h1 h2 h3 => ⟨h2, fun e => ?_⟩
                    · cases hv : u9.ownBlock with
                      | none => exact .inl rfl
                      | some b' => exact .inr (fun e => rows_ne hx (HQ3.out.alloc _) (by decide) b' hv e.symm)
                    · have e' : g' = b' := by injection e
                      rcases HGG.out with q1 | q1
                      · exact h3 (Eq.trans (Eq.symm q1) (congrArg some e'))
                      · omega
                  · rw [pedF_snoc, if_pos (by rw [HPDk.out])]
                    exact OwnL.snoc HQ1.out HQ2.out rfl (HNC.out _) (fun _ _ h => h) (by rw [HM.out]; exact HO8.out)
              | false =>
                have HCT := Lib.hid (fun W => count_any x HXL.out W)
                have hflw := HFK.out.below HS6.out.bl HKB.out
                have p0 := hflw.f0 rfl
                have p1 := hflw.f1 rfl
                have hml : (memI x).length = (Nt.mem x).length := by unfold memI; rw [List.length_map]
                obtain ⟨c, hc⟩ : ∃ c, (Nt.mem x).length = c := ⟨_, rfl⟩
                rw [hc] at hml HCT
                have HML := Lib.hid hml
                unfold ntV at HCT
                obtain ⟨xl', hxl'⟩ : ∃ z, Nt.lo x = z := ⟨_, rfl⟩
                obtain ⟨xh', hxh'⟩ : ∃ z, Nt.hi x = z := ⟨_, rfl⟩
                rw [hxl'] at p0 HCT
                rw [hxh'] at p1 HCT
                clear hml hc hflw hxl' hxh'
                by_cases hc0 : c = 0
                · subst hc0
                  go_wp2_with (go_at_call 24; (with_reducible refine ((HCT.out _).mono ?_)); rintro e w7 ⟨rfl, hb7⟩; have HS7 := Lib.hid (HS6.out.on hb7); clear hb7 p0 p1 hpd6 HS6)
                  go_roundg (nk - (k + 1))
                  case measure => omega
                  case rel => exact ⟨k + 1, by omega, by omega, by go_num, (show PSt _ _ _ _ _ _ _ from by rw [HZN.out]; exact ⟨HAL.out, by rw [manF_snoc, if_neg (by rw [HML.out]; omega), List.append_nil]; exact HS7.out.mn, by rw [pedF_snoc, if_neg (by rw [HPDk.out]; simp), List.append_nil]; exact HS7.out.pd, HS7.out.pl, HS7.out.bl⟩)⟩
                · have hcI : (0 : Int) < c := by omega
                  have HMB := Lib.hid (fun W (hb : Below w.heap.size w W) => members_any x HXL.out W (HT.out.below hb) (Nat.lt_of_lt_of_le hg hb.size))
                  obtain ⟨cs, q1, q2, q3⟩ := id HS6.out.mn
                  have hpl := manF_len ((ds.zip ks).take k)
                  rw [List.length_take] at hpl
                  obtain ⟨m, hm⟩ : ∃ m, (manF ((ds.zip ks).take k)).length = m := ⟨_, rfl⟩
                  rw [hm] at hpl
                  have hm4 : m ≤ 4 := by omega
                  have HM := Lib.hid hm
                  clear q1 q2 q3 hm hpl
                  unfold ntV at HMB
                  go_upto_region 19 with (go_at_call 24; (with_reducible refine ((HCT.out _).mono ?_)); rintro e w7 ⟨rfl, hb7⟩; have HS7 := Lib.hid (HS6.out.on hb7); clear hb7 p0 p1 hpd6 HS6)
                  have hflw := HFK.out.below HS7.out.bl HKB.out
                  have p0 := hflw.f0 rfl
                  have p1 := hflw.f1 rfl
                  obtain ⟨xa, hxa⟩ : ∃ z, Nt.lo x = z := ⟨_, rfl⟩
                  obtain ⟨xb, hxb⟩ : ∃ z, Nt.hi x = z := ⟨_, rfl⟩
                  rw [hxa] at p0 HMB
                  rw [hxb] at p1 HMB
                  clear hflw hxa hxb
                  have HLO7 := Lib.hid HS7.out.mn.lt
                  go_wp2_with (first | (go_at_call 25; (with_reducible refine ((HMB.out _ HS7.out.bl).mono ?_)); rintro e w8 ⟨v8, rfl, hs8, hb8⟩; obtain ⟨A8, c8, rfl, hc8, hl8, -⟩ := hs8.open; have HV8 := Lib.hid (show SlI _ _ _ (memI x) from hs8); have HS8 := Lib.hid (HS7.out.on hb8); obtain ⟨cs, q1, q2, q3⟩ := id HS8.out.mn; rw [HM.out] at q3; have HQ1 := Lib.hid q1; have HQ2 := Lib.hid q2; have HQ3 := Lib.hid q3; have hbs : b < w8.heap.size := HS8.out.pl.lt; generalize ((Nt.mem x).map fun i : Nat => (i : Int)).length = n8 at *; have HB8 := Lib.hid hb8; clear q1 q2 q3 hs8 hb8) | (at_builtin; refine wpList_appS elemIs (by omega) rfl _ _ rfl b _ m _ rfl (HQ3.out.alloc _) ⟨_, 0, none⟩ 1 [.slice A8 n8 c8] rfl rfl (Flds.new _ _ _) (by simp [Value.oneCell']) (by omega) (by omega) (by simp; omega) ?_; intro g' cap w9 hown9 hg9 hgg; have HO9 := Lib.hid hown9; have HG9 := Lib.hid hg9; have HGG := Lib.hid hgg; clear hown9 hg9 hgg))
                  go_roundg (nk - (k + 1))
                  case measure => omega
                  case rel =>
                    refine ⟨k + 1, by omega, by omega, by go_num, ?_⟩
                    show PSt _ _ _ _ _ _ _
                    have HS9 := HS8.out.on (Ba (B0 _) (.cells #[.slice A8 n8 c8] 32))
                    rw [HZN.out]
                    have hgn : ∀ b', b' < w8.heap.size → u9.ownBlock ≠ some b' → (Value.slice (some ⟨g', 0, none⟩) (m + 1) cap).ownBlock ≠ some b' := fun b' h1 h2 e => by
                      have e' : g' = b' := by injection e
                      rcases HGG.out with q1 | q1
                      · exact h2 (Eq.trans (Eq.symm q1) (congrArg some e'))
                      · rw [World.size_alloc] at q1
                        omega
                    have hgn1 : ∀ b', b' < (w8.alloc (.cells #[.slice A8 n8 c8] 32)).heap.size → u9.ownBlock ≠ some b' → u10.ownBlock ≠ some b' → (Value.slice (some ⟨g', 0, none⟩) (m + 1) cap).ownBlock ≠ some b' ∧ u10.ownBlock ≠ some b' := fun b' h1 h2 h3 => ⟨fun e => by
                      have e' : g' = b' := by injection e
                      rcases HGG.out with q1 | q1
                      · exact h2 (Eq.trans (Eq.symm q1) (congrArg some e'))
                      · omega, h3⟩
                    have hlo9 : ∀ b', u9.ownBlock = some b' → b' < w7.heap.size := fun b' e => (HLO7.out b' e).2
                    have hlo10 : ∀ b', u10.ownBlock = some b' → b' < w7.heap.size := fun b' e => (HS7.out.pd.lt b' e).2
                    refine ⟨HAL.out, ?_, ?_, HS9.pl.grown HG9.out (fun e => own_ne (HQ3.out.alloc _) HS9.pl (by decide) e.symm), HS9.bl.grown HG9.out (by have := HS9.bl.size; exact this) fun b' e => by have := (HS9.mn.lt b' e).1; have := HBB.out; omega⟩
                    · rw [manF_snoc, if_pos ⟨HPDk.out, by rw [HML.out]; omega⟩]
                      refine OwnL.snoc HQ1.out HQ2.out rfl ?_ (fun _ _ q => RdX.grown (RdX.bel q (Ba (B0 w8) _)) HG9.out (.inl rfl) hgn1) (by rw [HM.out]; exact HO9.out)
                      refine ⟨_, rfl, Sl.mono (SlI.keep (SlI.keep HV8.out (Agree.below (Ba (B0 w8) _) fun _ q => q.2)) (Agree.grown HG9.out fun b' q => ⟨by rw [World.size_alloc]; omega, fun e => ?_⟩)) fun b' q => ⟨?_, ?_, ?_⟩⟩
                      · have := hlo9 b' e.symm; omega
                      · have := HG9.out.size; rw [World.size_alloc] at this; omega
                      · exact hgn b' q.2 fun e => by have := hlo9 b' e; omega
                      · exact fun e => by have := hlo10 b' e; omega
                    · rw [pedF_snoc, if_neg (by rw [HPDk.out]; simp), List.append_nil]
                      refine HS9.pd.keep (R' := NtC) rfl (fun xs hx => hx.kept HG9.out ?_) fun _ _ q => q
                      cases hv : u10.ownBlock with
                      | none => exact .inl rfl
                      | some b' => exact .inr (fun e => rows_ne hx (HQ3.out.alloc _) (by decide) b' hv e.symm)
          · go_wp2_with fail
            refine bodyPost_ret (v := .tuple #[.bool false, .int .i64 e1]) (by simp [results, Tryd.f10, go_sem]) rfl ?_
            exact ⟨⟨false, e1, rfl, by rw [HBAD.out (compB_bad (fun h => he1 (HE1.out.2 h)) _)]; rfl⟩, HS5.out.bl⟩
        · obtain rfl : k = nk := by omega
          have hltI : ¬ (k : Int) < k := by omega
          have htk : (ds.zip ks).take k = ds.zip ks := List.take_of_length_le (by rw [HZL.out]; omega)
          rw [htk] at HS
          obtain ⟨L, hL⟩ : ∃ L, manF (ds.zip ks) = L := ⟨_, rfl⟩
          obtain ⟨D, hD⟩ : ∃ D, pedF (ds.zip ks) = D := ⟨_, rfl⟩
          have hPP : P = (feetF fn fs D && handF hn hs L) := by
            rw [← HP.out]
            unfold possF posF
            rw [HS.out.al, decide_eq_true HOK.out, decide_eq_true HLL.out.symm, hL, hD]
            simp
          have hDl : ∀ x ∈ D, x < 2 ^ 128 := fun x hx => by
            rw [← hD] at hx
            unfold pedF at hx
            obtain ⟨p, hp, rfl⟩ := List.mem_map.1 hx
            exact HKS.out _ (List.of_mem_zip (List.mem_filter.1 hp).1).2
          have hD4 : D.length ≤ 4 := by rw [← hD]; have := pedF_len (ds.zip ks); rw [HZL.out] at this; omega
          have hL4 : L.length ≤ 4 := by rw [← hL]; have := manF_len (ds.zip ks); rw [HZL.out] at this; omega
          have hLs : ∀ a ∈ L, Sm a := by rw [← hL]; exact manF_sm _
          have hMN := HS.out.mn
          have hPD := HS.out.pd
          rw [hL] at hMN
          rw [hD] at hPD
          have HFE := Lib.hid (feet_any hn hs fn fs (fun b' => b' < wo.heap.size) u10 D wo (fun _ h => h) (hPD.sl (by omega) fun _ _ h _ => h) hDl (HT.out.below HS.out.bl) (Nat.lt_of_lt_of_le hg HS.out.bl.size))
          obtain ⟨ft, hft⟩ : ∃ r, feetF fn fs D = r := ⟨_, rfl⟩
          rw [hft] at hPP HFE
          have HPP := Lib.hid hPP
          have HMN := Lib.hid hMN
          have HLS := Lib.hid hLs
          have HPL := Lib.hid HS.out.pl
          have HBL := Lib.hid HS.out.bl
          have c0 := HPL.out.cell 0
          have c1 := HPL.out.cell 1
          have c2 := HPL.out.cell 2
          have c3 := HPL.out.cell 3
          simp only [List.getElem?_toArray, List.getElem?_cons_zero, List.getElem?_cons_succ] at c0 c1 c2 c3
          unfold plV at HFE
          clear htk hL hD hPP hDl hD4 hLs hMN hPD hft HS HP HKA HDA HZL HLL HKS
          cases ft with
          | false =>
            go_wp2_with (go_at_call 26; (with_reducible refine (HFE.out.mono ?_)); rintro e w7 ⟨rfl, hb7⟩; have HB7 := Lib.hid (Bt HBL.out hb7); have HP7 := Lib.hid (HPL.out.below hb7 HPL.out.lt); have HY7 := Lib.hid hb7; clear hb7 c0 c1 c2 c3)
            refine bodyPost_ret (v := .tuple #[.bool false, .int .i64 0]) (by simp [results, Tryd.f10, go_sem]) rfl ?_
            exact ⟨⟨false, 0, rfl, by rw [HPP.out]; rfl⟩, HB7.out⟩
          | true =>
            obtain ⟨m, hm⟩ : ∃ m, L.length = m := ⟨_, rfl⟩
            obtain ⟨A9, c9, hv9, hc9, hl9, hat9⟩ := HMN.out.sl (F := fun b' => b' < wo.heap.size) (by omega) (fun _ _ h _ => h)
            rw [hm] at hv9 hc9 hl9 hL4
            subst hv9
            by_cases hm0 : m = 0
            · subst hm0
              go_wp2_with (go_at_call 26; (with_reducible refine (HFE.out.mono ?_)); rintro e w7 ⟨rfl, hb7⟩; have HB7 := Lib.hid (Bt HBL.out hb7); have HP7 := Lib.hid (HPL.out.below hb7 HPL.out.lt); have HY7 := Lib.hid hb7; clear hb7 c0 c1 c2 c3)
              refine bodyPost_ret (v := .tuple #[.bool true, .int .i64 0]) (by simp [results, Tryd.f10, go_sem]) rfl ?_
              exact ⟨⟨true, 0, rfl, by rw [HPP.out, List.length_eq_zero_iff.1 hm]; rfl⟩, HB7.out⟩
            · have hm0I : ¬ (m : Int) = 0 := by omega
              by_cases hm1 : m = 1
              · subst hm1
                obtain ⟨a, rfl⟩ := List.length_eq_one_iff.1 hm
                obtain ⟨ad, cs, rfl, hfa, hka, ⟨v1, rfl, hs1⟩, hcl⟩ := hat9 0 (by simp)
                obtain ⟨A1, e1, rfl, he1, hn1, -⟩ := hs1.open
                go_upto_region 27 with (go_at_call 26; (with_reducible refine (HFE.out.mono ?_)); rintro e w7 ⟨rfl, hb7⟩; have HB7 := Lib.hid (Bt HBL.out hb7); have HP7 := Lib.hid (HPL.out.below hb7 HPL.out.lt); have HY7 := Lib.hid hb7; clear hb7 c0 c1 c2 c3)
                have hadl : ad.block < w7.heap.size := Nat.lt_of_lt_of_le hfa HY7.out.size
                have HA0 := (hcl.below HY7.out (by rw [block_of_add]; exact hfa))
                simp only [Nat.zero_mul, add0] at HA0
                have c0 := HP7.out.cell 0
                have c1 := HP7.out.cell 1
                have c2 := HP7.out.cell 2
                have c3 := HP7.out.cell 3
                simp only [List.getElem?_toArray, List.getElem?_cons_zero, List.getElem?_cons_succ] at c0 c1 c2 c3
                have k0 : ∀ q : Cls54 w7, q.w.cell? ⟨b, 0, none⟩ = some (.int .i64 hn) := fun q => (Bc q.b HP7.out.lt).trans c0
                have k1 : ∀ q : Cls54 w7, q.w.cell? ⟨b, 1, none⟩ = some (.int .i64 hs) := fun q => (Bc q.b HP7.out.lt).trans c1
                have k2 : ∀ q : Cls54 w7, q.w.cell? ⟨b, 2, none⟩ = some (.int .i64 fn) := fun q => (Bc q.b HP7.out.lt).trans c2
                have k3 : ∀ q : Cls54 w7, q.w.cell? ⟨b, 3, none⟩ = some (.int .i64 fs) := fun q => (Bc q.b HP7.out.lt).trans c3
                have k4 : ∀ q : Cls54 w7, q.w.cell? ad = some (.slice A1 a.length e1) := fun q => (HA0.below q.b hadl).f0 rfl
                have HL := Lib.hid (fun q : Cls54 w7 => (show Calls Tryd.prog 27 #[.agg #[.int .i64 hn, .int .i64 hs, .int .i64 fn, .int .i64 fs], .slice A1 a.length e1] q.w fun e w' => e = .returned (.bool (twoF hn hs a)) ∧ ∃ z : Cls54 w7, w' = z.w from (two_any hn hs fn fs (fun b' => b' < wo.heap.size) _ a q.w (fun _ h => Nat.lt_of_lt_of_le h (Nat.le_trans HY7.out.size q.b.size)) (Sl.mono (SlI.keep hs1 (Agree.below (Bt HY7.out q.b) fun _ h => h.1)) fun _ h => h.1) (HLS.out a (by simp))).mono fun e w' ⟨q1, q2⟩ => ⟨q1, Cls54.mk' (Bt q.b q2), rfl⟩))
                clear c0 c1 c2 c3 HA0 hcl hs1
                refine wp_region_class54_lit (C := fun w' => ∃ q : Cls54 w7, w' = q.w) (by kernel_rfl) (by kernel_rfl) ⟨Cls54.mk' (B0 w7).drew, rfl⟩ ?_
                repeat (any_goals (first | go_big_quiet_step (first | (go_at_call 27; with_reducible exact HL.out _)) | quiet_step (first | (go_at_call 27; with_reducible exact HL.out _))))
                refine wpQuiet_nil ?_
                rintro _ ⟨q, rfl⟩
                have HBQ := Lib.hid (Bt HB7.out q.b)
                clear k0 k1 k2 k3 k4 HL
                generalize q.w = w9 at *
                go_wp2_with fail
                refine bodyPost_ret (v := .tuple #[.bool (twoF hn hs a), .int .i64 0]) (by simp [results, Tryd.f10, go_sem]) rfl ?_
                exact ⟨⟨_, 0, rfl, by rw [HPP.out]; simp [handF]⟩, HBQ.out⟩
              · have hm1I : ¬ (m : Int) = 1 := by omega
                by_cases hm2 : m = 2
                · subst hm2
                  obtain ⟨a, a2, rfl⟩ : ∃ a a2, L = [a, a2] := by
                    match L, hm with
                    | [x, y], _ => exact ⟨x, y, rfl⟩
                  obtain ⟨ad, cs, rfl, hfa, hka, ⟨v1, rfl, hs1⟩, hcl⟩ := hat9 0 (by simp)
                  obtain ⟨ad', cs', hh, -, hka', ⟨v2, rfl, hs2⟩, hcl2⟩ := hat9 1 (by simp)
                  obtain rfl : ad = ad' := by injection hh
                  obtain ⟨A1, e1, rfl, he1, hn1, -⟩ := hs1.open
                  obtain ⟨A2, e2, rfl, he2, hn2, -⟩ := hs2.open
                  go_upto_region 29 with (go_at_call 26; (with_reducible refine (HFE.out.mono ?_)); rintro e w7 ⟨rfl, hb7⟩; have HB7 := Lib.hid (Bt HBL.out hb7); have HP7 := Lib.hid (HPL.out.below hb7 HPL.out.lt); have HY7 := Lib.hid hb7; clear hb7 c0 c1 c2 c3)
                  have hadl : ad.block < w7.heap.size := Nat.lt_of_lt_of_le hfa HY7.out.size
                  have hadl2 : (ad.add 1).block < w7.heap.size := by rw [block_of_add]; exact hadl
                  have HA0 := (hcl.below HY7.out (by rw [block_of_add]; exact hfa))
                  simp only [Nat.zero_mul, add0] at HA0
                  have HA1 := (hcl2.below HY7.out (by rw [block_of_add]; exact hfa))
                  simp only [Nat.mul_one] at HA1
                  have c0 := HP7.out.cell 0
                  have c1 := HP7.out.cell 1
                  have c2 := HP7.out.cell 2
                  have c3 := HP7.out.cell 3
                  simp only [List.getElem?_toArray, List.getElem?_cons_zero, List.getElem?_cons_succ] at c0 c1 c2 c3
                  have k0 : ∀ q : Cls54 w7, q.w.cell? ⟨b, 0, none⟩ = some (.int .i64 hn) := fun q => (Bc q.b HP7.out.lt).trans c0
                  have k1 : ∀ q : Cls54 w7, q.w.cell? ⟨b, 1, none⟩ = some (.int .i64 hs) := fun q => (Bc q.b HP7.out.lt).trans c1
                  have k2 : ∀ q : Cls54 w7, q.w.cell? ⟨b, 2, none⟩ = some (.int .i64 fn) := fun q => (Bc q.b HP7.out.lt).trans c2
                  have k3 : ∀ q : Cls54 w7, q.w.cell? ⟨b, 3, none⟩ = some (.int .i64 fs) := fun q => (Bc q.b HP7.out.lt).trans c3
                  have k4 : ∀ q : Cls54 w7, q.w.cell? ad = some (.slice A1 a.length e1) := fun q => (HA0.below q.b hadl).f0 rfl
                  have k5 : ∀ q : Cls54 w7, q.w.cell? (ad.add 1) = some (.slice A2 a2.length e2) := fun q => (HA1.below q.b hadl2).f0 rfl
                  have k6 : ∀ q : Cls54 w7, q.w.cell? ⟨ad.block, ad.off + 1, none⟩ = some (.slice A2 a2.length e2) := k5
                  obtain ⟨r1, hr1⟩ : ∃ r, oneF hn hs a = r := ⟨_, rfl⟩
                  have HL1 := Lib.hid (fun q : Cls54 w7 => (show Calls Tryd.prog 28 #[.agg #[.int .i64 hn, .int .i64 hs, .int .i64 fn, .int .i64 fs], .slice A1 a.length e1] q.w fun e w' => e = .returned (.bool r1) ∧ ∃ z : Cls54 w7, w' = z.w from (one_any hn hs fn fs (fun b' => b' < wo.heap.size) _ a q.w (fun _ h => Nat.lt_of_lt_of_le h (Nat.le_trans HY7.out.size q.b.size)) (Sl.mono (SlI.keep hs1 (Agree.below (Bt HY7.out q.b) fun _ h => h.1)) fun _ h => h.1) (HLS.out a (by simp))).mono fun e w' ⟨q1, q2⟩ => ⟨hr1 ▸ q1, Cls54.mk' (Bt q.b q2), rfl⟩))
                  have HL2 := Lib.hid (fun q : Cls54 w7 => (show Calls Tryd.prog 28 #[.agg #[.int .i64 hn, .int .i64 hs, .int .i64 fn, .int .i64 fs], .slice A2 a2.length e2] q.w fun e w' => e = .returned (.bool (oneF hn hs a2)) ∧ ∃ z : Cls54 w7, w' = z.w from (one_any hn hs fn fs (fun b' => b' < wo.heap.size) _ a2 q.w (fun _ h => Nat.lt_of_lt_of_le h (Nat.le_trans HY7.out.size q.b.size)) (Sl.mono (SlI.keep hs2 (Agree.below (Bt HY7.out q.b) fun _ h => h.1)) fun _ h => h.1) (HLS.out a2 (by simp))).mono fun e w' ⟨q1, q2⟩ => ⟨q1, Cls54.mk' (Bt q.b q2), rfl⟩))
                  have HPR := Lib.hid (show P = (r1 && oneF hn hs a2) by rw [HPP.out, ← hr1]; simp [handF])
                  clear c0 c1 c2 c3 HA0 HA1 hcl hcl2 hs1 hs2 hr1
                  cases r1 with
                  | false =>
                    clear HL2
                    refine wp_region_class54_lit (C := fun w' => ∃ q : Cls54 w7, w' = q.w) (by kernel_rfl) (by kernel_rfl) ⟨Cls54.mk' (B0 w7).drew, rfl⟩ ?_
                    repeat (any_goals (first | go_big_quiet_step (first | (go_at_call 28; with_reducible exact HL1.out _)) | quiet_step (first | (go_at_call 28; with_reducible exact HL1.out _))))
                    refine wpQuiet_nil ?_
                    rintro _ ⟨q, rfl⟩
                    have HBQ := Lib.hid (Bt HB7.out q.b)
                    clear k0 k1 k2 k3 k4 HL1
                    generalize q.w = w9 at *
                    go_wp2_with fail
                    refine bodyPost_ret (v := .tuple #[.bool false, .int .i64 0]) (by simp [results, Tryd.f10, go_sem]) rfl ?_
                    exact ⟨⟨_, 0, rfl, by rw [HPR.out]; rfl⟩, HBQ.out⟩
                  | true =>
                    refine wp_region_class54_lit (C := fun w' => ∃ q : Cls54 w7, w' = q.w) (by kernel_rfl) (by kernel_rfl) ⟨Cls54.mk' (B0 w7).drew, rfl⟩ ?_
                    repeat (any_goals (first | go_big_quiet_step (first | (go_at_call 28; with_reducible exact HL1.out _) | (go_at_call 28; with_reducible exact HL2.out _)) | quiet_step (first | (go_at_call 28; with_reducible exact HL1.out _) | (go_at_call 28; with_reducible exact HL2.out _))))
                    refine wpQuiet_nil ?_
                    rintro _ ⟨q, rfl⟩
                    have HBQ := Lib.hid (Bt HB7.out q.b)
                    clear k0 k1 k2 k3 k4 HL1 HL2
                    generalize q.w = w9 at *
                    go_wp2_with fail
                    refine bodyPost_ret (v := .tuple #[.bool (oneF hn hs a2), .int .i64 0]) (by simp [results, Tryd.f10, go_sem]) rfl ?_
                    exact ⟨⟨_, 0, rfl, by rw [HPR.out]; simp⟩, HBQ.out⟩
                · have hm2I : ¬ (m : Int) = 2 := by omega
                  go_wp2_with (go_at_call 26; (with_reducible refine (HFE.out.mono ?_)); rintro e w7 ⟨rfl, hb7⟩; have HB7 := Lib.hid (Bt HBL.out hb7); have HP7 := Lib.hid (HPL.out.below hb7 HPL.out.lt); have HY7 := Lib.hid hb7; clear hb7 c0 c1 c2 c3)
                  refine bodyPost_ret (v := .tuple #[.bool false, .int .i64 0]) (by simp [results, Tryd.f10, go_sem]) rfl ?_
                  refine ⟨⟨false, 0, rfl, ?_⟩, HB7.out⟩
                  rw [HPP.out]
                  match L, hm with
                  | _ :: _ :: _ :: _, _ => rfl
                  | [_, _], e => exact absurd e.symm hm2
                  | [_], e => exact absurd e.symm hm1
                  | [], e => exact absurd e.symm hm0
    · have hlenI : ¬ (nk : Int) = nd := by omega
      go_wp2_with fail
      refine bodyPost_ret (v := .tuple #[.bool false, .int .i64 5]) (by simp [results, Tryd.f10, go_sem]) rfl ?_
      exact ⟨⟨false, 5, rfl, by rw [← HP.out]; unfold possF; rw [HNK.out, HND.out, decide_eq_false hlen]; simp⟩, HB2.out⟩
  · go_wp2_with fail
    refine bodyPost_ret (v := .tuple #[.bool false, .int .i64 e0]) (by simp [results, Tryd.f10, go_sem]) rfl ?_
    exact ⟨⟨false, e0, rfl, by rw [← HP.out]; unfold possF; rw [decide_eq_false fun h => he0 (HE.out.2 h)]; simp⟩, HB2.out⟩
end Go.Proofs.YtnphdmiondccgaaDoor
