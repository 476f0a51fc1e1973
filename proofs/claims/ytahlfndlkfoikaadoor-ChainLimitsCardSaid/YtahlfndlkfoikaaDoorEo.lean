/- Walks over chain: Cut. -/
import Derived.Test.YtahlfndlkfoikaaDoorEn
import Derived.Test.YtahlfndlkfoikaaDoorEg
namespace Go.Proofs.YtahlfndlkfoikaaDoor
open Go Go.RowKit Go.Shelf
theorem inCs_snoc (l : List Nat) (x : Nat) : inCs (intN (l ++ [x])) = inCs (intN l) ++ [.int .i64 x] := by simp [inCs]
/-- What holds behind each operation of a drawn region. -/
def FC (base k lim : Nat) (vO : Value) (pre : List Nat) (r t : Nat) (j : Nat) (s : Nat → Value) (w : World) : Prop :=
  match j with
  | 0 => s 35 = vO
  | 1 => s 36 = .int .u64 r
  | 2 => s 37 = .int .i64 t
  | 3 => ∃ g, s 38 = .slice (some ⟨g, 0, none⟩) 1 1 ∧ g < w.heap.size ∧ lim < g ∧ Flds w ⟨g, 0, none⟩ [.int .i64 t]
  | 4 => ∃ g c, s 39 = .slice (some ⟨g, 0, none⟩) (k + 1) c ∧ w.ownsRow base 3 1 (.slice (some ⟨g, 0, none⟩) (k + 1) c) (k + 1) (inCs (intN (pre ++ [t])))
  | _ => True
def VC (j : Nat) : List Nat := match j with
  | 0 => [35] | 1 => [36] | 2 => [37] | 3 => [38] | 4 => [39] | _ => []
def EC (j : Nat) : Bool := j == 4
theorem FC_V (base k lim : Nat) (vO : Value) (pre : List Nat) (r t : Nat) (j : Nat) (s s' : Nat → Value) (w : World) (h : ∀ t, t ∈ VC j → s' t = s t) (hF : FC base k lim vO pre r t j s w) : FC base k lim vO pre r t j s' w := by
  match j with
  | 0 => unfold FC at hF ⊢; simp only at hF ⊢; rw [h 35 (by simp [VC])]; exact hF
  | 1 => unfold FC at hF ⊢; simp only at hF ⊢; rw [h 36 (by simp [VC])]; exact hF
  | 2 => unfold FC at hF ⊢; simp only at hF ⊢; rw [h 37 (by simp [VC])]; exact hF
  | 3 => unfold FC at hF ⊢; simp only at hF ⊢; rw [h 38 (by simp [VC])]; exact hF
  | 4 => unfold FC at hF ⊢; simp only at hF ⊢; rw [h 39 (by simp [VC])]; exact hF
  | _ + 5 => trivial
theorem FC_below (base k lim : Nat) (vO : Value) (pre : List Nat) (r t : Nat) (j : Nat) (s : Nat → Value) (w w' : World) (hb : Below w.heap.size w w') (hF : FC base k lim vO pre r t j s w) : FC base k lim vO pre r t j s w' := by
  match j with
  | 0 => exact hF
  | 1 => exact hF
  | 2 => exact hF
  | 3 => obtain ⟨g, q1, q2, q3, q4⟩ := hF; exact ⟨g, q1, Nat.lt_of_lt_of_le q2 hb.size, q3, q4.below hb q2⟩
  | 4 => obtain ⟨g, c, q1, q2⟩ := hF; exact ⟨g, c, q1, q2.kept (row := none) (only_of_below hb none) (.inr (by simp [Value.ownBlock]))⟩
  | _ + 5 => trivial
/-- A row of two contacts. -/
theorem slCt_two (W : World) (x y : Cou.Ct) : SlCt (fun b => b < (W.alloc (.cells #[.int .i64 x.1, .int .i64 x.2, .int .i64 y.1, .int .i64 y.2] 36)).heap.size) (W.alloc (.cells #[.int .i64 x.1, .int .i64 x.2, .int .i64 y.1, .int .i64 y.2] 36)) (.slice (some ⟨W.heap.size, 0, none⟩) 2 2) [x, y] := by
  have hfl := Flds.new W [.int .i64 x.1, .int .i64 x.2, .int .i64 y.1, .int .i64 y.2] 36
  refine ⟨some ⟨W.heap.size, 0, none⟩, 2, rfl, by simp, by simp, fun i hi => ?_⟩
  have hi2 : i = 0 ∨ i = 1 := by simp at hi; omega
  rcases hi2 with rfl | rfl
  · refine ⟨⟨W.heap.size, 0, none⟩, [.int .i64 x.1, .int .i64 x.2], rfl, by simp, rfl, rfl, fun j u hu => ?_⟩
    have hj : j = 0 ∨ j = 1 := by
      have := (List.getElem?_eq_some_iff.1 hu).1
      simp at this; omega
    rcases hj with rfl | rfl
    · exact hfl 0 u (by simpa using hu)
    · exact hfl 1 u (by simpa using hu)
  · refine ⟨⟨W.heap.size, 0, none⟩, [.int .i64 y.1, .int .i64 y.2], rfl, by simp, rfl, rfl, fun j u hu => ?_⟩
    have hj : j = 0 ∨ j = 1 := by
      have := (List.getElem?_eq_some_iff.1 hu).1
      simp at this; omega
    rcases hj with rfl | rfl
    · exact hfl 2 u (by simpa using hu)
    · exact hfl 3 u (by simpa using hu)
namespace Cha
/-- What Cut answers. -/
def cutR (a : Cou.Ac) (key c : Cou.Ct) : Int × List Nat := if beginF a [key, c] = 0 then (if reachB a key c 0 = true then (if 16 < (Hit.members a.drawn).length then (4, []) else (0, (cutL (reachB a key c) (Hit.members a.drawn)).getD [])) else (18, [])) else (beginF a [key, c], [])
theorem begin_two {a : Cou.Ac} {x c : Cou.Ct} (h : beginF a [x, c] = 0) : Cou.rightF a = 0 ∧ Cou.wrongF a x = 0 ∧ Cou.wrongF a c = 0 := by
  unfold beginF at h
  split at h
  · rename_i hr
    unfold wrongsF at h
    split at h
    · rename_i h1
      unfold wrongsF at h
      split at h
      · rename_i h2
        exact ⟨hr, h1, h2⟩
      · rename_i q; exact absurd h q
    · rename_i q; exact absurd h q
  · rename_i q; exact absurd h q
end Cha
namespace Cha
theorem reach_all {a : Cou.Ac} (hok : Cou.Ok a) (hd : a.drawn < 2 ^ 64) (key c : Cou.Ct) : reachB a key c (orL (Hit.members a.drawn) 0) = false := by
  cases h : reachB a key c (orL (Hit.members a.drawn) 0) with
  | false => rfl
  | true =>
    exfalso
    have he : orL (Hit.members a.drawn) 0 = a.drawn := Nat.eq_of_testBit_eq fun i => by
      rw [Bool.eq_iff_iff, orL_test, Hit.mem_members]
      constructor
      · rintro ⟨_, h⟩; exact h
      · intro h
        refine ⟨?_, h⟩
        rcases Nat.lt_or_ge i 64 with q | q
        · exact q
        · rw [Nat.testBit_lt_two_pow (Nat.lt_of_lt_of_le hd (Nat.pow_le_pow_right (by decide) q))] at h; cases h
    rw [he] at h
    have hh := (reachB_iff hok).1 h
    have h0 : ∀ i, (cutA a a.drawn).drawn.testBit i = false := fun i => by
      show (Hit.andn a.drawn a.drawn).testBit i = false
      rw [Hit.andn_test]; cases a.drawn.testBit i <;> rfl
    cases hh with
    | first _ h2 _ => rw [h0] at h2; cases h2
    | more _ h2 _ _ => rw [h0] at h2; cases h2
theorem find_range {α : Type} {f : Nat → Option α} {l : α} : ∀ (n k : Nat), k < n → (∀ j, j < k → f j = none) → f k = some l → (List.range n).findSome? f = some l
  | 0, k, h, _, _ => absurd h (by omega)
  | n + 1, k, h, h1, h2 => by
    rw [List.range_succ, List.findSome?_append]
    by_cases e : k = n
    · subst e
      have : (List.range k).findSome? f = none := List.findSome?_eq_none_iff.2 fun j hj => h1 j (List.mem_range.1 hj)
      rw [this]
      simp [h2]
    · rw [find_range n k (by omega) h1 h2]; rfl
end Cha
set_option maxRecDepth 100000 in
set_option maxHeartbeats 4000000 in
theorem Cut_any (a : Cou.Ac) (vd vc : Value) (hdr : a.drawn < 2 ^ 64) (key c : Cou.Ct) (w : World) (F : Nat → Prop) (hA : AcAt F w vd vc a) (hT : Tab64 w) (hg : 0 < w.heap.size) :
    Calls Tryd.prog 18 #[.agg #[vd, vc, .int .u64 a.drawn], .agg #[.int .i64 key.1, .int .i64 key.2], .agg #[.int .i64 c.1, .int .i64 c.2]] w fun e w' => ∃ v, e = .returned (.tuple #[v, .int .i64 (Cha.cutR a key c).1]) ∧ SlI (fun b => b < w'.heap.size) w' v (intN (Cha.cutR a key c).2) ∧ Below w.heap.size w w' := by
  obtain ⟨Ad, cd, hvd, -, -⟩ := id hA.dv.open
  obtain ⟨Ac, cc, hvc, -, -⟩ := id hA.cp.open
  subst hvd hvc
  have hF := hA.inW
  obtain ⟨dl, hdl⟩ : ∃ dl, a.divs.length = dl := ⟨_, rfl⟩
  obtain ⟨cl, hcl⟩ : ∃ cl, a.cps.length = cl := ⟨_, rfl⟩
  rw [hdl, hcl] at hA ⊢
  have HBG := Lib.hid (fun W (hb : Below w.heap.size w W) pv pl (hP : SlCt (fun b => b < W.heap.size) W pv pl) => begin_any a (.slice Ad dl cd) (.slice Ac cl cc) hdr pv pl W (fun b => b < W.heap.size) (hA.onB hF hb).all hP)
  obtain ⟨k1, k2⟩ := key
  obtain ⟨t1, t2⟩ := c
  obtain ⟨w1, hw1⟩ : ∃ w1 : World, ((w.alloc (.cells #[.slice Ad dl cd, .slice Ac cl cc, .int .u64 a.drawn] 33)).alloc (.cells #[.int .i64 k1, .int .i64 k2] 36)).alloc (.cells #[.int .i64 t1, .int .i64 t2] 36) = w1 := ⟨_, rfl⟩
  obtain ⟨bA, hbA⟩ : ∃ bx, w.heap.size = bx := ⟨_, rfl⟩
  obtain ⟨bK, hbK⟩ : ∃ b1, bA + 1 = b1 := ⟨_, rfl⟩
  obtain ⟨bC, hbC⟩ : ∃ b2, bK + 1 = b2 := ⟨_, rfl⟩
  have KA : Blk w1 bA 33 #[.slice Ad dl cd, .slice Ac cl cc, .int .u64 a.drawn] := by
    rw [← hw1, ← hbA]; exact ((Blk.new _ _ _).alloc _).alloc _
  have KK : Blk w1 bK 36 #[.int .i64 k1, .int .i64 k2] := by
    have := (Blk.new (w.alloc (.cells #[.slice Ad dl cd, .slice Ac cl cc, .int .u64 a.drawn] 33)) 36 #[.int .i64 k1, .int .i64 k2]).alloc (.cells #[.int .i64 t1, .int .i64 t2] 36)
    rw [hw1] at this
    rw [← hbK, ← hbA]; simpa using this
  have KC : Blk w1 bC 36 #[.int .i64 t1, .int .i64 t2] := by
    have := Blk.new ((w.alloc (.cells #[.slice Ad dl cd, .slice Ac cl cc, .int .u64 a.drawn] 33)).alloc (.cells #[.int .i64 k1, .int .i64 k2] 36)) 36 #[.int .i64 t1, .int .i64 t2]
    rw [hw1] at this
    rw [← hbC, ← hbK, ← hbA]; simpa using this
  have B1 : Below w.heap.size w w1 := by rw [← hw1]; exact Ba (Ba (Ba (B0 w) _) _) _
  have hst : CutSt w1 bA bK bC F (.slice Ad dl cd) (.slice Ac cl cc) a (k1, k2) (t1, t2) := ⟨KA, KK, KC, hA.onB hF B1, hT.below B1, Nat.lt_of_lt_of_le hg B1.size⟩
  have HST := Lib.hid hst
  have HK := Lib.hid (fun W (hb : Below w1.heap.size w1 W) => (show (W.cell? ⟨bA, 0, none⟩ = some (.slice Ad dl cd) ∧ W.cell? ⟨bA, 1, none⟩ = some (.slice Ac cl cc) ∧ W.cell? ⟨bA, 2, none⟩ = some (.int .u64 a.drawn)) ∧ (W.cell? ⟨bK, 0, none⟩ = some (.int .i64 k1) ∧ W.cell? ⟨bK, 1, none⟩ = some (.int .i64 k2)) ∧ W.cell? ⟨bC, 0, none⟩ = some (.int .i64 t1) ∧ W.cell? ⟨bC, 1, none⟩ = some (.int .i64 t2) from
    ⟨⟨(Bc hb KA.lt).trans (KA.cell 0), (Bc hb KA.lt).trans (KA.cell 1), (Bc hb KA.lt).trans (KA.cell 2)⟩, ⟨(Bc hb KK.lt).trans (KK.cell 0), (Bc hb KK.lt).trans (KK.cell 1)⟩, (Bc hb KC.lt).trans (KC.cell 0), (Bc hb KC.lt).trans (KC.cell 1)⟩))
  obtain ⟨⟨c0, c1, c2⟩, ⟨c3, c4⟩, c5, c6⟩ := HK.out w1 (B0 w1)
  have HB1 := Lib.hid B1
  have HW1 := Lib.hid hw1
  have HA := Lib.hid hbA
  have HKe := Lib.hid hbK
  have HCe := Lib.hid hbC
  have hbg := HBG.out _ (Bt B1 (Ba (B0 w1) (.cells #[.int .i64 k1, .int .i64 k2, .int .i64 t1, .int .i64 t2] 36))) _ _ (slCt_two w1 (k1, k2) (t1, t2))
  clear hA hF hT hg B1 hw1 hbA hbK hbC KA KK KC hst hdl hcl HBG
  dsimp only
  by_cases hbe : Cha.beginF a [(k1, k2), (t1, t2)] = 0
  · obtain ⟨hr, hkw, hcw⟩ := Cha.begin_two hbe
    have hok := Cou.right_ok hr
    have hz : Cha.cutR a (k1, k2) (t1, t2) = if Cha.reachB a (k1, k2) (t1, t2) 0 = true then (if 16 < (Hit.members a.drawn).length then (4, []) else (0, (Cha.cutL (Cha.reachB a (k1, k2) (t1, t2)) (Hit.members a.drawn)).getD [])) else (18, []) := by unfold Cha.cutR; rw [if_pos hbe]
    have HZ := Lib.hid hz
    rw [hbe] at hbg
    have HBE := Lib.hid hbg
    have HRE := Lib.hid (fun (wo : Nat) (hwo : wo < 2 ^ 64) W (hb : Below w1.heap.size w1 W) => reached_any a hr (.slice Ad dl cd) (.slice Ac cl cc) (k1, k2) (t1, t2) hkw bA bK bC wo hwo W F (HST.out.below hb))
    have HR := Lib.hid (show Cou.rightF a = 0 ∧ Cou.wrongF a (k1, k2) = 0 from ⟨hr, hkw⟩)
    have HOK := Lib.hid hok
    clear hbe hbg hr hkw hcw hok hz
    have hcall : ∀ (W : World) (_ : Below w1.heap.size w1 W), Calls Tryd.prog 45 #[.int .u64 0, .pointer (some ⟨bA, 0, none⟩), .pointer (some ⟨bK, 0, none⟩), .pointer (some ⟨bC, 0, none⟩)] W fun e w' => e = .returned (.bool (Cha.reachB a (k1, k2) (t1, t2) 0)) ∧ Below W.heap.size W w' := fun W hb => HRE.out 0 (by omega) W hb
    have hstf := fun (W : World) (p : Addr) (f : Fn) (t : Array Value) (c : Array Value) => run_store Tryd.prog W p (.func f t c) .plain rfl
    go_enter Tryd.func18, Tryd.ntmps18
    go_upto_region 1 with fail
    rw [HW1.out, HA.out, HKe.out, HCe.out]
    go_upto_region 4 with (go_at_call 38; (with_reducible refine (HBE.out.mono ?_)); rintro e w2 ⟨rfl, hb2⟩; have HB2 := Lib.hid (Bt (Ba (B0 w1) _) hb2); clear hb2 c0 c1 c2 c3 c4 c5 c6)
    obtain ⟨bR, hbR⟩ : ∃ bR, w2.heap.size = bR := ⟨_, rfl⟩
    obtain ⟨w3, hw3⟩ : ∃ w3 : World, w2.alloc (.cells #[.func (.func 45) #[] #[.pointer (some ⟨bA, 0, none⟩), .pointer (some ⟨bK, 0, none⟩), .pointer (some ⟨bC, 0, none⟩)]] 92) = w3 := ⟨_, rfl⟩
    have KR : Blk w3 bR 92 #[.func (.func 45) #[] #[.pointer (some ⟨bA, 0, none⟩), .pointer (some ⟨bK, 0, none⟩), .pointer (some ⟨bC, 0, none⟩)]] := by rw [← hw3, ← hbR]; exact Blk.new _ _ _
    have HB3 : Hid (Below w1.heap.size w1 w3) := Lib.hid (by rw [← hw3]; exact Ba HB2.out _)
    have r0 := KR.cell 0
    simp only [List.getElem?_toArray, List.getElem?_cons_zero] at r0
    have HKR := Lib.hid KR
    go_upto_region 5 with fail
    try rw [hw3]
    try rw [hbR]
    clear hw3 hbR KR
    cases hre : Cha.reachB a (k1, k2) (t1, t2) 0 with
    | false =>
      rw [hre] at hcall
      have HC := Lib.hid hcall
      have HZ2 : Hid (Cha.cutR a (k1, k2) (t1, t2) = (18, [])) := Lib.hid (by rw [HZ.out, hre]; rfl)
      clear hcall hre
      go_wp2_with (go_at_call 45; (with_reducible refine ((HC.out _ HB3.out).mono ?_)); rintro e w4 ⟨rfl, hb4⟩; have HB4 := Lib.hid (Bt HB3.out hb4); clear hb4)
      go_ret2
      rw [HZ2.out]
      exact ⟨_, rfl, Sl.nil_, Bt HB1.out HB4.out⟩
    | true =>
      rw [hre] at hcall
      have HC := Lib.hid hcall
      have HZ2 := HZ.out
      rw [hre, if_pos rfl] at HZ2
      have HZ2 := Lib.hid HZ2
      have HRT := Lib.hid hre
      clear hcall hre HZ
      go_upto_region 7 with (go_at_call 45; (with_reducible refine ((HC.out _ HB3.out).mono ?_)); rintro e w4 ⟨rfl, hb4⟩; have HB4 := Lib.hid (Bt HB3.out hb4); have HR4 := Lib.hid (HKR.out.below hb4 HKR.out.lt); clear hb4 r0)
      have hmem : (Hit.members a.drawn).length ≤ 64 := Nat.le_trans (List.length_filter_le _ _) (by simp)
      obtain ⟨bO, hbO⟩ : ∃ bO, w4.heap.size = bO := ⟨_, rfl⟩
      have HBOL : Hid (w1.heap.size ≤ bO) := Lib.hid (by rw [← hbO]; exact HB4.out.size)
      obtain ⟨w5, hw5⟩ : ∃ w5 : World, w4.alloc (.cells #[.slice none 0 0] 27) = w5 := ⟨_, rfl⟩
      have KO : Blk w5 bO 27 #[.slice none 0 0] := by rw [← hw5, ← hbO]; exact Blk.new _ _ _
      have HB5 : Hid (Below w1.heap.size w1 w5) := Lib.hid (by rw [← hw5]; exact Ba HB4.out _)
      have HR5 := Lib.hid (show Blk w5 bR _ _ from by rw [← hw5]; exact HR4.out.alloc _)
      have HS5 : Hid (w5.heap.size = bO + 1) := Lib.hid (by rw [← hw5, ← hbO]; simp)
      have HKO := Lib.hid KO
      obtain ⟨⟨c0, c1, c2⟩, -, -, -⟩ := HK.out w5 HB5.out
      go_upto_region 8 with fail
      try rw [hw5]
      try rw [hbO]
      clear hw5 hbO KO
      go_wp2_with fail
      obtain ⟨B5, hB5⟩ : ∃ B5, w5.heap.size = B5 := ⟨_, rfl⟩
      have HB5e : Hid (B5 = bO + 1) := Lib.hid (by rw [← hB5]; exact HS5.out)
      have HBASE2 : Hid (w1.heap.size ≤ B5) := Lib.hid (by rw [← hB5]; exact HB5.out.size)
      have HTZ0 := Lib.hid (fun r (h0 : r ≠ 0) (hr : r < 18446744073709551616) W (hb : Below w1.heap.size w1 W) => tz64_any r h0 hr W (HST.out.tab.below hb))
      clear hB5 c0 c1 c2 HC HRE HBE
      go_loopg [11] (a.drawn + 1) (fun gg s11 wr => ∃ (r : Nat) (pre : List Nat) (vO : Value), s11 = .int .u64 r ∧ r < gg ∧ r < 2 ^ 64 ∧ Aside (pre ++ Hit.members r = Hit.members a.drawn) ∧ Aside (Blk wr bO 27 #[vO]) ∧ Aside (wr.ownsRow B5 3 1 vO pre.length (inCs (intN pre))) ∧ Aside (Below w1.heap.size w1 wr) ∧ Aside (Blk wr bR 92 #[.func (.func 45) #[] #[.pointer (some ⟨bA, 0, none⟩), .pointer (some ⟨bK, 0, none⟩), .pointer (some ⟨bC, 0, none⟩)]]))
      case atStart => exact ⟨a.drawn, [], _, rfl, by omega, hdr, rfl, HKO.out, World.ownsRow_nil _ _ _ _, HB5.out, HR5.out⟩
      case round =>
        obtain ⟨r, pre, vO, rfl, hg, hr64, HM, HKB, HOW, HB, HRB⟩ := hrel
        replace HM := Lib.hid HM
        replace HKB := Lib.hid HKB
        replace HOW := Lib.hid HOW
        replace HB := Lib.hid HB
        replace HRB := Lib.hid HRB
        obtain ⟨AO, cO, rfl⟩ : ∃ A c, vO = .slice A pre.length c := by
          rcases HOW.out.2 with ⟨e, e2⟩ | ⟨g, cap, cur, e, _⟩
          · exact ⟨none, 0, by rw [e, e2]⟩
          · exact ⟨_, _, e⟩
        have o0 := HKB.out.cell 0
        have of0 := HKB.out.frozen 0
        simp only [List.getElem?_toArray, List.getElem?_cons_zero] at o0
        have hpl : pre.length ≤ 64 := by
          have := congrArg List.length HM.out
          rw [List.length_append] at this
          omega
        clear HKO HB5 HR5 HS5
        by_cases hr0 : r = 0
        · subst hr0
          have hpre : pre = Hit.members a.drawn := by
            have h1 := HM.out
            rw [show Hit.members 0 = [] by decide, List.append_nil] at h1
            exact h1
          have h0' : (((0 : Nat) : Int) != 0) = false := rfl
          rw [← hpre] at hmem
          have HZ2 := HZ2.out
          rw [← hpre] at HZ2
          have HZ2 := Lib.hid HZ2
          have HPRE := Lib.hid hpre
          clear hpre
          obtain ⟨n, hn⟩ : ∃ n, pre.length = n := ⟨_, rfl⟩
          have HN := Lib.hid hn
          rw [hn] at o0 hmem hpl
          have how := HOW.out
          rw [hn] at how
          have HOW := Lib.hid how
          have hkb := HKB.out
          rw [hn] at hkb
          have HKB := Lib.hid hkb
          clear how hkb of0
          by_cases hbig : 16 < n
          · have d1 : decide ((16 : Int) < n) = true := decide_eq_true (by omega)
            have d2 : decide (16 < n) = true := decide_eq_true hbig
            have HZ3 : Hid (Cha.cutR a (k1, k2) (t1, t2) = (4, [])) := Lib.hid (by rw [HZ2.out, HN.out, if_pos hbig])
            clear hn hbig
            go_wp2_with fail
            go_ret2
            rw [HZ3.out]
            exact ⟨_, rfl, Sl.nil_, Bt HB1.out HB.out⟩
          · have d1 : decide ((16 : Int) < n) = false := decide_eq_false (by omega)
            have d2 : decide (16 < n) = false := decide_eq_false hbig
            have HZ3 : Hid (Cha.cutR a (k1, k2) (t1, t2) = (0, (Cha.cutL (Cha.reachB a (k1, k2) (t1, t2)) pre).getD [])) := Lib.hid (by rw [HZ2.out, HN.out, if_neg hbig])
            have hn1 : 1 ≤ n := by
              rcases Nat.eq_zero_or_pos n with e | e
              · exfalso
                have hp : pre = [] := List.eq_nil_of_length_eq_zero (by rw [HN.out]; exact e)
                have := Cha.reach_all HOK.out hdr (k1, k2) (t1, t2)
                rw [← HPRE.out, hp, show Cha.orL [] 0 = 0 from rfl, HRT.out] at this
                cases this
              · exact e
            have hrow : SlI (IsC wr) wr (.slice AO n cO) (intN pre) := slI_own (l := intN pre) (by rw [List.length_map, HN.out]; exact HOW.out) (by rw [List.length_map, HN.out]; omega)
            obtain ⟨bS, hbS⟩ : ∃ bS, wr.heap.size = bS := ⟨_, rfl⟩
            obtain ⟨w7, hw7⟩ : ∃ w7 : World, wr.alloc (.cells #[.nilFunc] 93) = w7 := ⟨_, rfl⟩
            have K7 : Blk w7 bS 93 #[.nilFunc] := by rw [← hw7, ← hbS]; exact Blk.new _ _ _
            have B7 : Below wr.heap.size wr w7 := by rw [← hw7]; exact Ba (B0 wr) _
            obtain ⟨w8, hw8⟩ : ∃ w8 : World, w7.setCell ⟨bS, 0, none⟩ (.func (.func 47) #[] #[.pointer (some ⟨bR, 0, none⟩), .pointer (some ⟨bO, 0, none⟩), .pointer (some ⟨bS, 0, none⟩)]) = w8 := ⟨_, rfl⟩
            have K8 : Blk w8 bS 93 #[.func (.func 47) #[] #[.pointer (some ⟨bR, 0, none⟩), .pointer (some ⟨bO, 0, none⟩), .pointer (some ⟨bS, 0, none⟩)]] := by rw [← hw8]; simpa using K7.set_ 0 (.func (.func 47) #[] #[.pointer (some ⟨bR, 0, none⟩), .pointer (some ⟨bO, 0, none⟩), .pointer (some ⟨bS, 0, none⟩)])
            have B8 : Below wr.heap.size wr w8 := by rw [← hw8]; exact Bs B7 _ (by rw [← hbS]; exact Nat.le_refl _)
            have hss : SeekSt w8 bA bK bC bR bO bS F (.slice Ad dl cd) (.slice Ac cl cc) a (k1, k2) (t1, t2) (IsC wr) (.slice AO n cO) pre :=
              ⟨HST.out.below (Bt HB.out B8), HRB.out.below B8 HRB.out.lt, HKB.out.below B8 HKB.out.lt, K8, SlI.keep hrow (Agree.below B8 fun b h => h.lt), fun b h => Nat.lt_of_lt_of_le h.lt B8.size⟩
            have HSE := Lib.hid (fun (m : Nat) (hm : m ≤ 64) W (hb : Below w8.heap.size w8 W) => (show Calls Tryd.prog 47 #[.int .i64 0, .int .i64 m, .int .u64 0, .pointer (some ⟨bR, 0, none⟩), .pointer (some ⟨bO, 0, none⟩), .pointer (some ⟨bS, 0, none⟩)] W fun e w' => ∃ v, e = .returned v ∧ SeekP (Cha.skF (Cha.reachB a (k1, k2) (t1, t2)) pre m 0 0) v w' ∧ Below W.heap.size W w' from
              seek_any a HR.out.1 (.slice Ad dl cd) (.slice Ac cl cc) (k1, k2) (t1, t2) HR.out.2 bA bK bC bR bO bS pre (by rw [HN.out]; exact hmem) (by rw [HPRE.out]; intro x hx; exact (Hit.mem_members.1 hx).1) (.slice AO n cO) F (IsC wr) m (by omega) 0 (by omega) 0 (by omega) W (hss.below hb)))
            have HB8 := Lib.hid (Bt HB.out B8)
            have s0 := K8.cell 0
            simp only [List.getElem?_toArray, List.getElem?_cons_zero] at s0
            have HSS := Lib.hid (fun W (hb : Below w8.heap.size w8 W) => (show W.cell? ⟨bS, 0, none⟩ = some _ from (Bc hb K8.lt).trans s0))
            have kc7 := K7.cell 0
            have kf7 := K7.frozen 0
            simp only [List.getElem?_toArray, List.getElem?_cons_zero] at kc7
            have HW7 := Lib.hid hw7
            have HW8 := Lib.hid hw8
            have HBS := Lib.hid hbS
            have HTOT := Lib.hid (Cha.skF_total (R := Cha.reachB a (k1, k2) (t1, t2)) (on := pre) n 0 0 (by rw [HN.out]; omega) (by rw [List.drop_zero, HPRE.out]; exact Cha.reach_all HOK.out hdr (k1, k2) (t1, t2)))
            clear hn hbig hrow hss K7 B7 K8 B8 hw7 hw8 hbS HRT HST HR HTZ0 HOW HM HKB HRB
            go_upto_region 15 with fail
            rw [HW7.out, HBS.out]
            go_upto_region 16 with fail
            rw [HW8.out]
            clear kc7 kf7 o0 s0 hstf
            go_wp2_with fail
            go_loopg [13] n (fun gg s13 wx => ∃ m : Nat, 1 ≤ m ∧ m ≤ n ∧ n + 1 - m ≤ gg ∧ s13 = .int .i64 m ∧ Aside (∀ j, j < m - 1 → Cha.skF (Cha.reachB a (k1, k2) (t1, t2)) pre (j + 1) 0 0 = none) ∧ Aside (Below w8.heap.size w8 wx))
            case atStart => exact ⟨1, by omega, by omega, by omega, rfl, fun j hj => absurd hj (by omega), B0 w8⟩
            case round =>
              clear hg
              obtain ⟨m, hm1, hmn, hg, rfl, HNO, HBx⟩ := hrel
              replace HNO := Lib.hid HNO
              replace HBx := Lib.hid HBx
              have s0 := HSS.out _ HBx.out
              have hse := HSE.out m (by omega) _ HBx.out
              cases hsk : Cha.skF (Cha.reachB a (k1, k2) (t1, t2)) pre m 0 0 with
              | none =>
                have hlt : m < n := by
                  rcases Nat.lt_or_ge m n with q | q
                  · exact q
                  · have : m = n := by omega
                    rw [this, HTOT.out] at hsk
                    cases hsk
                rw [hsk] at hse
                have HSE2 := Lib.hid hse
                have HNO2 : Hid (∀ j, j < m + 1 - 1 → Cha.skF (Cha.reachB a (k1, k2) (t1, t2)) pre (j + 1) 0 0 = none) := Lib.hid fun j hj => by
                  by_cases e : j = m - 1
                  · rw [show j + 1 = m by omega]; exact hsk
                  · exact HNO.out j (by omega)
                clear hse hsk HNO
                go_wp2_with (go_at_call 47; (with_reducible refine (HSE2.out.mono ?_)); rintro e w9 ⟨v, rfl, hv, hb9⟩; have hv2 : v = .slice none 0 0 := hv; clear hv; subst hv2; have HB9 := Lib.hid (Bt HBx.out hb9); clear hb9)
                go_roundg (n + 1 - (m + 1))
                case measure => omega
                case rel => exact ⟨m + 1, by omega, by omega, by omega, by go_num, HNO2.out, HB9.out⟩
              | some l =>
                rw [hsk] at hse
                have HSE2 := Lib.hid hse
                have HZ4 : Hid (Cha.cutR a (k1, k2) (t1, t2) = (0, l)) := Lib.hid (by
                  rw [HZ3.out]
                  unfold Cha.cutL
                  rw [Cha.find_range pre.length (m - 1) (by rw [HN.out]; omega) (fun j hj => HNO.out j hj) (by rw [show m - 1 + 1 = m by omega]; exact hsk)]
                  rfl)
                clear hse hsk HNO
                go_wp2_with (go_at_call 47; (with_reducible refine (HSE2.out.mono ?_)); rintro e w9 ⟨v, rfl, hv, hb9⟩; obtain ⟨⟨av, cv, rfl⟩, hvs⟩ := hv; have HVS := Lib.hid hvs; have HB9 := Lib.hid (Bt HBx.out hb9); clear hb9 hvs)
                go_ret2
                rw [HZ4.out]
                exact ⟨_, rfl, HVS.out, Bt HB1.out (Bt HB8.out HB9.out)⟩
        · have h0' : ((r : Int) != 0) = true := by simp; omega
          have h1 : (1 : Int) ≤ r := by omega
          have hr' : r < 18446744073709551616 := hr64
          obtain ⟨hs, hlt⟩ := Hit.members_step 64 r (by decide) hr0 hr'
          rw [← Hit.tz_ctz 64 r (by decide) hr0 hr'] at hs
          have hand := Hit.u64_and r (r - 1) hr' (by omega)
          rw [show ((r - 1 : Nat) : Int) = (r : Int) - 1 from by omega] at hand
          have HTZ := Lib.hid (fun W hb => HTZ0.out r hr0 hr' W hb)
          have HM2 : Hid ((pre ++ [Hit.tz r]) ++ Hit.members (r &&& (r - 1)) = Hit.members a.drawn) := Lib.hid (by rw [← HM.out, hs]; simp)
          obtain ⟨k, hk⟩ : ∃ k, pre.length = k := ⟨_, rfl⟩
          have HLN := Lib.hid hk
          rw [hk] at o0 hpl
          have how := HOW.out
          rw [hk] at how
          have HOW := Lib.hid how
          have hkb := HKB.out
          rw [hk] at hkb
          have HKB := Lib.hid hkb
          obtain ⟨vO, hvO⟩ : ∃ vO, Value.slice AO k cO = vO := ⟨_, rfl⟩
          have hBB : ∀ (L : Nat → Bool) (i : Nat) (W W' : World), Below W.heap.size W W' → (Below w1.heap.size w1 W ∧ Blk W bO 27 #[vO] ∧ Blk W bR 92 #[.func (.func 45) #[] #[.pointer (some ⟨bA, 0, none⟩), .pointer (some ⟨bK, 0, none⟩), .pointer (some ⟨bC, 0, none⟩)]] ∧ (L 4 = false → W.ownsRow B5 3 1 vO k (inCs (intN pre)))) → (Below w1.heap.size w1 W' ∧ Blk W' bO 27 #[vO] ∧ Blk W' bR 92 #[.func (.func 45) #[] #[.pointer (some ⟨bA, 0, none⟩), .pointer (some ⟨bK, 0, none⟩), .pointer (some ⟨bC, 0, none⟩)]] ∧ ((fun j => L j || j == i) 4 = false → W'.ownsRow B5 3 1 vO k (inCs (intN pre)))) :=
            fun L i W W' hb ⟨r1, r2, r4, r3⟩ => ⟨Bt r1 hb, r2.below hb r2.lt, r4.below hb r4.lt, fun h => (r3 (by simp only [Bool.or_eq_false_iff] at h; exact h.1)).kept (row := none) (only_of_below hb none) (by cases hv : vO.ownBlock <;> simp)⟩
          have HBASE := Lib.hid (show Below w1.heap.size w1 wr.drew ∧ Blk wr.drew bO 27 #[vO] ∧ Blk wr.drew bR 92 #[.func (.func 45) #[] #[.pointer (some ⟨bA, 0, none⟩), .pointer (some ⟨bK, 0, none⟩), .pointer (some ⟨bC, 0, none⟩)]] ∧ ((false : Bool) = false → wr.drew.ownsRow B5 3 1 vO k (inCs (intN pre))) from ⟨HB.out.drew, by rw [← hvO]; exact HKB.out, HRB.out, fun _ => by rw [← hvO]; exact HOW.out⟩)
          clear hs hk how hkb o0 of0 HM
          go_upto_region 11 with fail
          refine region_blocks (by kernel_rfl) ?_
          refine from_lawW 5 EC (fun L W => Below w1.heap.size w1 W ∧ Blk W bO 27 #[vO] ∧ Blk W bR 92 #[.func (.func 45) #[] #[.pointer (some ⟨bA, 0, none⟩), .pointer (some ⟨bK, 0, none⟩), .pointer (some ⟨bC, 0, none⟩)]] ∧ (L 4 = false → W.ownsRow B5 3 1 vO k (inCs (intN pre)))) (FC B5 k bO vO pre r (Hit.tz r)) VC (by kernel_rfl) rfl (FC_V _ _ _ _ _ _ _) (by kernel_rfl) (by kernel_rfl) HBASE.out ⟨?_, ?_, ?_, ?_, ?_, trivial⟩ ?_
          · refine OpFactW.value rfl (FC_below _ _ _ _ _ _ _) hBB fun L a wx hl hf D hb => ?_
            have h0 : sl a 10 = .pointer (some ⟨bO, 0, none⟩) := hf 10 (by kernel_rfl)
            have es := hb.2.1.cell 0
            simp only [List.getElem?_toArray, List.getElem?_cons_zero] at es
            refine ⟨vO, wx, ?_, B0 _, fun s _ h => h 35 rfl⟩
            unfold sl at h0
            simp at h0
            simp [go_sem, h0, es]
          · refine OpFactW.value rfl (FC_below _ _ _ _ _ _ _) hBB fun L a wx hl hf D hb => ?_
            have h0 : sl a 11 = .int .u64 r := hf 11 (by kernel_rfl)
            refine ⟨.int .u64 r, wx, ?_, B0 _, fun s _ h => h 36 rfl⟩
            unfold sl at h0
            simp [go_sem, h0]
          · refine OpFactW.call rfl (FC_below _ _ _ _ _ _ _) hBB fun L a wx hl hf D hb => ?_
            have h1 : sl a 36 = .int .u64 r := D 1 (by kernel_rfl)
            refine ⟨46, #[.int .u64 r], ?_, (HTZ.out wx hb.1).mono ?_⟩
            · unfold sl at h1
              simp at h1
              simp [go_sem, h1]
            · rintro e w' ⟨rfl, rfl⟩
              exact ⟨_, rfl, B0 _, fun s _ h => h 37 rfl⟩
          · refine OpFactW.value rfl (FC_below _ _ _ _ _ _ _) hBB fun L a wx hl hf D hb => ?_
            have h1 : sl a 37 = .int .i64 (Hit.tz r : Nat) := D 2 (by kernel_rfl)
            refine ⟨.slice (some ⟨wx.heap.size, 0, none⟩) 1 1, wx.alloc (.cells #[.int .i64 (Hit.tz r : Nat)] 3), ?_, Ba (B0 _) _, fun s _ h => ⟨_, h 38 rfl, by simp, hb.2.1.lt, Flds.new wx _ _⟩⟩
            unfold sl at h1
            simp at h1
            simp [go_sem, h1]
          · refine OpFactW.write rfl fun L a wx hl hf D hb => ?_
            have h1 : sl a 35 = vO := D 0 (by kernel_rfl)
            obtain ⟨g, h2, _, _, hfl⟩ : ∃ g, sl a 38 = .slice (some ⟨g, 0, none⟩) 1 1 ∧ g < wx.heap.size ∧ bO < g ∧ Flds wx ⟨g, 0, none⟩ [.int .i64 (Hit.tz r : Nat)] := D 3 (by kernel_rfl)
            obtain ⟨hbb, hz, hR, hO⟩ := hb
            have p3 := hO hl
            obtain ⟨ht0, i0, z0, hi0, hz0, hsz0, hby0, hzs0⟩ := elemIn
            obtain ⟨v', w', hrun, q2, q3, _, q5⟩ := run_append_own_at (P := Tryd.prog) wx B5 27 27 3 i0 z0 1 8 ht0 hi0 hz0 hsz0 hby0 hzs0 (by omega) vO k _ p3 ⟨g, 0, none⟩ 1 1 [.int .i64 (Hit.tz r : Nat)] rfl hfl (by simp [Value.oneCell']) (by unfold maxLen; omega) (by omega) (by have := hz.lt; have := HB5e.out; omega)
            obtain ⟨g', cap', rfl⟩ := own_lit q2
            refine ⟨.slice (some ⟨g', 0, none⟩) (k + 1) cap', w', ?_, ⟨Bg hbb p3 HBASE2.out q3, hz.grown q3 (fun e => own_blk_ne p3 hz (by decide) e.symm), hR.grown q3 (fun e => own_blk_ne p3 hR (by decide) e.symm), fun h => absurd h (by simp)⟩, fun j hj hE hF => ?_, fun s _ h => ⟨g', cap', h 39 rfl, by rw [inCs_snoc]; exact q2⟩⟩
            · unfold sl at h1 h2
              simp at h1 h2
              unfold execOp
              simp [resolve, invoke, builtin, Act.eval, h1, h2, hrun]
            · match j with
              | 0 => exact hF
              | 1 => exact hF
              | 2 => exact hF
              | 3 => exact hE.elim (fun h => absurd h (by decide)) fun h => absurd h (Bool.eq_false_iff.1 (by kernel_rfl))
              | 4 => exact absurd rfl hj
              | _ + 5 => trivial
          · intro L9 y w8 hb8 hF8
            obtain ⟨g8, c8, h39, hO8⟩ : ∃ g c, y 39 = .slice (some ⟨g, 0, none⟩) (k + 1) c ∧ w8.ownsRow B5 3 1 (.slice (some ⟨g, 0, none⟩) (k + 1) c) (k + 1) (inCs (intN (pre ++ [Hit.tz r]))) := hF8 4 (by decide) rfl
            obtain ⟨r1, r2, r3, -⟩ := hb8
            have HR1 := Lib.hid r1
            have HR2 := Lib.hid r2
            have HR3 := Lib.hid r3
            have HO8 := Lib.hid hO8
            have f0 := r2.frozen 0
            have z0 := r2.cell 0
            simp only [List.getElem?_toArray, List.getElem?_cons_zero] at z0
            clear hF8 r1 r2 r3 hO8 HBASE hBB
            rw [aft5 (d0 := 35) (d1 := 36) (d2 := 37) (d3 := 38) (d4 := 39) (by kernel_rfl) rfl]
            rw [h39]
            simp only [List.set_cons_succ, List.set_cons_zero]
            refine from_list 6 (by kernel_rfl) (by simp only [List.take_succ_cons, List.take_zero, List.drop_succ_cons, List.drop_zero]; exact rfl) ?_
            (intro Q' hQ' hX; clear hX)
            go_wp2_with fail
            refine from_end rfl ?_
            go_wp2_with fail
            have hK9 : Blk (w8.setCell ⟨bO, 0, none⟩ (.slice (some ⟨g8, 0, none⟩) (k + 1) c8)) bO 27 #[.slice (some ⟨g8, 0, none⟩) (k + 1) c8] := by simpa using HR2.out.set_ 0 (.slice (some ⟨g8, 0, none⟩) (k + 1) c8)
            have hne : bR ≠ bO := HR3.out.ne_ HR2.out (by decide)
            have HNE := Lib.hid hne
            have HK9 := Lib.hid hK9
            clear hne hK9 f0 z0
            go_roundg ((r &&& (r - 1)) + 1)
            case measure => omega
            case rel =>
              refine ⟨r &&& (r - 1), pre ++ [Hit.tz r], _, rfl, by omega, by omega, HM2.out, HK9.out, ?_, ?_, HR3.out.far HNE.out _⟩
              · have h9 := HO8.out.kept (row := some bO) (only_setCell (World.grownBy.refl w8 _) (p := ⟨bO, 0, none⟩) (.inl rfl) (.slice (some ⟨g8, 0, none⟩) (k + 1) c8)) (.inr (own_blk_ne HO8.out HR2.out (by decide)))
                rw [List.length_append, HLN.out]
                exact h9
              · exact Bs HR1.out _ HBOL.out
  · have HZ : Hid (Cha.cutR a (k1, k2) (t1, t2) = (Cha.beginF a [(k1, k2), (t1, t2)], [])) := Lib.hid (by unfold Cha.cutR; rw [if_neg hbe])
    have d1 : (Cha.beginF a [(k1, k2), (t1, t2)] != 0) = true := by simpa using hbe
    have HBE := Lib.hid hbg
    clear hbe hbg
    generalize Cha.beginF a [(k1, k2), (t1, t2)] = er at *
    go_enter Tryd.func18, Tryd.ntmps18
    go_upto_region 1 with fail
    rw [HW1.out, HA.out, HKe.out, HCe.out]
    go_wp2_with (go_at_call 38; (with_reducible refine (HBE.out.mono ?_)); rintro e w2 ⟨rfl, hb2⟩; have HB2 := Lib.hid (Bt (Ba (B0 w1) _) hb2); clear hb2)
    go_ret2
    rw [HZ.out]
    exact ⟨_, rfl, Sl.nil_, Bt HB1.out HB2.out⟩
end Go.Proofs.YtahlfndlkfoikaaDoor
