/- Walks over chain: Sources. -/
import Derived.Test.YtahlfndlkfoikaaDoorEg
namespace Go.Proofs.YtahlfndlkfoikaaDoor
open Go Go.RowKit Go.Shelf
namespace Cha
open Cou
/-- n contacts of division d, from key k on. -/
def keyF (d : Int) : Int → Nat → List Ct
  | _, 0 => []
  | k, n + 1 => (d, k) :: keyF d (k + 1) n
/-- All contacts of divisions, of which the first has number d. -/
def conF : Nat → List (Int × Int) → List Ct
  | _, [] => []
  | d, c :: r => keyF d c.1 (c.2 + 1 - c.1).toNat ++ conF (d + 1) r
theorem keyF_len {d : Int} : ∀ {k : Int} {n : Nat}, (keyF d k n).length = n
  | _, 0 => rfl
  | k, n + 1 => by rw [keyF, List.length_cons, keyF_len]
theorem conF_len : ∀ {l : List (Int × Int)} {d : Nat}, (∀ c ∈ l, 0 ≤ c.1 ∧ c.1 ≤ c.2 ∧ c.2 ≤ 127) → (conF d l).length ≤ 128 * l.length
  | [], _, _ => by simp [conF]
  | c :: r, d, h => by
    have h1 := h c (by simp)
    have h2 := conF_len (d := d + 1) fun c hc => h c (List.mem_cons_of_mem _ hc)
    rw [conF, List.length_append, keyF_len, List.length_cons]
    omega
/-- Does a key reach a contact? -/
noncomputable def hopB (a : Ac) (c k : Ct) : Bool := @decide (Hop a [k] c) (Classical.propDecidable _)
theorem hopB_iff {a : Ac} {c k : Ct} : hopB a c k = true ↔ Hop a [k] c := by unfold hopB; exact @decide_eq_true_iff _ (Classical.propDecidable _)
/-- What Sources answers. -/
noncomputable def srcF (a : Ac) (c : Ct) : List Ct := if beginF a [c] = 0 then (conF 0 a.divs).filter (hopB a c) else []
theorem wrong_in {a : Ac} {c : Ct} (h : InA a c) : wrongF a c = 0 := by
  obtain ⟨h1, h2, h3⟩ := h
  unfold wrongF
  rw [if_neg (by omega), h3]
  rfl
theorem begin_right {a : Ac} {l : List Ct} (h : beginF a l = 0) : rightF a = 0 := by
  unfold beginF at h
  split at h
  · rename_i hr; exact hr
  · exact h
end Cha
set_option maxRecDepth 100000 in
set_option maxHeartbeats 4000000 in
theorem Sources_any (a : Cou.Ac) (vd vc : Value) (hdr : a.drawn < 2 ^ 64) (con : Cou.Ct) (w : World) (F : Nat → Prop) (hA : AcAt F w vd vc a) (hT : Tab64 w) (hg : 0 < w.heap.size) :
    Calls Tryd.prog 24 #[.agg #[vd, vc, .int .u64 a.drawn], .agg #[.int .i64 con.1, .int .i64 con.2]] w fun e w' => ∃ v, e = .returned (.tuple #[v, .int .i64 (Cha.beginF a [con])]) ∧ OwnL w.heap.size 36 2 CtC w' v (Cha.srcF a con) ∧ Below w.heap.size w w' := by
  obtain ⟨Ad, cd, hvd, -, hdat⟩ := id hA.dv.open
  obtain ⟨Ac, cc, hvc, -, -⟩ := id hA.cp.open
  subst hvd hvc
  have hF := hA.inW
  have HRE0 := Lib.hid (fun W (hb : Below w.heap.size w W) k => Reach_any a (.slice Ad a.divs.length cd) (.slice Ac a.cps.length cc) hdr k W F (hA.onB hF hb) (hT.below hb) (Nat.lt_of_lt_of_le hg hb.size))
  obtain ⟨cl, hcl⟩ : ∃ cl, a.cps.length = cl := ⟨_, rfl⟩
  rw [hcl] at hA HRE0 ⊢
  have HBG := Lib.hid (fun W (hb : Below w.heap.size w W) pv pl (hP : SlCt (fun b => b < W.heap.size) W pv pl) => begin_any a (.slice Ad a.divs.length cd) (.slice Ac cl cc) hdr pv pl W (fun b => b < W.heap.size) (hA.onB hF hb).all hP)
  obtain ⟨t1, t2⟩ := con
  obtain ⟨w1, hw1⟩ : ∃ w1 : World, (w.alloc (.cells #[.slice Ad a.divs.length cd, .slice Ac cl cc, .int .u64 a.drawn] 33)).alloc (.cells #[.int .i64 t1, .int .i64 t2] 36) = w1 := ⟨_, rfl⟩
  obtain ⟨bx, hbx⟩ : ∃ bx, w.heap.size = bx := ⟨_, rfl⟩
  obtain ⟨b1, hb1⟩ : ∃ b1, bx + 1 = b1 := ⟨_, rfl⟩
  have c0 : w1.cell? ⟨bx, 0, none⟩ = some (.slice Ad a.divs.length cd) := by rw [← hw1, ← hbx]; simp [go_sem]
  have c1 : w1.cell? ⟨bx, 1, none⟩ = some (.slice Ac cl cc) := by rw [← hw1, ← hbx]; simp [go_sem]
  have c2 : w1.cell? ⟨bx, 2, none⟩ = some (.int .u64 a.drawn) := by rw [← hw1, ← hbx]; simp [go_sem]
  have c3 : w1.cell? ⟨b1, 0, none⟩ = some (.int .i64 t1) := by rw [← hw1, ← hb1, ← hbx]; simp [go_sem]
  have c4 : w1.cell? ⟨b1, 1, none⟩ = some (.int .i64 t2) := by rw [← hw1, ← hb1, ← hbx]; simp [go_sem]
  have l1 : b1 < w1.heap.size := by rw [← hw1, ← hb1, ← hbx]; simp
  have B1 : Below w.heap.size w w1 := by rw [← hw1]; exact Ba (Ba (B0 w) _) _
  have HK := Lib.hid (fun W (hb : Below w1.heap.size w1 W) => (show (W.cell? ⟨bx, 0, none⟩ = some (.slice Ad a.divs.length cd) ∧ W.cell? ⟨bx, 1, none⟩ = some (.slice Ac cl cc) ∧ W.cell? ⟨bx, 2, none⟩ = some (.int .u64 a.drawn)) ∧ W.cell? ⟨b1, 0, none⟩ = some (.int .i64 t1) ∧ W.cell? ⟨b1, 1, none⟩ = some (.int .i64 t2) from
    ⟨⟨(Bc hb (by omega)).trans c0, (Bc hb (by omega)).trans c1, (Bc hb (by omega)).trans c2⟩, (Bc hb l1).trans c3, (Bc hb l1).trans c4⟩))
  have HB1 := Lib.hid B1
  have HW1 := Lib.hid hw1
  have HBX := Lib.hid hbx
  have HE1 := Lib.hid hb1
  have HFF := Lib.hid hF
  have HDAT := Lib.hid hdat
  have hbg := HBG.out _ (Bt B1 (Ba (B0 w1) (.cells #[.int .i64 t1, .int .i64 t2] 36))) _ _ (slCt_one w1 (t1, t2))
  clear hA hF B1 hw1 hbx hb1 l1 hcl HBG hdr hT hdat
  dsimp only
  by_cases hbe : Cha.beginF a [(t1, t2)] = 0
  · obtain ⟨hok, -⟩ := Cha.begin_one hbe
    have hrt := Cha.begin_right hbe
    have HBZ := Lib.hid hbe
    have HZ : Hid (Cha.srcF a (t1, t2) = (Cha.conF 0 a.divs).filter (Cha.hopB a (t1, t2))) := Lib.hid (by unfold Cha.srcF; rw [if_pos hbe])
    have HRE := Lib.hid (fun W (hb : Below w.heap.size w W) (k1 k2 : Int) (hk : Cou.InA a (k1, k2)) (b : Bool) (hv : Cha.hopB a (t1, t2) (k1, k2) = b) => show Calls Tryd.prog 25 #[.agg #[.slice Ad a.divs.length cd, .slice Ac cl cc, .int .u64 a.drawn], .agg #[.int .i64 k1, .int .i64 k2]] W fun e w' => ∃ v l, e = .returned (.tuple #[v, .int .i64 0]) ∧ SlCt (fun b => b < w'.heap.size) w' v l ∧ decide ((t1, t2) ∈ l) = b ∧ Below W.heap.size W w' from by
      have he : reachErr a (k1, k2) = 0 := by unfold reachErr; rw [if_pos hrt]; exact Cha.wrong_in hk
      have h := HRE0.out W hb (k1, k2)
      rw [he] at h
      refine h.mono ?_
      rintro e w' ⟨v, l, rfl, q1, -, q3, q4⟩
      refine ⟨v, l, rfl, SlCt.bnd3 q1, ?_, q4⟩
      rw [← hv, Bool.eq_iff_iff, decide_eq_true_eq, (q3 rfl).2, Cha.hopB_iff])
    have hdv := hok.div
    have hnd := hok.nd
    have hlen : ((Cha.conF 0 a.divs).filter (Cha.hopB a (t1, t2))).length ≤ 1024 := by
      have h1 := Cha.conF_len (d := 0) hdv
      have h2 := List.length_filter_le (Cha.hopB a (t1, t2)) (Cha.conF 0 a.divs)
      omega
    rw [hbe] at hbg
    have HBE := Lib.hid hbg
    have HDV := Lib.hid hdv
    clear hbe hbg hok HRE0 hrt hdv
    go_enter Tryd.func24, Tryd.ntmps24
    go_upto_region 1 with fail
    rw [HW1.out, HBX.out, HE1.out]
    go_upto_region 5 with (go_at_call 38; (with_reducible refine (HBE.out.mono ?_)); rintro e w2 ⟨rfl, hb2⟩; have HB2 := Lib.hid (Bt (Ba (B0 w1) _) hb2); clear hb2)
    clear c0 c1 c2 c3 c4
    obtain ⟨⟨c0, c1, c2⟩, c3, c4⟩ := HK.out w2 HB2.out
    go_wp2_with fail
    clear c0 c1 c2 c3 c4
    go_loopg [7, 24] a.divs.length (fun gg s7 s24 wr => ∃ (k : Nat) (out : List Cou.Ct), k ≤ a.divs.length ∧ a.divs.length - k ≤ gg ∧ s24 = .int .i64 k ∧ Aside (OwnL w2.heap.size 36 2 CtC wr s7 out) ∧ Aside (out ++ (Cha.conF k (a.divs.drop k)).filter (Cha.hopB a (t1, t2)) = (Cha.conF 0 a.divs).filter (Cha.hopB a (t1, t2))) ∧ Aside (Below w2.heap.size w2 wr))
    case atStart => exact ⟨0, [], by omega, by omega, rfl, OwnL.nil, (show Aside _ from by show _ = _; rw [List.drop_zero]; rfl), B0 w2⟩
    case round =>
      obtain ⟨k, out, hk, hg, rfl, HO, HE, HB⟩ := hrel
      replace HO := Lib.hid HO
      replace HE := Lib.hid HE
      replace HB := Lib.hid HB
      by_cases hlt : k < a.divs.length
      · have hki : decide ((k : Int) < a.divs.length) = true := decide_eq_true (by omega)
        have hkl : (k : Int) < a.divs.length := by omega
        obtain ⟨ad, rfl, hfb, hfl⟩ := HDAT.out k hlt
        have hfb2 : (ad.add (k * 2)).block < w.heap.size := by rw [block_of_add]; exact HFF.out _ hfb
        have hfl2 := hfl.below (Bt HB1.out (Bt HB2.out HB.out)) hfb2
        have f0 := hfl2.f0 rfl
        have f1 := hfl2.f1 rfl
        have hdk := HDV.out a.divs[k] (List.getElem_mem hlt)
        have hE2 : out ++ ((Cha.keyF k a.divs[k].1 (a.divs[k].2 + 1 - a.divs[k].1).toNat).filter (Cha.hopB a (t1, t2)) ++ (Cha.conF (k + 1) (a.divs.drop (k + 1))).filter (Cha.hopB a (t1, t2))) = (Cha.conF 0 a.divs).filter (Cha.hopB a (t1, t2)) := by
          rw [← HE.out, List.drop_eq_getElem_cons hlt, Cha.conF, List.filter_append]
        have HIN : Hid (∀ m : Int, a.divs[k].1 ≤ m → m ≤ a.divs[k].2 → Cou.InA a ((k : Int), m)) := Lib.hid fun m h1 h2 => by
          refine ⟨by show 0 ≤ (k : Int); omega, hkl, ?_⟩
          show Cou.inB (a.divs.getD (k : Int).toNat (0, -1)) m = true
          rw [Int.toNat_natCast, List.getD_eq_getElem?_getD, List.getElem?_eq_getElem hlt]
          unfold Cou.inB
          simp only [Option.getD_some, Bool.and_eq_true, decide_eq_true_eq]
          exact ⟨h1, h2⟩
        generalize a.divs[k] = x at *
        obtain ⟨lo, hi⟩ := x
        dsimp only at f0 f1 hdk hE2 HIN
        have HEx := Lib.hid hE2
        clear HE hE2 hfl hfl2
        go_wp2_with fail
        obtain ⟨bk, hbk⟩ : ∃ bk, wr.heap.size = bk := ⟨_, rfl⟩
        obtain ⟨w3, hw3⟩ : ∃ w3 : World, wr.alloc (.cells #[.int .i64 lo, .int .i64 hi] 62) = w3 := ⟨_, rfl⟩
        have hBb : Blk w3 bk 62 #[.int .i64 lo, .int .i64 hi] := by rw [← hw3, ← hbk]; exact Blk.new _ _ _
        have hOb : OwnL w2.heap.size 36 2 CtC w3 u7 out := by rw [← hw3]; exact HO.out.alloc _ fun _ _ h => h
        have hWb : Below w2.heap.size w2 w3 := by rw [← hw3]; exact Ba HB.out _
        rw [hw3, hbk]
        obtain ⟨n, hn⟩ : ∃ n, (hi + 1 - lo).toNat = n := ⟨_, rfl⟩
        rw [hn] at HEx
        have hn1 : lo + (n : Int) = hi + 1 := by omega
        have hn2 : n ≤ 128 := by omega
        clear hw3 hbk HO HB hn f0 f1
        have HBb := Lib.hid hBb
        have HOb := Lib.hid hOb
        have HWb := Lib.hid hWb
        clear hBb hOb hWb
        go_loopg [7, 10] n (fun gg s7 s10 wr2 => ∃ (j : Nat) (out2 : List Cou.Ct), j ≤ n ∧ n - j ≤ gg ∧ s10 = .int .i64 (lo + j) ∧ Aside (OwnL w2.heap.size 36 2 CtC wr2 s7 out2) ∧ Aside (out2 ++ ((Cha.keyF k (lo + j) (n - j)).filter (Cha.hopB a (t1, t2)) ++ (Cha.conF (k + 1) (a.divs.drop (k + 1))).filter (Cha.hopB a (t1, t2))) = (Cha.conF 0 a.divs).filter (Cha.hopB a (t1, t2))) ∧ Aside (Blk wr2 bk 62 #[.int .i64 lo, .int .i64 hi]) ∧ Aside (Below w2.heap.size w2 wr2))
        case atStart => exact ⟨0, out, by omega, by omega, by simp, HOb.out, (show Aside _ from by show _ = _; simpa using HEx.out), HBb.out, HWb.out⟩
        case round =>
          clear HOb HEx HBb HWb
          obtain ⟨j, out2, hj, hg2, rfl, HO2, HE2, HB2', HW2⟩ := hrel
          replace HO2 := Lib.hid HO2
          replace HE2 := Lib.hid HE2
          replace HB2' := Lib.hid HB2'
          replace HW2 := Lib.hid HW2
          have b1' := HB2'.out.cell 1
          simp only [List.getElem?_toArray, List.getElem?_cons_zero, List.getElem?_cons_succ] at b1'
          by_cases hjl : j < n
          · have hkj : decide (lo + (j : Int) ≤ hi) = true := decide_eq_true (by omega)
            have hin := HIN.out (lo + (j : Int)) (by omega) (by omega)
            have he2 := HE2.out
            rw [show n - j = (n - (j + 1)) + 1 by omega, Cha.keyF, List.filter_cons, show lo + (j : Int) + 1 = lo + ((j + 1 : Nat) : Int) by omega] at he2
            obtain ⟨w4, hw4⟩ : ∃ w4 : World, wr.alloc (.cells #[.int .i64 (k : Int), .int .i64 (lo + (j : Int))] 36) = w4 := ⟨_, rfl⟩
            obtain ⟨bc, hbc⟩ : ∃ bc, wr.heap.size = bc := ⟨_, rfl⟩
            have KC : Blk w4 bc 36 #[.int .i64 (k : Int), .int .i64 (lo + (j : Int))] := by rw [← hw4, ← hbc]; exact Blk.new _ _ _
            have HW4 : Hid (Below w2.heap.size w2 w4) := Lib.hid (by rw [← hw4]; exact Ba HW2.out _)
            have HO4 : Hid (OwnL w2.heap.size 36 2 CtC w4 u7 out2) := Lib.hid (by rw [← hw4]; exact HO2.out.alloc _ fun _ _ h => h)
            have HB4 : Hid (Blk w4 bk 62 #[.int .i64 lo, .int .i64 hi]) := Lib.hid (by rw [← hw4]; exact HB2'.out.alloc _)
            have HKC := Lib.hid (fun W (hb : Below w4.heap.size w4 W) => (show W.cell? ⟨bc, 0, none⟩ = some (.int .i64 (k : Int)) ∧ W.cell? ⟨bc, 1, none⟩ = some (.int .i64 (lo + (j : Int))) from ⟨(Bc hb KC.lt).trans (KC.cell 0), (Bc hb KC.lt).trans (KC.cell 1)⟩))
            clear HO2 HB2' HW2 KC
            go_upto_region 12 with fail
            try rw [hw4]
            try rw [hbc]
            clear hw4 hbc b1'
            obtain ⟨⟨c0, c1, c2⟩, -, -⟩ := HK.out w4 (Bt HB2.out HW4.out)
            obtain ⟨z0, z1⟩ := HKC.out w4 (B0 w4)
            cases hv : Cha.hopB a (t1, t2) ((k : Int), lo + (j : Int)) with
            | false =>
              have HR := Lib.hid (HRE.out w4 (Bt HB1.out (Bt HB2.out HW4.out)) _ _ hin false hv)
              rw [hv, if_neg (by decide)] at he2
              have HE3 := Lib.hid he2
              clear hv he2 HE2 hin
              go_wp2_with (first
                | (go_at_call 25; (with_reducible refine (HR.out.mono ?_)); rintro e w5 ⟨v5, l5, rfl, hs5, hq5, hb5⟩; have HS5 := Lib.hid hs5; have HQ5 := Lib.hid hq5; have HB5 := Lib.hid hb5; obtain ⟨-, c3, c4⟩ := HK.out w5 (Bt HB2.out (Bt HW4.out hb5)); clear hs5 hq5 hb5)
                | (go_at_call 41; (with_reducible refine ((contains_ct v5 l5 (t1, t2) w5 _ (fun _ h => h) HS5.out).mono ?_)); rintro e w6 ⟨rfl, hb6⟩; rw [HQ5.out]; have HB6 := Lib.hid (Bt HB5.out hb6); clear hb6))
              go_roundg (n - (j + 1))
              case measure => omega
              case rel => exact ⟨j + 1, out2, by omega, by omega, by go_num, own_bel HO4.out HB6.out, HE3.out, HB4.out.below HB6.out HB4.out.lt, Bt HW4.out HB6.out⟩
            | true =>
              have HR := Lib.hid (HRE.out w4 (Bt HB1.out (Bt HB2.out HW4.out)) _ _ hin true hv)
              rw [hv, if_pos rfl] at he2
              have he3 : (out2 ++ [((k : Int), lo + (j : Int))]) ++ ((Cha.keyF k (lo + ((j + 1 : Nat) : Int)) (n - (j + 1))).filter (Cha.hopB a (t1, t2)) ++ (Cha.conF (k + 1) (a.divs.drop (k + 1))).filter (Cha.hopB a (t1, t2))) = (Cha.conF 0 a.divs).filter (Cha.hopB a (t1, t2)) := by
                rw [← he2]; simp
              have hol : out2.length ≤ 1024 := by
                have := congrArg List.length he3
                simp only [List.length_append] at this
                omega
              have HE3 := Lib.hid he3
              clear hv he2 he3 HE2 hin
              go_upto_region 16 with (first
                | (go_at_call 25; (with_reducible refine (HR.out.mono ?_)); rintro e w5 ⟨v5, l5, rfl, hs5, hq5, hb5⟩; have HS5 := Lib.hid hs5; have HQ5 := Lib.hid hq5; have HB5 := Lib.hid hb5; obtain ⟨-, c3, c4⟩ := HK.out w5 (Bt HB2.out (Bt HW4.out hb5)); clear hs5 hq5 hb5)
                | (go_at_call 41; (with_reducible refine ((contains_ct v5 l5 (t1, t2) w5 _ (fun _ h => h) HS5.out).mono ?_)); rintro e w6 ⟨rfl, hb6⟩; rw [HQ5.out]; have HB6 := Lib.hid (Bt HB5.out hb6); clear hb6))
              have HO6 := own_bel HO4.out HB6.out
              have HK6 := Lib.hid (HB4.out.below HB6.out HB4.out.lt)
              have HW6 := Lib.hid (Bt HW4.out HB6.out)
              obtain ⟨y0, y1⟩ := HKC.out w6 HB6.out
              obtain ⟨cs, q1, q2, q3⟩ := id HO6
              have hbs := HW6.out.size
              have HQ1 := Lib.hid q1
              have HQ2 := Lib.hid q2
              have HQ3 := Lib.hid q3
              have HL3 := Lib.hid HO6.lt
              clear q1 q2 q3 HO6 c0 c1 c2 c3 c4 z0 z1
              go_wp2_with (at_builtin; refine wpList_appS elemCt (by omega) rfl _ _ rfl w2.heap.size _ out2.length _ rfl (HQ3.out.alloc _) ⟨w6.heap.size, 0, none⟩ 1 [.int .i64 (k : Int), .int .i64 (lo + (j : Int))] rfl rfl (Flds.new w6 _ _) (by simp [Value.oneCell']) (by omega) (by omega) (by simp; omega) ?_; intro g cap w8 hown8 hg8 hgg; have HO8 := Lib.hid hown8; have HG8 := Lib.hid hg8; clear hown8 hg8 hgg)
              go_roundg (n - (j + 1))
              case measure => omega
              case rel =>
                refine ⟨j + 1, out2 ++ [((k : Int), lo + (j : Int))], by omega, by omega, by go_num, OwnL.snoc HQ1.out HQ2.out rfl rfl (fun _ _ h => h) HO8.out, HE3.out, ((HK6.out.alloc _).grown HG8.out fun e => ?_), (Ba HW6.out _).grown HG8.out (by simp; omega) fun b e => (HL3.out b e).1⟩
                exact own_ne HQ3.out HK6.out (by decide) e.symm
          · have hkj : decide (lo + (j : Int) ≤ hi) = false := decide_eq_false (by omega)
            have hjn : j = n := by omega
            subst hjn
            have he3 : out2 ++ (Cha.conF (k + 1) (a.divs.drop (k + 1))).filter (Cha.hopB a (t1, t2)) = (Cha.conF 0 a.divs).filter (Cha.hopB a (t1, t2)) := by rw [← HE2.out, Nat.sub_self]; simp [Cha.keyF]
            have H3 := Lib.hid he3
            clear HE2 he3 HIN
            go_wp2_with fail
            go_roundg (a.divs.length - (k + 1))
            case measure => omega
            case rel => exact ⟨k + 1, out2, by omega, by omega, by go_num, HO2.out, H3.out, HW2.out⟩
      · have hki : decide ((k : Int) < a.divs.length) = false := decide_eq_false (by omega)
        have hkk : k = a.divs.length := by omega
        subst hkk
        have he : out = Cha.srcF a (t1, t2) := by rw [HZ.out, ← HE.out, List.drop_length]; simp [Cha.conF]
        have HEE := Lib.hid he
        clear HE he HDAT HDV
        go_wp2_with fail
        go_ret2
        rw [← HEE.out, HBZ.out]
        exact ⟨_, rfl, (by obtain ⟨cs, q1, q2, q3⟩ := HO.out; exact ⟨cs, q1, q2, own_more q3 (Bt HB1.out HB2.out).size⟩), Bt HB1.out (Bt HB2.out HB.out)⟩
  · have HZ : Hid (Cha.srcF a (t1, t2) = []) := Lib.hid (by unfold Cha.srcF; rw [if_neg hbe])
    have d1 : (Cha.beginF a [(t1, t2)] != 0) = true := by simpa using hbe
    have HBE := Lib.hid hbg
    clear hbe hbg HRE0
    generalize Cha.beginF a [(t1, t2)] = er at *
    go_enter Tryd.func24, Tryd.ntmps24
    go_upto_region 1 with fail
    rw [HW1.out, HBX.out, HE1.out]
    go_wp2_with (go_at_call 38; (with_reducible refine (HBE.out.mono ?_)); rintro e w2 ⟨rfl, hb2⟩; have HB2 := Lib.hid (Bt (Ba (B0 w1) _) hb2); clear hb2)
    go_ret2
    rw [HZ.out]
    exact ⟨_, rfl, OwnL.nil, Bt HB1.out HB2.out⟩
end Go.Proofs.YtahlfndlkfoikaaDoor
