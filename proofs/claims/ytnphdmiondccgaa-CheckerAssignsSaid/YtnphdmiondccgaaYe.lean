/- Walks over matching: the search. -/
import Derived.Test.YtnphdmiondccgaaYd
import Derived.Deep.CutRange
import Derived.Deep.CutBlock
namespace Go.Proofs.Ytnphdmiondccgaa
open Go Go.RowKit
namespace Asg
/-- The blocks of the search's rows differ, and are new. -/
structure Dis (B gu gv go gy : Nat) : Prop where
  b1 : B ≤ gu
  b2 : B ≤ gv
  b3 : B ≤ go
  b4 : B ≤ gy
  uv : gu ≠ gv
  uo : gu ≠ go
  uy : gu ≠ gy
  vo : gv ≠ go
  vy : gv ≠ gy
  oy : go ≠ gy
structure Mem (w0 w : World) (gu gv go gy : Nat) (u v o y : List Int) : Prop where
  ru : RI w gu u
  rv : RI w gv v
  ro : RI w go o
  ry : RI w gy y
  bel : Below w0.heap.size w0 w
section
variable {w0 w w' : World} {gu gv go gy : Nat} {u v o y : List Int}
theorem Mem.below (h : Mem w0 w gu gv go gy u v o y) (hb : Below w.heap.size w w') : Mem w0 w' gu gv go gy u v o y :=
  ⟨h.ru.below hb, h.rv.below hb, h.ro.below hb, h.ry.below hb, Bt h.bel hb⟩
theorem Mem.drewN (h : Mem w0 w gu gv go gy u v o y) (n : Nat) : Mem w0 (w.drewN n) gu gv go gy u v o y := ⟨h.ru, h.rv, h.ro, h.ry, below_drewN h.bel _⟩
theorem Mem.setU (h : Mem w0 w gu gv go gy u v o y) (d : Dis w0.heap.size gu gv go gy) (k : Nat) (x : Int) : Mem w0 (w.setCell ⟨gu, k, none⟩ (.int .i64 x)) gu gv go gy (u.set k x) v o y :=
  ⟨h.ru.set k x, h.rv.far d.uv.symm _, h.ro.far d.uo.symm _, h.ry.far d.uy.symm _, Bs h.bel _ d.b1⟩
theorem Mem.setV (h : Mem w0 w gu gv go gy u v o y) (d : Dis w0.heap.size gu gv go gy) (k : Nat) (x : Int) : Mem w0 (w.setCell ⟨gv, k, none⟩ (.int .i64 x)) gu gv go gy u (v.set k x) o y :=
  ⟨h.ru.far d.uv _, h.rv.set k x, h.ro.far d.vo.symm _, h.ry.far d.vy.symm _, Bs h.bel _ d.b2⟩
theorem Mem.setO (h : Mem w0 w gu gv go gy u v o y) (d : Dis w0.heap.size gu gv go gy) (k : Nat) (x : Int) : Mem w0 (w.setCell ⟨go, k, none⟩ (.int .i64 x)) gu gv go gy u v (o.set k x) y :=
  ⟨h.ru.far d.uo _, h.rv.far d.vo _, h.ro.set k x, h.ry.far d.oy.symm _, Bs h.bel _ d.b3⟩
theorem Mem.setY (h : Mem w0 w gu gv go gy u v o y) (d : Dis w0.heap.size gu gv go gy) (k : Nat) (x : Int) : Mem w0 (w.setCell ⟨gy, k, none⟩ (.int .i64 x)) gu gv go gy u v o (y.set k x) :=
  ⟨h.ru.far d.uy _, h.rv.far d.vy _, h.ro.far d.oy _, h.ry.set k x, Bs h.bel _ d.b4⟩
/-- A store elsewhere. -/
theorem Mem.far (h : Mem w0 w gu gv go gy u v o y) {p : Addr} (x : Value) (hp : w0.heap.size ≤ p.block) (h1 : gu ≠ p.block) (h2 : gv ≠ p.block) (h3 : go ≠ p.block) (h4 : gy ≠ p.block) : Mem w0 (w.setCell p x) gu gv go gy u v o y :=
  ⟨h.ru.far h1 _, h.rv.far h2 _, h.ro.far h3 _, h.ry.far h4 _, Bs h.bel _ hp⟩
end
/-- The two rows that each search makes anew. -/
structure Dis2 (B gu gv go gy gl gd : Nat) : Prop where
  dis : Dis B gu gv go gy
  b5 : B ≤ gl
  b6 : B ≤ gd
  lu : gu ≠ gl
  lv : gv ≠ gl
  lo : go ≠ gl
  ly : gy ≠ gl
  du : gu ≠ gd
  dv : gv ≠ gd
  dq : go ≠ gd
  dy : gy ≠ gd
  ld : gl ≠ gd
structure Mem6 (w0 w : World) (gu gv go gy gl gd : Nat) (u v o y l : List Int) (d : List Bool) : Prop where
  mem : Mem w0 w gu gv go gy u v o y
  rl : RI w gl l
  rd : RB w gd d
section
variable {w0 w w' : World} {gu gv go gy gl gd : Nat} {u v o y l : List Int} {d : List Bool}
theorem Mem6.drewN (h : Mem6 w0 w gu gv go gy gl gd u v o y l d) (n : Nat) : Mem6 w0 (w.drewN n) gu gv go gy gl gd u v o y l d := ⟨h.mem.drewN n, h.rl, h.rd⟩
theorem Mem6.setU (h : Mem6 w0 w gu gv go gy gl gd u v o y l d) (q : Dis2 w0.heap.size gu gv go gy gl gd) (k : Nat) (x : Int) : Mem6 w0 (w.setCell ⟨gu, k, none⟩ (.int .i64 x)) gu gv go gy gl gd (u.set k x) v o y l d :=
  ⟨h.mem.setU q.dis k x, h.rl.far q.lu.symm _, h.rd.far q.du.symm _⟩
theorem Mem6.setV (h : Mem6 w0 w gu gv go gy gl gd u v o y l d) (q : Dis2 w0.heap.size gu gv go gy gl gd) (k : Nat) (x : Int) : Mem6 w0 (w.setCell ⟨gv, k, none⟩ (.int .i64 x)) gu gv go gy gl gd u (v.set k x) o y l d :=
  ⟨h.mem.setV q.dis k x, h.rl.far q.lv.symm _, h.rd.far q.dv.symm _⟩
theorem Mem6.setY (h : Mem6 w0 w gu gv go gy gl gd u v o y l d) (q : Dis2 w0.heap.size gu gv go gy gl gd) (k : Nat) (x : Int) : Mem6 w0 (w.setCell ⟨gy, k, none⟩ (.int .i64 x)) gu gv go gy gl gd u v o (y.set k x) l d :=
  ⟨h.mem.setY q.dis k x, h.rl.far q.ly.symm _, h.rd.far q.dy.symm _⟩
theorem Mem6.setL (h : Mem6 w0 w gu gv go gy gl gd u v o y l d) (q : Dis2 w0.heap.size gu gv go gy gl gd) (k : Nat) (x : Int) : Mem6 w0 (w.setCell ⟨gl, k, none⟩ (.int .i64 x)) gu gv go gy gl gd u v o y (l.set k x) d :=
  ⟨h.mem.far _ q.b5 q.lu q.lv q.lo q.ly, h.rl.set k x, h.rd.far q.ld.symm _⟩
theorem Mem6.setD (h : Mem6 w0 w gu gv go gy gl gd u v o y l d) (q : Dis2 w0.heap.size gu gv go gy gl gd) (k : Nat) (x : Bool) : Mem6 w0 (w.setCell ⟨gd, k, none⟩ (.bool x)) gu gv go gy gl gd u v o y l (d.set k x) :=
  ⟨h.mem.far _ q.b6 q.du q.dv q.dq q.dy, h.rl.far q.ld _, h.rd.set k x⟩
end
theorem ri_rb {w : World} {g g' : Nat} {l : List Int} {d : List Bool} (h : RI w g l) (h' : RB w g' d) : g ≠ g' := by
  rintro rfl
  obtain ⟨c, h1, -, -⟩ := h
  obtain ⟨c', h2, -, -⟩ := h'
  rw [h1] at h2
  injection h2 with h2
  injection h2 with _ h3
  exact absurd h3 (by decide)
theorem blk2 (w : World) (o : Obj) (t : TypeId) (cs : Array Value) : Blk ((w.alloc o).alloc (.cells cs t)).drew (w.heap.size + 1) t cs := by
  have h := Blk.new (w.alloc o) t cs
  rw [World.size_alloc] at h
  exact h
theorem drew_size (W : World) : W.drew.heap.size = W.heap.size := rfl
theorem rb1 (w : World) (o : Obj) (n : Nat) : RB ((w.alloc (.cells (Array.replicate n (Value.bool false)) 4)).alloc o).drew w.heap.size (List.replicate n false) := (RB.madeA w n).alloc o
theorem rb2 (w : World) (o : Obj) (n : Nat) : RB ((w.alloc o).alloc (.cells (Array.replicate n (Value.bool false)) 4)).drew (w.heap.size + 1) (List.replicate n false) := by
  have h := RB.madeA (w.alloc o) n
  rw [World.size_alloc] at h
  exact h
end Asg
open Asg
set_option maxRecDepth 100000 in
set_option maxHeartbeats 8000000 in
theorem solve_any (A : Option Addr) (c n m : Nat) (costs : List (List Int)) (hn : costs.length = n) (h1n : 1 ≤ n) (hn5 : n ≤ 5) (hm8 : m ≤ 8) (hnm : n ≤ m) (hwd : wd costs = m)
    (hrow : ∀ i, i < n → (costs.getD i []).length = m ∧ ∀ x ∈ costs.getD i [], -Mc ≤ x ∧ x ≤ Mc) (w : World) (F : Nat → Prop) (hF : ∀ b, F b → b < w.heap.size) (h : SlII F w (.slice A n c) costs) :
    Calls Try.prog 11 #[.slice A n c] w fun e w' => ∃ (s0 s2 s3 : Value) (tot : Int) (cols rows pots : List Int), e = .returned (.agg #[s0, .int .i64 tot, s2, s3]) ∧
      SlI (fun b => w.heap.size ≤ b ∧ b < w'.heap.size) w' s0 cols ∧ SlI (fun b => w.heap.size ≤ b ∧ b < w'.heap.size) w' s2 rows ∧ SlI (fun b => w.heap.size ≤ b ∧ b < w'.heap.size) w' s3 pots ∧ cols.length ≤ 5 ∧ rows.length ≤ 5 ∧ pots.length ≤ 8 ∧ Below w.heap.size w w' := by
  have hco := fun (W : World) (hW : Below w.heap.size w W) => (columns_any A c n costs hn W F (Sl.keep h (Agree.below hW hF) fun cs l ⟨u, e, hu⟩ => ⟨u, e, SlI.keep hu (Agree.below hW hF)⟩))
  rw [hwd] at hco
  have HCO := Lib.hid hco
  obtain ⟨A', c', e, -, -, hat⟩ := SlII.open h
  injection e with e1 e2 e3
  subst e1 e3
  clear e2
  have hcell : ∀ i k, i < n → k < m → ∃ ad ai ci, A = some ad ∧ w.cell? (ad.add i) = some (.slice (some ai) m ci) ∧ (ad.add i).block < w.heap.size ∧ w.cell? (ai.add k) = some (.int .i64 (g0 (costs.getD i []) k)) ∧ (ai.add k).block < w.heap.size ∧ -Mc ≤ g0 (costs.getD i []) k ∧ g0 (costs.getD i []) k ≤ Mc := fun i k hi hk => by
    obtain ⟨ad, u, rfl, hf, hci, hui⟩ := hat i (by omega)
    obtain ⟨A1, c1, rfl, -, -, hat1⟩ := SlI.open hui
    have hr := hrow i hi
    have hl := hr.1
    rw [getD_in (by omega)] at hr hl ⊢
    obtain ⟨ai, rfl, hf1, hc1⟩ := hat1 k (by omega)
    have hg : g0 costs[i] k = costs[i][k] := by
      unfold g0; rw [List.getD_eq_getElem?_getD, List.getElem?_eq_getElem (by omega)]; rfl
    refine ⟨ad, ai, c1, rfl, ?_, by rw [block_of_add]; exact hF _ hf, by rw [hg]; exact hc1, by rw [block_of_add]; exact hF _ hf1, ?_⟩
    · rw [hl] at hci; exact hci
    · rw [hg]; exact hr.2 _ (List.getElem_mem _)
  have HC := Lib.hid hcell
  clear hat h hcell hrow hco hF
  obtain ⟨N1, hN1⟩ : ∃ N1, n + 1 = N1 := ⟨_, rfl⟩
  obtain ⟨M1, hM1⟩ : ∃ M1, m + 1 = M1 := ⟨_, rfl⟩
  have e1 : (n : Int) + 1 = N1 := by omega
  have e2 : (m : Int) + 1 = M1 := by omega
  have w1' : IntKind.i64.wrap ((n : Int) + 1) = N1 := by rw [IntWalk.i64_in _ (by omega)]; exact e1
  have w2' : IntKind.i64.wrap ((m : Int) + 1) = M1 := by rw [IntWalk.i64_in _ (by omega)]; exact e2
  have hmn := hmkIn N1 (by omega)
  have hm0 := hmkIn n (by omega)
  have hmm := hmkIn M1 (by omega)
  have hmb := hmkBo M1 (by omega)
  obtain ⟨w1, hw1⟩ : ∃ w1 : World, w.alloc (.cells #[.slice none 0 0, .int .i64 0, .slice none 0 0, .slice none 0 0] 28) = w1 := ⟨_, rfl⟩
  have hB1 : Below w.heap.size w w1 := by rw [← hw1]; exact Ba (B0 w) _
  have hs1 : w.heap.size < w1.heap.size := by rw [← hw1, World.size_alloc]; omega
  have hob : Blk w1 w.heap.size 28 #[.slice none 0 0, .int .i64 0, .slice none 0 0, .slice none 0 0] := by rw [← hw1]; exact Blk.new _ _ _
  have HB1 := Lib.hid hB1
  have HOB := Lib.hid hob
  clear hB1 hob
  go_enter Try.func11, Try.ntmps11
  go_upto_region 2 with (go_at_call 23; (with_reducible refine ((HCO.out _ (by first | exact Ba (B0 w) _ | exact HB1.out)).mono ?_)); rintro e w' ⟨rfl, hw'⟩; rw [hw']; clear hw')
  try rw [hw1]
  clear hw1
  go_cut [5, 6] from 26 to 31 (fun s5 s6 wx => ∃ gu gv : Nat, s5 = .slice (some ⟨gu, 0, none⟩) N1 N1 ∧ s6 = .slice (some ⟨gv, 0, none⟩) M1 M1 ∧ gu ≠ gv ∧ w1.heap.size ≤ gu ∧ w1.heap.size ≤ gv ∧ Aside (RI wx gu (List.replicate N1 0)) ∧ Aside (RI wx gv (List.replicate M1 0)) ∧ Aside (Below w1.heap.size w1 wx))
  case first =>
    go_region
    all_goals (go_wp2_with fail; go_meet)
    all_goals exact ⟨_, _, rfl, rfl, by omega, by omega, by omega, by (first | exact RI.made1 _ _ _ _ | exact RI.made2 _ _ _ _), by (first | exact RI.made1 _ _ _ _ | exact RI.made2 _ _ _ _), (Ba (Ba (B0 w1) _) _).drew⟩
  case rest =>
    obtain ⟨gu, gv, rfl, rfl, huv, hu1, hv1, hU, hV, hB⟩ := hcut
    obtain ⟨w2, rfl⟩ : ∃ w2 : World, w2 = wc := ⟨_, rfl⟩
    have hu2 := RI.lt hU
    have hv2 := RI.lt hV
    have hz2 := Below.size hB
    have HU := Lib.hid hU
    have HV := Lib.hid hV
    have HB := Lib.hid hB
    clear hU hV hB
    go_upto_region 3 with fail
    go_cut [7, 8] from 32 to 37 (fun s7 s8 wx => ∃ go gy : Nat, s7 = .slice (some ⟨go, 0, none⟩) M1 M1 ∧ s8 = .slice (some ⟨gy, 0, none⟩) M1 M1 ∧ go ≠ gy ∧ w2.heap.size ≤ go ∧ w2.heap.size ≤ gy ∧ Aside (RI wx go (List.replicate M1 0)) ∧ Aside (RI wx gy (List.replicate M1 0)) ∧ Aside (Below w2.heap.size w2 wx))
    case first =>
      go_region
      all_goals (go_wp2_with fail; go_meet)
      all_goals exact ⟨_, _, rfl, rfl, by omega, by omega, by omega, by (first | exact RI.made1 _ _ _ _ | exact RI.made2 _ _ _ _), by (first | exact RI.made1 _ _ _ _ | exact RI.made2 _ _ _ _), (Ba (Ba (B0 w2) _) _).drew⟩
    case rest =>
      obtain ⟨go, gy, rfl, rfl, hoy, ho1, hy1, hO, hY, hB⟩ := hcut
      have hM : Mem w1 wc gu gv go gy (List.replicate N1 0) (List.replicate M1 0) (List.replicate M1 0) (List.replicate M1 0) := ⟨RI.below HU.out hB, RI.below HV.out hB, hO, hY, Bt HB.out hB⟩
      have hD : Dis w1.heap.size gu gv go gy := ⟨hu1, hv1, by omega, by omega, huv, by omega, by omega, by omega, by omega, hoy⟩
      have hI : OI n m 1 (List.replicate N1 0) (List.replicate M1 0) (List.replicate M1 0) (List.replicate M1 0) := by rw [← hN1, ← hM1]; exact OI.begin n m
      have HM := Lib.hid hM
      have HD := Lib.hid hD
      have HI := Lib.hid hI
      clear hM hD hI hO hY hB HU HV HB hu1 hv1 hu2 hv2 hz2 ho1 hy1
      go_wp2_with fail
      go_loopg [9] n (fun gg s9 wr => ∃ (i : Nat) (u v o y : List Int), 1 ≤ i ∧ i ≤ n + 1 ∧ n + 1 - i ≤ gg ∧ s9 = .int .i64 i ∧ Aside (OI n m i u v o y) ∧ Aside (Mem w1 wr gu gv go gy u v o y))
      case atStart => exact ⟨1, _, _, _, _, by omega, by omega, by omega, rfl, HI.out, HM.out⟩
      case round =>
        clear HI HM
        obtain ⟨i, u, v, o, y, hi1, hi2, hg, rfl, HI, HM⟩ := hrel
        replace HI : Hid (OI n m i u v o y) := Lib.hid HI
        replace HM : Hid (Mem w1 wr gu gv go gy u v o y) := Lib.hid HM
        by_cases hlt : i ≤ n
        · skip
          --[
          have hiI : (i : Int) ≤ n := by omega
          have lo := HI.out.lo
          have c0 := HM.out.ro.cell (k := 0) (by omega)
          have f0 := HM.out.ro.fro 0
          have hm0 : (0 : Int) < M1 := by omega
          have HM2 := Lib.hid (HM.out.setO HD.out 0 i)
          have HI2 := Lib.hid (HI.out.start hi1)
          rw [hM1] at HI2
          obtain ⟨wo, rfl⟩ : ∃ wo : World, wo = wr := ⟨_, rfl⟩
          obtain ⟨w3, hw3⟩ : ∃ w3 : World, wo.setCell ⟨go, 0, none⟩ (.int .i64 i) = w3 := ⟨_, rfl⟩
          rw [hw3] at HM2
          have HR := Lib.hid (fun (W : World) (g : Nat) (hB : Blk W g 3 #[.int .i64 far]) => repeat_any M1 (by omega) (by omega) far g W hB)
          have wm1 : IntKind.i64.wrap (M1 : Int) = M1 := IntWalk.i64_in _ (by omega)
          go_upto_region 9 with fail
          try rw [hw3]
          clear hw3 c0 f0 lo hmn hmm
          go_cut [11, 12] from 46 to 52 (fun s11 s12 wx => ∃ gl gd : Nat, s11 = .slice (some ⟨gl, 0, none⟩) M1 M1 ∧ s12 = .slice (some ⟨gd, 0, none⟩) M1 M1 ∧ gl ≠ gd ∧ w3.heap.size ≤ gl ∧ w3.heap.size ≤ gd ∧ Aside (RI wx gl (List.replicate M1 far)) ∧ Aside (RB wx gd (List.replicate M1 false)) ∧ Aside (Below w3.heap.size w3 wx))
          case first =>
            --[
            go_region_with (go_at_call 24; (with_reducible refine ((HR.out _ _ (by first | exact Blk.new _ _ _ | exact (Blk.new _ _ _).alloc _ | exact (Blk.new _ _ _).drew | exact ((Blk.new _ _ _).alloc _).drew | exact blk2 _ _ _ _)).mono ?_)); rintro e w4 ⟨rfl, hr4, hb4⟩; simp only [drew_size, World.size_alloc] at hr4; have HR4 := Lib.hid hr4; have HB4 := Lib.hid hb4; clear hr4 hb4)
            all_goals (go_wp2_with fail; go_meet)
            all_goals (first
              | (have hb := Bt ((Ba (Ba (B0 w3) _) _).drew) HB4.out; have hr := (rb2 w3 _ M1).below HB4.out; exact ⟨_, _, rfl, rfl, ri_rb HR4.out hr, by omega, by omega, HR4.out, hr, hb⟩)
              | (have hb := Bt ((Ba (Ba (B0 w3) _) _).drew) HB4.out; have hr := (rb1 w3 _ M1).below HB4.out; exact ⟨_, _, rfl, rfl, ri_rb HR4.out hr, by omega, by omega, HR4.out, hr, hb⟩)
              | skip)
            have hb := Bt ((Ba (B0 w3) _).drew) HB4.out
            exact ⟨_, _, rfl, rfl, ri_rb (HR4.out.alloc _) (RB.madeA w4 M1), by omega, hb.size, HR4.out.alloc _, RB.madeA w4 M1, Ba hb _⟩
            --]
          case rest =>
            obtain ⟨gl, gd, rfl, rfl, hld, hl3, hd3, hL, hDn, hB⟩ := hcut
            have t1 := HM2.out.ru.lt
            have t2 := HM2.out.rv.lt
            have t3 := HM2.out.ro.lt
            have t4 := HM2.out.ry.lt
            have t5 := HM2.out.bel.size
            have hM6 : Mem6 w1 wc gu gv go gy gl gd u v (o.set 0 i) y (List.replicate M1 far) (List.replicate M1 false) := ⟨HM2.out.below hB, hL, hDn⟩
            have hD2 : Dis2 w1.heap.size gu gv go gy gl gd := ⟨HD.out, by omega, by omega, by omega, by omega, by omega, by omega, by omega, by omega, by omega, by omega, hld⟩
            have HM6 := Lib.hid hM6
            have HD2 := Lib.hid hD2
            obtain ⟨oo, hoo⟩ : ∃ oo, o.set 0 (i : Int) = oo := ⟨_, rfl⟩
            rw [hoo] at HM6 HI2
            clear hM6 hD2 hL hDn hB t1 t2 t3 t4 t5 hl3 hd3 HM2 HM HI HR hmb hoo
            go_wp2_with fail
            go_loopg [10] M1 (fun gg s10 wr => ∃ (at_ : Nat) (D : List Nat) (u v y l : List Int) (d : List Bool), M1 - D.length ≤ gg ∧ s10 = .int .i64 at_ ∧ Aside (II n m i at_ D u v oo y l d) ∧ Aside (Mem6 w1 wr gu gv go gy gl gd u v oo y l d))
            case atStart => exact ⟨0, [], _, _, _, _, _, by simp, rfl, HI2.out, HM6.out⟩
            case round =>
              clear HI2 HM6
              obtain ⟨at_, D, u, v, y, l, d, hg, rfl, HI, HM⟩ := hrel
              replace HI : Hid (II n m i at_ D u v oo y l d) := Lib.hid HI
              replace HM : Hid (Mem6 w1 wr gu gv go gy gl gd u v oo y l d) := Lib.hid HM
              obtain ⟨wo, rfl⟩ : ∃ wo : World, wo = wr := ⟨_, rfl⟩
              have lo := HI.out.lo
              have atm := HI.out.atm
              have ha1 : (at_ : Int) < M1 := by omega
              have c0 := HM.out.mem.ro.cell (k := at_) (by omega)
              by_cases hz : g0 oo at_ = 0
              · rw [hz] at c0
                have HP := Lib.hid HI.out.path
                have HA := Lib.hid HI.out.augment
                have HMm := Lib.hid HM.out.mem
                clear hz lo
                go_wp2_with fail
                go_loopg [10] (m + 1) (fun gg s10 wr => ∃ (f a : Nat) (o' : List Int), f ≤ gg ∧ s10 = .int .i64 a ∧ Aside (Pth m y f a) ∧ Aside (AI n m i a u v o' y) ∧ Aside (Mem w1 wr gu gv go gy u v o' y))
                case atStart => exact ⟨m + 1, at_, oo, by omega, rfl, HP.out, HA.out, HMm.out⟩
                case round =>
                  clear HI HP HA HMm HM
                  obtain ⟨f, a, o', hf, rfl, HP, HA, HM⟩ := hrel
                  replace HP : Hid (Pth m y f a) := Lib.hid HP
                  replace HA : Hid (AI n m i a u v o' y) := Lib.hid HA
                  replace HM : Hid (Mem w1 wr gu gv go gy u v o' y) := Lib.hid HM
                  obtain ⟨wo, rfl⟩ : ∃ wo : World, wo = wr := ⟨_, rfl⟩
                  by_cases ha : a = 0
                  · subst ha
                    go_wp2_with fail
                    go_roundg (n + 1 - (i + 1))
                    case measure => omega
                    case rel => exact ⟨i + 1, u, v, o', y, by omega, by omega, by omega, by go_num, HA.out.end_, HM.out⟩
                  · have haI : ((a : Int) != 0) = true := by simp; omega
                    have haI2 : ¬ ((a : Int) = 0) := by omega
                    obtain ⟨f', rfl⟩ : ∃ f', f = f' + 1 := by
                      cases f with
                      | zero => exact absurd HP.out ha
                      | succ f => exact ⟨f, rfl⟩
                    obtain ⟨j, hj, hyj, hpj⟩ : ∃ j : Nat, j ≤ m ∧ g0 y a = j ∧ Pth m y f' j := by
                      rcases HP.out with h | h
                      · exact absurd h ha
                      · exact h
                    have atm2 := HA.out.atm
                    have ha1' : (a : Int) < M1 := by omega
                    have hj1 : (j : Int) < M1 := by omega
                    have c1 := HM.out.ry.cell (k := a) (by rw [HA.out.ly]; omega)
                    rw [hyj] at c1
                    have c2 := HM.out.ro.cell (k := j) (by rw [HA.out.lo]; omega)
                    have c3 := HM.out.ro.cell (k := a) (by rw [HA.out.lo]; omega)
                    have f3 := HM.out.ro.fro a
                    have M2 := HM.out.setO HD.out a (g0 o' j)
                    have c4 := M2.ry.cell (k := a) (by rw [HA.out.ly]; omega)
                    rw [hyj] at c4
                    have A2 := HA.out.step hj
                    obtain ⟨ox, hox⟩ : ∃ x, g0 o' j = x := ⟨_, rfl⟩
                    rw [hox] at c2 M2 c4 A2
                    have HM3 := Lib.hid M2
                    have HA3 := Lib.hid A2
                    have HP3 := Lib.hid hpj
                    have hoy' := HD.out.oy
                    clear M2 A2 hpj hyj hox HM HA HP
                    go_wp2_with fail
                    go_roundg f'
                    case measure => omega
                    case rel => exact ⟨f', j, _, by omega, rfl, HP3.out, HA3.out, HM3.out⟩
              · obtain ⟨-, r, hr, hr1, hr2⟩ := HI.out.owned hz at_ (by simp)
                have hcn := HI.out.cnt hz
                have HZ := Lib.hid hz
                rw [hr] at c0
                have HRr := Lib.hid hr
                clear hr hz
                obtain ⟨r', rfl⟩ : ∃ r', r = r' + 1 := ⟨r - 1, by omega⟩
                obtain ⟨rr, hrr⟩ : ∃ rr, r' + 1 = rr := ⟨_, rfl⟩
                rw [hrr] at c0 HRr hr1 hr2
                have hrI : ((rr : Int) != 0) = true := by simp; omega
                have hrI2 : ¬ ((rr : Int) = 0) := by omega
                have ld := HI.out.ld
                have cd := HM.out.rd.cell (k := at_) (by omega)
                have fd := HM.out.rd.fro at_
                have HM2 := Lib.hid (HM.out.setD HD2.out at_ true)
                obtain ⟨w3, hw3⟩ : ∃ w3 : World, wo.setCell ⟨gd, at_, none⟩ (.bool true) = w3 := ⟨_, rfl⟩
                rw [hw3] at HM2
                go_upto_region 12 with fail
                try rw [hw3]
                clear hw3 cd fd c0
                have c1 := HM2.out.mem.ro.cell (k := at_) (by omega)
                rw [HRr.out] at c1
                go_wp2_with fail
                obtain ⟨X, hX⟩ : ∃ X, Mc + 2 * bnd (tri i + D.length) = X := ⟨_, rfl⟩
                have hB := bnd_small (tri i + D.length) (tri_le i _ (by omega) (by omega))
                have hB0 := bnd_nonneg (tri i + D.length)
                have hX1 : 0 ≤ X ∧ X ≤ 20000000000000000 := by unfold Mc at hX; omega
                have HX := Lib.hid hX
                have HB2 := Lib.hid (And.intro hB0 hB)
                have HSI := Lib.hid (HI.out.scan X)
                clear hX hB hB0 c1 lo ld HM
                obtain ⟨dd, hdd⟩ : ∃ dd, d.set at_ true = dd := ⟨_, rfl⟩
                have hmk := HI.out.mark
                have hlD : dd.length = m + 1 := by rw [← hdd, List.length_set]; exact HI.out.ld
                rw [hdd] at HM2 hmk
                have HMK := Lib.hid hmk
                have HDD := Lib.hid hdd
                have HLD := Lib.hid hlD
                clear hmk hdd hlD
                --[
                go_loopg [14, 15, 16] m (fun gg s14 s15 s16 wr => ∃ (k next : Nat) (delta : Int) (y l : List Int), 1 ≤ k ∧ k ≤ m + 1 ∧ m + 1 - k ≤ gg ∧ s16 = .int .i64 k ∧ s14 = .int .i64 delta ∧ s15 = .int .i64 next ∧ Aside (SI m (at_ :: D) X k y l delta next) ∧ Aside (Mem6 w1 wr gu gv go gy gl gd u v oo y l dd))
                case atStart => exact ⟨1, 0, far, y, l, by omega, by omega, by omega, rfl, rfl, rfl, HSI.out, HM2.out⟩
                case round =>
                  clear HSI HM2
                  obtain ⟨k, next, delta, y', l', hk1, hk2, hgg, rfl, rfl, rfl, HS, HM⟩ := hrel
                  replace HS : Hid (SI m (at_ :: D) X k y' l' delta next) := Lib.hid HS
                  replace HM : Hid (Mem6 w1 wr gu gv go gy gl gd u v oo y' l' dd) := Lib.hid HM
                  obtain ⟨wo, rfl⟩ : ∃ wo : World, wo = wr := ⟨_, rfl⟩
                  by_cases hkm : k ≤ m
                  · have hkI : (k : Int) ≤ m := by omega
                    have hkM : (k : Int) < M1 := by omega
                    have cd := HM.out.rd.cell (k := k) (by rw [HLD.out]; omega)
                    cases hdk : dd.getD k false with
                    | true =>
                      --[
                      rw [hdk] at cd
                      have hin := (HMK.out k hkm).1 hdk
                      have HIN := Lib.hid hin
                      clear hin hdk
                      go_wp2_with fail
                      go_roundg (m - k)
                      case measure => omega
                      case rel => exact ⟨k + 1, next, delta, y', l', by omega, by omega, by omega, by go_num, rfl, rfl, HS.out.done HIN.out, HM.out⟩
                      --]
                    | false =>
                      --[
                      rw [hdk] at cd
                      have hin : k ∉ at_ :: D := fun h => by have := (HMK.out k hkm).2 h; rw [hdk] at this; cases this
                      have HIN := Lib.hid hin
                      clear hin hdk
                      have HH := Lib.hid (HS.out.hi k hk1 (Nat.le_refl _) hkm HIN.out)
                      obtain ⟨k1, hk'⟩ : ∃ k1, k = k1 + 1 := ⟨k - 1, by omega⟩
                      obtain ⟨ad, ai, ci, hA, q1, q2, q3, q4, q5, q6⟩ := HC.out r' k1 (by omega) (by omega)
                      subst hA
                      obtain ⟨cst, hcst⟩ : ∃ x, g0 (costs.getD r' []) k1 = x := ⟨_, rfl⟩
                      rw [hcst] at q3 q5 q6
                      have hBW := Bt HB1.out HM.out.mem.bel
                      have a1 := (hBW.cell (p := ad.add r') q2).trans q1
                      have a2 := (hBW.cell (p := ai.add k1) q4).trans q3
                      have a3 := HM.out.mem.ru.cell (k := rr) (by rw [HI.out.lu]; omega)
                      have a4 := HM.out.mem.rv.cell (k := k) (by rw [HI.out.lv]; omega)
                      have a5 := HM.out.rl.cell (k := k) (by rw [HS.out.ll]; omega)
                      have b3 := HI.out.bu rr
                      have b4 := HI.out.bv k
                      obtain ⟨ur, hur⟩ : ∃ x, g0 u rr = x := ⟨_, rfl⟩
                      obtain ⟨vk, hvk⟩ : ∃ x, g0 v k = x := ⟨_, rfl⟩
                      obtain ⟨lk, hlk⟩ : ∃ x, g0 l' k = x := ⟨_, rfl⟩
                      rw [hur] at a3 b3
                      rw [hvk] at a4 b4
                      rw [hlk] at a5
                      have hb0 := HB2.out
                      have hx := HX.out
                      obtain ⟨x1, hx1⟩ : ∃ x, cst - ur = x := ⟨_, rfl⟩
                      obtain ⟨x2, hx2⟩ : ∃ x, x1 - vk = x := ⟨_, rfl⟩
                      have hxX : -X ≤ x2 ∧ x2 ≤ X := by unfold Mc at *; omega
                      have g1 : IntKind.i64.wrap ((rr : Int) - 1) = (r' : Int) := by rw [IntWalk.i64_in _ (by omega)]; omega
                      have g2 : IntKind.i64.wrap ((k : Int) - 1) = (k1 : Int) := by rw [IntWalk.i64_in _ (by omega)]; omega
                      have g3 : IntKind.i64.wrap (cst - ur) = x1 := by rw [IntWalk.i64_in _ (by unfold Mc at *; omega)]; exact hx1
                      have g4 : IntKind.i64.wrap (x1 - vk) = x2 := by rw [IntWalk.i64_in _ (by unfold Mc at *; omega)]; exact hx2
                      have n1 : (r' : Int) < n := by omega
                      have n2 : (k1 : Int) < m := by omega
                      have n3 : (rr : Int) < N1 := by omega
                      have HLK := Lib.hid hlk
                      have HXX := Lib.hid hxX
                      clear hur hvk hlk b3 b4 hb0 hx hx1 hx2 hxX q1 q2 q3 q4 q5 q6 hcst hBW hk'
                      go_upto_region 17 with fail
                      go_quiet (fail)
                      generalize hw13 : World.drewN wo _ = w13
                      have hM13 : Mem6 w1 w13 gu gv go gy gl gd u v oo y' l' dd := by rw [← hw13]; exact HM.out.drewN _
                      have HM13 := Lib.hid hM13
                      clear hw13 hM13 a1 a2 a3 a4 a5 g1 g2 g3 g4 n1 n2 n3 HM cd
                      have cl := HM13.out.rl.cell (k := k) (by rw [HS.out.ll]; omega)
                      rw [HLK.out] at cl
                      by_cases hlt2 : x2 < lk
                      · have fl := HM13.out.rl.fro k
                        have M14 := HM13.out.setL HD2.out k x2
                        have cy0 := HM13.out.mem.ry.cell (k := k) (by rw [HS.out.ly]; omega)
                        have fy0 := HM13.out.mem.ry.fro k
                        have cy := M14.mem.ry.cell (k := k) (by rw [HS.out.ly]; omega)
                        have fy := M14.mem.ry.fro k
                        have hly := HD2.out.ly
                        have M15 := M14.setY HD2.out k at_
                        have HM15 := Lib.hid M15
                        clear M14 M15
                        go_upto_region 20 with fail
                        clear cy0 fy0 cy fy fl cl hly
                        obtain ⟨w15, hw15⟩ : ∃ w15 : World, (w13.setCell ⟨gl, k, none⟩ (.int .i64 x2)).setCell ⟨gy, k, none⟩ (.int .i64 at_) = w15 := ⟨_, rfl⟩
                        rw [hw15] at HM15
                        try rw [hw15]
                        clear hw15 HM13
                        have cl := HM15.out.rl.cell (k := k) (by rw [List.length_set, HS.out.ll]; omega)
                        rw [g0_same (by rw [HS.out.ll]; omega)] at cl
                        have HST := Lib.hid (fun (delta' : Int) (next' : Nat) hd => HS.out.step (delta' := delta') (next' := next') (y' := y'.set k at_) (l' := l'.set k x2) hk1 hkm HIN.out (by rw [List.length_set]; exact HS.out.ly) (by rw [List.length_set]; exact HS.out.ll) (HS.out.ch.set (by rw [HS.out.ly]; omega) HIN.out)
                          (fun j hj => g0_other (by rw [HS.out.ly]; omega) hj) (fun j hj => g0_other (by rw [HS.out.ll]; omega) hj) ⟨at_, by simp, g0_same (by rw [HS.out.ly]; omega)⟩ (by rw [g0_same (by rw [HS.out.ll]; omega)]; exact HXX.out) hd)
                        by_cases hxd : x2 < delta
                        · go_wp2_with fail
                          go_roundg (m - k)
                          case measure => omega
                          case rel => exact ⟨k + 1, k, x2, _, _, by omega, by omega, by omega, by go_num, rfl, rfl, HST.out _ _ (.inr ⟨by rw [g0_same (by rw [HS.out.ll]; omega)]; exact hxd, by rw [g0_same (by rw [HS.out.ll]; omega)], rfl⟩), HM15.out⟩
                        · have hfar : delta < far := by have := HXX.out; unfold far; omega
                          have HFAR := Lib.hid hfar
                          clear hfar
                          go_wp2_with fail
                          go_roundg (m - k)
                          case measure => omega
                          case rel => exact ⟨k + 1, next, delta, _, _, by omega, by omega, by omega, by go_num, rfl, rfl, HST.out _ _ (.inl ⟨by rw [g0_same (by rw [HS.out.ll]; omega)]; omega, HFAR.out, rfl, rfl⟩), HM15.out⟩
                      · have hw : (∃ j ∈ at_ :: D, g0 y' k = (j : Int)) ∧ 0 ≤ g0 l' k ∧ g0 l' k ≤ X := by
                          have h1 := HH.out
                          have h2 := HXX.out
                          rw [HLK.out] at h1 ⊢
                          unfold far at h1
                          rcases h1 with h1 | ⟨h1, h3, -⟩
                          · omega
                          · exact ⟨h1, h3, by omega⟩
                        have HST := Lib.hid (fun (delta' : Int) (next' : Nat) hd => HS.out.step (delta' := delta') (next' := next') (y' := y') (l' := l') hk1 hkm HIN.out HS.out.ly HS.out.ll HS.out.ch (fun _ _ => rfl) (fun _ _ => rfl) hw.1 ⟨by omega, hw.2.2⟩ hd)
                        have HW := Lib.hid hw
                        clear hw
                        by_cases hxd : lk < delta
                        · go_wp2_with fail
                          go_roundg (m - k)
                          case measure => omega
                          case rel => exact ⟨k + 1, k, lk, _, _, by omega, by omega, by omega, by go_num, rfl, rfl, HST.out _ _ (.inr ⟨by rw [HLK.out]; exact hxd, HLK.out.symm, rfl⟩), HM13.out⟩
                        · have hfar : delta < far := by have h1 := HW.out.2.2; rw [HLK.out] at h1; unfold far; omega
                          have HFAR := Lib.hid hfar
                          clear hfar
                          go_wp2_with fail
                          go_roundg (m - k)
                          case measure => omega
                          case rel => exact ⟨k + 1, next, delta, _, _, by omega, by omega, by omega, by go_num, rfl, rfl, HST.out _ _ (.inl ⟨by rw [HLK.out]; omega, HFAR.out, rfl, rfl⟩), HM13.out⟩
                      --]
                  · obtain rfl : k = m + 1 := by omega
                    have hle := HI.out.left HZ.out (by omega)
                    obtain ⟨f1, f2, f3, f4, f5, f6⟩ := HS.out.found hle
                    have HF3 := Lib.hid f3
                    have HUI := Lib.hid (UI.begin (D := at_ :: D) (o := oo) (delta := delta) HI.out.lu HI.out.lv HS.out.ll)
                    clear f3 f4 hle
                    go_wp2_with fail
                    go_loopg [120] M1 (fun gg s120 wr => ∃ (k : Nat) (u1 v1 l1 : List Int), k ≤ M1 ∧ M1 - k ≤ gg ∧ s120 = .int .i64 k ∧ Aside (UI n m (at_ :: D) oo u v l' delta k u1 v1 l1) ∧ Aside (Mem6 w1 wr gu gv go gy gl gd u1 v1 oo y' l1 dd))
                    case atStart => exact ⟨0, u, v, l', by omega, by omega, rfl, HUI.out, HM.out⟩
                    case round =>
                      clear HUI HM
                      obtain ⟨k, u1, v1, l1, hk2, hgg, rfl, HU, HM⟩ := hrel
                      replace HU : Hid (UI n m (at_ :: D) oo u v l' delta k u1 v1 l1) := Lib.hid HU
                      replace HM : Hid (Mem6 w1 wr gu gv go gy gl gd u1 v1 oo y' l1 dd) := Lib.hid HM
                      obtain ⟨wo, rfl⟩ : ∃ wo : World, wo = wr := ⟨_, rfl⟩
                      by_cases hkM : k < M1
                      · have hkI : (k : Int) < M1 := by omega
                        have cd := HM.out.rd.cell (k := k) (by rw [HLD.out]; omega)
                        have hb0 := HB2.out
                        have hx := HX.out
                        cases hdk : dd.getD k false with
                        | true =>
                          rw [hdk] at cd
                          have hin := (HMK.out k (by omega)).1 hdk
                          obtain ⟨-, r2, hr2, hr3, hr4⟩ := HI.out.owned HZ.out k hin
                          obtain ⟨z1, z2, z3⟩ := HU.out.in_ hin (by omega) hr2 (by omega) (HI.out.inj1 HZ.out hin)
                          have c1 := HM.out.mem.ro.cell (k := k) (by rw [HI.out.lo]; omega)
                          rw [hr2] at c1
                          have c2 := HM.out.mem.ru.cell (k := r2) (by rw [HU.out.lu]; omega)
                          have f2' := HM.out.mem.ru.fro r2
                          have b3 := HI.out.bu r2
                          have b4 := HI.out.bv k
                          have M2 := HM.out.setU HD2.out r2 (g0 u1 r2 + delta)
                          have c3 := M2.mem.rv.cell (k := k) (by rw [HU.out.lv]; omega)
                          have c3' := HM.out.mem.rv.cell (k := k) (by rw [HU.out.lv]; omega)
                          have f3' := M2.mem.rv.fro k
                          have M3 := M2.setV HD2.out k (g0 v1 k - delta)
                          have huv := HD.out.uv
                          obtain ⟨ux, hux⟩ : ∃ x, g0 u1 r2 = x := ⟨_, rfl⟩
                          obtain ⟨vx, hvx⟩ : ∃ x, g0 v1 k = x := ⟨_, rfl⟩
                          rw [hux] at z1 z3 c2 M3 c3 f3'
                          rw [hvx] at z2 z3 c3 c3' M3
                          rw [← z1] at b3
                          rw [← z2] at b4
                          obtain ⟨us, hus⟩ : ∃ x, ux + delta = x := ⟨_, rfl⟩
                          obtain ⟨vs, hvs⟩ : ∃ x, vx - delta = x := ⟨_, rfl⟩
                          have g1 : IntKind.i64.wrap (ux + delta) = us := by rw [IntWalk.i64_in _ (by unfold Mc at *; omega)]; exact hus
                          have g2 : IntKind.i64.wrap (vx - delta) = vs := by rw [IntWalk.i64_in _ (by unfold Mc at *; omega)]; exact hvs
                          have g1' : wrap64 (ux + delta) = us := by rw [IntWalk.wrap64_in _ (by unfold Mc at *; omega)]; exact hus
                          have g2' : wrap64 (vx - delta) = vs := by rw [IntWalk.wrap64_in _ (by unfold Mc at *; omega)]; exact hvs
                          rw [hus] at z3 M3 c3 f3'
                          rw [hvs] at z3 M3
                          have n1 : (r2 : Int) < N1 := by omega
                          have HZ3 := Lib.hid z3
                          have HM3 := Lib.hid M3
                          clear z1 z2 z3 M2 M3 hux hvx hus hvs b3 b4 hr2 hin hdk hb0 hx HM
                          go_wp2_with fail
                          go_roundg (M1 - (k + 1))
                          case measure => omega
                          case rel => exact ⟨k + 1, _, _, _, by omega, by omega, by go_num, HZ3.out, HM3.out⟩
                        | false =>
                          rw [hdk] at cd
                          have hin : k ∉ at_ :: D := fun h => by have := (HMK.out k (by omega)).2 h; rw [hdk] at this; cases this
                          have hk1 : 1 ≤ k := by
                            rcases Nat.eq_zero_or_pos k with e | e
                            · subst e
                              exfalso; apply hin
                              rcases HI.out.st with ⟨-, e, -⟩ | ⟨e, -⟩ <;> simp [e]
                            · exact e
                          obtain ⟨-, b1, b2, -⟩ := HS.out.lo k hk1 (by omega) (by omega) hin
                          obtain ⟨z1, z3⟩ := HU.out.out hin (by omega)
                          have c2 := HM.out.rl.cell (k := k) (by rw [HU.out.ll]; omega)
                          have f2' := HM.out.rl.fro k
                          have M3 := HM.out.setL HD2.out k (g0 l1 k - delta)
                          obtain ⟨lx, hlx⟩ : ∃ x, g0 l1 k = x := ⟨_, rfl⟩
                          rw [hlx] at z1 z3 c2 M3
                          rw [← z1] at b1 b2
                          obtain ⟨ls, hls⟩ : ∃ x, lx - delta = x := ⟨_, rfl⟩
                          have g1 : IntKind.i64.wrap (lx - delta) = ls := by rw [IntWalk.i64_in _ (by omega)]; exact hls
                          have g1' : wrap64 (lx - delta) = ls := by rw [IntWalk.wrap64_in _ (by omega)]; exact hls
                          rw [hls] at z3 M3
                          have HZ3 := Lib.hid z3
                          have HM3 := Lib.hid M3
                          clear z1 z3 M3 hlx hls b1 b2 hin hdk hb0 hx HM
                          go_wp2_with fail
                          go_roundg (M1 - (k + 1))
                          case measure => omega
                          case rel => exact ⟨k + 1, _, _, _, by omega, by omega, by go_num, HZ3.out, HM3.out⟩
                      · obtain rfl : k = m + 1 := by omega
                        have hnx := HI.out.next (by omega) HZ.out (by omega) (by rw [HX.out]; exact HS.out) HU.out
                        rw [HDD.out] at hnx
                        have HNX := Lib.hid hnx
                        clear hnx
                        go_wp2_with fail
                        go_roundg (M1 - (D.length + 1))
                        case measure => omega
                        case rel => exact ⟨next, at_ :: D, u1, v1, y', l1, dd, by rw [List.length_cons]; omega, rfl, HNX.out, HM.out⟩
                --]
          --]
        · obtain rfl : i = N1 := by omega
          obtain ⟨wo, rfl⟩ : ∃ wo : World, wo = wr := ⟨_, rfl⟩
          have k1 : ¬ (i = 1) := by omega
          have k2 : ¬ (M1 = 1) := by omega
          have k3 : i - 1 = n := by omega
          have k4 : M1 - 1 = m := by omega
          have k5 : ¬ ((i : Int) < 1) := by omega
          have k6 : ¬ ((M1 : Int) < 1) := by omega
          clear hmn hmm hmb
          go_upto_region 34 with fail
          go_cut [19] from 169 to 175 (fun s19 wx => ∃ rb gc : Nat, s19 = .pointer (some ⟨rb, 0, none⟩) ∧ wo.heap.size ≤ rb ∧ wo.heap.size ≤ gc ∧ rb ≠ gc ∧ Aside (RI wx gc (List.replicate n 0)) ∧ Aside (Blk wx rb 28 #[.slice (some ⟨gc, 0, none⟩) n n, .int .i64 0, .slice (some ⟨gu, 1, none⟩) n n, .slice (some ⟨gv, 1, none⟩) m m]) ∧ Aside (Below wo.heap.size wo wx))
          case first =>
            go_region
            all_goals (go_wp2_with fail; go_meet)
            all_goals (try rw [k3])
            all_goals first
              | exact ⟨_, _, rfl, by omega, by omega, by omega, RI.made1 _ _ _ _, blk2 _ _ _ _, (Ba (Ba (B0 wo) _) _).drew⟩
              | exact ⟨_, _, rfl, by omega, by omega, by omega, RI.made2 _ _ _ _, ((Blk.new _ _ _).alloc _).drew, (Ba (Ba (B0 wo) _) _).drew⟩
          case rest =>
            obtain ⟨rb, gc, rfl, hrb, hgc, hne, hR, hK, hB⟩ := hcut
            have hMc := HM.out.below hB
            have t1 := HM.out.ru.lt
            have t2 := HM.out.rv.lt
            have t3 := HM.out.ro.lt
            have t4 := HM.out.ry.lt
            have t5 := HM.out.bel.size
            have HMc := Lib.hid hMc
            have HRc := Lib.hid hR
            have HKc := Lib.hid hK
            have d1 : gu ≠ rb ∧ gv ≠ rb ∧ go ≠ rb ∧ gy ≠ rb := by omega
            have d2 : gu ≠ gc ∧ gv ≠ gc ∧ go ≠ gc ∧ gy ≠ gc := by omega
            have d3 : w1.heap.size ≤ rb ∧ w1.heap.size ≤ gc := by omega
            have HD1 := Lib.hid d1
            have HD2 := Lib.hid d2
            have HD3 := Lib.hid d3
            clear hMc hR hK hB t1 t2 t3 t4 t5 hrb hgc d1 d2 d3 k1 k2 k5 k6 HM hm0
            go_wp2_with fail
            go_loopg [20] m (fun gg s20 wr => ∃ (k : Nat) (cols : List Int) (tot : Int), 1 ≤ k ∧ k ≤ M1 ∧ M1 - k ≤ gg ∧ s20 = .int .i64 k ∧ cols.length = n ∧ -(1000000000 * (k : Int)) ≤ tot ∧ tot ≤ 1000000000 * (k : Int) ∧ Aside (Mem w1 wr gu gv go gy u v o y) ∧ Aside (RI wr gc cols) ∧ Aside (Blk wr rb 28 #[.slice (some ⟨gc, 0, none⟩) n n, .int .i64 tot, .slice (some ⟨gu, 1, none⟩) n n, .slice (some ⟨gv, 1, none⟩) m m]))
            case atStart => exact ⟨1, _, 0, by omega, by omega, by omega, rfl, by simp, by omega, by omega, HMc.out, HRc.out, HKc.out⟩
            case round =>
              clear HMc HRc HKc
              obtain ⟨k, cols, tot, hk1, hk2, hgg, rfl, hcl, ht1, ht2, HM, HR, HK⟩ := hrel
              replace HM : Hid (Mem w1 wr gu gv go gy u v o y) := Lib.hid HM
              replace HR : Hid (RI wr gc cols) := Lib.hid HR
              replace HK : Hid (Blk wr rb 28 #[.slice (some ⟨gc, 0, none⟩) n n, .int .i64 tot, .slice (some ⟨gu, 1, none⟩) n n, .slice (some ⟨gv, 1, none⟩) m m]) := Lib.hid HK
              have HCL := Lib.hid hcl
              have HT := Lib.hid (And.intro ht1 ht2)
              clear hcl ht1 ht2
              obtain ⟨wo, rfl⟩ : ∃ wo : World, wo = wr := ⟨_, rfl⟩
              by_cases hkm : k ≤ m
              · have hkI : (k : Int) ≤ m := by omega
                have hkM : (k : Int) < M1 := by omega
                have c1 := HM.out.ro.cell (k := k) (by rw [HI.out.lo]; omega)
                have hor := HI.out.or k hk1 hkm
                obtain ⟨q, hq⟩ : ∃ q : Nat, g0 o k = q := ⟨(g0 o k).toNat, by omega⟩
                rw [hq] at c1 hor
                clear hq
                by_cases hq0 : q = 0
                · subst hq0
                  go_wp2_with fail
                  go_roundg (M1 - (k + 1))
                  case measure => omega
                  case rel => exact ⟨k + 1, cols, tot, by omega, by omega, by omega, by go_num, HCL.out, by have := HT.out; omega, by have := HT.out; omega, HM.out, HR.out, HK.out⟩
                · have hqI : (0 : Int) < q := by omega
                  obtain ⟨q1, hq1⟩ : ∃ q1, q = q1 + 1 := ⟨q - 1, by omega⟩
                  obtain ⟨k1, hk1'⟩ : ∃ k1, k = k1 + 1 := ⟨k - 1, by omega⟩
                  obtain ⟨ad, ai, ci, hA, p1, p2, p3, p4, p5, p6⟩ := HC.out q1 k1 (by omega) (by omega)
                  subst hA
                  obtain ⟨cst, hcst⟩ : ∃ x, g0 (costs.getD q1 []) k1 = x := ⟨_, rfl⟩
                  rw [hcst] at p3 p5 p6
                  have hBW := Bt HB1.out HM.out.bel
                  have e1' : (q : Int) - 1 = q1 := by omega
                  have e2' : (k : Int) - 1 = k1 := by omega
                  have g1 : IntKind.i64.wrap ((q : Int) - 1) = (q1 : Int) := by rw [IntWalk.i64_in _ (by omega)]; omega
                  have g2 : IntKind.i64.wrap ((k : Int) - 1) = (k1 : Int) := by rw [IntWalk.i64_in _ (by omega)]; omega
                  have g1' : IntKind.i64.wrap (q1 : Int) = (q1 : Int) := IntWalk.i64_in _ (by omega)
                  have g2' : IntKind.i64.wrap (k1 : Int) = (k1 : Int) := IntWalk.i64_in _ (by omega)
                  have n1 : (q1 : Int) < n := by omega
                  have n2 : (k1 : Int) < m := by omega
                  have z0 := HK.out.cell 0
                  simp only [List.getElem?_toArray, List.getElem?_cons_zero] at z0
                  have c2 := HR.out.cell (k := q1) (by rw [HCL.out]; omega)
                  have f2 := HR.out.fro q1
                  have hR2 := HR.out.set q1 (k1 : Int)
                  have hK2 := HK.out.far (p := ⟨gc, q1, none⟩) hne (.int .i64 (k1 : Int))
                  have hM2 := HM.out.far (p := ⟨gc, q1, none⟩) (.int .i64 (k1 : Int)) HD3.out.2 HD2.out.1 HD2.out.2.1 HD2.out.2.2.1 HD2.out.2.2.2
                  obtain ⟨w5, hw5⟩ : ∃ w5 : World, wo.setCell ⟨gc, q1, none⟩ (.int .i64 (k1 : Int)) = w5 := ⟨_, rfl⟩
                  rw [hw5] at hR2 hK2 hM2
                  have HR2 := Lib.hid hR2
                  have HK2 := Lib.hid hK2
                  have HM2 := Lib.hid hM2
                  have HQ1 := Lib.hid hq1
                  have HK1 := Lib.hid hk1'
                  clear hR2 hK2 hM2 hq1 hk1'
                  go_upto_region 41 with fail
                  try rw [hw5]
                  clear hw5 z0 c2 f2 c1 HR HK HM
                  have hBW2 := Bt HB1.out HM2.out.bel
                  have a1 := (hBW2.cell (p := ad.add q1) p2).trans p1
                  have a2 := (hBW2.cell (p := ai.add k1) p4).trans p3
                  have z1 := HK2.out.cell 1
                  have fz := HK2.out.frozen 1
                  simp only [List.getElem?_toArray, List.getElem?_cons_zero, List.getElem?_cons_succ] at z1
                  obtain ⟨tt, htt⟩ : ∃ x, tot + cst = x := ⟨_, rfl⟩
                  have ht := HT.out
                  have g3 : IntKind.i64.wrap (tot + cst) = tt := by rw [IntWalk.i64_in _ (by unfold Mc at *; omega)]; exact htt
                  have g3' : wrap64 (tot + cst) = tt := by rw [IntWalk.wrap64_in _ (by unfold Mc at *; omega)]; exact htt
                  have ht2 : -(1000000000 * ((k + 1 : Nat) : Int)) ≤ tt ∧ tt ≤ 1000000000 * ((k + 1 : Nat) : Int) := by unfold Mc at *; omega
                  have HT2 := Lib.hid ht2
                  have hK3 := HK2.out.set_ 1 (.int .i64 tt)
                  have hM3 := HM2.out.far (p := ⟨rb, 1, none⟩) (.int .i64 tt) HD3.out.1 HD1.out.1 HD1.out.2.1 HD1.out.2.2.1 HD1.out.2.2.2
                  have hR3 := HR2.out.far (p := ⟨rb, 1, none⟩) hne.symm (.int .i64 tt)
                  have HK3 := Lib.hid hK3
                  have HM3 := Lib.hid hM3
                  have HR3 := Lib.hid hR3
                  clear hK3 hM3 hR3 ht2 ht htt hBW hBW2 hcst p1 p2 p3 p4 p5 p6
                  go_region
                  all_goals (go_wp2_with fail)
                  go_roundg (M1 - (k + 1))
                  case measure => omega
                  case rel => exact ⟨k + 1, _, tt, by omega, by omega, by omega, by go_num, by rw [List.length_set]; exact HCL.out, HT2.out.1, HT2.out.2, HM3.out.drewN 1, HR3.out.drew, HK3.out.drew⟩
              · obtain rfl : k = M1 := by omega
                have hO := HOB.out.below HM.out.bel HOB.out.lt
                have z0 := HK.out.cell 0
                have z1 := HK.out.cell 1
                have z2 := HK.out.cell 2
                have z3 := HK.out.cell 3
                have y0 := hO.cell 0
                have y1 := hO.cell 1
                have y2 := hO.cell 2
                have y3 := hO.cell 3
                have f0 := hO.frozen 0
                have f1 := hO.frozen 1
                have f2 := hO.frozen 2
                have f3 := hO.frozen 3
                simp only [List.getElem?_toArray, List.getElem?_cons_zero, List.getElem?_cons_succ] at z0 z1 z2 z3 y0 y1 y2 y3
                obtain ⟨w9, hw9⟩ : ∃ w9 : World, ((((wo.setCell ⟨w.heap.size, 0, none⟩ (.slice (some ⟨gc, 0, none⟩) n n)).setCell ⟨w.heap.size, 1, none⟩ (.int .i64 tot)).setCell ⟨w.heap.size, 2, none⟩ (.slice (some ⟨gu, 1, none⟩) n n)).setCell ⟨w.heap.size, 3, none⟩ (.slice (some ⟨gv, 1, none⟩) m m)) = w9 := ⟨_, rfl⟩
                have K9 := (((hO.set_ 0 (.slice (some ⟨gc, 0, none⟩) n n)).set_ 1 (.int .i64 tot)).set_ 2 (.slice (some ⟨gu, 1, none⟩) n n)).set_ 3 (.slice (some ⟨gv, 1, none⟩) m m)
                rw [hw9] at K9
                have x0 : w9.cell? ⟨w.heap.size, 0, none⟩ = some (.slice (some ⟨gc, 0, none⟩) n n) := (K9.cell 0).trans rfl
                have x1 : w9.cell? ⟨w.heap.size, 1, none⟩ = some (.int .i64 tot) := (K9.cell 1).trans rfl
                have x2 : w9.cell? ⟨w.heap.size, 2, none⟩ = some (.slice (some ⟨gu, 1, none⟩) n n) := (K9.cell 2).trans rfl
                have x3 : w9.cell? ⟨w.heap.size, 3, none⟩ = some (.slice (some ⟨gv, 1, none⟩) m m) := (K9.cell 3).trans rfl
                have hB9 : Below w.heap.size w w9 := by
                  rw [← hw9]
                  exact Bs (Bs (Bs (Bs (Bt HB1.out HM.out.bel) _ (Nat.le_refl _)) _ (Nat.le_refl _)) _ (Nat.le_refl _)) _ (Nat.le_refl _)
                have hfar : ∀ (g : Nat) (l : List Int), w1.heap.size ≤ g → RI wo g l → RI w9 g l := fun g l hg h => by
                  have hne : g ≠ w.heap.size := by omega
                  rw [← hw9]
                  exact (((h.far (p := ⟨w.heap.size, 0, none⟩) hne _).far (p := ⟨w.heap.size, 1, none⟩) hne _).far (p := ⟨w.heap.size, 2, none⟩) hne _).far (p := ⟨w.heap.size, 3, none⟩) hne _
                have r0 := hfar gc cols HD3.out.2 HR.out
                have r1 := hfar gu u HD.out.b1 HM.out.ru
                have r2 := hfar gv v HD.out.b2 HM.out.rv
                have s0 := r0.sl (by rw [HCL.out]; omega) 0 (Nat.zero_le _) (F := fun b => w.heap.size ≤ b ∧ b < w9.heap.size) ⟨by have := HD3.out.2; omega, r0.lt⟩
                have s1 := r1.sl (by rw [HI.out.lu]; omega) 1 (by rw [HI.out.lu]; omega) (F := fun b => w.heap.size ≤ b ∧ b < w9.heap.size) ⟨by have := HD.out.b1; omega, r1.lt⟩
                have s2 := r2.sl (by rw [HI.out.lv]; omega) 1 (by rw [HI.out.lv]; omega) (F := fun b => w.heap.size ≤ b ∧ b < w9.heap.size) ⟨by have := HD.out.b2; omega, r2.lt⟩
                rw [HCL.out, Nat.sub_zero] at s0
                rw [HI.out.lu, Nat.add_sub_cancel] at s1
                rw [HI.out.lv, Nat.add_sub_cancel] at s2
                have hl0 : (cols.drop 0).length ≤ 5 := by rw [List.length_drop, HCL.out]; omega
                have hl1 : (u.drop 1).length ≤ 5 := by rw [List.length_drop, HI.out.lu]; omega
                have hl2 : (v.drop 1).length ≤ 8 := by rw [List.length_drop, HI.out.lv]; omega
                have HX := Lib.hid (And.intro s0 (And.intro s1 (And.intro s2 (And.intro hl0 (And.intro hl1 (And.intro hl2 hB9))))))
                have HX0 := Lib.hid (And.intro x0 (And.intro x1 (And.intro x2 x3)))
                have HW9 := Lib.hid hw9
                clear hO K9 x0 x1 x2 x3 hB9 hfar r0 r1 r2 s0 s1 s2 hl0 hl1 hl2 hw9
                go_wp2_with fail
                rw [HW9.out]
                obtain ⟨x0, x1, x2, x3⟩ := HX0.out
                obtain ⟨s0, s1, s2, hl0, hl1, hl2, hB9⟩ := HX.out
                refine bodyPost_ret (v := .agg #[.slice (some ⟨gc, 0, none⟩) n n, .int .i64 tot, .slice (some ⟨gu, 1, none⟩) n n, .slice (some ⟨gv, 1, none⟩) m m]) (by simp [results, Try.f11, go_sem, x0, x1, x2, x3]) rfl ?_
                exact ⟨_, _, _, _, _, _, _, rfl, s0, s1, s2, hl0, hl1, hl2, hB9⟩
end Go.Proofs.Ytnphdmiondccgaa
