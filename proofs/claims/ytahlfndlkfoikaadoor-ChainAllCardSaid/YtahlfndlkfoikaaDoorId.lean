/- Walks over chain: the closure of Least. -/
import Derived.Test.YtahlfndlkfoikaaDoorIc
import Derived.Test.YtahlfndlkfoikaaDoorQ2
import Derived.Test.YtahlfndlkfoikaaDoorEf
import Derived.Test.YtahlfndlkfoikaaDoorEs
import Derived.Test.YtahlfndlkfoikaaDoorRegW
import Derived.Test.YtahlfndlkfoikaaDoorKd
namespace Go.Proofs.YtahlfndlkfoikaaDoor
open Go Go.RowKit Go.Shelf
namespace Cha
/-- A chain that is one coupler longer. -/
theorem moreF_last {a : Cou.Ac} {x y : Lk} {at_ : Cou.Ct} (h : y ∈ moreF a x at_) : ∃ (i : Nat) (t : Cou.Ct), y = (x.1 ++ [(i : Int)], x.2 ++ [t]) ∧ Cou.stepF a i at_ = some t := by
  obtain ⟨i, _, hi⟩ := List.mem_filterMap.1 h
  obtain ⟨t, _, _, h3, _, h5⟩ := oneMoreF_eq hi
  exact ⟨i, t, h5, h3⟩
theorem putF_len (Q : List Ch) (y : Lk) : (putF Q y).length ≤ Q.length + 1 := by
  unfold putF; split <;> simp
theorem foldPut_len : ∀ (M : List Lk) (Q : List Ch), (M.foldl putF Q).length ≤ Q.length + M.length
  | [], Q => by simp
  | y :: M, Q => by
    have h1 := foldPut_len M (putF Q y)
    have h2 := putF_len Q y
    simp only [List.foldl_cons, List.length_cons]
    omega
end Cha
/-- What lies where Least stands: the action, the map, the queue. -/
structure LSt (ab sb qb mb base : Nat) (vd vc : Value) (dr : Nat) (v : Value) (Q : List Cha.Ch) (w : World) : Prop where
  act : Blk w ab 33 #[vd, vc, .int .u64 dr]
  seen : Blk w sb 104 #[.map (some mb)]
  que : Blk w qb 67 #[v]
  own : OwnCh base w v Q
  map : SeenC (Cha.ends Q) mb w
  big : base ≤ w.heap.size
/-- The blocks lie in order. -/
structure LOrd (ab sb qb mb base : Nat) : Prop where
  am : ab < mb
  ms : mb < sb
  sq : sb < qb
  qb_ : qb < base
theorem LSt.keep {ab sb qb mb base : Nat} {vd vc : Value} {dr : Nat} {v : Value} {Q : List Cha.Ch} {w w' : World} (h : LSt ab sb qb mb base vd vc dr v Q w) (hb : Below w.heap.size w w') : LSt ab sb qb mb base vd vc dr v Q w' :=
  ⟨h.act.below hb h.act.lt, h.seen.below hb h.seen.lt, h.que.below hb h.que.lt, OwnCh.below h.own hb, h.map.of_block (hb.block mb h.map.lt), Nat.le_trans h.big hb.size⟩
theorem map_obj {l : List Cou.Ct} {mb : Nat} {w : World} (h : SeenC l mb w) : ∃ o : Obj, w.heap[mb]? = some o ∧ o.isCells = false := by
  obtain ⟨es, ⟨a, c, hh, _⟩, _⟩ := h
  exact ⟨_, hh, rfl⟩
theorem isC_map {l : List Cou.Ct} {mb : Nat} {w : World} (h : SeenC l mb w) : ∀ b, IsC w b → some b ≠ some mb := by
  rintro b ⟨cs, hb | hb⟩
  · exact hb.not_turned fun r e => by injection e with e; subst e; exact map_obj h
  · exact hb.not_turned fun r e => by injection e with e; subst e; exact map_obj h
theorem own_map {l : List Cou.Ct} {mb : Nat} {w : World} (h : SeenC l mb w) {base : Nat} {e : TypeId} {k n : Nat} {v : Value} {xs : List Value} (ho : w.ownsRow base e k v n xs) : v.ownBlock = none ∨ v.ownBlock ≠ some mb := by
  cases hv : v.ownBlock with
  | none => exact .inl rfl
  | some r =>
    refine .inr fun q => ?_
    injection q with q
    subst q
    obtain ⟨o, h1, h2⟩ := own_cells ho r hv
    obtain ⟨o', h3, h4⟩ := map_obj h
    rw [h1] at h3
    injection h3 with h3
    subst h3
    rw [h2] at h4; cases h4
theorem isC_que {w : World} {qb : Nat} {cs : Array Value} (h : Blk w qb 67 cs) : ∀ b, IsC w b → some b ≠ some qb := by
  rintro b ⟨cs', hb | hb⟩ e
  · injection e with e
    subst e
    unfold Blk at h hb
    rw [h] at hb
    injection hb with hb
    injection hb with _ hb
    exact absurd hb (by decide)
  · injection e with e
    subst e
    unfold Blk at h hb
    rw [h] at hb
    injection hb with hb
    injection hb with _ hb
    exact absurd hb (by decide)
/-- What holds behind each operation of a drawn region. -/
def FM1 (lim _ab bx _bt n m : Nat) (vd vc : Value) (Ax : Option Addr) (cx dr : Nat) (at1 at2 : Int) (M : List Cha.Lk) (j : Nat) (s : Nat → Value) (w : World) : Prop :=
  match j with
  | 0 => s 10 = .agg #[vd, vc, .int .u64 dr]
  | 1 => s 11 = .pointer (some ⟨bx, 0, none⟩)
  | 2 => s 12 = .slice Ax n cx
  | 3 => s 13 = .agg #[.int .i64 (-1), .int .i64 0]
  | 4 => ∃ g, s 14 = .slice (some ⟨g, 0, none⟩) 1 1 ∧ Blk w g 36 #[.int .i64 (-1), .int .i64 0]
  | 5 => s 15 = .pointer (some ⟨bx, 0, none⟩)
  | 6 => s 16 = .slice Ax n cx
  | 7 => s 17 = .int .i64 n
  | 8 => ∃ A c, s 18 = .slice A n c ∧ SlCt (fun b => b < w.heap.size) w (.slice A n c) (List.replicate n ((-1, 0) : Cou.Ct))
  | 9 => ∃ A c, s 19 = .agg #[.slice Ax n cx, .slice A n c] ∧ SlCt (fun b => b < w.heap.size) w (.slice A n c) (List.replicate n ((-1, 0) : Cou.Ct))
  | 10 => s 20 = .agg #[.int .i64 at1, .int .i64 at2]
  | 11 => ∃ A c, s 21 = .slice A m c ∧ OwnLk lim w (.slice A m c) M
  | 12 => s 22 = .int .i64 m
  | 13 => s 23 = .int .i64 0
  | _ => True
def VM1 (j : Nat) : List Nat := match j with
  | 0 => [10] | 1 => [11] | 2 => [12] | 3 => [13] | 4 => [14] | 5 => [15] | 6 => [16] | 7 => [17] | 8 => [18] | 9 => [19] | 10 => [20] | 11 => [21] | 12 => [22] | 13 => [23] | _ => []
def EM1 (j : Nat) : Bool := j == 11 || j == 12 || j == 13
theorem FM1_V (lim _ab bx _bt n m : Nat) (vd vc : Value) (Ax : Option Addr) (cx dr : Nat) (at1 at2 : Int) (M : List Cha.Lk) (j : Nat) (s s' : Nat → Value) (w : World) (h : ∀ t, t ∈ VM1 j → s' t = s t) (hF : FM1 lim _ab bx _bt n m vd vc Ax cx dr at1 at2 M j s w) : FM1 lim _ab bx _bt n m vd vc Ax cx dr at1 at2 M j s' w := by
  match j with
  | 0 => unfold FM1 at hF ⊢; simp only at hF ⊢; rw [h 10 (by simp [VM1])]; exact hF
  | 1 => unfold FM1 at hF ⊢; simp only at hF ⊢; rw [h 11 (by simp [VM1])]; exact hF
  | 2 => unfold FM1 at hF ⊢; simp only at hF ⊢; rw [h 12 (by simp [VM1])]; exact hF
  | 3 => unfold FM1 at hF ⊢; simp only at hF ⊢; rw [h 13 (by simp [VM1])]; exact hF
  | 4 => unfold FM1 at hF ⊢; simp only at hF ⊢; rw [h 14 (by simp [VM1])]; exact hF
  | 5 => unfold FM1 at hF ⊢; simp only at hF ⊢; rw [h 15 (by simp [VM1])]; exact hF
  | 6 => unfold FM1 at hF ⊢; simp only at hF ⊢; rw [h 16 (by simp [VM1])]; exact hF
  | 7 => unfold FM1 at hF ⊢; simp only at hF ⊢; rw [h 17 (by simp [VM1])]; exact hF
  | 8 => unfold FM1 at hF ⊢; simp only at hF ⊢; rw [h 18 (by simp [VM1])]; exact hF
  | 9 => unfold FM1 at hF ⊢; simp only at hF ⊢; rw [h 19 (by simp [VM1])]; exact hF
  | 10 => unfold FM1 at hF ⊢; simp only at hF ⊢; rw [h 20 (by simp [VM1])]; exact hF
  | 11 => unfold FM1 at hF ⊢; simp only at hF ⊢; rw [h 21 (by simp [VM1])]; exact hF
  | 12 => unfold FM1 at hF ⊢; simp only at hF ⊢; rw [h 22 (by simp [VM1])]; exact hF
  | 13 => unfold FM1 at hF ⊢; simp only at hF ⊢; rw [h 23 (by simp [VM1])]; exact hF
  | _ + 14 => trivial
theorem FM1_below (lim _ab bx _bt n m : Nat) (vd vc : Value) (Ax : Option Addr) (cx dr : Nat) (at1 at2 : Int) (M : List Cha.Lk) (j : Nat) (s : Nat → Value) (w w' : World) (hb : Below w.heap.size w w') (hF : FM1 lim _ab bx _bt n m vd vc Ax cx dr at1 at2 M j s w) : FM1 lim _ab bx _bt n m vd vc Ax cx dr at1 at2 M j s w' := by
  match j with
  | 0 => exact hF
  | 1 => exact hF
  | 2 => exact hF
  | 3 => exact hF
  | 4 => obtain ⟨g, q1, q2⟩ := hF; exact ⟨g, q1, q2.below hb q2.lt⟩
  | 5 => exact hF
  | 6 => exact hF
  | 7 => exact hF
  | 8 => obtain ⟨A, c, q1, q2⟩ := hF; exact ⟨A, c, q1, Sl.mono (SlCt.keep q2 (Agree.below hb fun b h => h)) fun b h => Nat.lt_of_lt_of_le h hb.size⟩
  | 9 => obtain ⟨A, c, q1, q2⟩ := hF; exact ⟨A, c, q1, Sl.mono (SlCt.keep q2 (Agree.below hb fun b h => h)) fun b h => Nat.lt_of_lt_of_le h hb.size⟩
  | 10 => exact hF
  | 11 => obtain ⟨A, c, q1, q2⟩ := hF; exact ⟨A, c, q1, OwnLk.below q2 hb⟩
  | 12 => exact hF
  | 13 => exact hF
  | _ + 14 => trivial
set_option maxRecDepth 100000 in
set_option maxHeartbeats 8000000 in
theorem least1_any (a : Cou.Ac) (hok : Cou.Ok a) (vd vc : Value) (hdr : a.drawn < 2 ^ 64) (F : Nat → Prop) (xv : Value) (x : List Int) (x2 : Cou.Ct) (hxl : x.length ≤ 100000) (at_ : Cou.Ct) (hat : CtS at_) (ab sb qb mb base : Nat) (ho : LOrd ab sb qb mb base) (v : Value) (Q : List Cha.Ch) (hQl : Q.length ≤ 5000) (hQs : ∀ t ∈ Cha.ends Q, CtS t)
    (w : World) (hA : AcAt F w vd vc a) (hx : SlI (IsC w) w xv x) (hq : LSt ab sb qb mb base vd vc a.drawn v Q w) :
    Calls Tryd.prog 57 #[.agg #[xv, .int .i64 x2.1, .int .i64 x2.2], .agg #[.int .i64 at_.1, .int .i64 at_.2], .pointer (some ⟨ab, 0, none⟩), .pointer (some ⟨sb, 0, none⟩), .pointer (some ⟨qb, 0, none⟩)] w fun e w' => (∃ r, e = .returned r) ∧
      ∃ v', LSt ab sb qb mb base vd vc a.drawn v' (Cha.addF a Q x at_) w' ∧ Below mb w w' := by
  obtain ⟨Ax, cx, hxv, -, -, -⟩ := SlI.open hx
  obtain ⟨n, hn⟩ : ∃ n, x.length = n := ⟨_, rfl⟩
  rw [hn] at hxv
  subst hxv
  obtain ⟨M, hM⟩ : ∃ M, Cha.moreF a (x, List.replicate n ((-1, 0) : Cou.Ct)) at_ = M := ⟨_, rfl⟩
  have hZ : Cha.addF a Q x at_ = M.foldl Cha.putF Q := by unfold Cha.addF; rw [hn, hM]
  have hMl : M.length ≤ 40 := by
    have h1 := Cha.moreF_len a (x, List.replicate n ((-1, 0) : Cou.Ct)) at_
    have h2 := hok.nc
    rw [hM] at h1
    omega
  have hMe : ∀ i (hi : i < M.length), ∃ (c : Nat) (t : Cou.Ct), M[i] = (x ++ [(c : Int)], List.replicate n ((-1, 0) : Cou.Ct) ++ [t]) ∧ CtS t := fun i hi => by
    have this : M[i] ∈ Cha.moreF a (x, List.replicate n ((-1, 0) : Cou.Ct)) at_ := by simpa only [hM] using List.getElem_mem hi
    obtain ⟨c, t, h1, h2⟩ := Cha.moreF_last this
    exact ⟨c, t, h1, inA_small hok (Cou.stepF_in hok h2)⟩
  have hn5 : n ≤ 100000 := by rw [← hn]; exact hxl
  obtain ⟨m, hm⟩ : ∃ m, M.length = m := ⟨_, rfl⟩
  obtain ⟨at1, at2⟩ := at_
  obtain ⟨x21, x22⟩ := x2
  obtain ⟨dr, hdrE⟩ : ∃ dr, a.drawn = dr := ⟨_, rfl⟩
  have hMO := fun W (hA2 : AcAt (fun b => b < W.heap.size) W vd vc a) vv (hU : SlI (fun b => b < W.heap.size) W (.slice Ax n cx) x) (hV : SlCt (fun b => b < W.heap.size) W vv (List.replicate n ((-1, 0) : Cou.Ct))) => more_any a hok vd vc hdr (.slice Ax n cx) vv (x, List.replicate n ((-1, 0) : Cou.Ct)) (by rw [List.length_replicate]; exact hn) hxl (at1, at2) hat W _ hA2 hU hV
  rw [hdrE] at hq hMO ⊢
  rw [hM] at hMO
  rw [hZ]
  obtain ⟨w1, hw1⟩ : ∃ w1 : World, (w.alloc (.cells #[.slice Ax n cx, .int .i64 x21, .int .i64 x22] 56)).alloc (.cells #[.int .i64 at1, .int .i64 at2] 36) = w1 := ⟨_, rfl⟩
  obtain ⟨bx, hbx⟩ : ∃ bx, w.heap.size = bx := ⟨_, rfl⟩
  obtain ⟨bt, hbt⟩ : ∃ bt, bx + 1 = bt := ⟨_, rfl⟩
  have KX : Blk w1 bx 56 #[.slice Ax n cx, .int .i64 x21, .int .i64 x22] := by rw [← hw1, ← hbx]; exact (Blk.new _ _ _).alloc _
  have KT : Blk w1 bt 36 #[.int .i64 at1, .int .i64 at2] := by
    have := Blk.new (w.alloc (.cells #[.slice Ax n cx, .int .i64 x21, .int .i64 x22] 56)) 36 #[.int .i64 at1, .int .i64 at2]
    rw [hw1] at this
    rw [← hbt, ← hbx]
    simpa using this
  have B1 : Below w.heap.size w w1 := by rw [← hw1]; exact Ba (Ba (B0 w) _) _
  have hq1 := hq.keep B1
  have HS := Lib.hid (fun W (hb : Below w1.heap.size w1 W) => (show (W.cell? ⟨ab, 0, none⟩ = some vd ∧ W.cell? ⟨ab, 1, none⟩ = some vc ∧ W.cell? ⟨ab, 2, none⟩ = some (.int .u64 dr)) ∧ W.cell? ⟨bx, 0, none⟩ = some (.slice Ax n cx) ∧ W.cell? ⟨bt, 0, none⟩ = some (.int .i64 at1) ∧ W.cell? ⟨bt, 1, none⟩ = some (.int .i64 at2) from
    ⟨⟨(Bc hb hq1.act.lt).trans (hq1.act.cell 0), (Bc hb hq1.act.lt).trans (hq1.act.cell 1), (Bc hb hq1.act.lt).trans (hq1.act.cell 2)⟩, (Bc hb KX.lt).trans (KX.cell 0), (Bc hb KT.lt).trans (KT.cell 0), (Bc hb KT.lt).trans (KT.cell 1)⟩))
  have HAX := Lib.hid (fun W (hb : Below w1.heap.size w1 W) => (show AcAt (fun b => b < W.heap.size) W vd vc a from ((hA.on B1).on hb).all))
  have HXX := Lib.hid (fun W (hb : Below w1.heap.size w1 W) => (show SlI (fun b => b < W.heap.size) W (.slice Ax n cx) x from by
    exact (SlI.keep hx (Agree.below (Bt B1 hb) fun b h => IsC.lt h)).mono fun b h => Nat.lt_of_lt_of_le (IsC.lt h) (Bt B1 hb).size))
  have HMO := Lib.hid hMO
  have HB1 := Lib.hid B1
  have HW1 := Lib.hid hw1
  have HBX := Lib.hid hbx
  have HBT := Lib.hid hbt
  have HQ1 := Lib.hid hq1
  have HML := Lib.hid hm
  have HME := Lib.hid hMe
  have HBW : Hid (mb ≤ w.heap.size) := Lib.hid (Nat.le_of_lt hq.map.lt)
  clear hxl hat hA hx hq hM hZ hMe hMO B1 hw1 hbx hbt hq1 KX KT hdrE hdr hn
  dsimp only
  go_enter Tryd.func57, Tryd.ntmps57
  go_upto_region 1 with fail
  rw [HW1.out, HBX.out, HBT.out]
  have hBB : ∀ (L : Nat → Bool) (i : Nat) (W W' : World), Below W.heap.size W W' → Below w1.heap.size w1 W → Below w1.heap.size w1 W' := fun _ _ _ _ hb h => Bt h hb
  refine region_blocks (by kernel_rfl) ?_
  refine from_lawW 14 EM1 (fun _ W => Below w1.heap.size w1 W) (FM1 w1.heap.size ab bx bt n m vd vc Ax cx dr at1 at2 M) VM1 (by kernel_rfl) rfl (FM1_V _ _ _ _ _ _ _ _ _ _ _ _ _ _) (by kernel_rfl) (by kernel_rfl) (B0 w1).drew ⟨?_, ?_, ?_, ?_, ?_, ?_, ?_, ?_, ?_, ?_, ?_, ?_, ?_, ?_, trivial⟩ ?_
  · refine OpFactW.value rfl (FM1_below _ _ _ _ _ _ _ _ _ _ _ _ _ _) hBB fun L a w2 hl hf D hb => ?_
    have h0 : sl a 2 = .pointer (some ⟨ab, 0, none⟩) := hf 2 (by kernel_rfl)
    have es := HS.out w2 hb
    refine ⟨.agg #[vd, vc, .int .u64 dr], w2, ?_, B0 _, fun s _ h => h 10 rfl⟩
    unfold sl at h0
    simp at h0
    simp [go_sem, h0, es]
  · refine OpFactW.value rfl (FM1_below _ _ _ _ _ _ _ _ _ _ _ _ _ _) hBB fun L a w2 hl hf D hb => ?_
    have h0 : sl a 5 = .pointer (some ⟨bx, 0, none⟩) := hf 5 (by kernel_rfl)
    refine ⟨.pointer (some ⟨bx, 0, none⟩), w2, ?_, B0 _, fun s _ h => h 11 rfl⟩
    unfold sl at h0
    simp at h0
    simp [go_sem, h0]
  · refine OpFactW.value rfl (FM1_below _ _ _ _ _ _ _ _ _ _ _ _ _ _) hBB fun L a w2 hl hf D hb => ?_
    have h0 : sl a 11 = .pointer (some ⟨bx, 0, none⟩) := D 1 (by kernel_rfl)
    have es := HS.out w2 hb
    refine ⟨.slice Ax n cx, w2, ?_, B0 _, fun s _ h => h 12 rfl⟩
    unfold sl at h0
    simp at h0
    simp [go_sem, h0, es]
  · refine OpFactW.value rfl (FM1_below _ _ _ _ _ _ _ _ _ _ _ _ _ _) hBB fun L a w2 hl hf D hb => ?_
    refine ⟨.agg #[.int .i64 (-1), .int .i64 0], w2, ?_, B0 _, fun s _ h => h 13 rfl⟩
    first | kernel_rfl | simp [go_sem, zeroCt]
  · refine OpFactW.value rfl (FM1_below _ _ _ _ _ _ _ _ _ _ _ _ _ _) hBB fun L a w2 hl hf D hb => ?_
    have h1 : sl a 13 = .agg #[.int .i64 (-1), .int .i64 0] := D 3 (by kernel_rfl)
    refine ⟨.slice (some ⟨w2.heap.size, 0, none⟩) 1 1, w2.alloc (.cells #[.int .i64 (-1), .int .i64 0] 36), ?_, Ba (B0 _) _, fun s _ h => ⟨_, h 14 rfl, Blk.new _ _ _⟩⟩
    unfold sl at h1
    simp at h1
    simp [go_sem, h1]
  · refine OpFactW.value rfl (FM1_below _ _ _ _ _ _ _ _ _ _ _ _ _ _) hBB fun L a w2 hl hf D hb => ?_
    have h0 : sl a 5 = .pointer (some ⟨bx, 0, none⟩) := hf 5 (by kernel_rfl)
    refine ⟨.pointer (some ⟨bx, 0, none⟩), w2, ?_, B0 _, fun s _ h => h 15 rfl⟩
    unfold sl at h0
    simp at h0
    simp [go_sem, h0]
  · refine OpFactW.value rfl (FM1_below _ _ _ _ _ _ _ _ _ _ _ _ _ _) hBB fun L a w2 hl hf D hb => ?_
    have h0 : sl a 15 = .pointer (some ⟨bx, 0, none⟩) := D 5 (by kernel_rfl)
    have es := HS.out w2 hb
    refine ⟨.slice Ax n cx, w2, ?_, B0 _, fun s _ h => h 16 rfl⟩
    unfold sl at h0
    simp at h0
    simp [go_sem, h0, es]
  · refine OpFactW.value rfl (FM1_below _ _ _ _ _ _ _ _ _ _ _ _ _ _) hBB fun L a w2 hl hf D hb => ?_
    have h1 : sl a 16 = .slice Ax n cx := D 6 (by kernel_rfl)
    refine ⟨.int .i64 n, w2, ?_, B0 _, fun s _ h => h 17 rfl⟩
    unfold sl at h1
    simp at h1
    simp [go_sem, h1]
  · refine OpFactW.call rfl (FM1_below _ _ _ _ _ _ _ _ _ _ _ _ _ _) hBB fun L a w2 hl hf D hb => ?_
    obtain ⟨g, h1, hB⟩ : ∃ g, sl a 14 = .slice (some ⟨g, 0, none⟩) 1 1 ∧ Blk w2 g 36 #[.int .i64 (-1), .int .i64 0] := D 4 (by kernel_rfl)
    have h2 : sl a 17 = .int .i64 n := D 7 (by kernel_rfl)
    refine ⟨59, #[.slice (some ⟨g, 0, none⟩) 1 1, .int .i64 n], ?_, (repeat_any n hn5 g w2 hB).mono ?_⟩
    · unfold sl at h1 h2
      simp at h1 h2
      simp [go_sem, h1, h2]
    · rintro e w' ⟨A, c, rfl, hs, hb3⟩
      exact ⟨_, rfl, hb3, fun s _ h => ⟨A, c, h 18 rfl, hs⟩⟩
  · refine OpFactW.value rfl (FM1_below _ _ _ _ _ _ _ _ _ _ _ _ _ _) hBB fun L a w2 hl hf D hb => ?_
    have h1 : sl a 12 = .slice Ax n cx := D 2 (by kernel_rfl)
    obtain ⟨A, c, h2, hs⟩ : ∃ A c, sl a 18 = .slice A n c ∧ SlCt (fun b => b < w2.heap.size) w2 (.slice A n c) (List.replicate n ((-1, 0) : Cou.Ct)) := D 8 (by kernel_rfl)
    refine ⟨.agg #[.slice Ax n cx, .slice A n c], w2, ?_, B0 _, fun s _ h => ⟨A, c, h 19 rfl, hs⟩⟩
    unfold sl at h1 h2
    simp at h1 h2
    simp [go_sem, h1, h2]
  · refine OpFactW.value rfl (FM1_below _ _ _ _ _ _ _ _ _ _ _ _ _ _) hBB fun L a w2 hl hf D hb => ?_
    have h0 : sl a 6 = .pointer (some ⟨bt, 0, none⟩) := hf 6 (by kernel_rfl)
    have es := HS.out w2 hb
    refine ⟨.agg #[.int .i64 at1, .int .i64 at2], w2, ?_, B0 _, fun s _ h => h 20 rfl⟩
    unfold sl at h0
    simp at h0
    simp [go_sem, h0, es]
  · refine OpFactW.call rfl (FM1_below _ _ _ _ _ _ _ _ _ _ _ _ _ _) hBB fun L a w2 hl hf D hb => ?_
    have h1 : sl a 10 = .agg #[vd, vc, .int .u64 dr] := D 0 (by kernel_rfl)
    obtain ⟨A, c, h2, hs⟩ : ∃ A c, sl a 19 = .agg #[.slice Ax n cx, .slice A n c] ∧ SlCt (fun b => b < w2.heap.size) w2 (.slice A n c) (List.replicate n ((-1, 0) : Cou.Ct)) := D 9 (by kernel_rfl)
    have h3 : sl a 20 = .agg #[.int .i64 at1, .int .i64 at2] := D 10 (by kernel_rfl)
    refine ⟨58, #[.agg #[vd, vc, .int .u64 dr], .agg #[.slice Ax n cx, .slice A n c], .agg #[.int .i64 at1, .int .i64 at2]], ?_, (HMO.out w2 (HAX.out w2 hb) _ (HXX.out w2 hb) hs).mono ?_⟩
    · unfold sl at h1 h2 h3
      simp at h1 h2 h3
      simp [go_sem, h1, h2, h3]
    · rintro e w' ⟨r, rfl, hO, hb3⟩
      obtain ⟨A', c', rfl, -⟩ := hO.sl (F := fun _ => True) (by rw [HML.out]; omega) fun _ _ _ _ => trivial
      rw [HML.out] at hO ⊢
      exact ⟨_, rfl, hb3, fun s _ h => ⟨A', c', h 21 rfl, OwnLk.more hO hb.size⟩⟩
  · refine OpFactW.value rfl (FM1_below _ _ _ _ _ _ _ _ _ _ _ _ _ _) hBB fun L a w2 hl hf D hb => ?_
    obtain ⟨A, c, h1, -⟩ : ∃ A c, sl a 21 = .slice A m c ∧ OwnLk w1.heap.size w2 (.slice A m c) M := D 11 (by kernel_rfl)
    refine ⟨.int .i64 m, w2, ?_, B0 _, fun s _ h => h 22 rfl⟩
    unfold sl at h1
    simp at h1
    simp [go_sem, h1]
  · refine OpFactW.value rfl (FM1_below _ _ _ _ _ _ _ _ _ _ _ _ _ _) hBB fun L a w2 hl hf D hb => ?_
    exact ⟨.int .i64 0, w2, by first | kernel_rfl | simp [go_sem], B0 _, fun s _ h => h 23 rfl⟩
  intro L y w4 hb4 hF4
  obtain ⟨Am, cm, h21, hO4⟩ : ∃ A c, y 21 = .slice A m c ∧ OwnLk w1.heap.size w4 (.slice A m c) M := hF4 11 (by decide) rfl
  have h22 : y 22 = .int .i64 m := hF4 12 (by decide) rfl
  have h23 : y 23 = .int .i64 0 := hF4 13 (by decide) rfl
  have HO4 := Lib.hid hO4
  have HB4 := Lib.hid hb4
  have HQ4 := Lib.hid (HQ1.out.keep hb4)
  clear hF4 hb4 hO4
  rw [aft14 (d0 := 10) (d1 := 11) (d2 := 12) (d3 := 13) (d4 := 14) (d5 := 15) (d6 := 16) (d7 := 17) (d8 := 18) (d9 := 19) (d10 := 20) (d11 := 21) (d12 := 22) (d13 := 23) (by kernel_rfl) rfl]
  rw [h21, h22, h23]
  simp only [List.set_cons_succ, List.set_cons_zero]
  refine from_end rfl ?_
  clear h21 h22 h23 HXX HAX HMO HS
  obtain ⟨-, hms, hsq, hqb⟩ := id ho
  have HB04 : Hid (Below mb w w4) := Lib.hid ((Bt HB1.out HB4.out).mono HBW.out)
  have HW0 : Hid (w.heap.size ≤ w4.heap.size) := Lib.hid (Bt HB1.out HB4.out).size
  go_wp2_with fail
  go_loopg [23] m (fun gg s23 wr => ∃ (k : Nat) (v' : Value), k ≤ m ∧ m - k ≤ gg ∧ s23 = .int .i64 k ∧ Aside (LSt ab sb qb mb base vd vc dr v' ((M.take k).foldl Cha.putF Q) wr) ∧ Aside (OwnLk w1.heap.size wr (.slice Am m cm) M) ∧ Aside (Below mb w wr) ∧ Aside (∀ t ∈ Cha.ends ((M.take k).foldl Cha.putF Q), CtS t))
  case atStart => exact ⟨0, v, by omega, by omega, rfl, (show Aside _ from by show LSt _ _ _ _ _ _ _ _ _ _ _; rw [List.take_zero]; exact HQ4.out), HO4.out, HB04.out, (show Aside _ from by show ∀ _, _; rw [List.take_zero]; exact hQs)⟩
  case round =>
    obtain ⟨k, v', hk, hg, rfl, HQ, HO, HB, HT⟩ := hrel
    replace HQ := Lib.hid HQ
    replace HO := Lib.hid HO
    replace HB := Lib.hid HB
    replace HT := Lib.hid HT
    by_cases hlt : k < m
    · have hltI : (k : Int) < m := by omega
      have hkM : k < M.length := by rw [HML.out]; exact hlt
      obtain ⟨ad, c5, u, Av, cv, e5, hbl5, hfl5, hu5, hv5⟩ := OwnLk.at_ HO.out (by rw [HML.out]; omega) hkM
      rw [HML.out] at e5
      injection e5 with e5a e5b e5c
      subst e5a
      clear e5b e5c
      obtain ⟨Au, cu, hue, -, -⟩ := SlI.open hu5
      obtain ⟨c, t, hMk, hts⟩ := HME.out k hkM
      have hfold : (M.take (k + 1)).foldl Cha.putF Q = Cha.putF ((M.take k).foldl Cha.putF Q) M[k] := by
        rw [List.take_add_one, List.getElem?_eq_getElem hkM, List.foldl_append]; rfl
      rw [hMk] at hfold hu5 hv5 hfl5 hue
      dsimp only at hu5 hv5 hfl5 hue
      rw [List.length_append, List.length_replicate, List.length_singleton] at hfl5 hv5
      obtain ⟨nu, hnu⟩ : ∃ nu, (x ++ [(c : Int)]).length = nu := ⟨_, rfl⟩
      rw [hnu] at hue
      subst hue
      obtain ⟨t1, t2⟩ := t
      obtain ⟨Av', cv', ev, -, -, hvat⟩ := SlCt.open hv5
      injection ev with ev1 ev2 ev3
      subst ev1
      clear ev2 ev3
      obtain ⟨adv, rfl, hvb, hvf⟩ := hvat n (by simp)
      have hlast : (List.replicate n ((-1, 0) : Cou.Ct) ++ [(t1, t2)])[n]'(by simp) = (t1, t2) := by rw [List.getElem_append_right (by simp)]; simp
      rw [hlast] at hvf
      have hpl : Cha.lastF (List.replicate n ((-1, 0) : Cou.Ct) ++ [(t1, t2)]) = (t1, t2) := Cha.lastF_snoc _ _
      have hQk := Cha.foldPut_len (M.take k) Q
      rw [List.length_take] at hQk
      obtain ⟨Qk, hQk2⟩ : ∃ Qk, (M.take k).foldl Cha.putF Q = Qk := ⟨_, rfl⟩
      rw [hQk2] at hfold hQk HQ HT
      have hql : Qk.length ≤ 6000 := by omega
      obtain ⟨b8, hb8⟩ : ∃ b8, wr.heap.size = b8 := ⟨_, rfl⟩
      obtain ⟨b9, hb9⟩ : ∃ b9, b8 + 1 = b9 := ⟨_, rfl⟩
      obtain ⟨w5, hw5⟩ : ∃ w5 : World, wr.alloc (.cells #[.slice Au nu cu, .slice (some adv) (n + 1) cv] 109) = w5 := ⟨_, rfl⟩
      have K8 : Blk w5 b8 109 #[.slice Au nu cu, .slice (some adv) (n + 1) cv] := by rw [← hw5, ← hb8]; exact Blk.new _ _ _
      have B5 : Below wr.heap.size wr w5 := by rw [← hw5]; exact Ba (B0 wr) _
      obtain ⟨w6, hw6⟩ : ∃ w6 : World, w5.alloc (.cells #[.int .i64 t1, .int .i64 t2] 36) = w6 := ⟨_, rfl⟩
      have hs5 : w5.heap.size = b9 := by rw [← hw5, ← hb9, ← hb8]; simp
      have K9 : Blk w6 b9 36 #[.int .i64 t1, .int .i64 t2] := by rw [← hw6, ← hs5]; exact Blk.new _ _ _
      have B6 : Below wr.heap.size wr w6 := by rw [← hw6]; exact Ba B5 _
      have K86 : Blk w6 b8 109 #[.slice Au nu cu, .slice (some adv) (n + 1) cv] := by rw [← hw6]; exact K8.alloc _
      have hQ6 := HQ.out.keep B6
      have hlk := seenC_look hQ6.map HT.out (t1, t2) hts
      unfold ctV at hlk
      have hO6 := OwnLk.below HO.out B6
      have hB06 : Below mb w w6 := HB.out.trans (B6.mono (Nat.le_of_lt HQ.out.map.lt))
      have p0 := hfl5.f0 rfl
      have p1 := hfl5.f1 rfl
      have z0 := K8.cell 0
      have z1 := K8.cell 1
      simp only [List.getElem?_toArray, List.getElem?_cons_zero, List.getElem?_cons_succ] at z0 z1
      have hvb2 : (adv.add (n * 2)).block < wr.heap.size := by rw [block_of_add]; exact IsC.lt hvb
      have y0 := (B5.cell (p := adv.add (n * 2)) hvb2).trans (hvf.f0 rfl)
      have y1 := (B5.cell (p := ⟨(adv.add (n * 2)).block, (adv.add (n * 2)).off + 1, none⟩) hvb2).trans (hvf.f1 rfl)
      have s0 := hQ6.seen.cell 0
      have k0 := K9.cell 0
      have k1 := K9.cell 1
      simp only [List.getElem?_toArray, List.getElem?_cons_zero, List.getElem?_cons_succ] at s0 k0 k1
      have e1 : ((n : Int) + 1) - 1 = n := by omega
      have e2 : (n : Int) < (n : Int) + 1 := by omega
      have HW5 := Lib.hid hw5
      have HW6 := Lib.hid hw6
      have HB8 := Lib.hid hb8
      have HS5 := Lib.hid hs5
      have HQ6 := Lib.hid hQ6
      have HO6 := Lib.hid hO6
      have HB06 := Lib.hid hB06
      have HK9 := Lib.hid K9
      have HK86 := Lib.hid K86
      have HU6 : Hid (SlI (IsC w6) w6 (.slice Au nu cu) (x ++ [(c : Int)])) := Lib.hid ((SlI.keep hu5 (Agree.below B6 fun b h => IsC.lt h)).mono fun b h => h.below B6)
      have HFO := Lib.hid hfold
      have HPL := Lib.hid hpl
      have HTS := Lib.hid hts
      have HB69 := Lib.hid hb9
      clear hfl5 hu5 hv5 hvat hvb hvf hlast hMk hfold hpl hQk2 hw5 hw6 hb8 hs5 hQ6 hO6 hB06 K8 K9 K86 B5 B6 hvb2 hts hnu hbl5 hb9 hQk
      go_upto_region 4 with fail
      rw [HW5.out, HB8.out]
      clear p0 p1
      go_upto_region 5 with fail
      rw [HW6.out, HS5.out]
      clear y0 y1 z0 z1
      by_cases htm : (t1, t2) ∈ Cha.ends Qk
      · rw [decide_eq_true htm] at hlk
        have HF2 : Hid ((M.take (k + 1)).foldl Cha.putF Q = Qk) := Lib.hid (by rw [HFO.out]; exact Cha.putF_old (by rw [HPL.out]; exact htm))
        clear htm HFO
        go_wp2_with fail
        go_roundg (m - (k + 1))
        case measure => omega
        case rel => exact ⟨k + 1, v', by omega, by omega, by go_num, (show Aside _ from by show LSt _ _ _ _ _ _ _ _ _ _ _; rw [HF2.out]; exact HQ6.out), HO6.out, HB06.out, (show Aside _ from by show ∀ _, _; rw [HF2.out]; exact HT.out)⟩
      · rw [decide_eq_false htm] at hlk
        have HF2 : Hid ((M.take (k + 1)).foldl Cha.putF Q = Qk ++ [(x ++ [(c : Int)], (t1, t2))]) := Lib.hid (by rw [HFO.out, Cha.putF_new (by rw [HPL.out]; exact htm), HPL.out])
        obtain ⟨w7, hup, hm7, hg7⟩ := seenC_store HQ6.out.map HT.out (t1, t2) HTS.out
        unfold ctV at hup
        have hcm := isC_map HQ6.out.map
        obtain ⟨ds, q1, q2, q3⟩ := HQ6.out.own
        have q37 := q3.kept hg7 (own_map HQ6.out.map q3)
        have hQ7 : OwnCh base w7 v' Qk := OwnL.keep HQ6.out.own rfl (fun _ hx => hx.kept hg7 (own_map HQ6.out.map hx)) fun _ _ hr => hr.grown hg7 hcm
        have hO7 : OwnLk w1.heap.size w7 (.slice (some ad) m cm) M := OwnLk.grown HO6.out hg7 hcm (by
          obtain ⟨_, _, _, r3⟩ := HO6.out
          exact own_map HQ6.out.map r3)
        have nq : ∀ {q : Nat}, q ≠ mb → some q ≠ some mb := fun h e => h (by injection e)
        have hb8m : b8 ≠ mb := by have h1 := HQ.out.map.lt; have h2 := HB8.out; omega
        have hb9m : b9 ≠ mb := by have h1 := HQ.out.map.lt; have h2 := HB8.out; have h3 := HB69.out; omega
        have A7 := HQ6.out.act.grown hg7 (nq (by have := ho.am; omega))
        have S7 := HQ6.out.seen.grown hg7 (nq (by omega))
        have U7 := HQ6.out.que.grown hg7 (nq (by omega))
        have K97 := HK9.out.grown hg7 (nq hb9m)
        have K87 := HK86.out.grown hg7 (nq hb8m)
        have HU7 : Hid (SlI (IsC w7) w7 (.slice Au nu cu) (x ++ [(c : Int)])) := Lib.hid ((SlI.keep HU6.out (Agree.grown hg7 fun b hb => ⟨hb.lt, hcm b hb⟩)).mono fun b hb => hb.grown hg7 (hcm b hb))
        have B07 : Below mb w w7 := HB06.out.grown hg7 (Nat.le_of_lt HQ6.out.map.lt) (fun j e => by injection e with e; omega)
        have m0 := U7.cell 0
        have m1 := K97.cell 0
        have m2 := K97.cell 1
        have m3 := K87.cell 0
        simp only [List.getElem?_toArray, List.getElem?_cons_zero, List.getElem?_cons_succ] at m0 m1 m2 m3
        have hbig7 : base ≤ w7.heap.size := Nat.le_trans HQ6.out.big hg7.size
        have HP1 := Lib.hid q1
        have HQ7 := Lib.hid hQ7
        have HO7 := Lib.hid hO7
        have HA7 := Lib.hid A7
        have HS7 := Lib.hid S7
        have HUU7 := Lib.hid U7
        have HB07 := Lib.hid B07
        have HM7 := Lib.hid hm7
        obtain ⟨ds7, r1, r2, r3⟩ := hQ7
        have HR1 := Lib.hid r1
        have HR2 := Lib.hid r2
        have HR3 := Lib.hid r3
        clear htm HFO q1 q2 q3 q37 hO7 A7 S7 U7 K97 K87 B07 hm7 hg7 hcm r1 r2 r3 nq hb8m hb9m
        go_wp2_with (at_builtin; refine wpList_appS elemCh (by omega) rfl _ _ rfl base v' Qk.length _ rfl (HR3.out.alloc _) ⟨w7.heap.size, 0, none⟩ 1 [.slice Au nu cu, .int .i64 t1, .int .i64 t2] rfl rfl (Flds.new w7 _ _) (by simp [Value.oneCell']) (by omega) (by omega) (Nat.le_trans hbig7 (by simp)) ?_; intro g cap w8 hown8 hg8 hgg; have HO8 := Lib.hid hown8; have HG8 := Lib.hid hg8; have hU8 := (HUU7.out.alloc (.cells #[.slice Au nu cu, .int .i64 t1, .int .i64 t2] 56)).grown hg8 (fun e => by have := (HR3.out.lt qb e.symm).1; omega); have HU8 := Lib.hid hU8; have m8 := hU8.cell 0; have f8 := hU8.frozen 0; simp only [List.getElem?_toArray, List.getElem?_cons_zero] at m8; clear hown8 hg8 hgg hU8)
        obtain ⟨nv, hnv⟩ : ∃ nv : Value, Value.slice (some ⟨g, 0, none⟩) (Qk.length + 1) cap = nv := ⟨_, rfl⟩
        obtain ⟨o7, ho7⟩ : ∃ o7 : Obj, Obj.cells #[.slice Au nu cu, .int .i64 t1, .int .i64 t2] 56 = o7 := ⟨_, rfl⟩
        have hO8 := HO8.out
        have hG8 := HG8.out
        have hR3 := HR3.out
        have hR3a := hR3.alloc o7
        rw [ho7] at hG8
        rw [hnv] at hO8
        try rw [hnv]
        have hvl : ∀ b, v'.ownBlock = some b → base ≤ b := fun b e => (hR3.lt b e).1
        have e8 : ∀ j, j < base → some j ≠ v'.ownBlock := fun j hj e => by have := hvl j e.symm; omega
        have hset : w8.grownBy (w8.setCell ⟨qb, 0, none⟩ nv) (some qb) := only_setCell (World.grownBy.refl w8 _) (.inl rfl) nv
        have hcq := isC_que HU8.out
        have hco := isC_own hR3a (show 56 ≠ 3 by decide) (by decide)
        have hch : ∀ cs y, ChC w7 cs y → ChC (w8.setCell ⟨qb, 0, none⟩ nv) cs y := fun cs y h => ((h.below (Ba (B0 w7) o7)).grown hG8 hco).grown hset hcq
        have hbk : ∀ {j : Nat} {ty : TypeId} {cs' : Array Value}, j ≠ qb → some j ≠ v'.ownBlock → Blk w7 j ty cs' → Blk (w8.setCell ⟨qb, 0, none⟩ nv) j ty cs' := fun h2 h3 hk => (((hk.alloc o7).grown hG8 h3).far h2 nv)
        have hsz8 : w7.heap.size + 1 ≤ w8.heap.size := by simpa using hG8.size
        have hm7 := HM7.out
        have ham := ho.am
        have hmap : SeenC (Cha.ends Qk ++ [(t1, t2)]) mb (w8.setCell ⟨qb, 0, none⟩ nv) := hm7.of_block (((Below.heap_setCell w8 ⟨qb, 0, none⟩ nv mb (by simp; omega)).trans (hG8.block mb (Nat.lt_of_lt_of_le hm7.lt (by simp)) (e8 mb (by omega)))).trans (Below.heap_alloc w7 o7 mb hm7.lt))
        have hown9 : OwnCh base (w8.setCell ⟨qb, 0, none⟩ nv) nv (Qk ++ [(x ++ [(c : Int)], (t1, t2))]) := OwnL.snoc HR1.out HR2.out rfl (hch _ _ ⟨_, rfl, HU7.out⟩) (fun cs y h => hch cs y h) (ownsRow_setCell_below hO8 (by simp; omega) _)
        have hob : OwnLk w1.heap.size (w8.setCell ⟨qb, 0, none⟩ nv) (.slice (some ad) m cm) M := by
          have h1 := OwnLk.below HO7.out (Ba (B0 w7) o7)
          have h2 : OwnLk w1.heap.size w8 (.slice (some ad) m cm) M := OwnLk.grown h1 hG8 hco (by
            obtain ⟨_, _, _, k3⟩ := h1
            exact own_own_ne k3 hR3a (by decide))
          refine OwnLk.grown h2 hset hcq ?_
          obtain ⟨_, _, _, k3⟩ := h2
          exact .inr (own_ne k3 HU8.out (by decide))
        have hb9 : Below mb w (w8.setCell ⟨qb, 0, none⟩ nv) := by
          have hml := hm7.lt
          have x3 := HB07.out.alloc (show mb ≤ w7.heap.size by omega) o7
          have x4 := x3.grown hG8 (by simp; omega) (fun j e => by have := hvl j e; omega)
          exact x4.setCell (by simp; omega) nv
        have hlst : LSt ab sb qb mb base vd vc dr nv ((M.take (k + 1)).foldl Cha.putF Q) (w8.setCell ⟨qb, 0, none⟩ nv) := by
          rw [HF2.out]
          exact ⟨hbk (by omega) (e8 _ (by omega)) HA7.out, hbk (by omega) (e8 _ (by omega)) HS7.out, HU8.out.set_ 0 nv, hown9, by rw [Cha.ends_snoc]; exact hmap, by show base ≤ (w8.setCell _ _).heap.size; simp; omega⟩
        have hcts : ∀ y ∈ Cha.ends ((M.take (k + 1)).foldl Cha.putF Q), CtS y := by
          rw [HF2.out, Cha.ends_snoc]
          intro y hy
          rcases List.mem_append.1 hy with h | h
          · exact HT.out y h
          · simp only [List.mem_singleton] at h
            subst h
            exact HTS.out
        have HL9 := Lib.hid hlst
        have HC9 := Lib.hid hcts
        have HB9 := Lib.hid hb9
        have HO9 := Lib.hid hob
        clear hlst hcts hb9 hob hown9 hmap hch hbk hco hcq hset hO8 hG8 hR3 hR3a hvl e8 ho7 hm7
        go_roundg (m - (k + 1))
        case measure => omega
        case rel => exact ⟨k + 1, nv, by omega, by omega, by go_num, HL9.out, HO9.out, HB9.out, HC9.out⟩
    · obtain rfl : k = m := by omega
      have hQ := HQ.out
      rw [← HML.out, List.take_length] at hQ
      have HQ2 := Lib.hid hQ
      clear hQ
      go_wp2_with fail
      refine bodyPost_end (results_none rfl _ _ _) rfl ?_
      exact ⟨⟨_, rfl⟩, v', HQ2.out, HB.out⟩
end Go.Proofs.YtahlfndlkfoikaaDoor
