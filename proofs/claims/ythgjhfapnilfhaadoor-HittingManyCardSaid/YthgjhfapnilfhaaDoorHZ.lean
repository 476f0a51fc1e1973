/- Walks over the reference of hitting: the test of a proof tree. -/
import Derived.Test.YthgjhfapnilfhaaDoorHW
import Derived.Deep.OwnRows
import Derived.Deep.CutRange
import Derived.BigRegion
namespace Go.Proofs.YthgjhfapnilfhaaDoor
open Go Go.RowKit
theorem made1 (W : World) (z : Value) (n : Nat) (t : TypeId) (o2 o3 : Obj) : (((W.alloc (.cells (madeCells #[z] n) t)).alloc o2).alloc o3).drew.rowIs W.heap.size t n (fun _ => z) := ((World.rowIs_made W z n t).alloc _).alloc _
theorem made2 (W : World) (z : Value) (n : Nat) (t : TypeId) (o1 o3 : Obj) : (((W.alloc o1).alloc (.cells (madeCells #[z] n) t)).alloc o3).drew.rowIs (W.heap.size + 1) t n (fun _ => z) := by
  have := World.rowIs_made (W.alloc o1) z n t
  rw [World.size_alloc] at this
  exact this.alloc _
theorem made3 (W : World) (z : Value) (n : Nat) (t : TypeId) (o1 o2 : Obj) : (((W.alloc o1).alloc o2).alloc (.cells (madeCells #[z] n) t)).drew.rowIs (W.heap.size + 1 + 1) t n (fun _ => z) := by
  have := World.rowIs_made ((W.alloc o1).alloc o2) z n t
  rw [World.size_alloc, World.size_alloc] at this
  exact this
theorem made_below (W : World) (o1 o2 o3 : Obj) : Below W.heap.size W (((W.alloc o1).alloc o2).alloc o3).drew := (Ba (Ba (Ba (B0 W) o1) o2) o3).drew
theorem bit_of (v p : Nat) : ((((v >>> p) &&& 1 : Nat) : Int) == 1) = v.testBit p := by
  rw [Nat.testBit_eq_decide_div_mod_eq, Nat.and_one_is_mod, Nat.shiftRight_eq_div_pow]
  by_cases h : v / 2 ^ p % 2 = 1
  · rw [h]; rfl
  · have : v / 2 ^ p % 2 = 0 := by omega
    rw [this]; rfl
theorem shr_of (v p : Nat) (h : p ≤ 64) : ((v : Nat) : Int) / 2 ^ p = ((v >>> p : Nat) : Int) := by
  have := Hit.shr_nat v p 64 h
  rw [Nat.min_eq_left h, Int.fdiv_eq_ediv_of_nonneg _ (Int.pow_nonneg (by decide))] at this
  exact this
theorem row_set {α : Type} {w : World} {b n : Nat} {t : TypeId} {l : List α} {d : α} {f : α → Value} (h : w.rowIs b t n (fun j => f (l.getD j d))) (hl : l.length = n) (i : Nat) (x : α) : (w.setCell ⟨b, i, none⟩ (f x)).rowIs b t n (fun j => f ((l.set i x).getD j d)) :=
  (h.set i (f x)).congr fun j hj => by
    have hj' : j < l.length := by omega
    by_cases e : j = i
    · subst e; simp [hj']
    · simp [e, Ne.symm e, hj']
theorem set2_other {w : World} (p q r : Addr) {u v : Value} (h1 : r.block ≠ p.block) (h2 : r.block ≠ q.block) : ((w.setCell p u).setCell q v).drew.cell? r = w.cell? r := by
  show ((w.setCell p u).setCell q v).cell? r = _
  rw [World.cell?_of_block (w := w.setCell p u) (Below.heap_setCell _ q v r.block h2), World.cell?_of_block (w := w) (Below.heap_setCell _ p u r.block h1)]
theorem mem_set2 {l : List Nat} {B i j x y : Nat} (h : ∀ z ∈ l, z < B) (hx : x < B) (hy : y < B) : ∀ z ∈ (l.set i x).set j y, z < B := fun z hz => by
  rcases List.mem_or_eq_of_mem_set hz with h1 | rfl
  · rcases List.mem_or_eq_of_mem_set h1 with h2 | rfl
    · exact h z h2
    · exact hx
  · exact hy
set_option maxRecDepth 200000 in
set_option maxHeartbeats 8000000 in
theorem treeR_any (n : Nat) (hn : n ≤ 32) (size : Int) (vs vt : Value) (ws : List Nat) (hw : ∀ s ∈ ws, s < 4294967296) (t : List Hit.TNode) (h0 : 0 < t.length) (htl : t.length ≤ 1000000) (hll : ∀ x ∈ t, x.weights.length ≤ 1000000) (w : World) (F G : Nat → Prop) (hF : ∀ b, F b → b < w.heap.size) (hG : ∀ b, G b → b < w.heap.size) (hr : SlII F w vs (setsOf ws)) (ht : SlT G w vt t) :
    Calls Tryd.prog 49 #[.agg #[.int .i64 n, vs], .int .i64 size, vt] w fun e w' => e = .returned (.bool (Hit.treeF ws n size t)) ∧ Below w.heap.size w w' := by
  have hLf : ∀ (vw : Value) (x : Hit.TNode), x ∈ t → SlI G w vw x.weights → ∀ (taken out : Nat), taken < 4294967296 → out < 4294967296 → ∀ W, Below w.heap.size w W → Calls Tryd.prog 95 #[.agg #[.int .i64 n, vs], .int .i64 size, vw, .int .u64 taken, .int .u64 out] W fun e w' => e = .returned (.bool (Hit.leafR ws size x.weights taken out)) ∧ Below W.heap.size W w' :=
    fun vw x hx hv taken out h1 h2 W hW => leafR_any n size vs vw ws hw x.weights taken out h1 h2 (hll x hx) W F G (fun b hb => Nat.lt_of_lt_of_le (hF b hb) hW.size) (fun b hb => Nat.lt_of_lt_of_le (hG b hb) hW.size) (hr.keep (Agree.below hW hF)) (hv.keep (Agree.below hW hG))
  obtain ⟨As, cs, rfl, _, hsl, _⟩ := hr.open
  obtain ⟨At, ct, rfl, _, _, htat⟩ := ht.open
  rw [setsOf_length] at *
  have HLF := Lib.hid hLf
  have HT := Lib.hid htat
  clear hLf hr ht hw htat hll
  have hmu := run_make_row' (P := Tryd.prog) 176 73 (.int .u64 0) 8 Tryd.underlying176 (by kernel_rfl) rfl .i64 .i64 t.length (by omega) (by omega)
  have hmb := run_make_row' (P := Tryd.prog) 110 4 (.bool false) 1 Tryd.underlying110 (by kernel_rfl) rfl .i64 .i64 t.length (by omega) (by omega)
  go_enter Tryd.func49, Tryd.ntmps49
  go_upto_region 1 with fail
  obtain ⟨w1, hw1⟩ : ∃ w1 : World, w.alloc (.cells #[.int .i64 n, .slice As ws.length cs] 69) = w1 := ⟨_, rfl⟩
  have c0 : w1.cell? ⟨w.heap.size, 0, none⟩ = some (.int .i64 n) := by rw [← hw1]; simp [go_sem]
  have c1 : w1.cell? ⟨w.heap.size, 1, none⟩ = some (.slice As ws.length cs) := by rw [← hw1]; simp [go_sem]
  have s1 : w.heap.size < w1.heap.size := by rw [← hw1]; simp
  have B1 : Below w.heap.size w w1 := by rw [← hw1]; exact Ba (B0 w) _
  rw [hw1]
  clear hw1
  have HB1 := Lib.hid B1
  have C0 := Lib.hid c0
  have C1 := Lib.hid c1
  clear B1 c0 c1
  go_cut [7, 8, 9] from 12 to 20 (fun s7 s8 s9 wx => ∃ b7 b8 b9 : Nat, s7 = .slice (some ⟨b7, 0, none⟩) t.length t.length ∧ s8 = .slice (some ⟨b8, 0, none⟩) t.length t.length ∧ s9 = .slice (some ⟨b9, 0, none⟩) t.length t.length ∧
    b7 ≠ b8 ∧ b7 ≠ b9 ∧ b8 ≠ b9 ∧ w1.heap.size ≤ b7 ∧ w1.heap.size ≤ b8 ∧ w1.heap.size ≤ b9 ∧ wx.rowIs b7 73 t.length (fun _ => .int .u64 0) ∧ wx.rowIs b8 73 t.length (fun _ => .int .u64 0) ∧ wx.rowIs b9 4 t.length (fun _ => .bool false) ∧ Below w1.heap.size w1 wx)
  case first =>
    go_region
    all_goals (go_wp2_with fail; go_meet)
    all_goals exact ⟨_, _, _, rfl, rfl, rfl, by omega, by omega, by omega, by omega, by omega, by omega,
      by (first | exact made1 _ _ _ _ _ _ | exact made2 _ _ _ _ _ _ | exact made3 _ _ _ _ _ _), by (first | exact made1 _ _ _ _ _ _ | exact made2 _ _ _ _ _ _ | exact made3 _ _ _ _ _ _),
      by (first | exact made1 _ _ _ _ _ _ | exact made2 _ _ _ _ _ _ | exact made3 _ _ _ _ _ _), made_below _ _ _ _⟩
  case rest =>
    obtain ⟨b7, b8, b9, rfl, rfl, rfl, n78, n79, n89, q7, q8, q9, hT, hO, hR, hB⟩ := hcut
    have hfz := hR.frozen 0
    have hc9 := hR.cell h0
    have h0i : (0 : Int) < t.length := by omega
    obtain ⟨w2, hw2⟩ : ∃ w2 : World, wc.setCell ⟨b9, 0, none⟩ (.bool true) = w2 := ⟨_, rfl⟩
    have B2 := Lib.hid (Bs hB (.bool true) (p := ⟨b9, 0, none⟩) q9)
    have T2 := hT.setOther (a := ⟨b9, 0, none⟩) n79 (.bool true)
    have O2 := hO.setOther (a := ⟨b9, 0, none⟩) n89 (.bool true)
    have R2 := hR.set 0 (.bool true)
    clear hT hO hR hB
    go_wp2_with fail
    rw [hw2] at B2 T2 O2 R2
    try rw [hw2]
    clear hfz hc9 hw2
    go_loopg [10, 11] t.length (fun gg s10 s11 wr => ∃ (i : Nat) (tk ot : List Nat) (re : List Bool), i ≤ t.length ∧ t.length - i ≤ gg ∧ s10 = .int .i64 i ∧ tk.length = t.length ∧ ot.length = t.length ∧ re.length = t.length ∧
      Aside (∀ x ∈ tk, x < 4294967296) ∧ Aside (∀ x ∈ ot, x < 4294967296) ∧ Aside (Hit.treeGo ws n size t.length (t.drop i) i tk ot re = Hit.treeF ws n size t) ∧
      Aside (wr.rowIs b7 73 t.length (fun j => .int .u64 ((tk.getD j 0 : Nat) : Int))) ∧ Aside (wr.rowIs b8 73 t.length (fun j => .int .u64 ((ot.getD j 0 : Nat) : Int))) ∧ Aside (wr.rowIs b9 4 t.length (fun j => .bool (re.getD j false))) ∧ Aside (Below w1.heap.size w1 wr))
    case atStart =>
      refine ⟨0, List.replicate t.length 0, List.replicate t.length 0, (List.replicate t.length false).set 0 true, by omega, by omega, rfl, by simp, by simp, by simp, ?_, ?_, rfl, ?_, ?_, ?_, B2.out⟩
      · intro x hx; rw [List.eq_of_mem_replicate hx]; decide
      · intro x hx; rw [List.eq_of_mem_replicate hx]; decide
      · exact T2.congr fun j hj => by simp [List.getD_eq_getElem?_getD, hj]
      · exact O2.congr fun j hj => by simp [List.getD_eq_getElem?_getD, hj]
      · exact R2.congr fun j hj => by
          by_cases e : j = 0
          · subst e; simp [List.getD_eq_getElem?_getD, h0]
          · simp [List.getD_eq_getElem?_getD, e, hj, Ne.symm e]
    case round =>
      obtain ⟨i, tk, ot, re, hi, hg, rfl, ltk, lot, lre, HTk, HOt, HGo, HT7, HO8, HR9, HB⟩ := hrel
      by_cases hlt : i < t.length
      · have hki : decide ((i : Int) < t.length) = true := decide_eq_true (by omega)
        have hi2 : (i : Int) < t.length := by omega
        have hc9 := HR9.cell hlt
        cases hre : re.getD i false with
        | false =>
          rw [hre] at hc9
          have hgo := (Hit.treeGo_skip (ws := ws) (n := n) (size := size) (tk := tk) (ot := ot) t.length hlt hre).symm.trans HGo
          have HG2 := Lib.hid hgo
          clear hgo
          go_wp2_with fail
          go_roundg (t.length - (i + 1))
          case measure => omega
          case rel => exact ⟨i + 1, tk, ot, re, by omega, by omega, by go_num, ltk, lot, lre, HTk, HOt, HG2.out, HT7, HO8, HR9, HB⟩
        | true =>
          as_aux_lemma =>
          rw [hre] at hc9
          obtain ⟨ad, vw, rfl, hf, hsw, hfl⟩ := HT.out i hlt
          obtain ⟨Aw, cw, rfl, _, _, _⟩ := id hsw.open
          have hBw := Bt HB1.out HB.out
          have hflr := hfl.below hBw (by rw [block_of_add]; exact hG _ hf)
          have k0 := hflr.f0 rfl
          have k1 := hflr.f1 rfl
          have k2 := hflr.f2 rfl
          have k3 := hflr.f3 rfl
          have k4 := hflr.f4 rfl
          have LLF := HLF.out _ t[i] (List.getElem_mem hlt) hsw
          have LL := @Hit.treeGo_leaf ws n size t i tk ot re t.length hlt hre
          have LK := @Hit.treeGo_kids ws n size t i tk ot re t.length hlt hre
          have LP := @Hit.treeGo_pick ws n size t i tk ot re t.length hlt hre
          have LO := @Hit.treeGo_on ws n size t i tk ot re t.length hlt hre
          rw [HGo.out] at LL LK LP LO
          have hxm : t[i] ∈ t := List.getElem_mem hlt
          generalize t[i] = x at *
          obtain ⟨pk, ys, no, bd, wt⟩ := x
          dsimp only at k0 k1 k2 k3 k4 LLF LL LK LP LO
          have HLLF := Lib.hid LLF
          have HLL := Lib.hid LL
          have HLK := Lib.hid LK
          have HLP := Lib.hid LP
          have HLO := Lib.hid LO
          clear hfl hflr hsw LLF LL LK LP LO hxm hf
          go_upto_region 8 with fail
          obtain ⟨w6, hw6⟩ : ∃ w6 : World, wr.alloc (.cells #[.int .i64 pk, .int .i64 ys, .int .i64 no, .int .i64 bd, .slice Aw wt.length cw] 39) = w6 := ⟨_, rfl⟩
          have n0 : w6.cell? ⟨wr.heap.size, 0, none⟩ = some (.int .i64 pk) := by rw [← hw6]; simp [go_sem]
          have n1 : w6.cell? ⟨wr.heap.size, 1, none⟩ = some (.int .i64 ys) := by rw [← hw6]; simp [go_sem]
          have n2 : w6.cell? ⟨wr.heap.size, 2, none⟩ = some (.int .i64 no) := by rw [← hw6]; simp [go_sem]
          have n4 : w6.cell? ⟨wr.heap.size, 4, none⟩ = some (.slice Aw wt.length cw) := by rw [← hw6]; simp [go_sem]
          have B6 := Lib.hid (show Below w1.heap.size w1 w6 by rw [← hw6]; exact Ba HB.out _)
          have T6 := HT7.out.alloc (.cells #[.int .i64 pk, .int .i64 ys, .int .i64 no, .int .i64 bd, .slice Aw wt.length cw] 39)
          have O6 := HO8.out.alloc (.cells #[.int .i64 pk, .int .i64 ys, .int .i64 no, .int .i64 bd, .slice Aw wt.length cw] 39)
          have R6 := HR9.out.alloc (.cells #[.int .i64 pk, .int .i64 ys, .int .i64 no, .int .i64 bd, .slice Aw wt.length cw] 39)
          have nbl : wr.heap.size < w6.heap.size := by rw [← hw6]; simp
          have e7 := Nat.ne_of_lt HT7.out.lt
          have e8 := Nat.ne_of_lt HO8.out.lt
          have e9 := Nat.ne_of_lt HR9.out.lt
          rw [hw6] at T6 O6 R6
          rw [hw6]
          generalize wr.heap.size = nb at *
          clear hw6 k0 k1 k2 k3 k4 hc9 HT7 HO8 HR9 HB hBw
          have lT := T6.lt
          have lO := O6.lt
          have lR := R6.lt
          have kT : ∀ q : Cls w6, q.w.cell? ⟨b7, i, none⟩ = some (.int .u64 ((tk.getD i 0 : Nat) : Int)) := fun q => (Bc q.b lT).trans (T6.cell hlt)
          have kO : ∀ q : Cls w6, q.w.cell? ⟨b8, i, none⟩ = some (.int .u64 ((ot.getD i 0 : Nat) : Int)) := fun q => (Bc q.b lO).trans (O6.cell hlt)
          have k0 : ∀ q : Cls w6, q.w.cell? ⟨nb, 0, none⟩ = some (.int .i64 pk) := fun q => (Bc q.b nbl).trans n0
          have k4 : ∀ q : Cls w6, q.w.cell? ⟨nb, 4, none⟩ = some (.slice Aw wt.length cw) := fun q => (Bc q.b nbl).trans n4
          have kp0 : ∀ q : Cls w6, q.w.cell? ⟨w.heap.size, 0, none⟩ = some (.int .i64 n) := fun q => (Bc (Bt B6.out q.b) s1).trans C0.out
          have kp1 : ∀ q : Cls w6, q.w.cell? ⟨w.heap.size, 1, none⟩ = some (.slice As ws.length cs) := fun q => (Bc (Bt B6.out q.b) s1).trans C1.out
          have btk : tk.getD i 0 < 4294967296 := HTk.out _ (by rw [List.getD_eq_getElem?_getD, List.getElem?_eq_getElem (by omega)]; exact List.getElem_mem _)
          have bot : ot.getD i 0 < 4294967296 := HOt.out _ (by rw [List.getD_eq_getElem?_getD, List.getElem?_eq_getElem (by omega)]; exact List.getElem_mem _)
          by_cases hz : ys = 0 ∧ no = 0
          · obtain ⟨rfl, rfl⟩ := hz
            have HC : Hid (∀ q : Cls w6, Calls Tryd.prog 95 #[.agg #[.int .i64 n, .slice As ws.length cs], .int .i64 size, .slice Aw wt.length cw, .int .u64 ((tk.getD i 0 : Nat) : Int), .int .u64 ((ot.getD i 0 : Nat) : Int)] q.w fun e w' => e = .returned (.bool (Hit.leafR ws size wt (tk.getD i 0) (ot.getD i 0))) ∧ ∃ r : Cls w6, w' = r.w) := fun q =>
              (HLLF.out _ _ btk bot q.w (Bt HB1.out (Bt B6.out q.b))).mono fun e w' ⟨q1, q2⟩ => ⟨q1, Cls.mk' (Bt q.b q2), rfl⟩
            have hll := HLL.out ⟨rfl, rfl⟩
            have HT6 := Lib.hid T6
            have HO6 := Lib.hid O6
            have HR6 := Lib.hid R6
            generalize tk.getD i 0 = tki at *
            generalize ot.getD i 0 = oti at *
            clear T6 O6 R6
            cases hlf : Hit.leafR ws size wt tki oti with
            | false =>
              as_aux_lemma =>
              rw [hlf] at hll HC
              have HFIN := Lib.hid hll
              clear hll hlf
              go_wp2_with fail
              refine wp_region_class_lit (C := fun w' => ∃ q : Cls w6, w' = q.w) (by kernel_rfl) (by kernel_rfl) ⟨Cls.mk' (B0 w6).drew, rfl⟩ ?_
              repeat (any_goals (first | go_big_quiet_step ((go_at_call 95; with_reducible exact HC.out _)) | quiet_step ((go_at_call 95; with_reducible exact HC.out _))))
              refine wpQuiet_nil ?_
              rintro _ ⟨q, rfl⟩
              have B5 := Lib.hid (Bt HB1.out (Bt B6.out q.b))
              clear kT kO k0 k4 kp0 kp1
              generalize q.w = w5 at *
              go_wp2
              go_ret
              exact ⟨by rw [HFIN.out]; rfl, B5.out⟩
            | true =>
              as_aux_lemma =>
              rw [hlf, Bool.true_and] at hll
              rw [hlf] at HC
              have HG2 := Lib.hid hll.symm
              clear hll hlf
              go_wp2_with fail
              refine wp_region_class_lit (C := fun w' => ∃ q : Cls w6, w' = q.w) (by kernel_rfl) (by kernel_rfl) ⟨Cls.mk' (B0 w6).drew, rfl⟩ ?_
              repeat (any_goals (first | go_big_quiet_step ((go_at_call 95; with_reducible exact HC.out _)) | quiet_step ((go_at_call 95; with_reducible exact HC.out _))))
              refine wpQuiet_nil ?_
              rintro _ ⟨q, rfl⟩
              have B5 := Lib.hid (Bt B6.out q.b)
              have T5 := Lib.hid (HT6.out.of_block (q.b.block _ lT))
              have O5 := Lib.hid (HO6.out.of_block (q.b.block _ lO))
              have R5 := Lib.hid (HR6.out.of_block (q.b.block _ lR))
              clear kT kO k0 k4 kp0 kp1
              generalize q.w = w5 at *
              go_wp2
              go_roundg (t.length - (i + 1))
              case measure => omega
              case rel => exact ⟨i + 1, tk, ot, re, by omega, by omega, by go_num, ltk, lot, lre, HTk, HOt, HG2.out, T5.out, O5.out, R5.out, B5.out⟩
          · have hLK := fun hb => HLK.out hz hb
            have hLP := fun hb hp => HLP.out hz hb hp
            have hLO := fun hb hp => HLO.out hz hb hp
            unfold Hit.BadKids at hLK hLP hLO
            dsimp only at hLK hLP hLO
            have HK2 := Lib.hid hLK
            have HP2 := Lib.hid hLP
            have HO2 := Lib.hid hLO
            have hyz : ys = 0 → (no == 0) = false := fun h => by simp; exact fun h2 => hz ⟨h, h2⟩
            clear hLK hLP hLO
            have hz2 : ((ys == 0) = true ∧ (no == 0) = false) ∨ (ys == 0) = false := by
              by_cases h : ys = 0
              · exact .inl ⟨by simp [h], hyz h⟩
              · exact .inr (by simp [h])
            clear hyz hz
            by_cases hb1 : ys ≤ i ∨ no ≤ i ∨ ys ≥ t.length ∨ no ≥ t.length ∨ ys = no
            · have hfin := HK2.out (by rcases hb1 with h | h | h | h | h <;> simp [h])
              have HFIN := Lib.hid hfin
              clear hfin
              have hq : decide (ys ≤ (i : Int)) = true ∨ (decide (ys ≤ (i : Int)) = false ∧ decide (no ≤ (i : Int)) = true) ∨ (decide (ys ≤ (i : Int)) = false ∧ decide (no ≤ (i : Int)) = false ∧ decide ((t.length : Int) ≤ ys) = true) ∨
                  (decide (ys ≤ (i : Int)) = false ∧ decide (no ≤ (i : Int)) = false ∧ decide ((t.length : Int) ≤ ys) = false ∧ decide ((t.length : Int) ≤ no) = true) ∨
                  (decide (ys ≤ (i : Int)) = false ∧ decide (no ≤ (i : Int)) = false ∧ decide ((t.length : Int) ≤ ys) = false ∧ decide ((t.length : Int) ≤ no) = false ∧ (ys == no) = true) := by
                simp only [decide_eq_true_eq, decide_eq_false_iff_not, beq_iff_eq]; omega
              clear hb1
              have B5 := Lib.hid (Bt HB1.out B6.out)
              clear kT kO k0 k4 kp0 kp1 T6 O6 R6 n0 n4
              rcases hz2 with ⟨hz2, hz3⟩ | hz2 <;> rcases hq with hq | ⟨hq1, hq2⟩ | ⟨hq1, hq2, hq3⟩ | ⟨hq1, hq2, hq3, hq4⟩ | ⟨hq1, hq2, hq3, hq4, hq5⟩
              all_goals
                as_aux_lemma =>
                go_wp2_with fail
                go_ret
                exact ⟨by rw [HFIN.out]; rfl, B5.out⟩
            · obtain ⟨y, hy⟩ : ∃ y : Nat, ys = y := ⟨ys.toNat, by omega⟩
              obtain ⟨m, hm⟩ : ∃ m : Nat, no = m := ⟨no.toNat, by omega⟩
              subst hy
              subst hm
              simp only [Int.toNat_natCast] at HK2 HP2 HO2
              have hyl : y < t.length := by omega
              have hml : m < t.length := by omega
              have hym : y ≠ m := by omega
              have hyi : i < y := by omega
              have hmi : i < m := by omega
              have hyI : (y : Int) < t.length := by omega
              have hmI : (m : Int) < t.length := by omega
              have a1 : decide ((y : Int) ≤ (i : Int)) = false := decide_eq_false (by omega)
              have a2 : decide ((m : Int) ≤ (i : Int)) = false := decide_eq_false (by omega)
              have a3 : decide ((t.length : Int) ≤ y) = false := decide_eq_false (by omega)
              have a4 : decide ((t.length : Int) ≤ m) = false := decide_eq_false (by omega)
              have a1n : decide (y ≤ i) = false := decide_eq_false (by omega)
              have a2n : decide (m ≤ i) = false := decide_eq_false (by omega)
              have a3n : decide (t.length ≤ y) = false := decide_eq_false (by omega)
              have a4n : decide (t.length ≤ m) = false := decide_eq_false (by omega)
              have a5 : ((y : Int) == (m : Int)) = false := by simp; omega
              have a5n : (y == m) = false := by simp; omega
              have cy := R6.cell hyl
              have cm := R6.cell hml
              have HT6 := Lib.hid T6
              have HO6 := Lib.hid O6
              have HR6 := Lib.hid R6
              have hnb : ¬ ((y : Int) ≤ i ∨ (m : Int) ≤ i ∨ (y : Int) ≥ t.length ∨ (m : Int) ≥ t.length ∨ (y : Int) = m) := hb1
              clear T6 O6 R6 hb1
              have z1 : ((y : Int) == 0) = false := by simp; omega
              have z1n : (y == 0) = false := by simp; omega
              clear hz2
              by_cases hre2 : re.getD y false = true ∨ re.getD m false = true
              · have hfin := HK2.out (by rcases hre2 with h | h <;> simp only [h, or_true, true_or])
                have HFIN := Lib.hid hfin
                clear hfin
                have B5 := Lib.hid (Bt HB1.out B6.out)
                have hq : re.getD y false = true ∨ (re.getD y false = false ∧ re.getD m false = true) := by
                  by_cases h : re.getD y false = true
                  · exact .inl h
                  · exact .inr ⟨by simpa using h, hre2.resolve_left h⟩
                clear kT kO k0 k4 kp0 kp1 n0 n4 hre2 hnb
                rcases hq with hq | ⟨hq1, hq2⟩
                · as_aux_lemma =>
                  rw [hq] at cy
                  clear hq cm
                  go_wp2_with fail
                  go_ret
                  exact ⟨by rw [HFIN.out]; rfl, B5.out⟩
                · as_aux_lemma =>
                  rw [hq1] at cy
                  rw [hq2] at cm
                  clear hq1 hq2
                  go_wp2_with fail
                  go_ret
                  exact ⟨by rw [HFIN.out]; rfl, B5.out⟩
              · have q1 : re.getD y false = false := by
                  cases h : re.getD y false with
                  | false => rfl
                  | true => exact absurd (.inl h) hre2
                have q2 : re.getD m false = false := by
                  cases h : re.getD m false with
                  | false => rfl
                  | true => exact absurd (.inr h) hre2
                have hnb2 : ¬ ((y : Int) ≤ i ∨ (m : Int) ≤ i ∨ (y : Int) ≥ t.length ∨ (m : Int) ≥ t.length ∨ (y : Int) = m ∨ re.getD y false = true ∨ re.getD m false = true) := by
                  rw [q1, q2]; simp; omega
                have hLP := HP2.out hnb2
                have hLO := HO2.out hnb2
                have HP3 := Lib.hid hLP
                have HO3 := Lib.hid hLO
                rw [q1] at cy
                rw [q2] at cm
                clear hLP hLO q1 q2 hre2 hnb hnb2 HK2 HLK HLP HLO HP2 HO2
                by_cases hp0 : pk < 0 ∨ pk ≥ n
                · have hfin := HP3.out (by rcases hp0 with h | h <;> simp [h])
                  have HFIN := Lib.hid hfin
                  clear hfin
                  have hq : decide (pk < 0) = true ∨ (decide (pk < 0) = false ∧ decide ((n : Int) ≤ pk) = true) := by
                    simp only [decide_eq_true_eq, decide_eq_false_iff_not]; omega
                  clear hp0
                  rcases hq with hq | ⟨hq1, hq2⟩
                  all_goals
                    as_aux_lemma =>
                    go_wp2_with fail
                    refine wp_region_class_lit (C := fun w' => ∃ q : Cls w6, w' = q.w) (by kernel_rfl) (by kernel_rfl) ⟨Cls.mk' (B0 w6).drew, rfl⟩ ?_
                    repeat (any_goals (first | go_big_quiet_step (fail) | quiet_step (fail)))
                    refine wpQuiet_nil ?_
                    rintro _ ⟨q, rfl⟩
                    have B5 := Lib.hid (Bt HB1.out (Bt B6.out q.b))
                    clear kT kO k0 k4 kp0 kp1
                    generalize q.w = w5 at *
                    go_wp2
                    go_ret
                    exact ⟨by rw [HFIN.out]; rfl, B5.out⟩
                · obtain ⟨p, hp⟩ : ∃ p : Nat, pk = p := ⟨pk.toNat, by omega⟩
                  subst hp
                  rw [Int.toNat_natCast] at HP3 HO3
                  have hpn : p < n := by omega
                  have b1 : decide ((p : Int) < 0) = false := decide_eq_false (by omega)
                  have b2 : decide ((n : Int) ≤ (p : Int)) = false := decide_eq_false (by omega)
                  have b2n : decide (n ≤ p) = false := decide_eq_false (by omega)
                  have h3 : ((p : Nat) : Int) % 18446744073709551616 = p := by omega
                  have h4 : min p 64 = p := by omega
                  generalize htki : tk.getD i 0 = tki at *
                  generalize hoti : ot.getD i 0 = oti at *
                  have HTKI := Lib.hid htki
                  have HOTI := Lib.hid hoti
                  have hto : tki ||| oti < 4294967296 := Hit.or_lt (k := 32) btk bot
                  have hor := Hit.u64_or tki oti (by omega) (by omega)
                  obtain ⟨v, hv⟩ : ∃ v, tki ||| oti = v := ⟨_, rfl⟩
                  rw [hv] at hto hor HP3 HO3
                  have hsh := shr_of v p (by omega)
                  have hle : v >>> p ≤ v := by rw [Nat.shiftRight_eq_div_pow]; exact Nat.div_le_self _ _
                  have hand : bits .and .u64 ((v >>> p : Nat) : Int) 1 = ((v >>> p &&& 1 : Nat) : Int) := Hit.u64_and (v >>> p) 1 (by omega) (by omega)
                  have hbit := bit_of v p
                  generalize v >>> p &&& 1 = vb at *
                  generalize v >>> p = vs at *
                  clear hle hv hto htki hoti
                  by_cases hbt : v.testBit p = true
                  · as_aux_lemma =>
                    have hfin := HP3.out (.inr (.inr hbt))
                    have HFIN := Lib.hid hfin
                    rw [hbt] at hbit
                    clear hfin hbt
                    go_wp2_with fail
                    refine wp_region_class_lit (C := fun w' => ∃ q : Cls w6, w' = q.w) (by kernel_rfl) (by kernel_rfl) ⟨Cls.mk' (B0 w6).drew, rfl⟩ ?_
                    repeat (any_goals (first | go_big_quiet_step (fail) | quiet_step (fail)))
                    refine wpQuiet_nil ?_
                    rintro _ ⟨q, rfl⟩
                    have B5 := Lib.hid (Bt HB1.out (Bt B6.out q.b))
                    clear kT kO k0 k4 kp0 kp1
                    generalize q.w = w5 at *
                    go_wp2
                    go_ret
                    exact ⟨by rw [HFIN.out]; rfl, B5.out⟩
                  · as_aux_lemma =>
                    have hbf : v.testBit p = false := by simpa using hbt
                    have hgo := (HO3.out (by rw [hbf]; simp; omega)).symm
                    have HG2 := Lib.hid hgo
                    rw [hbf] at hbit
                    clear hgo hbf hbt HP3 HO3
                    go_wp2_with fail
                    refine wp_region_class_lit (C := fun w' => ∃ q : Cls w6, w' = q.w) (by kernel_rfl) (by kernel_rfl) ⟨Cls.mk' (B0 w6).drew, rfl⟩ ?_
                    repeat (any_goals (first | go_big_quiet_step (fail) | quiet_step (fail)))
                    refine wpQuiet_nil ?_
                    rintro _ ⟨q, rfl⟩
                    have B5 := Lib.hid (Bt B6.out q.b)
                    have T5 := HT6.out.of_block (q.b.block _ lT)
                    have O5 := HO6.out.of_block (q.b.block _ lO)
                    have R5 := HR6.out.of_block (q.b.block _ lR)
                    have m0 := k0 q
                    have m1 := (Bc q.b nbl).trans n1
                    have m2 := (Bc q.b nbl).trans n2
                    have nbq := Nat.lt_of_lt_of_le nbl q.b.size
                    clear kT kO k0 k4 kp0 kp1 n0 n1 n2 n4 B6 lT lO lR HT6 HO6 HR6 cy cm
                    generalize q.w = w5 at *
                    have f7 := T5.frozen
                    have f8 := O5.frozen
                    have f9 := R5.frozen
                    have cT : w5.cell? ⟨b7, i, none⟩ = some (.int .u64 (tki : Int)) := by rw [← HTKI.out]; exact T5.cell hlt
                    have cO : w5.cell? ⟨b8, i, none⟩ = some (.int .u64 (oti : Int)) := by rw [← HOTI.out]; exact O5.cell hlt
                    have cTy := T5.cell hyl
                    have cOy := O5.cell hyl
                    have cRy := R5.cell hyl
                    have cTm := T5.cell hml
                    have cOm := O5.cell hml
                    have cRm := R5.cell hml
                    have M0 := Lib.hid m0
                    have M1 := Lib.hid m1
                    have M2 := Lib.hid m2
                    have T5h := Lib.hid T5
                    have O5h := Lib.hid O5
                    have R5h := Lib.hid R5
                    clear T5 O5 R5 f7 f8 f9 cT cO cTy cOy cRy cTm cOm cRm
                    go_upto_region 15 with fail
                    go_cut [] from 132 to 139 (fun wx => wx.rowIs b7 73 t.length (fun j => .int .u64 ((tk.getD j 0 : Nat) : Int)) ∧ wx.rowIs b8 73 t.length (fun j => .int .u64 ((ot.getD j 0 : Nat) : Int)) ∧ wx.rowIs b9 4 t.length (fun j => .bool (((re.set y true).set m true).getD j false)) ∧
                      wx.cell? ⟨nb, 0, none⟩ = some (.int .i64 p) ∧ wx.cell? ⟨nb, 1, none⟩ = some (.int .i64 y) ∧ wx.cell? ⟨nb, 2, none⟩ = some (.int .i64 m) ∧ Below w1.heap.size w1 wx ∧ nb < wx.heap.size)
                    case first =>
                      as_aux_lemma =>
                      have fr := R5h.out.frozen
                      have cy := R5h.out.cell hyl
                      have cm := R5h.out.cell hml
                      go_region
                      go_wp2_with fail
                      go_meet
                      exact ⟨(T5h.out.setOther (a := ⟨b9, y, none⟩) n79 _).setOther (a := ⟨b9, m, none⟩) n79 _, (O5h.out.setOther (a := ⟨b9, y, none⟩) n89 _).setOther (a := ⟨b9, m, none⟩) n89 _, row_set (f := Value.bool) (row_set (f := Value.bool) R5h.out lre y true) (by rw [List.length_set]; exact lre) m true,
                        (set2_other _ _ _ e9.symm e9.symm).trans M0.out, (set2_other _ _ _ e9.symm e9.symm).trans M1.out, (set2_other _ _ _ e9.symm e9.symm).trans M2.out, (Bs (Bs B5.out _ q9) _ q9).drew, by simp; exact nbq⟩
                    case rest =>
                      as_aux_lemma =>
                      obtain ⟨T6, O6, R6, m0, m1, m2, B6, nb6⟩ := hcut
                      clear M0 M1 M2 T5h O5h R5h B5 nbq
                      have M0 := Lib.hid m0
                      have M1 := Lib.hid m1
                      have M2 := Lib.hid m2
                      have T6h := Lib.hid T6
                      have O6h := Lib.hid O6
                      have R6h := Lib.hid R6
                      have B6h := Lib.hid B6
                      clear T6 O6 R6 B6
                      have two := Hit.two_u64w p (by omega)
                      have bp : Hit.bit p < 4294967296 := Hit.bit_lt (k := 32) (by omega)
                      have btp : tki ||| Hit.bit p < 4294967296 := Hit.or_lt (k := 32) btk bp
                      have bop : oti ||| Hit.bit p < 4294967296 := Hit.or_lt (k := 32) bot bp
                      have ort := Hit.u64_or tki (Hit.bit p) (by omega) (by omega)
                      have oro := Hit.u64_or oti (Hit.bit p) (by omega) (by omega)
                      rw [← two] at ort oro
                      generalize tki ||| Hit.bit p = tkp at *
                      generalize oti ||| Hit.bit p = otp at *
                      clear two bp
                      go_upto_region 16 with fail
                      go_cut [] from 140 to 160 (fun wx => wx.rowIs b7 73 t.length (fun j => .int .u64 (((tk.set y tkp).getD j 0 : Nat) : Int)) ∧ wx.rowIs b8 73 t.length (fun j => .int .u64 (((ot.set y oti).getD j 0 : Nat) : Int)) ∧ wx.rowIs b9 4 t.length (fun j => .bool (((re.set y true).set m true).getD j false)) ∧
                        wx.cell? ⟨nb, 0, none⟩ = some (.int .i64 p) ∧ wx.cell? ⟨nb, 1, none⟩ = some (.int .i64 y) ∧ wx.cell? ⟨nb, 2, none⟩ = some (.int .i64 m) ∧ Below w1.heap.size w1 wx ∧ nb < wx.heap.size)
                      case first =>
                        as_aux_lemma =>
                        have f7 := T6h.out.frozen
                        have f8 := O6h.out.frozen
                        have cT : wc.cell? ⟨b7, i, none⟩ = some (.int .u64 (tki : Int)) := by rw [← HTKI.out]; exact T6h.out.cell hlt
                        have cO : wc.cell? ⟨b8, i, none⟩ = some (.int .u64 (oti : Int)) := by rw [← HOTI.out]; exact O6h.out.cell hlt
                        have cTy := T6h.out.cell hyl
                        have cOy := O6h.out.cell hyl
                        go_region
                        go_wp2_with fail
                        go_meet
                        exact ⟨(row_set (f := fun z : Nat => Value.int .u64 (z : Int)) T6h.out ltk y tkp).setOther (a := ⟨b8, y, none⟩) n78 _, row_set (f := fun z : Nat => Value.int .u64 (z : Int)) (O6h.out.setOther (a := ⟨b7, y, none⟩) n78.symm (.int .u64 (tkp : Int))) lot y oti, (R6h.out.setOther (a := ⟨b7, y, none⟩) n79.symm _).setOther (a := ⟨b8, y, none⟩) n89.symm _,
                          (set2_other _ _ _ e7.symm e8.symm).trans M0.out, (set2_other _ _ _ e7.symm e8.symm).trans M1.out, (set2_other _ _ _ e7.symm e8.symm).trans M2.out, (Bs (Bs B6h.out _ q7) _ q8).drew, by simp; exact nb6⟩
                      case rest =>
                        as_aux_lemma =>
                        obtain ⟨T7, O7, R7, k0, k1, k2, B7, nb7⟩ := hcut
                        clear M0 M1 M2 T6h O6h R6h B6h nb6 m0 m1 m2
                        have T7h := Lib.hid T7
                        have O7h := Lib.hid O7
                        have R7h := Lib.hid R7
                        have B7h := Lib.hid B7
                        clear T7 O7 R7 B7
                        have hiy : i ≠ y := by omega
                        go_upto_region 17 with fail
                        have f7 := T7h.out.frozen
                        have f8 := O7h.out.frozen
                        have cT : wc.cell? ⟨b7, i, none⟩ = some (.int .u64 (tki : Int)) := by
                          rw [← HTKI.out]
                          have := T7h.out.cell hlt
                          rwa [List.getD_eq_getElem?_getD, List.getElem?_set_ne hiy.symm, ← List.getD_eq_getElem?_getD] at this
                        have cO : wc.cell? ⟨b8, i, none⟩ = some (.int .u64 (oti : Int)) := by
                          rw [← HOTI.out]
                          have := O7h.out.cell hlt
                          rwa [List.getD_eq_getElem?_getD, List.getElem?_set_ne hiy.symm, ← List.getD_eq_getElem?_getD] at this
                        have cTm := T7h.out.cell hml
                        have cOm := O7h.out.cell hml
                        generalize (tk.set y tkp).getD m 0 = zz1 at *
                        generalize (ot.set y oti).getD m 0 = zz2 at *
                        go_region
                        have T8 := (row_set (f := fun z : Nat => Value.int .u64 (z : Int)) T7h.out (by rw [List.length_set]; exact ltk) m tki).setOther (a := ⟨b8, m, none⟩) n78 (.int .u64 (otp : Int))
                        have O8 := row_set (f := fun z : Nat => Value.int .u64 (z : Int)) (O7h.out.setOther (a := ⟨b7, m, none⟩) n78.symm (.int .u64 (tki : Int))) (by rw [List.length_set]; exact lot) m otp
                        have R8 := (R7h.out.setOther (a := ⟨b7, m, none⟩) n79.symm (.int .u64 (tki : Int))).setOther (a := ⟨b8, m, none⟩) n89.symm (.int .u64 (otp : Int))
                        have B8 := Bs (Bs B7h.out (.int .u64 (tki : Int)) (p := ⟨b7, m, none⟩) q7) (.int .u64 (otp : Int)) (p := ⟨b8, m, none⟩) q8
                        have T8h := Lib.hid T8.drew
                        have O8h := Lib.hid O8.drew
                        have R8h := Lib.hid R8.drew
                        have B8h := Lib.hid B8.drew
                        clear T8 O8 R8 B8 k0 k1 k2 T7h O7h R7h B7h f7 f8 cT cO cTm cOm
                        generalize ((wc.setCell ⟨b7, m, none⟩ (.int .u64 (tki : Int))).setCell ⟨b8, m, none⟩ (.int .u64 (otp : Int))).drew = w8 at *
                        go_wp2
                        go_roundg (t.length - (i + 1))
                        case measure => omega
                        case rel => exact ⟨i + 1, (tk.set y tkp).set m tki, (ot.set y oti).set m otp, (re.set y true).set m true, by omega, by omega, by go_num, by simp [ltk], by simp [lot], by simp [lre], mem_set2 HTk.out btp btk, mem_set2 HOt.out bot bop, HG2.out, T8h.out, O8h.out, R8h.out, B8h.out⟩
      · as_aux_lemma =>
        have hki : decide ((i : Int) < t.length) = false := decide_eq_false (by omega)
        have : i = t.length := by omega
        subst this
        rw [Hit.treeGo_end] at HGo
        have HG2 := Lib.hid HGo
        have B5 := Lib.hid (Bt HB1.out HB.out)
        clear HGo
        go_wp2_with fail
        go_ret
        exact ⟨by rw [← HG2.out]; rfl, B5.out⟩
end Go.Proofs.YthgjhfapnilfhaaDoor
