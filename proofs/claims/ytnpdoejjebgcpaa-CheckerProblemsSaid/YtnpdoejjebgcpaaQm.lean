/- Walks over the statements of checker: covers. -/
import Derived.Test.YtnpdoejjebgcpaaQl
namespace Go.Proofs.Ytnpdoejjebgcpaa
open Go Go.RowKit
theorem BD_drew {w : World} {z g tb base k : Nat} {AS : Option Addr} {cS : Nat} {us : List Value} {AC : Option Addr} {cC : Nat} {xs : List Value} {u : Value} {ck : Int} {gs : Array Value} {L : Nat → Bool} {w1 : World} (h : BD w z g tb base k AS cS us AC cC xs u ck gs L w1) : BD w z g tb base k AS cS us AC cC xs u ck gs L w1.drew :=
  ⟨only_drew h.1, h.2.1, h.2.2.1, h.2.2.2.1, h.2.2.2.2.1, h.2.2.2.2.2⟩
set_option maxRecDepth 200000 in
set_option maxHeartbeats 8000000 in
theorem covers_any (n cost : Int) (vs : Value) (Al At : Option Addr) (ml cl mt ct : Nat) (ls : List (List Int × Int)) (hll : ls.length ≤ 100) (b : Bool) (vf : Int) (hq : (b = true ∧ (vf == 0) = true) ∨ (b = false ∧ (vf == 0) = false)) (w : World) (F : Nat → Prop) (hF : ∀ b, F b → b < w.heap.size) (hr : SlS F w vs ls)
    (hV : ∀ W, Below w.heap.size w W → Calls Try.prog 18 #[.agg #[.int .i64 n, vs], .agg #[.slice Al ml cl, .int .i64 cost, .slice At mt ct]] W fun e w' => e = .returned (.int .i64 vf) ∧ Below W.heap.size W w')
    (hC : ∀ W vS vC, Below w.heap.size w W → SlII (fun b => b < W.heap.size) W vS (ls.map (·.1)) → SlI (fun b => b < W.heap.size) W vC (ls.map (·.2)) → Calls Try.prog 17 #[.agg #[.int .i64 n, vS, vC, .slice Al ml cl, .int .i64 cost, .slice At mt ct]] W fun e w' => e = .returned (.bool b) ∧ Below W.heap.size W w') :
    Calls Try.prog 8 #[.agg #[.int .i64 n, vs], .agg #[.slice Al ml cl, .int .i64 cost, .slice At mt ct]] w fun e w' => e = .returned (.bool true) ∧ Below w.heap.size w w' := by
  obtain ⟨As, cs, rfl, _, _, hat⟩ := hr.open
  have HV := Lib.hid hV
  have HC := Lib.hid hC
  have HQ := Lib.hid hq
  clear hr hV hC hq
  go_enter Try.func8, Try.ntmps8
  go_wp2_with fail
  obtain ⟨w1, hw1⟩ : ∃ w1 : World, ((w.alloc (.cells #[.int .i64 n, .slice As ls.length cs] 36)).alloc (.cells #[.slice Al ml cl, .int .i64 cost, .slice At mt ct] 46)).alloc (.cells #[.int .i64 n, .slice none 0 0, .slice none 0 0, .slice Al ml cl, .int .i64 cost, .slice At mt ct] 65) = w1 := ⟨_, rfl⟩
  have p0 : w1.cell? ⟨w.heap.size, 0, none⟩ = some (.int .i64 n) := by rw [← hw1]; simp [go_sem]
  have p1 : w1.cell? ⟨w.heap.size, 1, none⟩ = some (.slice As ls.length cs) := by rw [← hw1]; simp [go_sem]
  have q0 : w1.cell? ⟨w.heap.size + 1, 0, none⟩ = some (.slice Al ml cl) := by rw [← hw1]; simp [go_sem]
  have q1 : w1.cell? ⟨w.heap.size + 1, 1, none⟩ = some (.int .i64 cost) := by rw [← hw1]; simp [go_sem]
  have q2 : w1.cell? ⟨w.heap.size + 1, 2, none⟩ = some (.slice At mt ct) := by rw [← hw1]; simp [go_sem]
  have hblk : Blk w1 (w.heap.size + 1 + 1) 65 #[.int .i64 n, .slice none 0 0, .slice none 0 0, .slice Al ml cl, .int .i64 cost, .slice At mt ct] := by
    have := Blk.new ((w.alloc (.cells #[.int .i64 n, .slice As ls.length cs] 36)).alloc (.cells #[.slice Al ml cl, .int .i64 cost, .slice At mt ct] 46)) 65 #[.int .i64 n, .slice none 0 0, .slice none 0 0, .slice Al ml cl, .int .i64 cost, .slice At mt ct]
    rw [hw1] at this
    simpa using this
  have HB1 : Hid (Below w.heap.size w w1) := Lib.hid (by rw [← hw1]; exact Ba (Ba (Ba (B0 w) _) _) _)
  have l1 : w.heap.size + 1 + 1 < w1.heap.size := hblk.lt
  have hsz1 : w1.heap.size = w.heap.size + 3 := by rw [← hw1]; simp
  rw [hw1]
  clear hw1
  obtain ⟨g, hg⟩ : ∃ g, w.heap.size + 1 + 1 = g := ⟨_, rfl⟩
  rw [hg] at hblk l1 ⊢
  have hst : DSt g w1.heap.size 0 n cost (.slice Al ml cl) (.slice At mt ct) ls w w1 F none 0 [] none 0 w1 := ⟨hblk, .inl ⟨rfl, rfl, rfl⟩, trivial, .inl ⟨rfl, rfl, rfl⟩, only_of_below (B0 w1) _⟩
  have HST := Lib.hid hst
  clear hst hblk
  go_loopg [21] ls.length (fun gg s21 wr => ∃ k : Nat, k ≤ ls.length ∧ ls.length - k ≤ gg ∧ s21 = .int .i64 k ∧ Aside (∃ AS cS us AC cC, DSt g w1.heap.size k n cost (.slice Al ml cl) (.slice At mt ct) ls w w1 F AS cS us AC cC wr))
  case atStart => exact ⟨0, by omega, by omega, rfl, ⟨_, _, _, _, _, HST.out⟩⟩
  case round =>
    obtain ⟨k, hk, hgg, rfl, HD⟩ := hrel
    by_cases hlt : k < ls.length
    · have hki : decide ((k : Int) < ls.length) = true := decide_eq_true (by omega)
      have hkI : (k : Int) < ls.length := by omega
      obtain ⟨AS, cS, us, AC, cC, hD⟩ := HD.out
      obtain ⟨ad, vw, rfl, hf, hu, hfl⟩ := hat k hlt
      have hbel : Below w.heap.size w wr := HB1.out.grown hD.bel HB1.out.size (fun k hk => by injection hk with hk; omega)
      have hfl' := hfl.keep (Agree.below hbel hF) (by rw [block_of_add]; exact hf)
      have r0 := hfl'.f0 rfl
      have r1 := hfl'.f1 rfl
      obtain ⟨Au, cu, rfl, hx1⟩ := id hu.open
      clear hx1 hfl hfl'
      have hus : us.length = k := by
        have := hD.vals.len
        simp at this; omega
      have hgl : g < wr.heap.size := hD.blk.lt
      have HU := Lib.hid hu
      have HDD := Lib.hid hD
      clear hu hD
      generalize ls[k].1.length = lu at *
      go_upto_region 5 with fail
      obtain ⟨ck, hck⟩ : ∃ ck, ls[k].2 = ck := ⟨_, rfl⟩
      obtain ⟨w5, hw5⟩ : ∃ w5 : World, wr.alloc (.cells #[.slice Au lu cu, .int .i64 ls[k].2] 40) = w5 := ⟨_, rfl⟩
      have hbw5 : Below wr.heap.size wr w5 := by rw [← hw5]; exact Ba (B0 wr) _
      have ht5 : Blk w5 wr.heap.size 40 #[.slice Au lu cu, .int .i64 ls[k].2] := by rw [← hw5]; exact Blk.new _ _ _
      rw [hw5]
      rw [hck] at ht5 r1 ⊢
      clear hw5
      have hxs : (cellsV vI ((ls.take k).map (·.2))).length = k := by simp [cellsV]; omega
      have hwl : w1.heap.size ≤ wr.heap.size := HDD.out.bel.size
      obtain ⟨tb, htb⟩ : ∃ tb, wr.heap.size = tb := ⟨_, rfl⟩
      rw [htb] at ht5 ⊢
      obtain ⟨z, hz⟩ : ∃ z, w5.heap.size = z := ⟨_, rfl⟩
      have hzS : 0 < k → ∀ c, (Value.slice AS k cS).ownBlock = some c → c < z := by rw [← hz]; exact (HDD.out.ownS.below hbw5).lt
      have h0 : BD w1 z g tb w1.heap.size k AS cS us AC cC (cellsV vI ((ls.take k).map (·.2))) (.slice Au lu cu) ck #[.int .i64 n, .slice AS k cS, .slice AC k cC, .slice Al ml cl, .int .i64 cost, .slice At mt ct] (fun _ => false) w5 :=
        ⟨HDD.out.bel.on hbw5, ⟨Nat.le_trans hwl hbw5.size, by omega⟩, HDD.out.blk.below hbw5 HDD.out.blk.lt, ht5, fun _ => HDD.out.ownS.below hbw5, fun _ => HDD.out.ownC.below hbw5⟩
      have H0 := Lib.hid h0
      clear h0 ht5 hbw5 htb r0 r1 hat HV HC HQ
      obtain ⟨xs, hxsd⟩ : ∃ xs, cellsV vI ((ls.take k).map (·.2)) = xs := ⟨_, rfl⟩
      rw [hxsd] at H0 hxs
      refine region_blocks (by kernel_rfl) ?_
      refine from_lawG 13 ED (BD w1 z g tb w1.heap.size k AS cS us AC cC xs (.slice Au lu cu) ck #[.int .i64 n, .slice AS k cS, .slice AC k cC, .slice Al ml cl, .int .i64 cost, .slice At mt ct]) (FD z g tb w1.heap.size k AS cS us AC cC xs (.slice Au lu cu) ck) VD (by kernel_rfl) rfl FD_V (by kernel_rfl) (by kernel_rfl) (BD_drew H0.out) ⟨?_, ?_, ?_, ?_, ?_, ?_, ?_, ?_, ?_, ?_, ?_, ?_, ?_, trivial⟩ ?_
      · refine OpFactG.value FD_below BD_below fun L a w2 hl hf D hb => ?_
        have h5 : sl a 5 = .pointer (some ⟨g, 0, none⟩) := hf 5 (by kernel_rfl)
        refine ⟨.pointer (some ⟨g, 1, none⟩), w2, ?_, B0 _, fun s _ h => h 25 rfl⟩
        unfold sl at h5
        simp [go_sem, h5]
      · refine OpFactG.value FD_below BD_below fun L a w2 hl hf D hb => ?_
        have h5 : sl a 25 = .pointer (some ⟨g, 1, none⟩) := D 0 (by kernel_rfl)
        refine ⟨.slice AS k cS, w2, ?_, B0 _, fun s _ h => h 26 rfl⟩
        have kq := hb.2.2.1.cell 1
        unfold sl at h5
        simp at h5 kq
        simp [go_sem, h5, kq]
      · refine OpFactG.value FD_below BD_below fun L a w2 hl hf D hb => ?_
        have h5 : sl a 7 = .pointer (some ⟨tb, 0, none⟩) := hf 7 (by kernel_rfl)
        refine ⟨.pointer (some ⟨tb, 0, none⟩), w2, ?_, B0 _, fun s _ h => h 27 rfl⟩
        unfold sl at h5
        simp [go_sem, h5]
      · refine OpFactG.value FD_below BD_below fun L a w2 hl hf D hb => ?_
        have h5 : sl a 27 = .pointer (some ⟨tb, 0, none⟩) := D 2 (by kernel_rfl)
        refine ⟨.slice Au lu cu, w2, ?_, B0 _, fun s _ h => h 28 rfl⟩
        have kq := hb.2.2.2.1.cell 0
        unfold sl at h5
        simp at h5 kq
        simp [go_sem, h5, kq]
      · refine OpFactG.value FD_below BD_below fun L a w2 hl hf D hb => ?_
        have h5 : sl a 28 = .slice Au lu cu := D 3 (by kernel_rfl)
        refine ⟨.slice (some ⟨w2.heap.size, 0, none⟩) 1 1, w2.alloc (.cells #[.slice Au lu cu] 26), ?_, Ba (B0 _) _, fun s _ h => ⟨_, h 29 rfl, Blk.new _ _ _, hb.2.1.2⟩⟩
        unfold sl at h5
        simp at h5
        simp [go_sem, h5]
      · refine OpFactG.write fun L a w2 hl hf D hb => ?_
        have h26 : sl a 26 = .slice AS k cS := D 1 (by kernel_rfl)
        obtain ⟨b4, h29, hb4, _⟩ : ∃ b, sl a 29 = .slice (some ⟨b, 0, none⟩) 1 1 ∧ Blk w2 b 26 #[.slice Au lu cu] ∧ z ≤ b := D 4 (by kernel_rfl)
        have hO := hb.2.2.2.2.1 hl
        obtain ⟨A8, c8, w', hrun, h2, h3⟩ := run_app0 (w := w2) elemS 22 hO b4 (.slice Au lu cu) (by rw [hb4.cell]; rfl) rfl (by omega) (by omega) hb.2.1.1
        refine ⟨.slice A8 (k + 1) c8, w', ?_, ⟨grown_app hb.1 hO (Nat.le_refl _) h3, (by have : w2.heap.size ≤ w'.heap.size := (by rcases h3 with ⟨_, q⟩ | ⟨_, q⟩ <;> exact q.size); exact ⟨Nat.le_trans hb.2.1.1 this, Nat.le_trans hb.2.1.2 this⟩), hb.2.2.1.past1 hO (by decide) h3, hb.2.2.2.1.past1 hO (by decide) h3, fun e => by simp at e, fun e => (hb.2.2.2.2.2 (or_left e)).past1 hO (by decide) h3⟩, fun j hj hE hF => ?_, fun s _ h => ⟨A8, c8, h 30 rfl, h2⟩⟩
        · unfold sl at h26 h29
          simp at h26 h29
          unfold execOp
          simp [resolve, invoke, builtin, Act.eval, h26, h29, hrun]
        · match j with
          | 0 => exact hF
          | 1 => exact hF
          | 2 => exact hF
          | 3 => exact hF
          | 4 => obtain ⟨b, q1, q2, q3⟩ := hF; exact ⟨b, q1, q2.past2 q3 hzS h3, q3⟩
          | 5 => exact absurd rfl hj
          | 6 => exact hF
          | 7 => exact hF
          | 8 => exact hF
          | 9 => exact hF
          | 10 => obtain ⟨b, q1, q2⟩ := hF; exact ⟨b, q1, q2.past1 hO (by decide) h3⟩
          | 11 => obtain ⟨A, c, q1, q2⟩ := hF; exact ⟨A, c, q1, q2.past1 hO (by decide) h3⟩
          | 12 => exact hF
          | _ + 13 => trivial
      · refine OpFactG.value FD_below BD_below fun L a w2 hl hf D hb => ?_
        have h5 : sl a 5 = .pointer (some ⟨g, 0, none⟩) := hf 5 (by kernel_rfl)
        refine ⟨.pointer (some ⟨g, 2, none⟩), w2, ?_, B0 _, fun s _ h => h 31 rfl⟩
        unfold sl at h5
        simp [go_sem, h5]
      · refine OpFactG.value FD_below BD_below fun L a w2 hl hf D hb => ?_
        have h5 : sl a 31 = .pointer (some ⟨g, 2, none⟩) := D 6 (by kernel_rfl)
        refine ⟨.slice AC k cC, w2, ?_, B0 _, fun s _ h => h 32 rfl⟩
        have kq := hb.2.2.1.cell 2
        unfold sl at h5
        simp at h5 kq
        simp [go_sem, h5, kq]
      · refine OpFactG.value FD_below BD_below fun L a w2 hl hf D hb => ?_
        have h5 : sl a 7 = .pointer (some ⟨tb, 0, none⟩) := hf 7 (by kernel_rfl)
        refine ⟨.pointer (some ⟨tb, 1, none⟩), w2, ?_, B0 _, fun s _ h => h 33 rfl⟩
        unfold sl at h5
        simp [go_sem, h5]
      · refine OpFactG.value FD_below BD_below fun L a w2 hl hf D hb => ?_
        have h5 : sl a 33 = .pointer (some ⟨tb, 1, none⟩) := D 8 (by kernel_rfl)
        refine ⟨.int .i64 ck, w2, ?_, B0 _, fun s _ h => h 34 rfl⟩
        have kq := hb.2.2.2.1.cell 1
        unfold sl at h5
        simp at h5 kq
        simp [go_sem, h5, kq]
      · refine OpFactG.value FD_below BD_below fun L a w2 hl hf D hb => ?_
        have h5 : sl a 34 = .int .i64 ck := D 9 (by kernel_rfl)
        refine ⟨.slice (some ⟨w2.heap.size, 0, none⟩) 1 1, w2.alloc (.cells #[.int .i64 ck] 3), ?_, Ba (B0 _) _, fun s _ h => ⟨_, h 35 rfl, Blk.new _ _ _⟩⟩
        unfold sl at h5
        simp at h5
        simp [go_sem, h5]
      · refine OpFactG.write fun L a w2 hl hf D hb => ?_
        have h26 : sl a 32 = .slice AC k cC := D 7 (by kernel_rfl)
        obtain ⟨b4, h29, hb4⟩ : ∃ b, sl a 35 = .slice (some ⟨b, 0, none⟩) 1 1 ∧ Blk w2 b 3 #[.int .i64 ck] := D 10 (by kernel_rfl)
        have hO := hb.2.2.2.2.2 hl
        obtain ⟨A8, c8, w', hrun, h2, h3⟩ := run_app0 (w := w2) elemI 26 hO b4 (.int .i64 ck) (by rw [hb4.cell]; rfl) rfl (by omega) (by omega) hb.2.1.1
        refine ⟨.slice A8 (k + 1) c8, w', ?_, ⟨grown_app hb.1 hO (Nat.le_refl _) h3, (by have : w2.heap.size ≤ w'.heap.size := (by rcases h3 with ⟨_, q⟩ | ⟨_, q⟩ <;> exact q.size); exact ⟨Nat.le_trans hb.2.1.1 this, Nat.le_trans hb.2.1.2 this⟩), hb.2.2.1.past1 hO (by decide) h3, hb.2.2.2.1.past1 hO (by decide) h3, fun e => (hb.2.2.2.2.1 (or_left e)).past1 hO (by decide) h3, fun e => by simp at e⟩, fun j hj hE hF => ?_, fun s _ h => ⟨A8, c8, h 36 rfl, h2⟩⟩
        · unfold sl at h26 h29
          simp at h26 h29
          unfold execOp
          simp [resolve, invoke, builtin, Act.eval, h26, h29, hrun]
        · match j with
          | 0 => exact hF
          | 1 => exact hF
          | 2 => exact hF
          | 3 => exact hF
          | 4 => obtain ⟨b, q1, q2, q3⟩ := hF; exact ⟨b, q1, q2.past1 hO (by decide) h3, q3⟩
          | 5 => obtain ⟨A, c, q1, q2⟩ := hF; exact ⟨A, c, q1, q2.past1 hO (by decide) h3⟩
          | 6 => exact hF
          | 7 => exact hF
          | 8 => exact hF
          | 9 => exact hF
          | 10 => exact hE.elim (fun h => absurd h (by decide)) fun h => absurd h (Bool.eq_false_iff.1 (by kernel_rfl))
          | 11 => exact absurd rfl hj
          | 12 => exact hF
          | _ + 13 => trivial
      · refine OpFactG.value FD_below BD_below fun L a w2 hl hf D hb => ?_
        have h5 : sl a 5 = .pointer (some ⟨g, 0, none⟩) := hf 5 (by kernel_rfl)
        refine ⟨.pointer (some ⟨g, 1, none⟩), w2, ?_, B0 _, fun s _ h => h 37 rfl⟩
        unfold sl at h5
        simp [go_sem, h5]
      · intro L y w9 hb9 hF
        obtain ⟨A5, c5, h30, hO5⟩ : ∃ A c, y 30 = .slice A (k + 1) c ∧ Own0 w9 w1.heap.size 26 1 A (k + 1) c (us ++ [Value.slice Au lu cu]) := hF 5 (by decide) rfl
        obtain ⟨A6, c6, h36, hO6⟩ : ∃ A c, y 36 = .slice A (k + 1) c ∧ Own0 w9 w1.heap.size 3 1 A (k + 1) c (xs ++ [Value.int .i64 ck]) := hF 11 (by decide) rfl
        have h37 : y 37 = .pointer (some ⟨g, 1, none⟩) := hF 12 (by decide) rfl
        have hblk := hb9.2.2.1
        have e1 := hblk.cell 1
        have e2 := hblk.cell 2
        have f0 := hblk.frozen
        simp at e1 e2
        have hfin := (hblk.set_ 1 (.slice A5 (k + 1) c5)).set_ 2 (.slice A6 (k + 1) c6)
        have hO5' : Own0 ((w9.setCell ⟨g, 1, none⟩ (.slice A5 (k + 1) c5)).setCell ⟨g, 2, none⟩ (.slice A6 (k + 1) c6)) w1.heap.size 26 1 A5 (k + 1) c5 (us ++ [Value.slice Au lu cu]) := (hO5.far hblk (by decide) 1 _).far (hblk.set_ 1 _) (by decide) 2 _
        have hO6' : Own0 ((w9.setCell ⟨g, 1, none⟩ (.slice A5 (k + 1) c5)).setCell ⟨g, 2, none⟩ (.slice A6 (k + 1) c6)) w1.heap.size 3 1 A6 (k + 1) c6 (xs ++ [Value.int .i64 ck]) := (hO6.far hblk (by decide) 1 _).far (hblk.set_ 1 _) (by decide) 2 _
        have hnew : DSt g w1.heap.size (k + 1) n cost (.slice Al ml cl) (.slice At mt ct) ls w w1 F A5 c5 (us ++ [Value.slice Au lu cu]) A6 c6 ((w9.setCell ⟨g, 1, none⟩ (.slice A5 (k + 1) c5)).setCell ⟨g, 2, none⟩ (.slice A6 (k + 1) c6)) := by
          refine ⟨by simpa using hfin, hO5', ?_, ?_, only_setCell (only_setCell hb9.1 (.inl rfl) _) (.inl rfl) _⟩
          · rw [List.take_succ_eq_append_getElem hlt, List.map_append]
            exact HDD.out.vals.append (Vals.one HU.out)
          · rw [List.take_succ_eq_append_getElem hlt, List.map_append, List.map_cons, List.map_nil, hck, cellsV_snoc, hxsd]
            exact hO6'
        have HNEW := Lib.hid hnew
        clear hF hO5 hO6 hfin hO5' hO6' hnew hblk hb9
        simp only [after, List.take_succ_cons, List.take_zero, List.filterMap_cons, List.filterMap_nil, List.foldl_cons, List.foldl_nil]
        rw [h30, h36, h37]
        simp only [List.setIfInBounds_toArray, List.set_cons_succ, List.set_cons_zero]
        refine from_list 16 (by kernel_rfl) (by simp only [List.take_succ_cons, List.take_zero, List.drop_succ_cons, List.drop_zero]; exact rfl) ?_
        (intro Q' hQ' hX; clear hX)
        go_wp2_with fail
        refine from_end rfl ?_
        go_wp2_with fail
        go_roundg (ls.length - (k + 1))
        case measure => omega
        case rel => exact ⟨k + 1, by omega, by omega, by go_num, ⟨_, _, _, _, _, HNEW.out⟩⟩
    · have hki : decide ((k : Int) < ls.length) = false := decide_eq_false (by omega)
      obtain rfl : k = ls.length := by omega
      obtain ⟨AS, cS, us, AC, cC, hD⟩ := HD.out
      have hbel : Below w.heap.size w wr := HB1.out.grown hD.bel HB1.out.size (fun k hk => by injection hk with hk; omega)
      have hgl : g < wr.heap.size := hD.blk.lt
      have hws : w1.heap.size ≤ wr.heap.size := hD.bel.size
      have hgb : ∀ bk, bk < w1.heap.size → bk ≠ g → ∀ i, wr.cell? ⟨bk, i, none⟩ = w1.cell? ⟨bk, i, none⟩ := fun bk h1 h2 i => World.cell?_of_block (w := w1) (hD.bel.block bk h1 (fun e => h2 (by injection e)))
      replace p0 := (hgb w.heap.size (by omega) (by omega) 0).trans p0
      replace p1 := (hgb w.heap.size (by omega) (by omega) 1).trans p1
      replace q0 := (hgb (w.heap.size + 1) (by omega) (by omega) 0).trans q0
      replace q1 := (hgb (w.heap.size + 1) (by omega) (by omega) 1).trans q1
      replace q2 := (hgb (w.heap.size + 1) (by omega) (by omega) 2).trans q2
      have g0 := hD.blk.cell 0
      have g1 := hD.blk.cell 1
      have g2 := hD.blk.cell 2
      have g3 := hD.blk.cell 3
      have g4 := hD.blk.cell 4
      have g5 := hD.blk.cell 5
      simp at g0 g1 g2 g3 g4 g5
      have hSS : SlII (fun b => b < wr.heap.size) wr (.slice AS ls.length cS) (ls.map (·.1)) := by
        have h1 := hD.vals
        rw [List.take_length] at h1
        exact (h1.keep (Agree.below hbel hF) (G := fun b => b < wr.heap.size) fun b hb => Nat.lt_of_lt_of_le (hF b hb) hbel.size).sl hD.ownS (by simp) (by simp; omega) fun b _ h => h
      have hSC : SlI (fun b => b < wr.heap.size) wr (.slice AC ls.length cC) (ls.map (·.2)) := by
        have h1 := hD.ownC
        rw [List.take_length] at h1
        exact Own0.sl h1 (by simp) (by simp; omega) (fun _ _ => rfl) fun b _ h => h
      have HSS := Lib.hid hSS
      have HSC := Lib.hid hSC
      have HBEL := Lib.hid hbel
      clear hSS hSC hD HD HST hgb hbel hat
      have hon1 : ∀ u ∈ cellsV vI (ls.map (·.2)), u.oneCell' = true := fun u hu => by
        obtain ⟨x, _, rfl⟩ := List.mem_map.1 hu
        rfl
      have hb10 : Below wr.heap.size wr ((wr.alloc (.cells #[.int .i64 n, .slice AS ls.length cS, .slice AC ls.length cC, .slice Al ml cl, .int .i64 cost, .slice At mt ct] 65)).alloc (.cells #[] 3)) := Ba (Ba (B0 _) _) _
      have hrd := SlI.reads (SlI.keep HSC.out (Agree.below hb10 fun _ h => h)) (B := wr.heap.size) fun _ h => h
      have hbm : Blk ((wr.alloc (.cells #[.int .i64 n, .slice AS ls.length cS, .slice AC ls.length cC, .slice Al ml cl, .int .i64 cost, .slice At mt ct] 65)).alloc (.cells #[] 3)) wr.heap.size 65 #[.int .i64 n, .slice AS ls.length cS, .slice AC ls.length cC, .slice Al ml cl, .int .i64 cost, .slice At mt ct] := (Blk.new _ _ _).alloc _
      have HBM := Lib.hid hbm
      have HRD := Lib.hid hrd
      have HON := Lib.hid hon1
      have HB10 := Lib.hid hb10
      clear hon1 hb10 hrd hbm
      obtain ⟨xs, hxs⟩ : ∃ xs, cellsV vI (ls.map (·.2)) = xs := ⟨_, rfl⟩
      rw [hxs] at HRD HON
      go_upto_region 9 with (first
        | (at_builtin; refine wpList_copy elemI (by omega) rfl _ _ rfl (some ⟨wr.heap.size + 1, 0, none⟩) rfl wr.heap.size AC ls.length cC xs rfl HRD.out HON.out (by omega) (by omega) ?_; intro A7 c7 w7 q71 q72; have BM7 := Lib.hid (HBM.out.below q71 HBM.out.lt); have m72 := BM7.out.frozen 2; have HB7 := Lib.hid (Bt HB10.out q71); have Q72 := Lib.hid q72; have l7 := HB7.out.size; have lm7 : wr.heap.size < w7.heap.size := BM7.out.lt; clear q71 q72)
        | (at_builtin; refine wpList_app0 elemI rfl _ _ rfl (Own0.alloc Q72.out _) rfl w7.heap.size (.int .i64 1) rfl (by simp [go_sem]) rfl (by omega) (by omega) (by simp; omega) ?_; intro A8 c8 w8 q81 q82; have BM8 := Lib.hid ((BM7.out.alloc (.cells #[.int .i64 1] 3)).past1 (Own0.alloc Q72.out (.cells #[.int .i64 1] 3)) (by decide) q82); have m82 := BM8.out.frozen 2; have m8c := BM8.out.cell 2; have HB8 := Lib.hid (Bg0 (Ba HB7.out (.cells #[.int .i64 1] 3)) (Own0.alloc Q72.out (.cells #[.int .i64 1] 3)) (by simp; omega) q82); have Q81 := Lib.hid q81; clear q81 q82))
      have hbm9 := BM8.out.set_ 2 (.slice A8 (ls.length + 1) c8)
      have hO9 := Own0.far BM8.out (by decide) Q81.out 2 (.slice A8 (ls.length + 1) c8)
      have hb9 : Below wr.heap.size wr (w8.setCell ⟨wr.heap.size, 2, none⟩ (.slice A8 (ls.length + 1) c8)) := Bs HB8.out _ (Nat.le_refl _)
      generalize w8.setCell ⟨wr.heap.size, 2, none⟩ (.slice A8 (ls.length + 1) c8) = w9 at *
      obtain ⟨m, hm⟩ : ∃ m, wr.heap.size = m := ⟨_, rfl⟩
      have hml : m < w9.heap.size := by rw [← hm]; exact hbm9.lt
      have m0 := hbm9.cell 0
      have m1 := hbm9.cell 1
      have m2 := hbm9.cell 2
      have m3 := hbm9.cell 3
      have m4 := hbm9.cell 4
      have m5 := hbm9.cell 5
      simp at m0 m1 m2 m3 m4 m5
      have hSM : SlI (fun b => b < w9.heap.size) w9 (.slice A8 (ls.length + 1) c8) (ls.map (·.2) ++ [1]) := by
        have e : xs ++ [Value.int .i64 1] = cellsV vI (ls.map (·.2) ++ [1]) := by rw [cellsV_snoc, hxs]; rfl
        rw [e] at hO9
        exact Own0.sl hO9 (by simp) (by simp; omega) (fun _ _ => rfl) fun b _ h => h
      have hSS9 := Sl.keep HSS.out (Agree.below hb9 fun _ h => h) fun _ _ h => SlC.keep h (Agree.below hb9 fun _ h => h) fun _ h => h
      have hSC9 := SlI.keep HSC.out (Agree.below hb9 fun _ h => h)
      have hbw9 := Bt HBEL.out hb9
      have kle : ∀ W, Below w9.heap.size w9 W → wr.heap.size ≤ W.heap.size := fun W hW => Nat.le_trans hb9.size hW.size
      have hC9 := fun W (hW : Below w9.heap.size w9 W) => HC.out W (.slice AS ls.length cS) (.slice AC ls.length cC) (Bt hbw9 hW) (SlII.wider (hSS9.keep (Agree.below hW fun b hb => Nat.lt_of_lt_of_le hb hb9.size) fun _ _ h => SlC.keep h (Agree.below hW fun b hb => Nat.lt_of_lt_of_le hb hb9.size) fun _ h => h) fun b hb => Nat.lt_of_lt_of_le hb (kle W hW)) ((SlI.keep hSC9 (Agree.below hW fun b hb => Nat.lt_of_lt_of_le hb hb9.size)).mono fun b hb => Nat.lt_of_lt_of_le hb (kle W hW))
      have hM9 := fun W (hW : Below w9.heap.size w9 W) => coversNo_any n cost (.slice AS ls.length cS) (.slice A8 (ls.length + 1) c8) Al At ml cl mt ct (ls.map (·.1)) (ls.map (·.2) ++ [1]) (probC_more n _ _ 1 (by simp)) W (fun b => b < W.heap.size) (fun b => b < W.heap.size) (fun _ h => h) (fun _ h => h) (SlII.wider (hSS9.keep (Agree.below hW fun b hb => Nat.lt_of_lt_of_le hb hb9.size) fun _ _ h => SlC.keep h (Agree.below hW fun b hb => Nat.lt_of_lt_of_le hb hb9.size) fun _ h => h) fun b hb => Nat.lt_of_lt_of_le hb (kle W hW)) ((SlI.keep hSM (Agree.below hW fun _ h => h)).mono fun b hb => Nat.lt_of_lt_of_le hb hW.size)
      have hV9 := fun W (hW : Below w9.heap.size w9 W) => HV.out W (Bt hbw9 hW)
      have k : ∀ W, Below w9.heap.size w9 W → ((W.cell? ⟨w.heap.size, 0, none⟩ = some (.int .i64 n) ∧ W.cell? ⟨w.heap.size, 1, none⟩ = some (.slice As ls.length cs)) ∧ W.cell? ⟨w.heap.size + 1, 0, none⟩ = some (.slice Al ml cl) ∧ W.cell? ⟨w.heap.size + 1, 1, none⟩ = some (.int .i64 cost) ∧ W.cell? ⟨w.heap.size + 1, 2, none⟩ = some (.slice At mt ct)) ∧
          (W.cell? ⟨g, 0, none⟩ = some (.int .i64 n) ∧ W.cell? ⟨g, 1, none⟩ = some (.slice AS ls.length cS) ∧ W.cell? ⟨g, 2, none⟩ = some (.slice AC ls.length cC) ∧ W.cell? ⟨g, 3, none⟩ = some (.slice Al ml cl) ∧ W.cell? ⟨g, 4, none⟩ = some (.int .i64 cost) ∧ W.cell? ⟨g, 5, none⟩ = some (.slice At mt ct)) ∧
          (W.cell? ⟨m, 0, none⟩ = some (.int .i64 n) ∧ W.cell? ⟨m, 1, none⟩ = some (.slice AS ls.length cS) ∧ W.cell? ⟨m, 2, none⟩ = some (.slice A8 (ls.length + 1) c8) ∧ W.cell? ⟨m, 3, none⟩ = some (.slice Al ml cl) ∧ W.cell? ⟨m, 4, none⟩ = some (.int .i64 cost) ∧ W.cell? ⟨m, 5, none⟩ = some (.slice At mt ct)) := fun W hW => by
        have hx := Bt hb9 hW
        rw [← hm]
        exact ⟨⟨⟨(Bc hx (by omega)).trans p0, (Bc hx (by omega)).trans p1⟩, (Bc hx (by omega)).trans q0, (Bc hx (by omega)).trans q1, (Bc hx (by omega)).trans q2⟩,
          ⟨(Bc hx hgl).trans g0, (Bc hx hgl).trans g1, (Bc hx hgl).trans g2, (Bc hx hgl).trans g3, (Bc hx hgl).trans g4, (Bc hx hgl).trans g5⟩,
          (Bc hW hbm9.lt).trans m0, (Bc hW hbm9.lt).trans m1, (Bc hW hbm9.lt).trans m2, (Bc hW hbm9.lt).trans m3, (Bc hW hbm9.lt).trans m4, (Bc hW hbm9.lt).trans m5⟩
      have K := Lib.hid k
      have HC9 := Lib.hid hC9
      have HM9 := Lib.hid hM9
      have HV9 := Lib.hid hV9
      have HBW9 := Lib.hid hbw9
      have hq := HQ.out
      rw [hm]
      clear hbm9 hO9 hb9 hSM hSS9 hSC9 hbw9 kle hC9 hM9 hV9 k p0 p1 q0 q1 q2 g0 g1 g2 g3 g4 g5 m0 m1 m2 m3 m4 m5 m82 m8c m72 hml HQ
      rcases hq with ⟨rfl, hq⟩ | ⟨rfl, hq⟩
      all_goals
        go_region_held3 (fun w' => Below w9.heap.size w9 w' ∧ ((w'.cell? ⟨w.heap.size, 0, none⟩ = some (.int .i64 n) ∧ w'.cell? ⟨w.heap.size, 1, none⟩ = some (.slice As ls.length cs)) ∧ w'.cell? ⟨w.heap.size + 1, 0, none⟩ = some (.slice Al ml cl) ∧ w'.cell? ⟨w.heap.size + 1, 1, none⟩ = some (.int .i64 cost) ∧ w'.cell? ⟨w.heap.size + 1, 2, none⟩ = some (.slice At mt ct)) ∧
            (w'.cell? ⟨g, 0, none⟩ = some (.int .i64 n) ∧ w'.cell? ⟨g, 1, none⟩ = some (.slice AS ls.length cS) ∧ w'.cell? ⟨g, 2, none⟩ = some (.slice AC ls.length cC) ∧ w'.cell? ⟨g, 3, none⟩ = some (.slice Al ml cl) ∧ w'.cell? ⟨g, 4, none⟩ = some (.int .i64 cost) ∧ w'.cell? ⟨g, 5, none⟩ = some (.slice At mt ct)) ∧
            (w'.cell? ⟨m, 0, none⟩ = some (.int .i64 n) ∧ w'.cell? ⟨m, 1, none⟩ = some (.slice AS ls.length cS) ∧ w'.cell? ⟨m, 2, none⟩ = some (.slice A8 (ls.length + 1) c8) ∧ w'.cell? ⟨m, 3, none⟩ = some (.slice Al ml cl) ∧ w'.cell? ⟨m, 4, none⟩ = some (.int .i64 cost) ∧ w'.cell? ⟨m, 5, none⟩ = some (.slice At mt ct)))
          (first | exact ⟨(B0 _).drew, K.out _ (B0 _).drew⟩ | exact ⟨hbn, K.out _ hbn⟩)
          (first
            | (go_at_call 18; (with_reducible refine ((HV9.out _ hbn).mono ?_)); rintro e w11 ⟨rfl, hb11⟩; have hbn := Bt hbn hb11; clear hb11)
            | (go_at_call 17; (with_reducible refine ((HC9.out _ (B0 w9).drew).mono ?_)); rintro e w10 ⟨rfl, hb10⟩; have hbn := Bt (B0 w9).drew hb10; clear hb10)
            | (go_at_call 17; (with_reducible refine ((HM9.out _ hbn).mono ?_)); rintro e w12 ⟨rfl, hb12⟩; have hbn := Bt hbn hb12; clear hb12))
        go_wp2_with fail
        go_ret
        exact ⟨rfl, Bt HBW9.out hbn⟩
end Go.Proofs.Ytnpdoejjebgcpaa
