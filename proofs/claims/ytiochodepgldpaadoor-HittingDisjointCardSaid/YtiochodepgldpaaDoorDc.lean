/- Walks over hitting: Disjoint. -/
import Derived.Test.YtiochodepgldpaaDoorDa
import Derived.Test.YtiochodepgldpaaDoorVd
namespace Go.Proofs.YtiochodepgldpaaDoor
open Go Go.RowKit
theorem disjGo_cons (s : Nat) (r : List Nat) (i used : Nat) : Hit.disjGo (s :: r) i used = if s &&& used = 0 ∧ 1 + Hit.countF r (used ||| s) = Hit.countF (s :: r) used then i :: Hit.disjGo r (i + 1) (used ||| s) else Hit.disjGo r (i + 1) used := rfl
theorem disjGo_len : ∀ (ws : List Nat) (i used : Nat), (Hit.disjGo ws i used).length ≤ ws.length
  | [], _, _ => Nat.le_refl 0
  | s :: r, i, used => by
    rw [disjGo_cons]
    have h1 := disjGo_len r (i + 1) (used ||| s)
    have h2 := disjGo_len r (i + 1) used
    split <;> simp <;> omega
theorem own_ne_map {w : World} {base mb n c : Nat} {e : TypeId} {A : Option Addr} {xs : List Value} {ws : List Nat} (h : Own0 w base e 1 A n c xs) (hk : Kept ws mb w) : n = 0 ∨ (Value.slice A n c).ownBlock ≠ some mb := by
  rcases h with ⟨h0, _⟩ | ⟨_, h⟩
  · exact .inl h0
  · refine .inr fun e0 => ?_
    obtain ⟨l, ⟨es, cl, hb, _⟩, _⟩ := hk
    rcases h.2 with ⟨hv, _⟩ | ⟨g, cap, cur, hv, _, hh, _⟩
    · rw [hv] at e0; cases e0
    · rw [hv] at e0
      have e1 : g = mb := by simpa [Value.ownBlock] using e0
      subst e1
      rw [hb] at hh
      cases hh
theorem Own0.map {w w' : World} {base mb n c : Nat} {e : TypeId} {A : Option Addr} {xs : List Value} {ws : List Nat} (h : Own0 w base e 1 A n c xs) (hk : Kept ws mb w) (hg : w.grownBy w' (some mb)) : Own0 w' base e 1 A n c xs := by
  rcases own_ne_map h hk with h0 | hne
  · rcases h with h | ⟨h1, _⟩
    · exact .inl h
    · omega
  · exact h.kept hg (.inr hne)
theorem below_map {w w' : World} {B mb : Nat} {w0 : World} (h : Below B w0 w) (hB : B ≤ w.heap.size) (hg : w.grownBy w' (some mb)) (hm : B ≤ mb) : Below B w0 w' := h.grown hg hB fun k hk => by injection hk with hk; omega
set_option maxRecDepth 100000 in
set_option maxHeartbeats 4000000 in
theorem disjoint_any (n : Nat) (hn : n ≤ 20) (vs : Value) (ws : List Nat) (hg : Hit.Good ws n) (hwl : ws.length ≤ 100) (w : World) (F : Nat → Prop) (hF : ∀ b, F b → b < w.heap.size) (hr : SlII F w vs (setsOf ws)) :
    Calls Tryd.prog 13 #[.agg #[.int .i64 n, vs]] w fun e w' => ∃ A c, e = .returned (.tuple #[.slice A (Hit.disjGo ws 0 0).length c, .int .i64 0]) ∧ SlI (fun b => w.heap.size ≤ b ∧ b < w'.heap.size) w' (.slice A (Hit.disjGo ws 0 0).length c) (Hit.ints (Hit.disjGo ws 0 0)) ∧ Below w.heap.size w w' := by
  have hw := good_lt hg (by omega)
  have hC : ∀ W, Below w.heap.size w W → Calls Tryd.prog 29 #[.agg #[.int .i64 n, vs]] W fun e w' => e = .returned (.int .i64 0) ∧ Below W.heap.size W w' :=
    fun W hW => by
      have := check_any n vs (setsOf ws) W F (fun b hb => Nat.lt_of_lt_of_le (hF b hb) hW.size) (hr.keep (Agree.below hW hF))
      rw [show Hit.checkF n (setsOf ws) = 0 from Hit.checkF_of hn hwl hg] at this
      exact this
  have hWo : ∀ W, Below w.heap.size w W → Calls Tryd.prog 35 #[.agg #[.int .i64 n, vs]] W fun e w' => ∃ A m c, e = .returned (.slice A m c) ∧ m = ws.length ∧ Own0 w' W.heap.size 83 1 A m c (cellsV (vU .u32) ws) ∧ Below W.heap.size W w' :=
    fun W hW => words_any n vs ws hw (by omega) W F (fun b hb => Nat.lt_of_lt_of_le (hF b hb) hW.size) (hr.keep (Agree.below hW hF))
  obtain ⟨As, cs, rfl, _⟩ := hr.open
  have HC := Lib.hid hC
  have HWo := Lib.hid hWo
  have HW0 := Lib.hid hw
  have HDL := Lib.hid (disjGo_len ws 0 0)
  clear hC hWo hr hg hF hw
  have hmm := @run_makeMap Tryd.prog
  go_enter Tryd.func13, Tryd.ntmps13
  go_upto_region 7 with (first
    | (go_at_call 29; (with_reducible refine ((HC.out _ (Ba (B0 w) _)).mono ?_)); rintro e w1 ⟨rfl, hb1⟩; have c0 : w1.cell? ⟨w.heap.size, 0, none⟩ = some (.int .i64 n) := (Bc hb1 (by simp)).trans (by simp [go_sem]); have c1 : w1.cell? ⟨w.heap.size, 1, none⟩ = some (.slice As (setsOf ws).length cs) := (Bc hb1 (by simp)).trans (by simp [go_sem]); have HB1 := Lib.hid (Bt (Ba (B0 w) _) hb1); clear hb1)
    | (go_at_call 35; (with_reducible refine ((HWo.out _ HB1.out).mono ?_)); rintro e w2 ⟨A2, m2, c2, rfl, rfl, hO2, hb2⟩; have HO2 := Lib.hid (hO2.words rfl (by omega) (F := fun b => b < w2.heap.size) fun b _ h => h); have HB2 := Lib.hid (Bt HB1.out hb2); clear hO2 hb2 c0 c1))
  have hbp := Blk.new (w2.alloc (.map #[] 0)) 82 #[.slice A2 ws.length c2, .map (some w2.heap.size)]
  rw [World.size_alloc] at hbp
  have hb3 := Ba (Ba (B0 w2) (.map #[] 0)) (.cells #[.slice A2 ws.length c2, .map (some w2.heap.size)] 82)
  have hK3 : Kept ws w2.heap.size ((w2.alloc (.map #[] 0)).alloc (.cells #[.slice A2 ws.length c2, .map (some w2.heap.size)] 82)) :=
    ⟨[], (MapAt.made w2).of_block (Below.heap_alloc _ _ _ (by simp)), fun p hp => absurd hp (by simp)⟩
  have hR3 := HO2.out.keep (Agree.below hb3 fun b h => h)
  have hs3 : w2.heap.size + 1 < ((w2.alloc (.map #[] 0)).alloc (.cells #[.slice A2 ws.length c2, .map (some w2.heap.size)] 82)).heap.size := by simp
  generalize ((w2.alloc (.map #[] 0)).alloc (.cells #[.slice A2 ws.length c2, .map (some w2.heap.size)] 82)) = w3 at *
  have HB3 := Lib.hid (Bt HB2.out hb3)
  obtain ⟨mb, hmb⟩ : ∃ mb, w2.heap.size = mb := ⟨_, rfl⟩
  rw [hmb] at hbp hK3 hR3 hs3 ⊢
  have hmw : w.heap.size ≤ mb := by rw [← hmb]; exact HB2.out.size
  have p0 := hbp.cell 0
  have HBp := Lib.hid hbp
  have HK3 := Lib.hid hK3
  have HR3 := Lib.hid hR3
  clear hbp hb3 hK3 hR3 hmb HO2 HB1 HB2 hmm
  go_wp2_with fail
  clear p0
  go_loopg [6, 7, 22] ws.length (fun gg s6 s7 s22 wr => ∃ (k used : Nat) (A : Option Addr) (m c : Nat) (dn : List Nat), k ≤ ws.length ∧ ws.length - k ≤ gg ∧ s22 = .int .i64 k ∧ s7 = .int .u32 used ∧ used < 4294967296 ∧ s6 = .slice A m c ∧ m ≤ k ∧ Aside (m = dn.length) ∧
    Aside (Own0 wr w3.heap.size 3 1 A m c (cellsV vN dn)) ∧ Aside (dn ++ Hit.disjGo (ws.drop k) k used = Hit.disjGo ws 0 0) ∧ Aside (Blk wr (mb + 1) 82 #[.slice A2 ws.length c2, .map (some mb)]) ∧ Aside (SlU .u32 (fun b => b < mb) wr (.slice A2 ws.length c2) ws) ∧ Aside (Kept ws mb wr) ∧ Aside (w3.heap.size ≤ wr.heap.size) ∧ Aside (Below w.heap.size w wr))
  case atStart => exact ⟨0, 0, none, 0, 0, [], by omega, by omega, rfl, rfl, by omega, rfl, by omega, rfl, Own0.nil, rfl, HBp.out, HR3.out, HK3.out, Nat.le_refl _, HB3.out⟩
  case round =>
    obtain ⟨k, used, A, m, c, dn, hk, hg, rfl, rfl, hu, rfl, hmk, HN, HO, HD, HP, HR, HKr, HSr, HB⟩ := hrel
    have hsr := HSr.out
    by_cases hlt : k < ws.length
    · have hki : decide ((k : Int) < ws.length) = true := decide_eq_true (by omega)
      have hk2 : (k : Int) < ws.length := by omega
      obtain ⟨A', c', hv, _, _, hat⟩ := HR.out.open
      injection hv with e1 e2 e3
      subst e1 e3
      obtain ⟨ad, rfl, hf, hc⟩ := hat k hlt
      have hdr : ws.drop k = ws[k] :: ws.drop (k + 1) := List.drop_eq_getElem_cons hlt
      have hd := HD.out
      rw [hdr, disjGo_cons, ← hdr] at hd
      have hsw := HW0.out _ (List.getElem_mem hlt)
      have hand := Hit.u32_and ws[k] used hsw hu
      have hor := Hit.u32_or used ws[k] hu hsw
      have hoz : used ||| ws[k] < 4294967296 := Hit.or_lt (k := 32) hu hsw
      have hcnt : ∀ W fr us, fr ≤ ws.length → us < 4294967296 → wr.grownBy W (some mb) → Kept ws mb W → Calls Tryd.prog 36 #[.pointer (some ⟨mb + 1, 0, none⟩), .int .i64 (fr : Nat), .int .u32 (us : Nat)] W (CountP ws mb (Hit.countF (ws.drop fr) us) W) := fun W fr us h1 h2 hW hK =>
        count_any' (mb + 1) mb _ ws HW0.out (by omega) (fun b => b < mb) ws.length fr us W (by omega) h1 h2 (fun b hb => ⟨by have := hW.size; omega, by omega⟩) (HP.out.grown hW (by intro e; injection e with e; omega)) (HR.out.keep (Agree.grown hW fun b hb => ⟨by omega, by intro e; injection e with e; omega⟩)) hK
      have HCNT := Lib.hid hcnt
      have hc1 := countF_le (ws.drop (k + 1)) (used ||| ws[k])
      have hc2 := countF_le (ws.drop k) used
      have hl1 : (ws.drop (k + 1)).length ≤ 100 := by rw [List.length_drop]; omega
      have hl2 : (ws.drop k).length ≤ 100 := by rw [List.length_drop]; omega
      have i1 : Calls Tryd.prog 36 #[.pointer (some ⟨mb + 1, 0, none⟩), .int .i64 ((k : Int) + 1), .int .u32 ((used ||| ws[k] : Nat) : Int)] wr (CountP ws mb (Hit.countF (ws.drop (k + 1)) (used ||| ws[k])) wr) := HCNT.out wr (k + 1) (used ||| ws[k]) (by omega) hoz (World.grownBy.refl wr _) HKr.out
      have i2 : ∀ W, wr.grownBy W (some mb) → Kept ws mb W → Calls Tryd.prog 36 #[.pointer (some ⟨mb + 1, 0, none⟩), .int .i64 (k : Nat), .int .u32 (used : Nat)] W (CountP ws mb (Hit.countF (ws.drop k) used) W) := fun W h1 h2 => HCNT.out W k used (by omega) hu h1 h2
      generalize Hit.countF (ws.drop (k + 1)) (used ||| ws[k]) = n1 at *
      generalize Hit.countF (ws.drop k) used = n2 at *
      generalize used ||| ws[k] = us at *
      generalize ws[k] = s at *
      have I1 := Lib.hid i1
      have I2 := Lib.hid i2
      clear i1 i2 hcnt hdr hat
      by_cases hz : s &&& used = 0
      · rw [hz] at hand
        by_cases heq : 1 + n1 = n2
        · rw [if_pos ⟨hz, heq⟩] at hd
          have he : ((1 + (n1 : Int)) == (n2 : Int)) = true := by simp; omega
          have HDn := Lib.hid hd
          clear hz heq hd
          go_wp2_with fail
          with_reducible refine (I1.out.mono ?_)
          rintro e w4 ⟨rfl, hg4, hk4⟩
          have HG4 := Lib.hid hg4
          have HK4 := Lib.hid hk4
          clear hg4 hk4
          go_wp2_with fail
          with_reducible refine ((I2.out w4 HG4.out HK4.out).mono ?_)
          rintro e w5 ⟨rfl, hg5, hk5⟩
          have HO5 := Lib.hid ((HO.out.map HKr.out HG4.out).map HK4.out hg5)
          have HG5 := Lib.hid (gb_trans HG4.out hg5)
          have HK5 := Lib.hid hk5
          have hs5 := (gb_trans HG4.out hg5).size
          clear hg5 hk5
          go_wp2_with (at_builtin; refine wpList_app0 elemI rfl _ _ rfl (Own0.alloc HO5.out _) rfl w5.heap.size (.int .i64 (k : Int)) rfl (by simp) rfl (by omega) (by omega) (by simp; omega) ?_; intro A6 c6 w6 q1 q2; have Q1 := Lib.hid q1; have Q2 := Lib.hid q2; clear q1 q2)
          have hblk6 : ∀ g, g < w3.heap.size → w6.heap[g]? = w5.heap[g]? := fun g hg => (app0_block (Own0.alloc HO5.out _) Q2.out hg (by simp; omega)).trans (Below.heap_alloc w5 _ g (by omega))
          have hs6 := q_size Q2.out
          have hP6 := (HP.out.grown HG5.out (by intro e; injection e with e; omega))
          have hR6 := (HR.out.keep (Agree.grown HG5.out fun b hb => ⟨by omega, by intro e; injection e with e; omega⟩))
          have hB5 := below_map HB.out HB.out.size HG5.out hmw
          have hB6 := Bg0 (Ba hB5 _) (Own0.alloc HO5.out _) HB3.out.size Q2.out
          go_roundg (ws.length - (k + 1))
          case measure => omega
          case rel =>
            refine ⟨k + 1, us, A6, m + 1, c6, dn ++ [k], by omega, by omega, by go_num, rfl, hoz, rfl, by omega, (by show m + 1 = (dn ++ [k]).length; rw [List.length_append, ← HN.out]; rfl), (by have q := Q1.out; rw [show cellsV vN dn ++ [Value.int .i64 (k : Int)] = cellsV vN (dn ++ [k]) from (by rw [cellsV_snoc]; rfl)] at q; exact q), (by show dn ++ [k] ++ Hit.disjGo (ws.drop (k + 1)) (k + 1) us = _; rw [List.append_assoc]; exact HDn.out), ?_, ?_, ?_, ?_, hB6⟩
            · exact (hblk6 (mb + 1) (by omega)).trans hP6
            · exact hR6.keep fun b hb => hblk6 b (by omega)
            · exact HK5.out.of_block (hblk6 mb (by omega))
            · show w3.heap.size ≤ w6.heap.size
              simp at hs6
              omega
        · rw [if_neg (fun h => heq h.2)] at hd
          have he : ((1 + (n1 : Int)) == (n2 : Int)) = false := by simp; omega
          have HDn := Lib.hid hd
          clear hz heq hd
          go_wp2_with fail
          with_reducible refine (I1.out.mono ?_)
          rintro e w4 ⟨rfl, hg4, hk4⟩
          have HG4 := Lib.hid hg4
          have HK4 := Lib.hid hk4
          clear hg4 hk4
          go_wp2_with fail
          with_reducible refine ((I2.out w4 HG4.out HK4.out).mono ?_)
          rintro e w5 ⟨rfl, hg5, hk5⟩
          have HO5 := Lib.hid ((HO.out.map HKr.out HG4.out).map HK4.out hg5)
          have HG5 := Lib.hid (gb_trans HG4.out hg5)
          have HK5 := Lib.hid hk5
          have hs5 := (gb_trans HG4.out hg5).size
          clear hg5 hk5
          go_wp2_with fail
          go_roundg (ws.length - (k + 1))
          case measure => omega
          case rel => exact ⟨k + 1, used, A, m, c, dn, by omega, by omega, by go_num, rfl, hu, rfl, by omega, HN.out, HO5.out, HDn.out, HP.out.grown HG5.out (by intro e; injection e with e; omega), HR.out.keep (Agree.grown HG5.out fun b hb => ⟨by omega, by intro e; injection e with e; omega⟩), HK5.out, (by show w3.heap.size ≤ w5.heap.size; omega), below_map HB.out HB.out.size HG5.out hmw⟩
      · rw [if_neg (fun h => hz h.1)] at hd
        have hzn : (((s &&& used : Nat) : Int) == 0) = false := by simp; exact hz
        have HDn := Lib.hid hd
        generalize s &&& used = z at *
        clear hz hd I1 I2
        go_wp2_with fail
        go_roundg (ws.length - (k + 1))
        case measure => omega
        case rel => exact ⟨k + 1, used, A, m, c, dn, by omega, by omega, by go_num, rfl, hu, rfl, by omega, HN.out, HO.out, HDn.out, HP.out, HR.out, HKr.out, HSr.out, HB.out⟩
    · have hki : decide ((k : Int) < ws.length) = false := decide_eq_false (by omega)
      have : k = ws.length := by omega
      subst this
      have hd := HD.out
      rw [List.drop_length] at hd
      have hdn : dn = Hit.disjGo ws 0 0 := by rw [← hd]; simp [Hit.disjGo]
      have hml : m = (Hit.disjGo ws 0 0).length := by rw [← hdn]; exact HN.out
      have hO := HO.out
      rw [hdn] at hO
      have HOf := Lib.hid hO
      have HMl := Lib.hid hml
      have HW3 := Lib.hid HB3.out.size
      clear hd hdn hml hO
      go_wp2_with fail
      go_ret2
      rw [← HMl.out]
      exact ⟨A, c, rfl, HOf.out.ints HMl.out (by have := HDL.out; omega) fun b q1 q2 => ⟨by have := HW3.out; omega, q2⟩, HB.out⟩
end Go.Proofs.YtiochodepgldpaaDoor
