/- Plain: the keys of contacts; the cells of sets of notes. Walks over coupler: keys. -/
import Derived.Test.YtnkjhppjjklgfaaDoorOb
import Derived.Test.YtnkjhppjjklgfaaDoorKy
import Derived.Deep.RegionHeld3
namespace Go.Proofs.YtnkjhppjjklgfaaDoor
open Go Go.RowKit Go.Shelf
/-- The cells of sets of notes. -/
def ntCs (l : List Nat) : List Value := (l.map fun x => [Value.int .u64 ((Nt.lo x : Nat) : Int), Value.int .u64 ((Nt.hi x : Nat) : Int)]).flatten
theorem ntCs_cons (x : Nat) (l : List Nat) : ntCs (x :: l) = Value.int .u64 ((Nt.lo x : Nat) : Int) :: Value.int .u64 ((Nt.hi x : Nat) : Int) :: ntCs l := rfl
theorem ntCs_get : ∀ {l : List Nat} {i : Nat} (h : i < l.length), (ntCs l)[i * 2]? = some (.int .u64 ((Nt.lo l[i] : Nat) : Int)) ∧ (ntCs l)[i * 2 + 1]? = some (.int .u64 ((Nt.hi l[i] : Nat) : Int))
  | [], _, h => absurd h (by simp)
  | x :: l, 0, _ => ⟨rfl, rfl⟩
  | x :: l, i + 1, h => by
    have := ntCs_get (l := l) (i := i) (by simpa using h)
    rw [ntCs_cons, show (i + 1) * 2 = i * 2 + 1 + 1 by omega]
    simpa using this
theorem ntCs_set : ∀ {l : List Nat} {i : Nat} (_ : i < l.length) (y : Nat), ((ntCs l).set (i * 2) (.int .u64 ((Nt.lo y : Nat) : Int))).set (i * 2 + 1) (.int .u64 ((Nt.hi y : Nat) : Int)) = ntCs (l.set i y)
  | [], _, h, _ => absurd h (by simp)
  | x :: l, 0, _, y => rfl
  | x :: l, i + 1, h, y => by
    have := ntCs_set (l := l) (i := i) (by simpa using h) y
    rw [ntCs_cons, show (i + 1) * 2 = i * 2 + 1 + 1 by omega, List.set_cons_succ, List.set_cons_succ, List.set_cons_succ, List.set_cons_succ, this]
    rfl
theorem ntCs_len : ∀ (l : List Nat), (ntCs l).length = l.length * 2
  | [] => rfl
  | x :: l => by rw [ntCs_cons]; simp [ntCs_len l]; omega
namespace Cou
/-- A contact more. -/
def keyF (M : List Nat) (c : Ct) : List Nat := M.set c.1.toNat (M.getD c.1.toNat 0 ||| Hit.bit c.2.toNat)
/-- The keys of contacts. -/
def keysOf (n : Nat) (l : List Ct) : List Nat := l.foldl keyF (List.replicate n 0)
theorem keysOf_snoc (n : Nat) (l : List Ct) (c : Ct) : keysOf n (l ++ [c]) = keyF (keysOf n l) c := by unfold keysOf; rw [List.foldl_append]; rfl
theorem keyF_len (M : List Nat) (c : Ct) : (keyF M c).length = M.length := by unfold keyF; simp
theorem foldl_len : ∀ (l : List Ct) (M : List Nat), (l.foldl keyF M).length = M.length
  | [], _ => rfl
  | c :: l, M => by rw [List.foldl_cons, foldl_len l, keyF_len]
theorem keysOf_len (n : Nat) (l : List Ct) : (keysOf n l).length = n := by unfold keysOf; rw [foldl_len]; simp
theorem keyF_lt {M : List Nat} {c : Ct} (h : ∀ x ∈ M, x < 2 ^ 128) (hc : 0 ≤ c.2 ∧ c.2 ≤ 127) : ∀ x ∈ keyF M c, x < 2 ^ 128 := fun x hx => by
  unfold keyF at hx
  rcases List.mem_or_eq_of_mem_set hx with h1 | rfl
  · exact h x h1
  · refine Nt.or_bit_lt ?_ (by omega)
    rw [List.getD_eq_getElem?_getD]
    cases hg : M[c.1.toNat]? with
    | none => simp
    | some y => exact h y (List.mem_of_getElem? hg)
theorem keysOf_lt {n : Nat} {l : List Ct} (h : ∀ c ∈ l, 0 ≤ c.2 ∧ c.2 ≤ 127) : ∀ x ∈ keysOf n l, x < 2 ^ 128 := by
  have : ∀ (l : List Ct) (M : List Nat), (∀ c ∈ l, 0 ≤ c.2 ∧ c.2 ≤ 127) → (∀ x ∈ M, x < 2 ^ 128) → ∀ x ∈ l.foldl keyF M, x < 2 ^ 128 := by
    intro l
    induction l with
    | nil => intro M _ hM; exact hM
    | cons c l ih => intro M hl hM; exact ih _ (fun d hd => hl d (List.mem_cons_of_mem _ hd)) (keyF_lt hM (hl c (by simp)))
  exact this l _ h fun x hx => by have := List.eq_of_mem_replicate hx; subst this; decide
/-- What the keys of contacts have. -/
theorem keysOf_test {n : Nat} {l : List Ct} (h : ∀ c ∈ l, 0 ≤ c.1 ∧ c.1 < n ∧ 0 ≤ c.2) {d i : Nat} (hd : d < n) : (((keysOf n l).getD d 0).testBit i = true ↔ ((d : Int), (i : Int)) ∈ l) := by
  have : ∀ (l : List Ct) (M : List Nat), M.length = n → (∀ c ∈ l, 0 ≤ c.1 ∧ c.1 < n ∧ 0 ≤ c.2) → (((l.foldl keyF M).getD d 0).testBit i = true ↔ (M.getD d 0).testBit i = true ∨ ((d : Int), (i : Int)) ∈ l) := by
    intro l
    induction l with
    | nil => intro M _ _; simp
    | cons c l ih =>
      intro M hM hl
      have hc := hl c (by simp)
      rw [List.foldl_cons, ih (keyF M c) (by rw [keyF_len]; exact hM) fun e he => hl e (List.mem_cons_of_mem _ he), List.mem_cons]
      have hk : ((keyF M c).getD d 0).testBit i = true ↔ (M.getD d 0).testBit i = true ∨ ((d : Int), (i : Int)) = c := by
        unfold keyF
        by_cases e : c.1.toNat = d
        · subst e
          have hlt : c.1.toNat < M.length := by omega
          rw [show (M.set c.1.toNat (M.getD c.1.toNat 0 ||| Hit.bit c.2.toNat)).getD c.1.toNat 0 = M.getD c.1.toNat 0 ||| Hit.bit c.2.toNat from by
            rw [List.getD_eq_getElem?_getD, List.getElem?_set_self hlt]; rfl, Nat.testBit_or, Bool.or_eq_true, Hit.bit_test, decide_eq_true_eq]
          constructor
          · rintro (q | q)
            · exact .inl q
            · exact .inr (Prod.ext (by simp; omega) (by simp; omega))
          · rintro (q | q)
            · exact .inl q
            · refine .inr ?_
              have := congrArg Prod.snd q
              simp at this
              omega
        · rw [show (M.set c.1.toNat (M.getD c.1.toNat 0 ||| Hit.bit c.2.toNat)).getD d 0 = M.getD d 0 from by
            rw [List.getD_eq_getElem?_getD, List.getElem?_set_ne e, List.getD_eq_getElem?_getD]]
          constructor
          · exact .inl
          · rintro (q | q)
            · exact q
            · refine absurd ?_ e
              have := congrArg Prod.fst q
              simp at this
              omega
      rw [hk]
      constructor
      · rintro ((q | q) | q)
        · exact .inl q
        · exact .inr (.inl q)
        · exact .inr (.inr q)
      · rintro (q | q | q)
        · exact .inl (.inl q)
        · exact .inl (.inr q)
        · exact .inr q
  unfold keysOf
  rw [this l _ (by simp) h]
  have h0 : ((List.replicate n 0).getD d 0).testBit i = false := by
    rw [List.getD_eq_getElem?_getD, List.getElem?_replicate]
    split <;> simp
  rw [h0]
  simp
end Cou
end Go.Proofs.YtnkjhppjjklgfaaDoor
namespace Go.Proofs.YtnkjhppjjklgfaaDoor
open Go Go.RowKit Go.Shelf
theorem infoNt : (Tryd.prog.info? 70).map (fun i => (i.zero, i.size, i.bytes)) = some (some (.agg #[.int .u64 0, .int .u64 0]), 2, 16) := by kernel_rfl
theorem made_nt : ∀ n : Nat, (madeCells #[Value.int .u64 0, Value.int .u64 0] (n * 2)).toList = ntCs (List.replicate n 0) := by
  intro n
  unfold madeCells
  refine List.ext_getElem? fun i => ?_
  by_cases hi : i < n * 2
  · have h1 : i / 2 < (List.replicate n 0).length := by simp; omega
    obtain ⟨g0, g1⟩ := ntCs_get h1
    have hm : i = i / 2 * 2 ∨ i = i / 2 * 2 + 1 := by omega
    have hx : (List.replicate n 0)[i / 2] = 0 := by simp
    rw [hx] at g0 g1
    rcases hm with e | e
    · rw [e, g0]
      simp
      exact ⟨i / 2 * 2, by rw [List.getElem?_range (by omega)], by rw [show i / 2 * 2 % 2 = 0 by omega]; rfl⟩
    · rw [e, g1]
      simp
      exact ⟨i / 2 * 2 + 1, by rw [List.getElem?_range (by omega)], by rw [show (i / 2 * 2 + 1) % 2 = 1 by omega]; rfl⟩
  · rw [List.getElem?_eq_none (by simp; omega), List.getElem?_eq_none (by rw [ntCs_len]; simp; omega)]
theorem hmkNt (n : Nat) (hn : n ≤ 1000) (W : World) : (Instr.makeSlice 64 (.int .i64 (n : Int)) (.int .i64 (n : Int))).run Tryd.prog W = .ok (.slice (some ⟨W.heap.size, 0, none⟩) n n) (W.alloc (.cells (ntCs (List.replicate n 0)).toArray 70)) := by
  obtain ⟨i, hi, hz, hs, hb⟩ := info_parts infoNt
  have := run_make_rowN (P := Tryd.prog) 64 70 i _ Tryd.underlying64 hi hz .i64 .i64 n n (Nat.le_refl _) (by rw [hb]; omega) (by omega) W
  rw [this, hs, ← made_nt n]
  rfl
theorem of_one (n : Nat) (hn : n < 128) (g : Nat) (W : World) (hc : W.cell? ⟨g, 0, none⟩ = some (.int .i64 (n : Int))) (hg : g < W.heap.size) :
    Calls Tryd.prog 48 #[.slice (some ⟨g, 0, none⟩) 1 1] W fun e w' => e = .returned (.tuple #[ntV (Hit.bit n), .int .i64 0]) ∧ Below W.heap.size W w' := by
  have := of_any (.slice (some ⟨g, 0, none⟩) 1 1) [(n : Int)] W (fun b => b < W.heap.size) (fun _ h => h) (SlI.one hc hg) (by simp)
  have e : ofR [(n : Int)] = (Hit.bit n, 0) := by
    have hb : Nt.noteB (n : Int) = true := by unfold Nt.noteB; simp; omega
    unfold ofR
    rw [if_pos (by simp [hb])]
    simp [Nt.setF]
  rw [e] at this
  exact this
set_option maxRecDepth 100000 in
set_option maxHeartbeats 4000000 in
theorem keys_any (a : Cou.Ac) (hok : Cou.Ok a) (vd vc v : Value) (l : List Cou.Ct) (hl : ∀ c ∈ l, Cou.InA a c) (hlen : l.length ≤ 100000) (dr : Int) (w : World) (F G : Nat → Prop) (hA : AcAt F w vd vc a) (hG : ∀ b, G b → b < w.heap.size) (hP : SlCt G w v l) :
    Calls Tryd.prog 51 #[.agg #[vd, vc, .int .u64 dr], v] w fun e w' => ∃ kb, e = .returned (.slice (some ⟨kb, 0, none⟩) a.divs.length a.divs.length) ∧ w.heap.size ≤ kb ∧ Blk w' kb 70 (ntCs (Cou.keysOf a.divs.length l)).toArray ∧ Below w.heap.size w w' := by
  obtain ⟨Ad, cd, rfl, _, _⟩ := id hA.dv.open
  obtain ⟨Ac, cc, rfl, _, _⟩ := id hA.cp.open
  obtain ⟨Ap, cp, rfl, _, _, hap⟩ := id hP.open
  have hin : ∀ c ∈ l, 0 ≤ c.1 ∧ c.1 < a.divs.length ∧ 0 ≤ c.2 ∧ c.2 ≤ 127 := fun c hc => ⟨((hl c hc).key hok).1, (hl c hc).2.1, ((hl c hc).key hok).2.2⟩
  obtain ⟨n, hn⟩ : ∃ n, a.divs.length = n := ⟨_, rfl⟩
  have hn8 : n ≤ 8 := by rw [← hn]; exact hok.nd
  rw [hn] at hin ⊢
  obtain ⟨m, hm⟩ : ∃ m, l.length = m := ⟨_, rfl⟩
  rw [hm] at hlen ⊢
  obtain ⟨B, hBB⟩ : ∃ B, w.heap.size = B := ⟨_, rfl⟩
  obtain ⟨w1, hw1⟩ : ∃ w1 : World, w.alloc (.cells #[.slice Ad n cd, .slice Ac a.cps.length cc, .int .u64 dr] 34) = w1 := ⟨_, rfl⟩
  have x0 : w1.cell? ⟨B, 0, none⟩ = some (.slice Ad n cd) := by rw [← hw1, ← hBB]; simp [go_sem]
  have B1 : Below w.heap.size w w1 := by rw [← hw1]; exact Ba (B0 w) _
  have s1 : w1.heap.size = B + 1 := by rw [← hw1, ← hBB]; simp
  have hmk := hmkNt n (by omega) w1
  obtain ⟨w2, hw2⟩ : ∃ w2 : World, w1.alloc (.cells (ntCs (List.replicate n 0)).toArray 70) = w2 := ⟨_, rfl⟩
  have K2 : Blk w2 (B + 1) 70 (ntCs (Cou.keysOf n (l.take 0))).toArray := by rw [← hw2, ← s1]; exact Blk.new _ _ _
  have B2 : Below w1.heap.size w1 w2 := by rw [← hw2]; exact Ba (B0 w1) _
  rw [hw2, s1] at hmk
  have HW1 := Lib.hid hw1
  have HBB := Lib.hid hBB
  have HB1 := Lib.hid B1
  have HK2 := Lib.hid K2
  have HB2 := Lib.hid B2
  have HM := Lib.hid hm
  have HIN := Lib.hid hin
  have HAP := Lib.hid hap
  have hmI : (m : Int) ≤ 9223372036854775807 := by omega
  clear hw1 B1 hBB hap hA hP hl hm hn hw2 K2 B2 hok hin
  go_enter Tryd.func51, Tryd.ntmps51
  go_upto_region 1 with fail
  rw [HW1.out, HBB.out]
  go_wp2_with fail
  clear x0 hmk
  go_loopw [16] (fun s16 wr => ∃ k : Nat, k ≤ m ∧ s16 = .int .i64 k ∧ Aside (Blk wr (B + 1) 70 (ntCs (Cou.keysOf n (l.take k))).toArray) ∧ Aside (Below w1.heap.size w1 wr)) (fun s16 _ => m - (intOf s16).toNat)
  case atStart => exact ⟨0, by omega, rfl, HK2.out, HB2.out⟩
  case round =>
    obtain ⟨k, hk, rfl, hK, hB⟩ := hrel
    replace hK : Blk wr (B + 1) 70 (ntCs (Cou.keysOf n (l.take k))).toArray := hK
    replace hB : Below w1.heap.size w1 wr := hB
    by_cases hlt : k < m
    · have hltI : (k : Int) < m := by omega
      have hk1 : k < l.length := by rw [HM.out]; exact hlt
      obtain ⟨ap, rfl, hfp, hflp⟩ := HAP.out k hk1
      have hpb : (ap.add (k * 2)).block < w.heap.size := by rw [block_of_add]; exact hG _ hfp
      have q := (hflp.below HB1.out hpb).below hB (Nat.lt_of_lt_of_le hpb HB1.out.size)
      have p0 := q.f0 rfl
      have p1 := q.f1 rfl
      have hsn : l.take (k + 1) = l.take k ++ [l[k]] := by rw [List.take_add_one, List.getElem?_eq_getElem hk1]; rfl
      have hcn := HIN.out l[k] (List.getElem_mem hk1)
      have hlt128 := Cou.keysOf_lt (n := n) (l := l.take k) (fun c hc => ⟨(HIN.out c (List.mem_of_mem_take hc)).2.2.1, (HIN.out c (List.mem_of_mem_take hc)).2.2.2⟩)
      have HSN := Lib.hid hsn
      clear hflp q hsn
      generalize l[k] = c at *
      obtain ⟨c1, c2⟩ := c
      dsimp only at p0 p1 hcn
      obtain ⟨d, rfl⟩ : ∃ d : Nat, c1 = d := ⟨c1.toNat, by omega⟩
      obtain ⟨e2, rfl⟩ : ∃ e2 : Nat, c2 = e2 := ⟨c2.toNat, by omega⟩
      have hd : d < n := by omega
      have he : e2 < 128 := by omega
      have hML := Cou.keysOf_len n (l.take k)
      have hst : Cou.keysOf n (l.take (k + 1)) = (Cou.keysOf n (l.take k)).set d ((Cou.keysOf n (l.take k)).getD d 0 ||| Hit.bit e2) := by
        rw [HSN.out, Cou.keysOf_snoc]; rfl
      obtain ⟨M, hM⟩ : ∃ M, Cou.keysOf n (l.take k) = M := ⟨_, rfl⟩
      rw [hM] at hK hML hst hlt128
      have hdM : d < M.length := by omega
      obtain ⟨y0, y1⟩ := ntCs_get hdM
      have hgD : M.getD d 0 = M[d] := by rw [List.getD_eq_getElem?_getD, List.getElem?_eq_getElem hdM]; rfl
      have hxm := hlt128 _ (List.getElem_mem hdM)
      have hsetl := ntCs_set hdM (M[d] ||| Hit.bit e2)
      rw [hgD] at hst
      have hun : ∀ W, Calls Tryd.prog 31 #[ntV M[d], ntV (Hit.bit e2)] W fun e w' => e = .returned (ntV (M[d] ||| Hit.bit e2)) ∧ Below W.heap.size W w' := fun W => union_any M[d] (Hit.bit e2) hxm (Hit.bit_lt he) W
      have hdI : (d : Int) < n := by omega
      have HUN := Lib.hid hun
      have HST := Lib.hid hst
      have HSL := Lib.hid hsetl
      have HK := Lib.hid hK
      have HB := Lib.hid hB
      have HY := Lib.hid (show (ntCs M).toArray[d * 2]? = some (.int .u64 ((Nt.lo M[d] : Nat) : Int)) ∧ (ntCs M).toArray[d * 2 + 1]? = some (.int .u64 ((Nt.hi M[d] : Nat) : Int)) from ⟨by rw [List.getElem?_toArray]; exact y0, by rw [List.getElem?_toArray]; exact y1⟩)
      have z0 := (hK.cell (d * 2)).trans HY.out.1
      have z1 := (hK.cell (d * 2 + 1)).trans HY.out.2
      have hOF := Lib.hid (fun g W h1 h2 => of_one e2 he g W h1 h2)
      clear hun hst hsetl hK hB hM hML hgD y0 y1 hlt128 hxm hk1 hcn
      generalize M[d] ||| Hit.bit e2 = r at *
      generalize M[d] = xm at *
      clear hdM
      unfold ntV at *
      go_upto_region 5 with fail
      obtain ⟨w3, hw3⟩ : ∃ w3 : World, wr.alloc (.cells #[.int .i64 (d : Int), .int .i64 (e2 : Int)] 28) = w3 := ⟨_, rfl⟩
      obtain ⟨b7, hb7⟩ : ∃ b7, wr.heap.size = b7 := ⟨_, rfl⟩
      have C7 : Blk w3 b7 28 #[.int .i64 (d : Int), .int .i64 (e2 : Int)] := by rw [← hw3, ← hb7]; exact Blk.new _ _ _
      have B3 : Below wr.heap.size wr w3 := by rw [← hw3]; exact Ba (B0 wr) _
      rw [hw3, hb7]
      have c0 := C7.cell 0
      have c1 := C7.cell 1
      simp only [List.getElem?_toArray, List.getElem?_cons_zero, List.getElem?_cons_succ] at c0 c1
      have hof := hOF.out w3.heap.size (w3.alloc (.cells #[.int .i64 (e2 : Int)] 3)) (by simp [go_sem]) (by simp)
      have HOF1 := Lib.hid hof
      have HC7 := Lib.hid C7
      have HB3 := Lib.hid B3
      clear hw3 C7 B3 hof hOF p0 p1 hb7 z0 z1
      go_upto_region 6 with (go_at_call 48; (with_reducible refine (HOF1.out.mono ?_)); rintro e w5 ⟨rfl, hb5⟩; have HB5 := Lib.hid (Bt (Ba HB3.out _) hb5); have HB35 := Lib.hid (Bt (Ba (B0 w3) _) hb5); clear hb5)
      obtain ⟨w6, hw6⟩ : ∃ w6 : World, w5.alloc (.cells #[.int .u64 ((Nt.lo (Hit.bit e2) : Nat) : Int), .int .u64 ((Nt.hi (Hit.bit e2) : Nat) : Int)] 70) = w6 := ⟨_, rfl⟩
      obtain ⟨b8, hb8⟩ : ∃ b8, w5.heap.size = b8 := ⟨_, rfl⟩
      have C8 : Blk w6 b8 70 #[.int .u64 ((Nt.lo (Hit.bit e2) : Nat) : Int), .int .u64 ((Nt.hi (Hit.bit e2) : Nat) : Int)] := by rw [← hw6, ← hb8]; exact Blk.new _ _ _
      have B6 : Below wr.heap.size wr w6 := by rw [← hw6]; exact Ba HB5.out _
      have C76 : Blk w6 b7 28 #[.int .i64 (d : Int), .int .i64 (e2 : Int)] := by rw [← hw6]; exact (HC7.out.below HB35.out HC7.out.lt).alloc _
      have K6 := HK.out.below B6 HK.out.lt
      rw [hw6, hb8]
      clear c0 c1 hw6 hb8
      have c0 := C76.cell 0
      have d0 := C8.cell 0
      have d1 := C8.cell 1
      simp only [List.getElem?_toArray, List.getElem?_cons_zero, List.getElem?_cons_succ] at c0 d0 d1
      have z0 := (K6.cell (d * 2)).trans HY.out.1
      have z1 := (K6.cell (d * 2 + 1)).trans HY.out.2
      have HC8 := Lib.hid C8
      have HB6 := Lib.hid B6
      have HC76 := Lib.hid C76
      have HK6 := Lib.hid K6
      clear C8 B6 C76 K6
      go_region_with (go_at_call 31; (with_reducible refine ((HUN.out _).mono ?_)); rintro e w8 ⟨rfl, hb8⟩; have K8 := HK6.out.drew.below hb8 HK6.out.lt; have f8 := K8.frozen; have z80 := (K8.cell (d * 2)).trans HY.out.1; have z81 := (K8.cell (d * 2 + 1)).trans HY.out.2; have c80 := ((HC76.out.drew.below hb8 HC76.out.lt).cell 0); simp only [List.getElem?_toArray, List.getElem?_cons_zero] at c80; have HK8 := Lib.hid K8; have HB8 := Lib.hid hb8; clear K8 hb8)
      all_goals
        go_wp2_with fail
        go_roundw
        case rel =>
          refine ⟨k + 1, by omega, by go_num, ?_, ?_⟩
          · show Blk _ (B + 1) _ _
            rw [HST.out, ← HSL.out]
            have := (HK8.out.set_ (d * 2) (.int .u64 ((Nt.lo r : Nat) : Int))).set_ (d * 2 + 1) (.int .u64 ((Nt.hi r : Nat) : Int))
            simp only [List.setIfInBounds_toArray] at this
            exact this
          · show Below _ _ _
            have hs := s1
            exact Bs (Bs (Bt HB.out (Bt HB6.out ((B0 w6).drew.trans (HB8.out.mono (Nat.le_refl _))))) _ (by simp; omega)) _ (by simp; omega)
        case measure => simp [intOf]; omega
    · obtain rfl : k = m := by omega
      rw [List.take_of_length_le (by rw [HM.out]; omega)] at hK
      have HK := Lib.hid hK
      have HB := Lib.hid hB
      clear hK hB
      go_wp2_with fail
      go_ret
      exact ⟨B + 1, rfl, by have := HBB.out; omega, HK.out, Bt HB1.out HB.out⟩
end Go.Proofs.YtnkjhppjjklgfaaDoor
