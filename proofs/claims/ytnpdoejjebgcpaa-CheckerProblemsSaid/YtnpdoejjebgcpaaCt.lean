/- Walks over checker: the nodes below one are a proof. -/
import Derived.Test.YtnpdoejjebgcpaaCb
import Derived.Test.YtnpdoejjebgcpaaVb
import Derived.Deep.RegionHeld3
import Derived.Deep.CutRange
namespace Go.Proofs.Ytnpdoejjebgcpaa
open Go Go.RowKit
theorem SlI.two {F : Nat → Prop} {W : World} {b : Nat} {x y : Int} (h0 : W.cell? ⟨b, 0, none⟩ = some (.int .i64 x)) (h1 : W.cell? ⟨b, 1, none⟩ = some (.int .i64 y)) (hF : F b) : SlI F W (.slice (some ⟨b, 0, none⟩) 2 2) [x, y] := by
  refine ⟨_, 2, rfl, by simp, by simp, fun i hi => ?_⟩
  have hi' : i < 2 := by simpa using hi
  rcases (show i = 0 ∨ i = 1 by omega) with rfl | rfl
  · refine ⟨_, [.int .i64 x], rfl, hF, rfl, rfl, fun j u hu => ?_⟩
    cases j with
    | zero => simp at hu; subst hu; simpa [Addr.add] using h0
    | succ j => simp at hu
  · refine ⟨_, [.int .i64 y], rfl, hF, rfl, rfl, fun j u hu => ?_⟩
    cases j with
    | zero => simp at hu; subst hu; simpa [Addr.add] using h1
    | succ j => simp at hu
theorem within_one (lo hi a : Int) (W : World) : Calls Try.prog 21 #[.int .i64 lo, .int .i64 hi, .slice (some ⟨W.heap.size, 0, none⟩) 1 1] (W.alloc (.cells #[.int .i64 a] 3)) fun e w' => e = .returned (.bool (withinB lo hi [a])) ∧ Below W.heap.size W w' :=
  (within_any lo hi _ [a] _ (fun b => b < (W.alloc (.cells #[.int .i64 a] 3)).heap.size) (fun _ h => h) (SlI.one (by simp [go_sem]) (by simp))).mono fun _ _ ⟨h1, h2⟩ => ⟨h1, Bt (Ba (B0 W) _) h2⟩
theorem within_two (lo hi a b : Int) (W : World) : Calls Try.prog 21 #[.int .i64 lo, .int .i64 hi, .slice (some ⟨W.heap.size, 0, none⟩) 2 2] (W.alloc (.cells #[.int .i64 a, .int .i64 b] 3)) fun e w' => e = .returned (.bool (withinB lo hi [a, b])) ∧ Below W.heap.size W w' :=
  (within_any lo hi _ [a, b] _ (fun b' => b' < (W.alloc (.cells #[.int .i64 a, .int .i64 b] 3)).heap.size) (fun _ h => h) (SlI.two (by simp [go_sem]) (by simp [go_sem]) (by simp))).mono fun _ _ ⟨h1, h2⟩ => ⟨h1, Bt (Ba (B0 W) _) h2⟩
theorem within1_eq (lo hi a : Int) : withinB lo hi [a] = decide (lo ≤ a ∧ a ≤ hi) := by
  unfold withinB; simp
theorem within2_eq (lo hi a b : Int) : withinB lo hi [a, b] = decide ((lo ≤ a ∧ a ≤ hi) ∧ lo ≤ b ∧ b ≤ hi) := by
  unfold withinB; simp
/-- The checker of a tree: what it has seen, its sets and its tree. -/
structure TSt (sb B : Nat) (vs vt : Value) (ws : List Nat) (t : List Hit.TNode) (F G : Nat → Prop) (w : World) (s : List Bool) : Prop where
  row : w.rowIs sb 4 t.length (fun j => .bool (s.getD j false))
  sets : SlII F w vs (setsOf ws)
  tree : SlT G w vt t
  len : s.length = t.length
  lo : B ≤ w.heap.size
  fF : ∀ b, F b → b < B ∧ b ≠ sb
  fG : ∀ b, G b → b < B ∧ b ≠ sb
section
variable {sb B : Nat} {vs vt : Value} {ws : List Nat} {t : List Hit.TNode} {F G : Nat → Prop} {w w' : World} {s s' : List Bool}
theorem TSt.below (h : TSt sb B vs vt ws t F G w s) (hb : Below w.heap.size w w') : TSt sb B vs vt ws t F G w' s :=
  ⟨h.row.of_block (hb.block _ h.row.lt), h.sets.keep (Agree.below hb fun b hF => by have := (h.fF b hF).1; have := h.lo; omega), h.tree.keep (Agree.below hb fun b hG => by have := (h.fG b hG).1; have := h.lo; omega), h.len, Nat.le_trans h.lo hb.size, h.fF, h.fG⟩
theorem TSt.grown (h : TSt sb B vs vt ws t F G w s) (hg : w.grownBy w' (some sb)) (hr : w'.rowIs sb 4 t.length (fun j => .bool (s'.getD j false))) (hl : s'.length = t.length) : TSt sb B vs vt ws t F G w' s' :=
  ⟨hr, h.sets.keep (Agree.grown hg fun b hF => ⟨by have := (h.fF b hF).1; have := h.lo; omega, by intro e; injection e with e; exact (h.fF b hF).2 e⟩),
    h.tree.keep (Agree.grown hg fun b hG => ⟨by have := (h.fG b hG).1; have := h.lo; omega, by intro e; injection e with e; exact (h.fG b hG).2 e⟩), hl, Nat.le_trans h.lo hg.size, h.fF, h.fG⟩
end
namespace Hit
section
variable {ws : List Nat} {n : Nat} {size cost : Int} {t : List TNode} {d at_ taken out : Nat} {seen : List Bool}
theorem treeC_seen (h : seen.getD at_ false = true) : treeC ws n size t (d + 1) at_ taken out cost seen = none := by
  unfold treeC; rw [if_pos h]
theorem treeC_leaf (h : seen.getD at_ false = false) (h0 : (t.getD at_ node0).yes = 0 ∧ (t.getD at_ node0).no = 0) : treeC ws n size t (d + 1) at_ taken out cost seen = if leafCGo ws size cost (t.getD at_ node0).weights.length taken out [] (t.getD at_ node0).weights 0 then some (seen.set at_ true) else none := by
  unfold treeC
  rw [if_neg (by rw [h]; simp)]
  simp only
  rw [if_pos h0]
def BadC (n len at_ taken out : Nat) (x : TNode) : Prop := (x.yes < (at_ : Int) + 1 ∨ x.yes > (len : Int) - 1 ∨ x.no < (at_ : Int) + 1 ∨ x.no > (len : Int) - 1) ∨ (x.pick < 0 ∨ x.pick > (n : Int) - 1) ∨ (taken ||| out).testBit x.pick.toNat = true
theorem treeC_bad (h : seen.getD at_ false = false) (h0 : ¬ ((t.getD at_ node0).yes = 0 ∧ (t.getD at_ node0).no = 0)) (hb : BadC n t.length at_ taken out (t.getD at_ node0)) : treeC ws n size t (d + 1) at_ taken out cost seen = none := by
  unfold BadC at hb
  unfold treeC
  rw [if_neg (by rw [h]; simp)]
  simp only
  rw [if_neg h0, if_pos hb]
theorem treeC_on (h : seen.getD at_ false = false) (h0 : ¬ ((t.getD at_ node0).yes = 0 ∧ (t.getD at_ node0).no = 0)) (hb : ¬ BadC n t.length at_ taken out (t.getD at_ node0)) : treeC ws n size t (d + 1) at_ taken out cost seen =
    match treeC ws n size t d (t.getD at_ node0).yes.toNat (taken ||| bit (t.getD at_ node0).pick.toNat) out (cost + 1) (seen.set at_ true) with
        | none => none
        | some s => treeC ws n size t d (t.getD at_ node0).no.toNat taken (out ||| bit (t.getD at_ node0).pick.toNat) cost s := by
  unfold BadC at hb
  conv => lhs; unfold treeC
  rw [if_neg (by rw [h]; simp)]
  simp only
  rw [if_neg h0, if_neg hb]
  cases treeC ws n size t d (t.getD at_ node0).yes.toNat (taken ||| bit (t.getD at_ node0).pick.toNat) out (cost + 1) (seen.set at_ true) <;> rfl
end
end Hit
set_option maxRecDepth 200000 in
set_option maxHeartbeats 8000000 in
theorem tree_any (n : Nat) (hn : n ≤ 20) (As : Option Addr) (cs : Nat) (At : Option Addr) (ct : Nat) (size : Int) (ws : List Nat) (hw : ∀ s ∈ ws, s < 4294967296) (hwl : ws.length ≤ 1000) (t : List Hit.TNode) (htl : t.length ≤ 1000000) (hll : ∀ x ∈ t, x.weights.length ≤ 1000000) (sb B : Nat) (F G : Nat → Prop) :
    ∀ (d at_ taken out cost : Nat) (seen : List Bool) (w : World), t.length ≤ at_ + d → at_ < t.length → cost ≤ at_ → taken < 2 ^ n → out < 2 ^ n → TSt sb B (.slice As ws.length cs) (.slice At t.length ct) ws t F G w seen →
      Calls Try.prog 43 #[.agg #[.int .i64 n, .slice As ws.length cs, .int .i64 size, .slice At t.length ct], .int .i64 at_, .agg #[.int .u64 taken, .int .u64 out, .int .i64 cost], .slice (some ⟨sb, 0, none⟩) t.length t.length] w (RightP sb t.length w (Hit.treeC ws n size t d at_ taken out (cost : Nat) seen)) := by
  intro d
  induction d with
  | zero => intro at_ taken out cost seen w h1 h2; omega
  | succ d ih =>
    intro at_ taken out cost seen w hfu hat hct htk hot hV
    have h20 : 2 ^ n ≤ 1048576 := Nat.pow_le_pow_right (n := 2) (by decide) hn
    have hatI : (at_ : Int) < t.length := by omega
    have hsl := hV.row.lt
    have HV := Lib.hid hV
    have HIH := Lib.hid ih
    have HW := Lib.hid hw
    have HLL := Lib.hid hll
    clear ih hw hll hV
    go_enter Try.func43, Try.ntmps43
    go_upto_region 1 with fail
    obtain ⟨w1, hw1⟩ : ∃ w1 : World, ((w.alloc (.cells #[.int .i64 n, .slice As ws.length cs, .int .i64 size, .slice At t.length ct] 70)).alloc (.cells #[.int .u64 (taken : Int), .int .u64 (out : Int), .int .i64 cost] 104)) = w1 := ⟨_, rfl⟩
    have e0 : w1.cell? ⟨w.heap.size, 0, none⟩ = some (.int .i64 n) := by rw [← hw1]; simp [go_sem]
    have e1 : w1.cell? ⟨w.heap.size, 1, none⟩ = some (.slice As ws.length cs) := by rw [← hw1]; simp [go_sem]
    have e2 : w1.cell? ⟨w.heap.size, 2, none⟩ = some (.int .i64 size) := by rw [← hw1]; simp [go_sem]
    have e3 : w1.cell? ⟨w.heap.size, 3, none⟩ = some (.slice At t.length ct) := by rw [← hw1]; simp [go_sem]
    have c0 : w1.cell? ⟨w.heap.size + 1, 0, none⟩ = some (.int .u64 taken) := by rw [← hw1]; simp [go_sem]
    have c1 : w1.cell? ⟨w.heap.size + 1, 1, none⟩ = some (.int .u64 out) := by rw [← hw1]; simp [go_sem]
    have c2 : w1.cell? ⟨w.heap.size + 1, 2, none⟩ = some (.int .i64 cost) := by rw [← hw1]; simp [go_sem]
    have hs1 : w.heap.size + 1 < w1.heap.size := by rw [← hw1]; simp
    have hB1 : Below w.heap.size w w1 := by rw [← hw1]; exact Ba (Ba (B0 w) _) _
    rw [hw1]
    clear hw1
    have hV1 := HV.out.below hB1
    have hc := hV1.row.cell hat
    have hfr := hV1.row.frozen at_
    have HV1 := Lib.hid hV1
    have HB1 := Lib.hid hB1
    clear hV1 hB1 HV
    cases hse : seen.getD at_ false with
    | true =>
      rw [hse] at hc
      have hr := Hit.treeC_seen (ws := ws) (n := n) (size := size) (cost := cost) (t := t) (d := d) (taken := taken) (out := out) hse
      have HR := Lib.hid hr
      clear hr hse e0 e1 e2 e3 c0 c1 c2
      go_wp2_with fail
      go_ret
      rw [HR.out]
      exact RightP.none_ (grown_of_below HB1.out sb)
    | false =>
      rw [hse] at hc
      have hL := @Hit.treeC_leaf ws n size cost t d at_ taken out seen hse
      have hBd := @Hit.treeC_bad ws n size cost t d at_ taken out seen hse
      have hOn := @Hit.treeC_on ws n size cost t d at_ taken out seen hse
      have hgs := grown_setCell w1 sb at_ (.bool true)
      have hV2 := HV1.out.grown hgs (bool_set HV1.out.row HV1.out.len at_ true) (by rw [List.length_set]; exact HV1.out.len)
      have hs2 : w.heap.size + 1 < (w1.setCell ⟨sb, at_, none⟩ (.bool true)).heap.size := by rw [World.size_setCell]; exact hs1
      obtain ⟨At', ct', hvt, _, _, htat⟩ := hV2.tree.open
      injection hvt with q1 _ q2
      subst q1; subst q2
      obtain ⟨ad, vw, hA, hf, hsw, hfl⟩ := htat at_ hat
      subst hA
      obtain ⟨Aw, cw, rfl, _, _, _⟩ := id hsw.open
      have hgx : t.getD at_ Hit.node0 = t[at_] := by rw [List.getD_eq_getElem?_getD, List.getElem?_eq_getElem hat]; rfl
      rw [hgx] at hL hBd hOn
      have hlw := HLL.out _ (List.getElem_mem hat)
      have z0 := hfl.f0 rfl
      have z1 := hfl.f1 rfl
      have z2 := hfl.f2 rfl
      have z3 := hfl.f3 rfl
      have z4 := hfl.f4 rfl
      have r0 := (cell_grownBy hgs (g := w.heap.size) (i := 0) (by omega) (by omega)).trans e0
      have r1 := (cell_grownBy hgs (g := w.heap.size) (i := 1) (by omega) (by omega)).trans e1
      have r2 := (cell_grownBy hgs (g := w.heap.size) (i := 2) (by omega) (by omega)).trans e2
      have r3 := (cell_grownBy hgs (g := w.heap.size) (i := 3) (by omega) (by omega)).trans e3
      have s0 := (cell_grownBy hgs (g := w.heap.size + 1) (i := 0) (by omega) (by omega)).trans c0
      have s1 := (cell_grownBy hgs (g := w.heap.size + 1) (i := 1) (by omega) (by omega)).trans c1
      have s2 := (cell_grownBy hgs (g := w.heap.size + 1) (i := 2) (by omega) (by omega)).trans c2
      have hgr := grown_tr (grown_of_below HB1.out sb) hgs
      have hfb : (ad.add (at_ * 5)).block < (w1.setCell ⟨sb, at_, none⟩ (.bool true)).heap.size := by
        have h1 := hV2.fG _ hf; have h2 := hV2.lo; rw [block_of_add]; omega
      generalize t[at_] = x at *
      obtain ⟨pk, ys, no, bd, wt⟩ := x
      dsimp only at z0 z1 z2 z3 z4 hsw hL hBd hOn hlw
      unfold Hit.BadC at hBd hOn
      dsimp only at hBd hOn
      have HL := Lib.hid hL
      have HBd := Lib.hid hBd
      have HOn := Lib.hid hOn
      have HSW := Lib.hid hsw
      clear hL hBd hOn hsw hfl hgx hse htat hf hgs
      go_upto_region 4 with fail
      generalize (w1.setCell ⟨sb, at_, none⟩ (.bool true)) = w2 at *
      have HV2 := Lib.hid hV2
      have HG2 := Lib.hid hgr
      clear hV2 hgr e0 e1 e2 e3 c0 c1 c2 hc hfr HV1 HB1 hs1
      go_upto_region 5 with fail
      have hb3 := Ba (B0 w2) (.cells #[.int .i64 pk, .int .i64 ys, .int .i64 no, .int .i64 bd, .slice Aw wt.length cw] 42)
      have n0 : (w2.alloc (.cells #[.int .i64 pk, .int .i64 ys, .int .i64 no, .int .i64 bd, .slice Aw wt.length cw] 42)).cell? ⟨w2.heap.size, 0, none⟩ = some (.int .i64 pk) := by simp [go_sem]
      have n1 : (w2.alloc (.cells #[.int .i64 pk, .int .i64 ys, .int .i64 no, .int .i64 bd, .slice Aw wt.length cw] 42)).cell? ⟨w2.heap.size, 1, none⟩ = some (.int .i64 ys) := by simp [go_sem]
      have n2 : (w2.alloc (.cells #[.int .i64 pk, .int .i64 ys, .int .i64 no, .int .i64 bd, .slice Aw wt.length cw] 42)).cell? ⟨w2.heap.size, 2, none⟩ = some (.int .i64 no) := by simp [go_sem]
      have n3 : (w2.alloc (.cells #[.int .i64 pk, .int .i64 ys, .int .i64 no, .int .i64 bd, .slice Aw wt.length cw] 42)).cell? ⟨w2.heap.size, 3, none⟩ = some (.int .i64 bd) := by simp [go_sem]
      have n4 : (w2.alloc (.cells #[.int .i64 pk, .int .i64 ys, .int .i64 no, .int .i64 bd, .slice Aw wt.length cw] 42)).cell? ⟨w2.heap.size, 4, none⟩ = some (.slice Aw wt.length cw) := by simp [go_sem]
      have nbl : w2.heap.size < (w2.alloc (.cells #[.int .i64 pk, .int .i64 ys, .int .i64 no, .int .i64 bd, .slice Aw wt.length cw] 42)).heap.size := by simp
      have hsb2 := HV2.out.row.lt
      have nbs : w2.heap.size ≠ sb := by omega
      have hV3 := HV2.out.below hb3
      have hG3 := grown_tr HG2.out (grown_of_below hb3 sb)
      have hsw3 := HSW.out.keep (Agree.below hb3 fun b hb => by have := HV2.out.fG b hb; have := HV2.out.lo; omega)
      have e0 := (Bc hb3 (o := 0) (by omega : w.heap.size < w2.heap.size)).trans r0
      have e1 := (Bc hb3 (o := 1) (by omega : w.heap.size < w2.heap.size)).trans r1
      have e2 := (Bc hb3 (o := 2) (by omega : w.heap.size < w2.heap.size)).trans r2
      have e3 := (Bc hb3 (o := 3) (by omega : w.heap.size < w2.heap.size)).trans r3
      have c0 := (Bc hb3 (o := 0) (by omega : w.heap.size + 1 < w2.heap.size)).trans s0
      have c1 := (Bc hb3 (o := 1) (by omega : w.heap.size + 1 < w2.heap.size)).trans s1
      have c2 := (Bc hb3 (o := 2) (by omega : w.heap.size + 1 < w2.heap.size)).trans s2
      generalize (w2.alloc (.cells #[.int .i64 pk, .int .i64 ys, .int .i64 no, .int .i64 bd, .slice Aw wt.length cw] 42)) = w3 at *
      generalize w2.heap.size = nb at *
      have HV3 := Lib.hid hV3
      have HG3 := Lib.hid hG3
      have HSW3 := Lib.hid hsw3
      have hs3 : w.heap.size + 1 < w3.heap.size := by omega
      clear z0 z1 z2 z3 z4 r0 r1 r2 r3 s0 s1 s2 hV3 hG3 hsw3 HV2 HG2 HSW hb3 hfb hsb2
      by_cases hz : ys = 0 ∧ no = 0
      · have hLf := HL.out hz
        have hcall := leafC_any n (.slice As ws.length cs) (.slice (some ad) t.length ct) (.slice Aw wt.length cw) size cost pk ys no bd ws HW.out hwl wt hlw (by omega) taken out (by omega) (by omega) w3 F G (fun b hb => by have := HV3.out.fF b hb; have := HV3.out.lo; omega) (fun b hb => by have := HV3.out.fG b hb; have := HV3.out.lo; omega) HV3.out.sets HSW3.out
        have HLf := Lib.hid hLf
        obtain ⟨rfl, rfl⟩ := hz
        have HCall := Lib.hid hcall
        generalize Hit.leafCGo ws size cost wt.length taken out [] wt 0 = b at *
        clear hLf hcall
        go_wp2_with (go_at_call 65; (with_reducible refine (HCall.out.mono ?_)); rintro e w' ⟨rfl, hb4⟩; have HB4 := Lib.hid hb4; clear hb4)
        go_ret
        rw [HLf.out]
        have hg := grown_tr HG3.out (grown_of_below HB4.out sb)
        cases b with
        | false => exact ⟨hg, fun _ => rfl, fun s h => absurd h (by simp)⟩
        | true =>
          refine ⟨hg, fun h => absurd h (by simp), fun s h => ?_⟩
          have h2 : seen.set at_ true = s := by simpa using h
          subst h2
          have := HV3.out.below HB4.out
          exact ⟨rfl, this.len, this.row⟩
      · have hz2 : ((ys == 0) = true ∧ (no == 0) = false) ∨ (ys == 0) = false := by
          by_cases h : ys = 0
          · exact .inl ⟨by simp [h], by simp; exact fun h2 => hz ⟨h, h2⟩⟩
          · exact .inr (by simp [h])
        have hBd := fun hb => HBd.out hz hb
        have hOn := fun hb => HOn.out hz hb
        have HBd := Lib.hid hBd
        have HOn := Lib.hid hOn
        clear hBd hOn hz HL HSW3 n3 n4 hlw
        go_cut [31] from 24 to 30 (fun s31 wx => s31 = .bool false ∧ wx = w3)
        case first =>
          rcases hz2 with ⟨hz2, hz3⟩ | hz2
          all_goals
            go_wp2_with fail
            go_meet
            exact ⟨rfl, rfl⟩
        case rest =>
          obtain ⟨rfl, rfl⟩ := hcut
          clear hz2
          obtain ⟨w3, rfl⟩ : ∃ w3 : World, w3 = wc := ⟨_, rfl⟩
          obtain ⟨bad, hbad⟩ : ∃ bad : Bool, bad = true ↔ ((ys < (at_ : Int) + 1 ∨ ys > (t.length : Int) - 1 ∨ no < (at_ : Int) + 1 ∨ no > (t.length : Int) - 1) ∨ (pk < 0 ∨ pk > (n : Int) - 1) ∨ (taken ||| out).testBit pk.toNat = true) := ⟨decide _, decide_eq_true_iff⟩
          have HBAD := Lib.hid hbad
          have k : ∀ W, Below w3.heap.size w3 W → (W.cell? ⟨w.heap.size, 0, none⟩ = some (.int .i64 n) ∧ W.cell? ⟨w.heap.size, 1, none⟩ = some (.slice As ws.length cs) ∧ W.cell? ⟨w.heap.size, 2, none⟩ = some (.int .i64 size) ∧ W.cell? ⟨w.heap.size, 3, none⟩ = some (.slice (some ad) t.length ct)) ∧
              (W.cell? ⟨w.heap.size + 1, 0, none⟩ = some (.int .u64 taken) ∧ W.cell? ⟨w.heap.size + 1, 1, none⟩ = some (.int .u64 out) ∧ W.cell? ⟨w.heap.size + 1, 2, none⟩ = some (.int .i64 cost)) ∧ W.cell? ⟨nb, 0, none⟩ = some (.int .i64 pk) ∧ W.cell? ⟨nb, 1, none⟩ = some (.int .i64 ys) ∧ W.cell? ⟨nb, 2, none⟩ = some (.int .i64 no) := fun W hW =>
            ⟨⟨(Bc hW (by omega)).trans e0, (Bc hW (by omega)).trans e1, (Bc hW (by omega)).trans e2, (Bc hW (by omega)).trans e3⟩, ⟨(Bc hW hs3).trans c0, (Bc hW hs3).trans c1, (Bc hW hs3).trans c2⟩, (Bc hW nbl).trans n0, (Bc hW nbl).trans n1, (Bc hW nbl).trans n2⟩
          have K := Lib.hid k
          clear hbad k
          go_upto_region 7 with fail
          go_cut [70] from 36 to 69 (fun s70 wx => s70 = .bool bad ∧ Below w3.heap.size w3 wx)
          case first =>
            by_cases hkd : ((at_ : Int) + 1 ≤ ys ∧ ys ≤ (t.length : Int) - 1) ∧ (at_ : Int) + 1 ≤ no ∧ no ≤ (t.length : Int) - 1
            · have hw2 := within_two ((at_ : Int) + 1) ((t.length : Int) - 1) ys no w3
              rw [within2_eq, decide_eq_true hkd] at hw2
              have HW2 := Lib.hid hw2
              clear hw2
              by_cases hp : 0 ≤ pk ∧ pk ≤ (n : Int) - 1
              · have hw1 : ∀ W : World, Calls Try.prog 21 #[.int .i64 0, .int .i64 ((n : Int) - 1), .slice (some ⟨W.heap.size, 0, none⟩) 1 1] (W.alloc (.cells #[.int .i64 pk] 3)) fun e w' => e = .returned (.bool true) ∧ Below W.heap.size W w' := fun W => by
                  have := within_one 0 ((n : Int) - 1) pk W
                  rwa [within1_eq, decide_eq_true hp] at this
                obtain ⟨p, rfl⟩ := Int.eq_ofNat_of_zero_le hp.1
                have hpn : p < n := by omega
                have h4 : min p 64 = p := by omega
                have hto : taken ||| out < 4294967296 := Nat.lt_of_lt_of_le (Hit.or_lt (k := n) htk hot) (by omega)
                have hor := Hit.u64_or taken out (by omega) (by omega)
                have hbb : bad = (taken ||| out).testBit p := by
                  cases h : (taken ||| out).testBit p with
                  | true => exact HBAD.out.2 (.inr (.inr h))
                  | false =>
                    cases hb : bad with
                    | false => rfl
                    | true =>
                      rcases HBAD.out.1 hb with h1 | h1 | h1
                      · omega
                      · omega
                      · rw [Int.toNat_natCast, h] at h1; exact h1.symm
                obtain ⟨v, hv⟩ : ∃ v, taken ||| out = v := ⟨_, rfl⟩
                rw [hv] at hto hor hbb
                have hsh := shr_of v p (by omega)
                have hle : v >>> p ≤ v := by rw [Nat.shiftRight_eq_div_pow]; exact Nat.div_le_self _ _
                have hand : bits .and .u64 ((v >>> p : Nat) : Int) 1 = ((v >>> p &&& 1 : Nat) : Int) := Hit.u64_and (v >>> p) 1 (by omega) (by omega)
                have hbit := bit_of v p
                rw [← hbb] at hbit
                have HW1 := Lib.hid hw1
                generalize v >>> p &&& 1 = vb1 at *
                generalize v >>> p = vs1 at *
                clear hle hv hp hbb hw1 hkd hpn
                go_wp2_with fail
                (with_reducible refine (HW2.out.mono ?_))
                rintro e w4 ⟨rfl, hb4⟩
                have k0 := (K.out _ hb4).1.1
                have k1 := (K.out _ hb4).2.2.1
                have HB4 := Lib.hid hb4
                clear hb4
                go_wp2_with fail
                (with_reducible refine ((HW1.out w4).mono ?_))
                rintro e w5 ⟨rfl, hb5⟩
                have HB5 := Lib.hid (Bt HB4.out hb5)
                have l0 := (K.out _ (Bt HB4.out hb5)).2.1.1
                have l1 := (K.out _ (Bt HB4.out hb5)).2.1.2.1
                have l2 := (K.out _ (Bt HB4.out hb5)).2.2.1
                clear hb5
                go_wp2_with fail
                go_meet
                exact ⟨rfl, HB5.out⟩
              · have hbt : bad = true := HBAD.out.2 (.inr (.inl (by omega)))
                have hw1 : ∀ W : World, Calls Try.prog 21 #[.int .i64 0, .int .i64 ((n : Int) - 1), .slice (some ⟨W.heap.size, 0, none⟩) 1 1] (W.alloc (.cells #[.int .i64 pk] 3)) fun e w' => e = .returned (.bool false) ∧ Below W.heap.size W w' := fun W => by
                  have := within_one 0 ((n : Int) - 1) pk W
                  rwa [within1_eq, decide_eq_false hp] at this
                have HW1 := Lib.hid hw1
                subst hbt
                clear hw1 hp hkd
                go_wp2_with fail
                (with_reducible refine (HW2.out.mono ?_))
                rintro e w4 ⟨rfl, hb4⟩
                have k0 := (K.out _ hb4).1.1
                have k1 := (K.out _ hb4).2.2.1
                have HB4 := Lib.hid hb4
                clear hb4
                go_wp2_with fail
                (with_reducible refine ((HW1.out w4).mono ?_))
                rintro e w5 ⟨rfl, hb5⟩
                have HB5 := Lib.hid (Bt HB4.out hb5)
                clear hb5
                go_wp2_with fail
                go_meet
                exact ⟨rfl, HB5.out⟩
            · have hw2 := within_two ((at_ : Int) + 1) ((t.length : Int) - 1) ys no w3
              rw [within2_eq, decide_eq_false hkd] at hw2
              have HW2 := Lib.hid hw2
              have hbt : bad = true := HBAD.out.2 (.inl (by omega))
              subst hbt
              clear hw2 hkd
              go_wp2_with fail
              (with_reducible refine (HW2.out.mono ?_))
              rintro e w4 ⟨rfl, hb4⟩
              have HB4 := Lib.hid hb4
              clear hb4
              go_wp2_with fail
              go_meet
              exact ⟨rfl, HB4.out⟩
          case rest =>
            obtain ⟨rfl, hb7⟩ := hcut
            have HB7 := Lib.hid hb7
            cases bad with
            | true =>
              have hfin := HBd.out (HBAD.out.1 rfl)
              have HFIN := Lib.hid hfin
              clear hfin e0 e1 e2 e3 c0 c1 c2 n0 n1 n2 hb7
              go_wp2_with fail
              go_ret
              rw [HFIN.out]
              exact RightP.none_ (grown_tr HG3.out (grown_of_below HB7.out sb))
            | false =>
              have hnb := mt HBAD.out.2 (by simp)
              have hon := HOn.out hnb
              obtain ⟨⟨k0, k1, k2, k3⟩, ⟨l0, l1, l2⟩, m0, m1, m2⟩ := K.out _ hb7
              have hV7 := HV3.out.below hb7
              have hnb2 : (at_ : Int) < ys ∧ ys < t.length ∧ (at_ : Int) < no ∧ no < t.length ∧ 0 ≤ pk ∧ pk < n := by omega
              have hbf : (taken ||| out).testBit pk.toNat = false := by
                cases h : (taken ||| out).testBit pk.toNat with
                | false => rfl
                | true => exact absurd (.inr (.inr h)) hnb
              obtain ⟨p, rfl⟩ := Int.eq_ofNat_of_zero_le (show 0 ≤ pk by omega)
              obtain ⟨y, rfl⟩ := Int.eq_ofNat_of_zero_le (show 0 ≤ ys by omega)
              obtain ⟨m, rfl⟩ := Int.eq_ofNat_of_zero_le (show 0 ≤ no by omega)
              rw [Int.toNat_natCast, Int.toNat_natCast, Int.toNat_natCast] at hon
              have hpn : p < n := by omega
              have hbp : Hit.bit p < 2 ^ n := Hit.bit_lt hpn
              have f1 := Hit.or_lt (k := n) htk hbp
              have f2 := Hit.or_lt (k := n) hot hbp
              have two : IntKind.u64.wrap ((2 : Int) ^ p) = ((Hit.bit p : Nat) : Int) := Hit.two_u64w p (by omega)
              have o1 := Hit.u64_or taken (Hit.bit p) (by omega) (by omega)
              have o2 := Hit.u64_or out (Hit.bit p) (by omega) (by omega)
              have o1b := o1
              have o2b := o2
              rw [← two] at o1b o2b
              have h4 : min p 64 = p := by omega
              have hyl : y < t.length := by omega
              have hml : m < t.length := by omega
              have hym : at_ < y ∧ at_ < m := by omega
              have hcw : IntKind.i64.wrap ((cost : Int) + 1) = (cost : Int) + 1 := IntWalk.i64_in _ (by omega)
              generalize taken ||| Hit.bit p = tk2 at *
              generalize out ||| Hit.bit p = ot2 at *
              have HON := Lib.hid hon
              have HF1 := Lib.hid f1
              have HF2 := Lib.hid f2
              have HV7 := Lib.hid hV7
              have hsz7 := hb7.size
              have hs7 : w.heap.size + 1 < wc.heap.size := by omega
              have hn7 : nb < wc.heap.size := by omega
              have hnbw : w.heap.size + 1 < nb := by omega
              clear hon hbf hbp f1 f2 hnb hnb2 e0 e1 e2 e3 c0 c1 c2 n0 n1 n2 hV7 hb7
              go_upto_region 9 with fail
              go_region_held3 (fun w' => w'.cell? ⟨w.heap.size + 1, 0, none⟩ = some (.int .u64 taken) ∧ w'.cell? ⟨w.heap.size + 1, 1, none⟩ = some (.int .u64 out) ∧ w'.cell? ⟨w.heap.size + 1, 2, none⟩ = some (.int .i64 cost) ∧ w'.cell? ⟨nb, 0, none⟩ = some (.int .i64 p)) (go_keep) (fail)
              go_upto_region 10 with fail
              have hb9 : Below wc.heap.size wc ((wc.alloc (.cells #[.int .u64 (tk2 : Int), .int .u64 (out : Int), .int .i64 ((cost : Int) + 1)] 104)).drew) := (Ba (B0 wc) _).drew
              have y0 : ((wc.alloc (.cells #[.int .u64 (tk2 : Int), .int .u64 (out : Int), .int .i64 ((cost : Int) + 1)] 104)).drew).cell? ⟨wc.heap.size, 0, none⟩ = some (.int .u64 tk2) := by show (wc.alloc _).cell? _ = _; simp [go_sem]
              have y1 : ((wc.alloc (.cells #[.int .u64 (tk2 : Int), .int .u64 (out : Int), .int .i64 ((cost : Int) + 1)] 104)).drew).cell? ⟨wc.heap.size, 1, none⟩ = some (.int .u64 out) := by show (wc.alloc _).cell? _ = _; simp [go_sem]
              have y2 : ((wc.alloc (.cells #[.int .u64 (tk2 : Int), .int .u64 (out : Int), .int .i64 ((cost : Int) + 1)] 104)).drew).cell? ⟨wc.heap.size, 2, none⟩ = some (.int .i64 ((cost : Int) + 1)) := by show (wc.alloc _).cell? _ = _; simp [go_sem]
              have ys9 : wc.heap.size < ((wc.alloc (.cells #[.int .u64 (tk2 : Int), .int .u64 (out : Int), .int .i64 ((cost : Int) + 1)] 104)).drew).heap.size := by show _ < (wc.alloc _).heap.size; simp
              have HB9 := Lib.hid hb9
              have hs9 := Nat.lt_of_lt_of_le hs7 hb9.size
              have hn9 := Nat.lt_of_lt_of_le hn7 hb9.size
              clear hb9
              generalize ((wc.alloc (.cells #[.int .u64 (tk2 : Int), .int .u64 (out : Int), .int .i64 ((cost : Int) + 1)] 104)).drew) = w9 at *
              have kk := K.out _ (Bt HB7.out HB9.out)
              obtain ⟨⟨_, _, _, _⟩, ⟨p0, p1, p2⟩, q0, _, _⟩ := kk
              clear k0 k1 k2 k3 l0 l1 l2 m0 m1 m2
              go_region_held3 (fun w' => w'.cell? ⟨w.heap.size + 1, 0, none⟩ = some (.int .u64 taken) ∧ w'.cell? ⟨w.heap.size + 1, 1, none⟩ = some (.int .u64 out) ∧ w'.cell? ⟨w.heap.size + 1, 2, none⟩ = some (.int .i64 cost) ∧ w'.cell? ⟨nb, 0, none⟩ = some (.int .i64 p)) (go_keep) (fail)
              go_upto_region 11 with fail
              have hb10 : Below w9.heap.size w9 ((w9.alloc (.cells #[.int .u64 (taken : Int), .int .u64 (ot2 : Int), .int .i64 (cost : Int)] 104)).drew) := (Ba (B0 w9) _).drew
              have x0 : ((w9.alloc (.cells #[.int .u64 (taken : Int), .int .u64 (ot2 : Int), .int .i64 (cost : Int)] 104)).drew).cell? ⟨w9.heap.size, 0, none⟩ = some (.int .u64 taken) := by show (w9.alloc _).cell? _ = _; simp [go_sem]
              have x1 : ((w9.alloc (.cells #[.int .u64 (taken : Int), .int .u64 (ot2 : Int), .int .i64 (cost : Int)] 104)).drew).cell? ⟨w9.heap.size, 1, none⟩ = some (.int .u64 ot2) := by show (w9.alloc _).cell? _ = _; simp [go_sem]
              have x2 : ((w9.alloc (.cells #[.int .u64 (taken : Int), .int .u64 (ot2 : Int), .int .i64 (cost : Int)] 104)).drew).cell? ⟨w9.heap.size, 2, none⟩ = some (.int .i64 cost) := by show (w9.alloc _).cell? _ = _; simp [go_sem]
              have xs10 : w9.heap.size < ((w9.alloc (.cells #[.int .u64 (taken : Int), .int .u64 (ot2 : Int), .int .i64 (cost : Int)] 104)).drew).heap.size := by show _ < (w9.alloc _).heap.size; simp
              have y0 := (Bc hb10 ys9).trans y0
              have y1 := (Bc hb10 ys9).trans y1
              have y2 := (Bc hb10 ys9).trans y2
              have HB10 := Lib.hid (Bt HB9.out hb10)
              have hs10 := Nat.lt_of_lt_of_le hs9 hb10.size
              have hn10 := Nat.lt_of_lt_of_le hn9 hb10.size
              have ys10 := Nat.lt_of_lt_of_le ys9 hb10.size
              clear hb10
              generalize ((w9.alloc (.cells #[.int .u64 (taken : Int), .int .u64 (ot2 : Int), .int .i64 (cost : Int)] 104)).drew) = w10 at *
              have kk := K.out _ (Bt HB7.out HB10.out)
              obtain ⟨⟨k0, k1, k2, k3⟩, ⟨_, _, _⟩, m0, m1, m2⟩ := kk
              have hV10 := HV7.out.below HB10.out
              have HV10 := Lib.hid hV10
              have HG10 := Lib.hid (grown_tr HG3.out (grown_of_below (Bt HB7.out HB10.out) sb))
              have hsb10 : sb < w3.heap.size := by have := HG3.out.size; omega
              have i1 := HIH.out y tk2 out (cost + 1) (seen.set at_ true) w10 (by omega) hyl (by omega) HF1.out hot hV10
              have hce : ((cost + 1 : Nat) : Int) = (cost : Int) + 1 := by omega
              rw [hce] at i1
              have hon := HON.out
              clear p0 p1 p2 q0 two o1 o2 o1b o2b hV10 hce hcw
              cases hr1 : Hit.treeC ws n size t d y tk2 out ((cost : Int) + 1) (seen.set at_ true) with
              | none =>
                rw [hr1] at i1 hon
                have HFIN := Lib.hid hon
                have I1 := Lib.hid i1
                clear hon i1 hr1 HIH
                go_wp2_with fail
                (with_reducible refine (I1.out.mono ?_))
                rintro e w11 ⟨hg7, he7, _⟩
                obtain rfl := he7 rfl
                have HG7 := Lib.hid hg7
                clear hg7 he7 k0 k1 k2 k3 m0 m1 m2 x0 x1 x2 y0 y1 y2
                go_wp2_with fail
                go_ret
                rw [HFIN.out]
                exact RightP.none_ (grown_tr HG10.out HG7.out)
              | some s1 =>
                rw [hr1] at i1 hon
                have i2 : ∀ W, w10.grownBy W (some sb) → s1.length = t.length → W.rowIs sb 4 t.length (fun j => .bool (s1.getD j false)) → Calls Try.prog 43 #[.agg #[.int .i64 n, .slice As ws.length cs, .int .i64 size, .slice (some ad) t.length ct], .int .i64 m, .agg #[.int .u64 taken, .int .u64 ot2, .int .i64 cost], .slice (some ⟨sb, 0, none⟩) t.length t.length] W (RightP sb t.length W (Hit.treeC ws n size t d m taken ot2 cost s1)) :=
                  fun W hW hl hr => HIH.out m taken ot2 cost s1 W (by omega) hml (by omega) htk HF2.out (HV10.out.grown hW hr hl)
                have hon2 : Hit.treeC ws n size t (d + 1) at_ taken out cost seen = Hit.treeC ws n size t d m taken ot2 cost s1 := hon
                have HFIN := Lib.hid hon2
                have I1 := Lib.hid i1
                have I2 := Lib.hid i2
                clear hon hon2 i1 i2 hr1 HIH
                go_wp2_with fail
                (with_reducible refine (I1.out.mono ?_))
                rintro e w11 ⟨hg7, _, hs7⟩
                obtain ⟨rfl, hl7, hr7⟩ := hs7 s1 rfl
                have i2 := I2.out w11 hg7 hl7 hr7
                have k0 := (cell_grownBy hg7 (by omega) (by omega)).trans k0
                have k1 := (cell_grownBy hg7 (by omega) (by omega)).trans k1
                have k2 := (cell_grownBy hg7 (by omega) (by omega)).trans k2
                have k3 := (cell_grownBy hg7 (by omega) (by omega)).trans k3
                have m2 := (cell_grownBy hg7 hn10 nbs).trans m2
                have x0 := (cell_grownBy hg7 xs10 (by omega)).trans x0
                have x1 := (cell_grownBy hg7 xs10 (by omega)).trans x1
                have x2 := (cell_grownBy hg7 xs10 (by omega)).trans x2
                have HG7 := Lib.hid hg7
                clear hg7 hs7 hl7 hr7 y0 y1 y2 m0 m1
                cases hr2 : Hit.treeC ws n size t d m taken ot2 cost s1 with
                | none =>
                  rw [hr2] at i2 HFIN
                  have I2 := Lib.hid i2
                  clear hr2 i2
                  go_wp2_with fail
                  (with_reducible refine (I2.out.mono ?_))
                  rintro e w12 ⟨hg8, he8, _⟩
                  obtain rfl := he8 rfl
                  have HG8 := Lib.hid hg8
                  clear hg8 he8 k0 k1 k2 k3 m2 x0 x1 x2
                  go_wp2_with fail
                  go_ret
                  rw [HFIN.out]
                  exact RightP.none_ (grown_tr HG10.out (grown_tr HG7.out HG8.out))
                | some s2 =>
                  rw [hr2] at i2 HFIN
                  have I2 := Lib.hid i2
                  clear hr2 i2
                  go_wp2_with fail
                  (with_reducible refine (I2.out.mono ?_))
                  rintro e w12 ⟨hg8, _, hs8⟩
                  obtain ⟨rfl, hl8, hr8⟩ := hs8 s2 rfl
                  have HG8 := Lib.hid hg8
                  have HR8 := Lib.hid hr8
                  have HL8 := Lib.hid hl8
                  clear hg8 hs8 hl8 hr8 k0 k1 k2 k3 m2 x0 x1 x2
                  go_wp2_with fail
                  go_ret
                  rw [HFIN.out]
                  refine ⟨grown_tr HG10.out (grown_tr HG7.out HG8.out), fun h => (by cases h), fun s h => ?_⟩
                  injection h with h
                  subst h
                  exact ⟨rfl, HL8.out, HR8.out⟩
end Go.Proofs.Ytnpdoejjebgcpaa
