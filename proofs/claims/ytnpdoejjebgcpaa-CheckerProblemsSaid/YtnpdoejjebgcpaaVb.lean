/- Walks over hitting: the verifier goes through a tree. -/
import Derived.Test.YtnpdoejjebgcpaaVa
import Derived.Test.YtnpdoejjebgcpaaHZ
import Derived.Deep.RegionWith
import Derived.Test.YtnpdoejjebgcpaaRegion
namespace Go.Proofs.Ytnpdoejjebgcpaa
open Go Go.RowKit
/-- The verifier: its block, the row of what it has seen, its sets and its tree. -/
structure VSt (vb sb B : Nat) (vs : Value) (size : Int) (vt : Value) (n : Nat) (ws : List Nat) (t : List Hit.TNode) (F G : Nat → Prop) (w : World) (s : List Bool) : Prop where
  blk : Blk w vb 111 #[vs, .int .i64 size, vt, .int .i64 n, .slice (some ⟨sb, 0, none⟩) t.length t.length]
  row : w.rowIs sb 4 t.length (fun j => .bool (s.getD j false))
  sets : SlU .u32 F w vs ws
  tree : SlT G w vt t
  len : s.length = t.length
  lo : B ≤ w.heap.size
  fF : ∀ b, F b → b < B ∧ b ≠ sb
  fG : ∀ b, G b → b < B ∧ b ≠ sb
  ne : vb ≠ sb
section
variable {vb sb B : Nat} {vs vt : Value} {size : Int} {n : Nat} {ws : List Nat} {t : List Hit.TNode} {F G : Nat → Prop} {w w' : World} {s s' : List Bool}
theorem VSt.below (h : VSt vb sb B vs size vt n ws t F G w s) (hb : Below w.heap.size w w') : VSt vb sb B vs size vt n ws t F G w' s :=
  ⟨h.blk.below hb h.blk.lt, h.row.of_block (hb.block _ h.row.lt), h.sets.keep (Agree.below hb fun b hF => by have := (h.fF b hF).1; have := h.lo; omega), h.tree.keep (Agree.below hb fun b hG => by have := (h.fG b hG).1; have := h.lo; omega), h.len, Nat.le_trans h.lo hb.size, h.fF, h.fG, h.ne⟩
theorem VSt.grown (h : VSt vb sb B vs size vt n ws t F G w s) (hg : w.grownBy w' (some sb)) (hr : w'.rowIs sb 4 t.length (fun j => .bool (s'.getD j false))) (hl : s'.length = t.length) : VSt vb sb B vs size vt n ws t F G w' s' :=
  ⟨h.blk.grown hg (by intro e; injection e with e; exact h.ne e), hr, h.sets.keep (Agree.grown hg fun b hF => ⟨by have := (h.fF b hF).1; have := h.lo; omega, by intro e; injection e with e; exact (h.fF b hF).2 e⟩),
    h.tree.keep (Agree.grown hg fun b hG => ⟨by have := (h.fG b hG).1; have := h.lo; omega, by intro e; injection e with e; exact (h.fG b hG).2 e⟩), hl, Nat.le_trans h.lo hg.size, h.fF, h.fG, h.ne⟩
end
theorem bool_set {w : World} {b n : Nat} {t : TypeId} {l : List Bool} (h : w.rowIs b t n (fun j => .bool (l.getD j false))) (hl : l.length = n) (i : Nat) (x : Bool) : (w.setCell ⟨b, i, none⟩ (.bool x)).rowIs b t n (fun j => .bool ((l.set i x).getD j false)) :=
  (h.set i (.bool x)).congr fun j hj => by
    have hj' : j < l.length := by omega
    by_cases e : j = i
    · subst e; simp [hj']
    · simp [e, Ne.symm e, hj']
theorem grown_setCell (w : World) (sb i : Nat) (u : Value) : w.grownBy (w.setCell ⟨sb, i, none⟩ u) (some sb) := only_setCell ⟨rfl, rfl, rfl, Nat.le_refl _, fun _ _ _ => rfl⟩ (.inl rfl) u
theorem grown_of_below {a w : World} (h : Below a.heap.size a w) (sb : Nat) : a.grownBy w (some sb) := only_of_below h _
theorem grown_tr {a b c : World} {sb : Nat} (h : a.grownBy b (some sb)) (k : b.grownBy c (some sb)) : a.grownBy c (some sb) :=
  ⟨k.os.trans h.os, k.tape.trans h.tape, k.output.trans h.output, Nat.le_trans h.size k.size, fun i hi hne => (k.block i (Nat.lt_of_lt_of_le hi h.size) hne).trans (h.block i hi hne)⟩
/-- What a call of right leaves. -/
def RightP (sb len : Nat) (w : World) (r : Option (List Bool)) (e : Ending) (w' : World) : Prop :=
  w.grownBy w' (some sb) ∧ (r = none → e = .returned (.bool false)) ∧ ∀ s, r = some s → e = .returned (.bool true) ∧ s.length = len ∧ w'.rowIs sb 4 len (fun j => .bool (s.getD j false))
theorem RightP.none_ {sb len : Nat} {w w' : World} (h : w.grownBy w' (some sb)) : RightP sb len w none (.returned (.bool false)) w' := ⟨h, fun _ => rfl, fun s h => by cases h⟩
namespace Hit
section
variable {ws : List Nat} {n : Nat} {size : Int} {t : List TNode} {d at_ taken out : Nat} {seen : List Bool}
theorem rightF_seen (h : seen.getD at_ false = true) : rightF ws n size t (d + 1) at_ taken out seen = none := by
  unfold rightF; rw [if_pos h]
theorem rightF_leaf (h : seen.getD at_ false = false) (h0 : (t.getD at_ node0).yes = 0 ∧ (t.getD at_ node0).no = 0) : rightF ws n size t (d + 1) at_ taken out seen = if leafP ws size (t.getD at_ node0).weights taken out then some (seen.set at_ true) else none := by
  unfold rightF
  rw [if_neg (by rw [h]; simp)]
  simp only
  rw [if_pos h0]
def BadN (n len at_ taken out : Nat) (x : TNode) : Prop := x.pick < 0 ∨ x.pick ≥ n ∨ (taken ||| out).testBit x.pick.toNat = true ∨ x.yes ≤ at_ ∨ x.no ≤ at_ ∨ x.yes ≥ len ∨ x.no ≥ len
theorem rightF_bad (h : seen.getD at_ false = false) (h0 : ¬ ((t.getD at_ node0).yes = 0 ∧ (t.getD at_ node0).no = 0)) (hb : BadN n t.length at_ taken out (t.getD at_ node0)) : rightF ws n size t (d + 1) at_ taken out seen = none := by
  unfold BadN at hb
  unfold rightF
  rw [if_neg (by rw [h]; simp)]
  simp only
  rw [if_neg h0, if_pos hb]
theorem rightF_on (h : seen.getD at_ false = false) (h0 : ¬ ((t.getD at_ node0).yes = 0 ∧ (t.getD at_ node0).no = 0)) (hb : ¬ BadN n t.length at_ taken out (t.getD at_ node0)) : rightF ws n size t (d + 1) at_ taken out seen =
    match rightF ws n size t d (t.getD at_ node0).yes.toNat (taken ||| bit (t.getD at_ node0).pick.toNat) out (seen.set at_ true) with
        | none => none
        | some s => rightF ws n size t d (t.getD at_ node0).no.toNat taken (out ||| bit (t.getD at_ node0).pick.toNat) s := by
  unfold BadN at hb
  conv => lhs; unfold rightF
  rw [if_neg (by rw [h]; simp)]
  simp only
  rw [if_neg h0, if_neg hb]
  cases rightF ws n size t d (t.getD at_ node0).yes.toNat (taken ||| bit (t.getD at_ node0).pick.toNat) out (seen.set at_ true) <;> rfl
end
end Hit
set_option maxRecDepth 200000 in
set_option maxHeartbeats 8000000 in
theorem right_any (vb sb B : Nat) (vs : Value) (size : Int) (vt : Value) (n : Nat) (hn : n ≤ 20) (ws : List Nat) (hw : ∀ s ∈ ws, s < 4294967296) (t : List Hit.TNode) (htl : t.length ≤ 1000000) (hll : ∀ x ∈ t, x.weights.length ≤ 1000000) (F G : Nat → Prop) :
    ∀ (d at_ taken out : Nat) (seen : List Bool) (w : World), t.length ≤ at_ + d → at_ < t.length → taken < 2 ^ n → out < 2 ^ n → VSt vb sb B vs size vt n ws t F G w seen →
      Calls Try.prog 46 #[.pointer (some ⟨vb, 0, none⟩), .int .i64 at_, .int .u32 taken, .int .u32 out] w (RightP sb t.length w (Hit.rightF ws n size t d at_ taken out seen)) := by
  intro d
  induction d with
  | zero => intro at_ taken out seen w h1 h2; omega
  | succ d ih =>
    intro at_ taken out seen w hfu hat htk hot hV
    have h20 : 2 ^ n ≤ 1048576 := Nat.pow_le_pow_right (n := 2) (by decide) hn
    have k0 := hV.blk.cell 0
    have k1 := hV.blk.cell 1
    have k2 := hV.blk.cell 2
    have k3 := hV.blk.cell 3
    have k4 := hV.blk.cell 4
    have hc := hV.row.cell hat
    have hfr := hV.row.frozen at_
    have hatI : (at_ : Int) < t.length := by omega
    have HV := Lib.hid hV
    have HIH := Lib.hid ih
    have HW := Lib.hid hw
    have HLL := Lib.hid hll
    have hsl := hV.row.lt
    clear ih hw hll hV
    go_enter Try.func46, Try.ntmps46
    cases hse : seen.getD at_ false with
    | true =>
      rw [hse] at hc
      have hr := Hit.rightF_seen (ws := ws) (n := n) (size := size) (t := t) (d := d) (taken := taken) (out := out) hse
      have HR := Lib.hid hr
      clear hr hse
      go_wp2_with fail
      go_ret
      rw [HR.out]
      exact RightP.none_ (grown_of_below (B0 w) sb)
    | false =>
      rw [hse] at hc
      have hL := @Hit.rightF_leaf ws n size t d at_ taken out seen hse
      have hBd := @Hit.rightF_bad ws n size t d at_ taken out seen hse
      have hOn := @Hit.rightF_on ws n size t d at_ taken out seen hse
      have hV2 := HV.out.grown (grown_setCell w sb at_ (.bool true)) (bool_set HV.out.row HV.out.len at_ true) (by rw [List.length_set]; exact HV.out.len)
      obtain ⟨At, ct, hvt, _, _, htat⟩ := hV2.tree.open
      subst hvt
      obtain ⟨ad, vw, rfl, hf, hsw, hfl⟩ := htat at_ hat
      obtain ⟨Aw, cw, rfl, _, _, _⟩ := id hsw.open
      have hgx : t.getD at_ Hit.node0 = t[at_] := by rw [List.getD_eq_getElem?_getD, List.getElem?_eq_getElem hat]; rfl
      rw [hgx] at hL hBd hOn
      have hlw := HLL.out _ (List.getElem_mem hat)
      have z0 := hfl.f0 rfl
      have z1 := hfl.f1 rfl
      have z2 := hfl.f2 rfl
      have z3 := hfl.f3 rfl
      have z4 := hfl.f4 rfl
      have r0 := hV2.blk.cell 0
      have r1 := hV2.blk.cell 1
      have r2 := hV2.blk.cell 2
      have r3 := hV2.blk.cell 3
      have hgr := grown_setCell w sb at_ (.bool true)
      have hfb : (ad.add (at_ * 5)).block < (w.setCell ⟨sb, at_, none⟩ (.bool true)).heap.size := by
        have h1 := hV2.fG _ hf; have h2 := hV2.lo; rw [block_of_add]; omega
      generalize t[at_] = x at *
      obtain ⟨pk, ys, no, bd, wt⟩ := x
      dsimp only at z0 z1 z2 z3 z4 hsw hL hBd hOn hlw
      unfold Hit.BadN at hBd hOn
      dsimp only at hBd hOn
      have HL := Lib.hid hL
      have HBd := Lib.hid hBd
      have HOn := Lib.hid hOn
      have HSW := Lib.hid hsw
      clear hL hBd hOn hsw hfl hgx hse htat hf
      go_upto_region 4 with fail
      generalize (w.setCell ⟨sb, at_, none⟩ (.bool true)) = w2 at *
      have HV2 := Lib.hid hV2
      have HG2 := Lib.hid hgr
      clear hV2 hgr k0 k1 k2 k3 k4 hc hfr
      go_upto_region 5 with fail
      have hb3 := Ba (B0 w2) (.cells #[.int .i64 pk, .int .i64 ys, .int .i64 no, .int .i64 bd, .slice Aw wt.length cw] 42)
      have n0 : (w2.alloc (.cells #[.int .i64 pk, .int .i64 ys, .int .i64 no, .int .i64 bd, .slice Aw wt.length cw] 42)).cell? ⟨w2.heap.size, 0, none⟩ = some (.int .i64 pk) := by simp [go_sem]
      have n1 : (w2.alloc (.cells #[.int .i64 pk, .int .i64 ys, .int .i64 no, .int .i64 bd, .slice Aw wt.length cw] 42)).cell? ⟨w2.heap.size, 1, none⟩ = some (.int .i64 ys) := by simp [go_sem]
      have n2 : (w2.alloc (.cells #[.int .i64 pk, .int .i64 ys, .int .i64 no, .int .i64 bd, .slice Aw wt.length cw] 42)).cell? ⟨w2.heap.size, 2, none⟩ = some (.int .i64 no) := by simp [go_sem]
      have n4 : (w2.alloc (.cells #[.int .i64 pk, .int .i64 ys, .int .i64 no, .int .i64 bd, .slice Aw wt.length cw] 42)).cell? ⟨w2.heap.size, 4, none⟩ = some (.slice Aw wt.length cw) := by simp [go_sem]
      have nbl : w2.heap.size < (w2.alloc (.cells #[.int .i64 pk, .int .i64 ys, .int .i64 no, .int .i64 bd, .slice Aw wt.length cw] 42)).heap.size := by simp
      have hsb2 := HV2.out.row.lt
      have nbs : w2.heap.size ≠ sb := by omega
      have hV3 := HV2.out.below hb3
      have hG3 := grown_tr HG2.out (grown_of_below hb3 sb)
      have hsw3 := HSW.out.keep (Agree.below hb3 fun b hb => by have := HV2.out.fG b hb; have := HV2.out.lo; omega)
      generalize (w2.alloc (.cells #[.int .i64 pk, .int .i64 ys, .int .i64 no, .int .i64 bd, .slice Aw wt.length cw] 42)) = w3 at *
      generalize w2.heap.size = nb at *
      have HV3 := Lib.hid hV3
      have HG3 := Lib.hid hG3
      have HSW3 := Lib.hid hsw3
      have r0 := hV3.blk.cell 0
      have r1 := hV3.blk.cell 1
      have r2 := hV3.blk.cell 2
      have r3 := hV3.blk.cell 3
      have r4 := hV3.blk.cell 4
      have hvl3 := hV3.blk.lt
      clear z0 z1 z2 z3 z4 hV3 hG3 hsw3 HV2 HG2 HSW HV hb3 hfb hsb2
      by_cases hz : ys = 0 ∧ no = 0
      · have hLf := HL.out hz
        have hcall := leafV_any vb vs (.slice (some ad) t.length ct) (.int .i64 n) (.slice (some ⟨sb, 0, none⟩) t.length t.length) (.slice Aw wt.length cw) size ws HW.out wt hlw taken out (by omega) (by omega) w3 F G HV3.out.blk HV3.out.sets HSW3.out
        have HLf := Lib.hid hLf
        have HCall := Lib.hid hcall
        obtain ⟨rfl, rfl⟩ := hz
        generalize Hit.leafP ws size wt taken out = b at *
        clear hLf hcall
        go_wp2_with (go_at_call 68; (with_reducible refine (HCall.out.mono ?_)); rintro e w' ⟨rfl, kq, rfl⟩)
        go_ret
        rw [HLf.out]
        have hg := grown_tr HG3.out (grown_of_below (below_drewN (B0 w3) kq) sb)
        cases b with
        | false => exact ⟨hg, fun _ => rfl, fun s h => absurd h (by simp)⟩
        | true =>
          refine ⟨hg, fun h => absurd h (by simp), fun s h => ?_⟩
          have h2 : seen.set at_ true = s := by simpa using h
          subst h2
          exact ⟨rfl, HV3.out.len, HV3.out.row⟩
      · have hz2 : ((ys == 0) = true ∧ (no == 0) = false) ∨ (ys == 0) = false := by
          by_cases h : ys = 0
          · exact .inl ⟨by simp [h], by simp; exact fun h2 => hz ⟨h, h2⟩⟩
          · exact .inr (by simp [h])
        have hBd := fun hb => HBd.out hz hb
        have hOn := fun hb => HOn.out hz hb
        have HBd := Lib.hid hBd
        have HOn := Lib.hid hOn
        have k0 : ∀ q : Cls w3, q.w.cell? ⟨nb, 0, none⟩ = some (.int .i64 pk) := fun q => (Bc q.b nbl).trans n0
        have k1 : ∀ q : Cls w3, q.w.cell? ⟨nb, 1, none⟩ = some (.int .i64 ys) := fun q => (Bc q.b nbl).trans n1
        have k2 : ∀ q : Cls w3, q.w.cell? ⟨nb, 2, none⟩ = some (.int .i64 no) := fun q => (Bc q.b nbl).trans n2
        have v2 : ∀ q : Cls w3, q.w.cell? ⟨vb, 2, none⟩ = some (.slice (some ad) t.length ct) := fun q => (Bc q.b hvl3).trans r2
        have v3 : ∀ q : Cls w3, q.w.cell? ⟨vb, 3, none⟩ = some (.int .i64 n) := fun q => (Bc q.b hvl3).trans r3
        clear hBd hOn hz HL HSW3 n4 r0 r1 r4 hlw
        go_cut [38] from 31 to 37 (fun s38 wx => s38 = .bool false ∧ wx = w3)
        case first =>
          rcases hz2 with ⟨hz2, hz3⟩ | hz2
          all_goals
            go_wp2_with fail
            go_meet
            exact ⟨rfl, rfl⟩
        case rest =>
          obtain ⟨rfl, rfl⟩ := hcut
          clear hz2 n0 n1 n2
          by_cases hp0 : pk < 0 ∨ pk ≥ n
          · have hfin := HBd.out (by rcases hp0 with h | h; exact .inl h; exact .inr (.inl h))
            have HFIN := Lib.hid hfin
            have hq : decide (pk < 0) = true ∨ (decide (pk < 0) = false ∧ decide ((n : Int) ≤ pk) = true) := by simp only [decide_eq_true_eq, decide_eq_false_iff_not]; omega
            clear hfin hp0
            rcases hq with hq | ⟨hq1, hq2⟩
            all_goals
              as_aux_lemma =>
              go_upto_region 7 with fail
              refine wp_region_class_lit (C := fun w' => ∃ q : Cls wc, w' = q.w) (by kernel_rfl) (by kernel_rfl) ⟨Cls.mk' (B0 wc).drew, rfl⟩ ?_
              repeat (any_goals (first | go_big_quiet_step (fail) | quiet_step (fail)))
              refine wpQuiet_nil ?_
              rintro _ ⟨q, rfl⟩
              have hg5 := Lib.hid (grown_tr HG3.out (grown_of_below q.b sb))
              clear k0 k1 k2 v2 v3
              generalize q.w = w5 at *
              go_wp2
              go_ret
              rw [HFIN.out]
              exact RightP.none_ hg5.out
          · obtain ⟨p, rfl⟩ := Int.eq_ofNat_of_zero_le (show 0 ≤ pk by omega)
            have hpn : p < n := by omega
            rw [Int.toNat_natCast] at HBd HOn
            have b1 : decide ((p : Int) < 0) = false := decide_eq_false (by omega)
            have b2 : decide ((n : Int) ≤ (p : Int)) = false := decide_eq_false (by omega)
            have b2n : decide (n ≤ p) = false := decide_eq_false (by omega)
            have h4 : min p 64 = p := by omega
            have h5 : min p 32 = p := by omega
            have hto : taken ||| out < 4294967296 := Nat.lt_of_lt_of_le (Hit.or_lt (k := n) htk hot) (by omega)
            have hor := Hit.u32_or taken out (by omega) (by omega)
            obtain ⟨v, hv⟩ : ∃ v, taken ||| out = v := ⟨_, rfl⟩
            rw [hv] at hto hor HBd HOn
            have hsh := shr_of v p (by omega)
            have hle : v >>> p ≤ v := by rw [Nat.shiftRight_eq_div_pow]; exact Nat.div_le_self _ _
            have hand : bits .and .u32 ((v >>> p : Nat) : Int) 1 = ((v >>> p &&& 1 : Nat) : Int) := Hit.u32_and (v >>> p) 1 (by omega) (by omega)
            have hbit := bit_of v p
            generalize v >>> p &&& 1 = vb1 at *
            generalize v >>> p = vs1 at *
            clear hle hv hto hp0
            by_cases hbt : v.testBit p = true
            · have hfin := HBd.out (.inr (.inr (.inl hbt)))
              have HFIN := Lib.hid hfin
              rw [hbt] at hbit
              clear hfin hbt
              as_aux_lemma =>
              go_upto_region 7 with fail
              refine wp_region_class_lit (C := fun w' => ∃ q : Cls wc, w' = q.w) (by kernel_rfl) (by kernel_rfl) ⟨Cls.mk' (B0 wc).drew, rfl⟩ ?_
              repeat (any_goals (first | go_big_quiet_step (fail) | quiet_step (fail)))
              refine wpQuiet_nil ?_
              rintro _ ⟨q, rfl⟩
              have hg5 := Lib.hid (grown_tr HG3.out (grown_of_below q.b sb))
              clear k0 k1 k2 v2 v3
              generalize q.w = w5 at *
              go_wp2
              go_ret
              rw [HFIN.out]
              exact RightP.none_ hg5.out
            · have hbf : v.testBit p = false := by simpa using hbt
              rw [hbf] at hbit
              by_cases hkd : ys ≤ at_ ∨ no ≤ at_ ∨ ys ≥ t.length ∨ no ≥ t.length
              · have hfin := HBd.out (.inr (.inr (.inr hkd)))
                have HFIN := Lib.hid hfin
                have hq : decide (ys ≤ (at_ : Int)) = true ∨ (decide (ys ≤ (at_ : Int)) = false ∧ decide (no ≤ (at_ : Int)) = true) ∨ (decide (ys ≤ (at_ : Int)) = false ∧ decide (no ≤ (at_ : Int)) = false ∧ decide ((t.length : Int) ≤ ys) = true) ∨
                    (decide (ys ≤ (at_ : Int)) = false ∧ decide (no ≤ (at_ : Int)) = false ∧ decide ((t.length : Int) ≤ ys) = false ∧ decide ((t.length : Int) ≤ no) = true) := by
                  simp only [decide_eq_true_eq, decide_eq_false_iff_not]; omega
                clear hfin hkd hbf hbt
                rcases hq with hq | ⟨hq1, hq2⟩ | ⟨hq1, hq2, hq3⟩ | ⟨hq1, hq2, hq3, hq4⟩
                all_goals
                  as_aux_lemma =>
                  go_upto_region 7 with fail
                  refine wp_region_class_lit (C := fun w' => ∃ q : Cls wc, w' = q.w) (by kernel_rfl) (by kernel_rfl) ⟨Cls.mk' (B0 wc).drew, rfl⟩ ?_
                  repeat (any_goals (first | go_big_quiet_step (fail) | quiet_step (fail)))
                  refine wpQuiet_nil ?_
                  rintro _ ⟨q, rfl⟩
                  have hg5 := Lib.hid (grown_tr HG3.out (grown_of_below q.b sb))
                  clear k0 k1 k2 v2 v3
                  generalize q.w = w5 at *
                  go_wp2
                  go_ret
                  rw [HFIN.out]
                  exact RightP.none_ hg5.out
              · obtain ⟨y, rfl⟩ := Int.eq_ofNat_of_zero_le (show 0 ≤ ys by omega)
                obtain ⟨m, rfl⟩ := Int.eq_ofNat_of_zero_le (show 0 ≤ no by omega)
                have hon := HOn.out (by rw [hbf]; simp only [Bool.false_eq_true, false_or]; omega)
                rw [Int.toNat_natCast, Int.toNat_natCast] at hon
                have a1 : decide ((y : Int) ≤ (at_ : Int)) = false := decide_eq_false (by omega)
                have a2 : decide ((m : Int) ≤ (at_ : Int)) = false := decide_eq_false (by omega)
                have a3 : decide ((t.length : Int) ≤ (y : Int)) = false := decide_eq_false (by omega)
                have a4 : decide ((t.length : Int) ≤ (m : Int)) = false := decide_eq_false (by omega)
                have a1n : decide (y ≤ at_) = false := decide_eq_false (by omega)
                have a2n : decide (m ≤ at_) = false := decide_eq_false (by omega)
                have a3n : decide (t.length ≤ y) = false := decide_eq_false (by omega)
                have a4n : decide (t.length ≤ m) = false := decide_eq_false (by omega)
                have hbp : Hit.bit p < 2 ^ n := Hit.bit_lt hpn
                have f1 := Hit.or_lt (k := n) htk hbp
                have f2 := Hit.or_lt (k := n) hot hbp
                have two : IntKind.u32.wrap ((2 : Int) ^ p) = ((Hit.bit p : Nat) : Int) := by rw [IntKind.wrap_u32']; exact Hit.two_u32 p (by omega)
                have o1 := Hit.u32_or taken (Hit.bit p) (by omega) (by omega)
                have o2 := Hit.u32_or out (Hit.bit p) (by omega) (by omega)
                rw [← two] at o1 o2
                have hyl : y < t.length := by omega
                have hml : m < t.length := by omega
                have hym : at_ < y ∧ at_ < m := by omega
                generalize taken ||| Hit.bit p = tk2 at *
                generalize out ||| Hit.bit p = ot2 at *
                have HON := Lib.hid hon
                have HF1 := Lib.hid f1
                have HF2 := Lib.hid f2
                clear hon hkd hbf hbt two hbp f1 f2
                go_upto_region 7 with fail
                refine wp_region_class_lit (C := fun w' => ∃ q : Cls wc, w' = q.w) (by kernel_rfl) (by kernel_rfl) ⟨Cls.mk' (B0 wc).drew, rfl⟩ ?_
                repeat (any_goals (first | go_big_quiet_step (fail) | quiet_step (fail)))
                refine wpQuiet_nil ?_
                rintro _ ⟨q, rfl⟩
                have hV5 := HV3.out.below q.b
                have hG5 := grown_tr HG3.out (grown_of_below q.b sb)
                have m0 := k0 q
                have m1 := k1 q
                have m2 := k2 q
                have nb5 := Nat.lt_of_lt_of_le nbl q.b.size
                clear k0 k1 k2 v2 v3
                generalize q.w = w5 at *
                have i1 := HIH.out y tk2 out (seen.set at_ true) w5.drew (by omega) hyl HF1.out hot (hV5.below (B0 w5).drew)
                have HV5 := Lib.hid hV5
                have HG5 := Lib.hid hG5
                clear hV5 hG5
                have two32 : IntKind.u32.wrap ((2 : Int) ^ p) = ((Hit.bit p : Nat) : Int) := by rw [IntKind.wrap_u32']; exact Hit.two_u32 p (by omega)
                rw [two32] at o1 o2
                have o2b := o2
                rw [← Hit.two_u32 p (by omega)] at o2b
                have hon := HON.out
                go_upto_region 9 with fail
                refine region_blocks (by kernel_rfl) ?_
                refine from_quiet 9 (fun w' => w' = w5.drew) (by kernel_rfl) (by simp only [List.take_succ_cons, List.take_zero, List.drop_zero]; exact rfl) rfl ?_
                (repeat (any_goals (first | go_big_quiet_step (fail) | quiet_step (fail))))
                refine wpQuiet_nil ?_
                (intro wz hwz; have hwz := hwz.symm; subst hwz)
                refine from_list 10 (by kernel_rfl) (by simp only [List.take_succ_cons, List.take_zero, List.drop_succ_cons, List.drop_zero]; exact rfl) ?_
                (intro Q' hQ' hX; clear hX)
                cases hr1 : Hit.rightF ws n size t d y tk2 out (seen.set at_ true) with
                | none =>
                  rw [hr1] at i1 hon
                  have HFIN := Lib.hid hon
                  have I1 := Lib.hid i1
                  clear hon i1 hr1 two32 HIH
                  go_wp2_with (go_at_call 46; (with_reducible refine (I1.out.mono ?_)); rintro e w7 ⟨hg7, he7, _⟩; obtain rfl := he7 rfl; have HG7 := Lib.hid hg7; clear hg7 he7)
                  refine from_quiet 23 (fun w' => w' = w7) (by kernel_rfl) (by simp only [List.take_succ_cons, List.take_zero, List.drop_succ_cons, List.drop_zero]; exact rfl) rfl ?_
                  (repeat (any_goals (first | go_big_quiet_step (fail) | quiet_step (fail))))
                  refine wpQuiet_nil ?_
                  (intro wz hwz; have hwz := hwz.symm; subst hwz)
                  refine from_end rfl ?_
                  go_wp2
                  go_ret
                  rw [HFIN.out]
                  exact RightP.none_ (grown_tr HG5.out (grown_tr (grown_of_below (B0 w5).drew sb) HG7.out))
                | some s1 =>
                  rw [hr1] at i1 hon
                  have i2 : ∀ W, w5.grownBy W (some sb) → s1.length = t.length → W.rowIs sb 4 t.length (fun j => .bool (s1.getD j false)) → Calls Try.prog 46 #[.pointer (some ⟨vb, 0, none⟩), .int .i64 m, .int .u32 taken, .int .u32 ot2] W (RightP sb t.length W (Hit.rightF ws n size t d m taken ot2 s1)) :=
                    fun W hW hl hr => HIH.out m taken ot2 s1 W (by omega) hml htk HF2.out (HV5.out.grown hW hr hl)
                  have hon2 : Hit.rightF ws n size t (d + 1) at_ taken out seen = Hit.rightF ws n size t d m taken ot2 s1 := hon
                  have HFIN := Lib.hid hon2
                  have I1 := Lib.hid i1
                  have I2 := Lib.hid i2
                  clear hon hon2 i1 i2 hr1 two32 HIH
                  go_wp2_with (go_at_call 46; (with_reducible refine (I1.out.mono ?_)); rintro e w7 ⟨hg7, _, hs7⟩; obtain ⟨rfl, hl7, hr7⟩ := hs7 s1 rfl; have HG7 := Lib.hid (grown_tr (grown_of_below (B0 w5).drew sb) hg7); have HR7 := Lib.hid hr7; have HL7 := Lib.hid hl7; clear hg7 hs7 hr7 hl7)
                  have q2 := (World.cell?_of_block (w := w5) (HG7.out.block nb nb5 (by intro e; injection e with e; exact nbs e))).trans m2
                  have q0 := (World.cell?_of_block (w := w5) (HG7.out.block nb nb5 (by intro e; injection e with e; exact nbs e))).trans m0
                  refine from_quiet 20 (fun w' => w' = w7) (by kernel_rfl) (by simp only [List.take_succ_cons, List.take_zero, List.drop_succ_cons, List.drop_zero]; exact rfl) rfl ?_
                  (repeat (any_goals (first | go_big_quiet_step (fail) | quiet_step (fail))))
                  refine wpQuiet_nil ?_
                  (intro wz hwz; have hwz := hwz.symm; subst hwz)
                  refine from_list 21 (by kernel_rfl) (by simp only [List.take_succ_cons, List.take_zero, List.drop_succ_cons, List.drop_zero]; exact rfl) ?_
                  (intro Q' hQ' hX; clear hX)
                  have i2 := I2.out w7 HG7.out HL7.out HR7.out
                  cases hr2 : Hit.rightF ws n size t d m taken ot2 s1 with
                  | none =>
                    rw [hr2] at i2 HFIN
                    have I2 := Lib.hid i2
                    clear hr2 i2
                    go_wp2_with (go_at_call 46; (with_reducible refine (I2.out.mono ?_)); rintro e w8 ⟨hg8, he8, _⟩; obtain rfl := he8 rfl; have HG8 := Lib.hid hg8; clear hg8 he8)
                    refine from_quiet 23 (fun w' => w' = w8) (by kernel_rfl) (by simp only [List.take_succ_cons, List.take_zero, List.drop_succ_cons, List.drop_zero]; exact rfl) rfl ?_
                    (repeat (any_goals (first | go_big_quiet_step (fail) | quiet_step (fail))))
                    refine wpQuiet_nil ?_
                    (intro wz hwz; have hwz := hwz.symm; subst hwz)
                    refine from_end rfl ?_
                    go_wp2
                    go_ret
                    rw [HFIN.out]
                    exact RightP.none_ (grown_tr HG5.out (grown_tr HG7.out HG8.out))
                  | some s2 =>
                    rw [hr2] at i2 HFIN
                    have I2 := Lib.hid i2
                    clear hr2 i2
                    go_wp2_with (go_at_call 46; (with_reducible refine (I2.out.mono ?_)); rintro e w8 ⟨hg8, _, hs8⟩; obtain ⟨rfl, hl8, hr8⟩ := hs8 s2 rfl; have HG8 := Lib.hid hg8; have HR8 := Lib.hid hr8; have HL8 := Lib.hid hl8; clear hg8 hs8 hr8 hl8)
                    refine from_quiet 23 (fun w' => w' = w8) (by kernel_rfl) (by simp only [List.take_succ_cons, List.take_zero, List.drop_succ_cons, List.drop_zero]; exact rfl) rfl ?_
                    (repeat (any_goals (first | go_big_quiet_step (fail) | quiet_step (fail))))
                    refine wpQuiet_nil ?_
                    (intro wz hwz; have hwz := hwz.symm; subst hwz)
                    refine from_end rfl ?_
                    go_wp2
                    go_ret
                    rw [HFIN.out]
                    refine ⟨grown_tr HG5.out (grown_tr HG7.out HG8.out), fun h => (by cases h), fun s h => ?_⟩
                    injection h with h
                    subst h
                    exact ⟨rfl, HL8.out, HR8.out⟩
end Go.Proofs.Ytnpdoejjebgcpaa
