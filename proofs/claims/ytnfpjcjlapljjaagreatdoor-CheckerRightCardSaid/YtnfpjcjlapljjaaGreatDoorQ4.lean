/- Walks over fraction and pitch: gcd, magnitude, Check, both, Shift: at right feet. Walks over pitch: Check, both, Shift: at right feet. Rows of the call's own whose elements have rows of their own: blocks of elements lie apart from the row's. Organs: plain, and as they lie in memory. Walks over the laws' tables of feet (2, 18). -/
import Derived.Test.YtnfpjcjlapljjaaGreatDoorBq
import Derived.Test.YtnfpjcjlapljjaaGreatDoorBase
namespace Go.Proofs.YtnfpjcjlapljjaaGreatDoor
open Go Go.RowKit Go.Shelf
set_option maxRecDepth 100000 in
set_option maxHeartbeats 1000000 in
theorem gcd_any (a b : Nat) (ha : a < 18446744073709551616) (hb : b < 18446744073709551616) (w : World) : Calls Tryz.prog 80 #[.int .u64 (a : Int), .int .u64 (b : Int)] w fun e w' => e = .returned (.int .u64 (Nat.gcd a b : Nat)) ∧ Below w.heap.size w w' := by
  obtain ⟨R, hR⟩ : ∃ R, Nat.gcd a b = R := ⟨_, rfl⟩
  rw [hR]
  have HR := Lib.hid hR
  have HB0 := Lib.hid (B0 w)
  clear hR
  go_enter Tryz.func80, Tryz.ntmps80
  go_upto_region 1 with fail
  go_loopg [0, 1] (b + 1) (fun gg s0 s1 wr => ∃ x y : Nat, s0 = .int .u64 (x : Int) ∧ s1 = .int .u64 (y : Int) ∧ y < gg ∧ x < 18446744073709551616 ∧ y < 18446744073709551616 ∧ Aside (Nat.gcd x y = R) ∧ Aside (Below w.heap.size w wr))
  case atStart => exact ⟨a, b, rfl, rfl, by omega, ha, hb, HR.out, HB0.out⟩
  case round =>
    obtain ⟨x, y, rfl, rfl, hgg, hx, hy, HG, HB⟩ := hrel
    replace HG : Hid (Nat.gcd x y = R) := Lib.hid HG
    replace HB : Hid (Below w.heap.size w wr) := Lib.hid HB
    obtain ⟨wo, rfl⟩ : ∃ wo : World, wo = wr := ⟨_, rfl⟩
    by_cases h0 : y = 0
    · subst h0
      have hg := HG.out
      rw [Nat.gcd_zero_right] at hg
      have HGG := Lib.hid hg
      clear hg
      go_wp2_with fail
      go_ret
      exact ⟨by rw [← HGG.out]; rfl, HB.out⟩
    · have hyI : (0 : Int) < y := by omega
      have hyN : ¬ (y : Int) = 0 := by omega
      have hm : x % y < y := Nat.mod_lt _ (by omega)
      have hg : Nat.gcd y (x % y) = R := by rw [Nat.gcd_comm y (x % y), ← Nat.gcd_rec, Nat.gcd_comm]; exact HG.out
      have HGG := Lib.hid hg
      have HM := Lib.hid hm
      clear hg hm
      go_upto_region 2 with fail
      refine wp_region_class54_lit (C := fun w' => ∃ q : Cls54 wo, w' = q.w) (by kernel_rfl) (by kernel_rfl) ⟨Cls54.mk' (B0 wo).drew, rfl⟩ ?_
      repeat (any_goals (first | go_big_quiet_step (fail) | quiet_step (fail)))
      refine wpQuiet_nil ?_
      rintro _ ⟨q, rfl⟩
      have HB2 := Lib.hid (Bt HB.out q.b)
      generalize q.w = w2 at *
      go_wp2_with fail
      go_roundg y
      case measure => omega
      case rel => exact ⟨y, x % y, rfl, rfl, HM.out, hy, Nat.lt_trans HM.out hy, HGG.out, HB2.out⟩
set_option maxRecDepth 100000 in
theorem mag_any (n : Nat) (hn : n ≤ 1000000) (w : World) : Calls Tryz.prog 81 #[.int .i64 (n : Int)] w fun e w' => e = .returned (.int .u64 (n : Int)) ∧ Below w.heap.size w w' := by
  have HB0 := Lib.hid (B0 w)
  have h0 : ¬ (n : Int) < 0 := by omega
  go_enter Tryz.func81, Tryz.ntmps81
  go_wp2_with fail
  go_ret
  exact ⟨rfl, HB0.out⟩
/-- Feet that are right. -/
structure FtOk (n d : Nat) : Prop where
  n1 : 1 ≤ n
  d1 : 1 ≤ d
  d2 : d ≤ 128
  nd : n ≤ 128 * d
  co : Nat.gcd n d = 1
set_option maxRecDepth 100000 in
set_option maxHeartbeats 1000000 in
theorem frac_ok (n d : Nat) (h1 : 1 ≤ d) (h2 : d ≤ 1000000) (h3 : n ≤ 1000000) (hc : Nat.gcd n d = 1) (w : World) : Calls Tryz.prog 70 #[.agg #[.int .i64 (n : Int), .int .i64 (d : Int)]] w fun e w' => e = .returned (.int .i64 0) ∧ Below w.heap.size w w' := by
  obtain ⟨w1, hw1⟩ : ∃ w1 : World, w.alloc (.cells #[.int .i64 (n : Int), .int .i64 (d : Int)] 82) = w1 := ⟨_, rfl⟩
  obtain ⟨b, hb⟩ : ∃ b, w.heap.size = b := ⟨_, rfl⟩
  have C1 : Blk w1 b 82 #[.int .i64 (n : Int), .int .i64 (d : Int)] := by rw [← hw1, ← hb]; exact Blk.new _ _ _
  have hB1 : Below w.heap.size w w1 := by rw [← hw1]; exact Ba (B0 w) _
  have k0 : ∀ q : Cls54 w1, q.w.cell? ⟨b, 0, none⟩ = some (.int .i64 n) := fun q => (Bc q.b C1.lt).trans (by simpa using C1.cell 0)
  have k1 : ∀ q : Cls54 w1, q.w.cell? ⟨b, 1, none⟩ = some (.int .i64 d) := fun q => (Bc q.b C1.lt).trans (by simpa using C1.cell 1)
  have HM := Lib.hid (fun q : Cls54 w1 => (show Calls Tryz.prog 81 #[.int .i64 (n : Int)] q.w fun e w' => e = .returned (.int .u64 (n : Int)) ∧ ∃ z : Cls54 w1, w' = z.w from (mag_any n h3 q.w).mono fun e w' ⟨q1, q2⟩ => ⟨q1, Cls54.mk' (Bt q.b q2), rfl⟩))
  have HG := Lib.hid (fun q : Cls54 w1 => (show Calls Tryz.prog 80 #[.int .u64 (n : Int), .int .u64 (d : Int)] q.w fun e w' => e = .returned (.int .u64 1) ∧ ∃ z : Cls54 w1, w' = z.w from (gcd_any n d (by omega) (by omega) q.w).mono fun e w' ⟨q1, q2⟩ => ⟨by rw [q1, hc]; rfl, Cls54.mk' (Bt q.b q2), rfl⟩))
  have HB1 := Lib.hid hB1
  have HW1 := Lib.hid hw1
  have HBB := Lib.hid hb
  have i1 : ¬ (d : Int) ≤ 0 := by omega
  have i2 : ¬ (1000000 : Int) < d := by omega
  have i3 : ¬ (n : Int) < -1000000 := by omega
  have i4 : ¬ (1000000 : Int) < n := by omega
  have i5 : ¬ d = 0 := by omega
  have i6 : ¬ 1000000 < d := by omega
  have i7 : ¬ 1000000 < n := by omega
  clear hB1 hw1 hb C1 hc
  go_enter Tryz.func70, Tryz.ntmps70
  go_upto_region 1 with fail
  rw [HW1.out, HBB.out]
  refine wp_region_class54_lit (C := fun w' => ∃ q : Cls54 w1, w' = q.w) (by kernel_rfl) (by kernel_rfl) ⟨Cls54.mk' (B0 w1).drew, rfl⟩ ?_
  repeat (any_goals (first | go_big_quiet_step (first | (go_at_call 81; with_reducible exact HM.out _) | (go_at_call 80; with_reducible exact HG.out _)) | quiet_step (first | (go_at_call 81; with_reducible exact HM.out _) | (go_at_call 80; with_reducible exact HG.out _))))
  refine wpQuiet_nil ?_
  rintro _ ⟨q, rfl⟩
  have HB2 := Lib.hid (Bt HB1.out q.b)
  clear k0 k1 HM HG
  generalize q.w = w2 at *
  go_wp2_with fail
  go_ret
  exact ⟨rfl, HB2.out⟩
end Go.Proofs.YtnfpjcjlapljjaaGreatDoor
namespace Go.Proofs.YtnfpjcjlapljjaaGreatDoor
open Go Go.RowKit Go.Shelf
def ftV (n d : Nat) : Value := .agg #[.int .i64 (n : Int), .int .i64 (d : Int)]
set_option maxRecDepth 100000 in
set_option maxHeartbeats 1000000 in
theorem pitch_ok (n d : Nat) (h : FtOk n d) (w : World) : Calls Tryz.prog 65 #[ftV n d] w fun e w' => e = .returned (.int .i64 0) ∧ Below w.heap.size w w' := by
  obtain ⟨h1, h2, h3, h4, h5⟩ := h
  have hn : n ≤ 16384 := by omega
  have HF := Lib.hid (fun W => frac_ok n d h2 (by omega) (by omega) h5 W)
  unfold ftV
  obtain ⟨w1, hw1⟩ : ∃ w1 : World, w.alloc (.cells #[.int .i64 (n : Int), .int .i64 (d : Int)] 82) = w1 := ⟨_, rfl⟩
  obtain ⟨b, hb⟩ : ∃ b, w.heap.size = b := ⟨_, rfl⟩
  have HC1 := Lib.hid (show Blk w1 b 82 #[.int .i64 (n : Int), .int .i64 (d : Int)] by rw [← hw1, ← hb]; exact Blk.new _ _ _)
  have HB1 := Lib.hid (show Below w.heap.size w w1 by rw [← hw1]; exact Ba (B0 w) _)
  have HW1 := Lib.hid hw1
  have HBB := Lib.hid hb
  have c0 := HC1.out.cell 0
  have c1 := HC1.out.cell 1
  simp only [List.getElem?_toArray, List.getElem?_cons_zero, List.getElem?_cons_succ] at c0 c1
  have i1 : ¬ (n : Int) ≤ 0 := by omega
  have i2 : ¬ n = 0 := by omega
  have i3 : ¬ 128 * (d : Int) < n := by omega
  have i4 : ¬ (128 : Int) < d := by omega
  have i5 : ¬ 128 < d := by omega
  clear hw1 hb h5
  go_enter Tryz.func65, Tryz.ntmps65
  go_upto_region 1 with fail
  rw [HW1.out, HBB.out]
  clear HW1
  go_upto_region 3 with (go_at_call 70; (with_reducible refine ((HF.out _).mono ?_)); rintro e w2 ⟨rfl, hb2⟩; have HB2 := Lib.hid (Bt HB1.out hb2); have HC2 := Lib.hid (HC1.out.below hb2 HC1.out.lt); clear hb2 c0 c1)
  have c0 := HC2.out.cell 0
  have c1 := HC2.out.cell 1
  simp only [List.getElem?_toArray, List.getElem?_cons_zero, List.getElem?_cons_succ] at c0 c1
  go_wp2_with fail
  go_ret
  exact ⟨rfl, HB2.out⟩
set_option maxRecDepth 100000 in
set_option maxHeartbeats 1000000 in
theorem both_ok (n d m e : Nat) (h : FtOk n d) (k : FtOk m e) (w : World) : Calls Tryz.prog 63 #[ftV n d, ftV m e] w fun r w' => r = .returned (.int .i64 0) ∧ Below w.heap.size w w' := by
  have HP1 := Lib.hid (fun W => pitch_ok n d h W)
  have HP2 := Lib.hid (fun W => pitch_ok m e k W)
  unfold ftV at *
  obtain ⟨w1, hw1⟩ : ∃ w1 : World, (w.alloc (.cells #[.int .i64 (n : Int), .int .i64 (d : Int)] 82)).alloc (.cells #[.int .i64 (m : Int), .int .i64 (e : Int)] 82) = w1 := ⟨_, rfl⟩
  obtain ⟨b, hb⟩ : ∃ b, w.heap.size = b := ⟨_, rfl⟩
  have HC1 := Lib.hid (show Blk w1 b 82 #[.int .i64 (n : Int), .int .i64 (d : Int)] by rw [← hw1, ← hb]; exact (Blk.new _ _ _).alloc _)
  have HD1 := Lib.hid (show Blk w1 (b + 1) 82 #[.int .i64 (m : Int), .int .i64 (e : Int)] by
    have q := Blk.new (w.alloc (.cells #[.int .i64 (n : Int), .int .i64 (d : Int)] 82)) 82 #[.int .i64 (m : Int), .int .i64 (e : Int)]
    rw [World.size_alloc, hw1, hb] at q
    exact q)
  have HB1 := Lib.hid (show Below w.heap.size w w1 by rw [← hw1]; exact Ba (Ba (B0 w) _) _)
  have HW1 := Lib.hid hw1
  have HBB := Lib.hid hb
  have c0 := HC1.out.cell 0
  have c1 := HC1.out.cell 1
  have d0 := HD1.out.cell 0
  have d1 := HD1.out.cell 1
  simp only [List.getElem?_toArray, List.getElem?_cons_zero, List.getElem?_cons_succ] at c0 c1 d0 d1
  clear hw1 hb h k
  go_enter Tryz.func63, Tryz.ntmps63
  go_upto_region 1 with fail
  rw [HW1.out, HBB.out]
  clear HW1
  go_upto_region 4 with (go_at_call 65; (with_reducible refine ((HP1.out _).mono ?_)); rintro r w2 ⟨rfl, hb2⟩; have HB2 := Lib.hid (Bt HB1.out hb2); have HD2 := Lib.hid (HD1.out.below hb2 HD1.out.lt); clear hb2 c0 c1 d0 d1)
  have d0 := HD2.out.cell 0
  have d1 := HD2.out.cell 1
  simp only [List.getElem?_toArray, List.getElem?_cons_zero, List.getElem?_cons_succ] at d0 d1
  go_wp2_with (go_at_call 65; (with_reducible refine ((HP2.out _).mono ?_)); rintro r w3 ⟨rfl, hb3⟩; have HB3 := Lib.hid (Bt HB2.out hb3); clear hb3)
  go_ret
  exact ⟨rfl, HB3.out⟩
set_option maxRecDepth 100000 in
set_option maxHeartbeats 1000000 in
theorem Shift_ok (n d m e : Nat) (h : FtOk n d) (k : FtOk m e) (w : World) (hT : TabP w) : Calls Tryz.prog 58 #[ftV n d, ftV m e] w fun r w' => r = .returned (.tuple #[.int .i64 (Pit.shF (m * d) (e * n)), .int .i64 0]) ∧ Below w.heap.size w w' := by
  have HBO := Lib.hid (fun W => both_ok n d m e h k W)
  have hmd : m * d ≤ 16384 * 128 := Nat.mul_le_mul (by have := k.nd; have := k.d2; omega) h.d2
  have hen : e * n ≤ 128 * 16384 := Nat.mul_le_mul k.d2 (by have := h.nd; have := h.d2; omega)
  have HSH := Lib.hid (fun W hW => shift_any n d m e h.n1 h.d1 k.n1 k.d1 hmd hen W hW)
  have HTT := Lib.hid hT
  unfold ftV at *
  obtain ⟨R, hR⟩ : ∃ R, Pit.shF (m * d) (e * n) = R := ⟨_, rfl⟩
  rw [hR] at HSH ⊢
  obtain ⟨w1, hw1⟩ : ∃ w1 : World, (w.alloc (.cells #[.int .i64 (n : Int), .int .i64 (d : Int)] 82)).alloc (.cells #[.int .i64 (m : Int), .int .i64 (e : Int)] 82) = w1 := ⟨_, rfl⟩
  obtain ⟨b, hb⟩ : ∃ b, w.heap.size = b := ⟨_, rfl⟩
  have HC1 := Lib.hid (show Blk w1 b 82 #[.int .i64 (n : Int), .int .i64 (d : Int)] by rw [← hw1, ← hb]; exact (Blk.new _ _ _).alloc _)
  have HD1 := Lib.hid (show Blk w1 (b + 1) 82 #[.int .i64 (m : Int), .int .i64 (e : Int)] by
    have q := Blk.new (w.alloc (.cells #[.int .i64 (n : Int), .int .i64 (d : Int)] 82)) 82 #[.int .i64 (m : Int), .int .i64 (e : Int)]
    rw [World.size_alloc, hw1, hb] at q
    exact q)
  have HB1 := Lib.hid (show Below w.heap.size w w1 by rw [← hw1]; exact Ba (Ba (B0 w) _) _)
  have HW1 := Lib.hid hw1
  have HBB := Lib.hid hb
  have c0 := HC1.out.cell 0
  have c1 := HC1.out.cell 1
  have d0 := HD1.out.cell 0
  have d1 := HD1.out.cell 1
  simp only [List.getElem?_toArray, List.getElem?_cons_zero, List.getElem?_cons_succ] at c0 c1 d0 d1
  clear hw1 hb h k hmd hen hR hT
  go_enter Tryz.func58, Tryz.ntmps58
  go_upto_region 1 with fail
  rw [HW1.out, HBB.out]
  clear HW1
  go_upto_region 4 with (go_at_call 63; (with_reducible refine ((HBO.out _).mono ?_)); rintro r w2 ⟨rfl, hb2⟩; have HB2 := Lib.hid (Bt HB1.out hb2); have HC2 := Lib.hid (HC1.out.below hb2 HC1.out.lt); have HD2 := Lib.hid (HD1.out.below hb2 HD1.out.lt); clear hb2 c0 c1 d0 d1)
  have c0 := HC2.out.cell 0
  have c1 := HC2.out.cell 1
  have d0 := HD2.out.cell 0
  have d1 := HD2.out.cell 1
  simp only [List.getElem?_toArray, List.getElem?_cons_zero, List.getElem?_cons_succ] at c0 c1 d0 d1
  go_wp2_with (go_at_call 64; (with_reducible refine ((HSH.out _ (HTT.out.below HB2.out)).mono ?_)); rintro r w3 ⟨rfl, hb3⟩; have HB3 := Lib.hid (Bt HB2.out hb3); clear hb3)
  refine bodyPost_ret (v := .tuple #[.int .i64 R, .int .i64 0]) (by simp [results, Tryz.f58, go_sem]) rfl ?_
  exact ⟨rfl, HB3.out⟩
end Go.Proofs.YtnfpjcjlapljjaaGreatDoor
namespace Go.Proofs.YtnfpjcjlapljjaaGreatDoor
open Go Go.RowKit
/-- How an element reads from its cells, its further blocks being those of F. -/
structure RelF {α : Type} (R : (Nat → Prop) → World → List Value → α → Prop) : Prop where
  keep : ∀ {F : Nat → Prop} {w w' : World} {cs : List Value} {x : α}, R F w cs x → Agree F w w' → R F w' cs x
  mono : ∀ {F G : Nat → Prop} {w : World} {cs : List Value} {x : α}, R F w cs x → (∀ b, F b → G b) → R G w cs x
/-- A row of the call's own: the elements' further blocks lie from base on, apart from the row's own. -/
def OwnF {α : Type} (base : Nat) (e : TypeId) (k : Nat) (R : (Nat → Prop) → World → List Value → α → Prop) (w : World) (v : Value) (l : List α) : Prop :=
  OwnL base e k (R fun b => (base ≤ b ∧ b < w.heap.size) ∧ v.ownBlock ≠ some b) w v l
section
variable {α : Type} {base : Nat} {e : TypeId} {k : Nat} {R : (Nat → Prop) → World → List Value → α → Prop} {w w' : World} {v : Value} {l : List α}
theorem OwnF.nil : OwnF base e k R w (.slice none 0 0) ([] : List α) := OwnL.nil
theorem OwnF.below (hR : RelF R) (h : OwnF base e k R w v l) (hb : Below w.heap.size w w') : OwnF base e k R w' v l :=
  OwnL.keep (R' := R fun b => (base ≤ b ∧ b < w'.heap.size) ∧ v.ownBlock ≠ some b) h rfl (fun _ hx => hx.kept (only_of_below hb none) (by cases v.ownBlock with
    | none => exact .inl rfl
    | some g => exact .inr fun e => by cases e)) fun _ _ q => hR.mono (hR.keep q (Agree.below hb fun _ h => h.1.2)) fun _ h => ⟨⟨h.1.1, Nat.lt_of_lt_of_le h.1.2 hb.size⟩, h.2⟩
theorem OwnF.lt (h : OwnF base e k R w v l) : ∀ b, v.ownBlock = some b → base ≤ b ∧ b < w.heap.size := OwnL.lt h
/-- The row as a slice that reads as the list. -/
theorem OwnF.sl (h : OwnF base e k R w v l) (hl : l.length ≤ 140737488355328) (hR : RelF R) : Sl (fun b => base ≤ b ∧ b < w.heap.size) k (R fun b => base ≤ b ∧ b < w.heap.size) w v l :=
  (OwnL.sl h hl (fun b h1 h2 _ => ⟨h1, h2⟩)).monoR fun _ _ q => hR.mono q fun _ h => h.1
/-- 'row = append(row, y)', y's cells in a block of their own, its further blocks apart from the row's. -/
theorem wpList_appF {P : Program} {ops : Array Oper} {rest : List Oper} {o : Oper} {a : Act} {Q : Exit → Act → World → Prop} {t : TypeId} {bytes : Nat} (E : ElemN P t e k bytes) (hk : 0 < k) (hgd : o.guard = none) (s x : Operand)
    (ho : o.op = .call { callee := .builtin .append, args := #[s, x], argTypes := #[t, t] }) (hR : RelF R)
    (hs : a.eval s = v) (hown : OwnF base e k R w v l) (m : Nat) (hm : l.length = m) (ad : Addr) (c : Nat) (news : List Value) (hx : a.eval x = .slice (some ad) 1 c)
    (hl : news.length = k) (hnews : Flds w ad news) (h1 : ∀ u ∈ news, u.oneCell' = true) (hn : m + 1 ≤ 1000000000) (hb : bytes ≤ 1000) (hbase : base ≤ w.heap.size)
    (y : α) (Fx : Nat → Prop) (hy : R Fx w news y) (hFx : ∀ b, Fx b → (base ≤ b ∧ b < w.heap.size) ∧ v.ownBlock ≠ some b)
    (h : ∀ g cap w', OwnF base e k R w' (.slice (some ⟨g, 0, none⟩) (m + 1) cap) (l ++ [y]) → w.grownBy w' v.ownBlock → (∀ B : World, B.heap.size ≤ base → Below B.heap.size B w → Below B.heap.size B w') → wpList P ops Q rest (a.put o.dst (.slice (some ⟨g, 0, none⟩) (m + 1) cap)) w') : wpList P ops Q (o :: rest) a w := by
  subst hm
  obtain ⟨cs, q1, q2, q3⟩ := id hown
  refine wpList_appS E hk hgd s x ho base v l.length cs.flatten hs q3 ad c news hx hl hnews h1 hn hb hbase fun g cap w' hown' hg hgg => ?_
  refine h g cap w' ?_ hg (fun B hB hw => hw.grown hg hw.size fun b q => Nat.le_trans hB (OwnL.lt hown b q).1)
  have hng : ∀ b, b < w.heap.size → v.ownBlock ≠ some b → (Value.slice (some ⟨g, 0, none⟩) (l.length + 1) cap).ownBlock ≠ some b := fun b h1 h2 e => by
    have e' : g = b := by injection e
    rcases hgg with q | q
    · exact h2 (by rw [← q, e'])
    · omega
  refine OwnL.snoc q1 q2 hl ?_ (fun _ _ q => ?_) hown'
  · exact hR.mono (hR.keep hy (Agree.grown hg fun b hb => ⟨(hFx b hb).1.2, fun e => (hFx b hb).2 e.symm⟩)) fun b hb => ⟨⟨(hFx b hb).1.1, Nat.lt_of_lt_of_le (hFx b hb).1.2 hg.size⟩, hng b (hFx b hb).1.2 (hFx b hb).2⟩
  · exact hR.mono (hR.keep q (Agree.grown hg fun b hb => ⟨hb.1.2, fun e => hb.2 e.symm⟩)) fun b hb => ⟨⟨hb.1.1, Nat.lt_of_lt_of_le hb.1.2 hg.size⟩, hng b hb.1.2 hb.2⟩
end
theorem RelF.plain {α : Type} {R : World → List Value → α → Prop} (h : ∀ {w w' cs x}, R w cs x → R w' cs x) : RelF (fun _ => R) := ⟨fun q _ => h q, fun q _ => q⟩
theorem Sl.keepF {α : Type} {k : Nat} {R : (Nat → Prop) → World → List Value → α → Prop} (hR : RelF R) {F : Nat → Prop} {w w' : World} {v : Value} {l : List α} (h : Sl F k (R F) w v l) (ha : Agree F w w') : Sl F k (R F) w' v l :=
  Sl.keep h ha fun _ _ q => hR.keep q ha
theorem Sl.monoF {α : Type} {k : Nat} {R : (Nat → Prop) → World → List Value → α → Prop} (hR : RelF R) {F G : Nat → Prop} {w : World} {v : Value} {l : List α} (h : Sl F k (R F) w v l) (hF : ∀ b, F b → G b) : Sl G k (R G) w v l :=
  (Sl.mono h hF).monoR fun _ _ q => hR.mono q hF
end Go.Proofs.YtnfpjcjlapljjaaGreatDoor
namespace Go.Proofs.YtnfpjcjlapljjaaGreatDoor
open Go Go.RowKit
namespace Org
structure Dr where
  rank : Int
  shift : Int
deriving DecidableEq
structure Seg where
  lo : Int
  hi : Int
  draws : List Dr
structure Stp where
  name : ByteArray
  num : Int
  den : Int
  segs : List Seg
structure Dvs where
  name : ByteArray
  ped : Bool
  lo : Int
  hi : Int
  stops : List Stp
structure Rnk where
  name : ByteArray
  tone : ByteArray
  num : Int
  den : Int
  first : Int
  wind : List Int
structure Cpl where
  name : ByteArray
  src : Int
  dst : Int
  shift : Int
  thr : Bool
structure Og where
  name : ByteArray
  ranks : List Rnk
  divs : List Dvs
  cpls : List Cpl
end Org
open Org
def DrC (_ : Nat → Prop) (_ : World) (cs : List Value) (x : Dr) : Prop := cs = [.int .i64 x.rank, .int .i64 x.shift]
def SegC (F : Nat → Prop) (w : World) (cs : List Value) (x : Seg) : Prop := ∃ v, cs = [.int .i64 x.lo, .int .i64 x.hi, v] ∧ Sl F 2 (DrC F) w v x.draws
def StpC (F : Nat → Prop) (w : World) (cs : List Value) (x : Stp) : Prop := ∃ v, cs = [.string x.name, .int .i64 x.num, .int .i64 x.den, v] ∧ Sl F 3 (SegC F) w v x.segs
def DvsC (F : Nat → Prop) (w : World) (cs : List Value) (x : Dvs) : Prop := ∃ v, cs = [.string x.name, .bool x.ped, .int .i64 x.lo, .int .i64 x.hi, v] ∧ Sl F 4 (StpC F) w v x.stops
def RnkC (F : Nat → Prop) (w : World) (cs : List Value) (x : Rnk) : Prop := ∃ v, cs = [.string x.name, .string x.tone, .int .i64 x.num, .int .i64 x.den, .int .i64 x.first, v] ∧ SlI F w v x.wind
def CpC (_ : Nat → Prop) (_ : World) (cs : List Value) (x : Cpl) : Prop := cs = [.string x.name, .int .i64 x.src, .int .i64 x.dst, .int .i64 x.shift, .bool x.thr]
def OgC (F : Nat → Prop) (w : World) (cs : List Value) (x : Og) : Prop := ∃ vr vd vc, cs = [.string x.name, vr, vd, vc] ∧ Sl F 6 (RnkC F) w vr x.ranks ∧ Sl F 5 (DvsC F) w vd x.divs ∧ Sl F 5 (CpC F) w vc x.cpls
theorem relDr : RelF DrC := ⟨fun q _ => q, fun q _ => q⟩
theorem relSeg : RelF SegC := ⟨fun ⟨v, e, q⟩ ha => ⟨v, e, Sl.keepF relDr q ha⟩, fun ⟨v, e, q⟩ hF => ⟨v, e, Sl.monoF relDr q hF⟩⟩
theorem relStp : RelF StpC := ⟨fun ⟨v, e, q⟩ ha => ⟨v, e, Sl.keepF relSeg q ha⟩, fun ⟨v, e, q⟩ hF => ⟨v, e, Sl.monoF relSeg q hF⟩⟩
theorem relDvs : RelF DvsC := ⟨fun ⟨v, e, q⟩ ha => ⟨v, e, Sl.keepF relStp q ha⟩, fun ⟨v, e, q⟩ hF => ⟨v, e, Sl.monoF relStp q hF⟩⟩
theorem relRnk : RelF RnkC := ⟨fun ⟨v, e, q⟩ ha => ⟨v, e, SlI.keep q ha⟩, fun ⟨v, e, q⟩ hF => ⟨v, e, Sl.mono q hF⟩⟩
theorem relCpl : RelF CpC := ⟨fun q _ => q, fun q _ => q⟩
/-- A slice of elements opened. -/
theorem Sl.openF {α : Type} {F : Nat → Prop} {k : Nat} {R : World → List Value → α → Prop} {w : World} {v : Value} {l : List α} (h : Sl F k R w v l) : ∃ A c, v = .slice A l.length c ∧ l.length ≤ c ∧ l.length ≤ 140737488355328 ∧
    ∀ i (hi : i < l.length), ∃ ad cs, A = some ad ∧ F ad.block ∧ cs.length = k ∧ R w cs l[i] ∧ Flds w (ad.add (i * k)) cs := h
end Go.Proofs.YtnfpjcjlapljjaaGreatDoor
namespace Go.Proofs.YtnfpjcjlapljjaaGreatDoor
open Go Go.RowKit Go.Shelf
namespace Org
def ft02 (r : Nat) : Nat × Nat := [(8, 1), (4, 1), (16, 1), (2, 1), (8, 3), (8, 5), (4, 3), (1, 1), (32, 1), (16, 3), (16, 5), (32, 3), (8, 7), (2, 3), (1, 2), (64, 1)].getD r (8, 1)
def ft18 (r : Nat) : Nat × Nat := [(8, 1), (4, 1), (16, 1), (8, 3), (2, 1), (8, 5)].getD r (8, 1)
end Org
theorem ftOk_dec {n d : Nat} (h : (decide (1 ≤ n) && decide (1 ≤ d) && decide (d ≤ 128) && decide (n ≤ 128 * d) && decide (Nat.gcd n d = 1)) = true) : FtOk n d := by
  simp only [Bool.and_eq_true, decide_eq_true_eq] at h
  exact ⟨h.1.1.1.1, h.1.1.1.2, h.1.1.2, h.1.2, h.2⟩
theorem ft02_ok (r : Nat) : FtOk (Org.ft02 r).1 (Org.ft02 r).2 := by
  by_cases h : r < 16
  · have : ∀ r < 16, (decide (1 ≤ (Org.ft02 r).1) && decide (1 ≤ (Org.ft02 r).2) && decide ((Org.ft02 r).2 ≤ 128) && decide ((Org.ft02 r).1 ≤ 128 * (Org.ft02 r).2) && decide (Nat.gcd (Org.ft02 r).1 (Org.ft02 r).2 = 1)) = true := by decide
    exact ftOk_dec (this r h)
  · have e : Org.ft02 r = (8, 1) := by unfold Org.ft02; rw [List.getD_eq_getElem?_getD, List.getElem?_eq_none (by simp; omega)]; rfl
    rw [e]
    exact ftOk_dec (by decide)
theorem ft18_ok (r : Nat) : FtOk (Org.ft18 r).1 (Org.ft18 r).2 := by
  by_cases h : r < 6
  · have : ∀ r < 6, (decide (1 ≤ (Org.ft18 r).1) && decide (1 ≤ (Org.ft18 r).2) && decide ((Org.ft18 r).2 ≤ 128) && decide ((Org.ft18 r).1 ≤ 128 * (Org.ft18 r).2) && decide (Nat.gcd (Org.ft18 r).1 (Org.ft18 r).2 = 1)) = true := by decide
    exact ftOk_dec (this r h)
  · have e : Org.ft18 r = (8, 1) := by unfold Org.ft18; rw [List.getD_eq_getElem?_getD, List.getElem?_eq_none (by simp; omega)]; rfl
    rw [e]
    exact ftOk_dec (by decide)
theorem ft02_cells (r : Nat) (hr : r < 16) : (#[.int .i64 8, .int .i64 1, .int .i64 4, .int .i64 1, .int .i64 16, .int .i64 1, .int .i64 2, .int .i64 1, .int .i64 8, .int .i64 3, .int .i64 8, .int .i64 5, .int .i64 4, .int .i64 3, .int .i64 1, .int .i64 1, .int .i64 32, .int .i64 1, .int .i64 16, .int .i64 3, .int .i64 16, .int .i64 5, .int .i64 32, .int .i64 3, .int .i64 8, .int .i64 7, .int .i64 2, .int .i64 3, .int .i64 1, .int .i64 2, .int .i64 64, .int .i64 1] : Array Value)[r * 2]? = some (.int .i64 ((Org.ft02 r).1 : Int)) ∧ (#[.int .i64 8, .int .i64 1, .int .i64 4, .int .i64 1, .int .i64 16, .int .i64 1, .int .i64 2, .int .i64 1, .int .i64 8, .int .i64 3, .int .i64 8, .int .i64 5, .int .i64 4, .int .i64 3, .int .i64 1, .int .i64 1, .int .i64 32, .int .i64 1, .int .i64 16, .int .i64 3, .int .i64 16, .int .i64 5, .int .i64 32, .int .i64 3, .int .i64 8, .int .i64 7, .int .i64 2, .int .i64 3, .int .i64 1, .int .i64 2, .int .i64 64, .int .i64 1] : Array Value)[r * 2 + 1]? = some (.int .i64 ((Org.ft02 r).2 : Int)) := by
  have h : r = 0 ∨ r = 1 ∨ r = 2 ∨ r = 3 ∨ r = 4 ∨ r = 5 ∨ r = 6 ∨ r = 7 ∨ r = 8 ∨ r = 9 ∨ r = 10 ∨ r = 11 ∨ r = 12 ∨ r = 13 ∨ r = 14 ∨ r = 15 := by omega
  rcases h with rfl | rfl | rfl | rfl | rfl | rfl | rfl | rfl | rfl | rfl | rfl | rfl | rfl | rfl | rfl | rfl <;> exact ⟨rfl, rfl⟩
set_option maxRecDepth 100000 in
set_option maxHeartbeats 2000000 in
theorem feet02_any (n : Nat) (hn : n < 256) (w : World) : Calls Tryz.prog 56 #[.int .u8 (n : Int)] w fun e w' => e = .returned (ftV (Org.ft02 (n % 16)).1 (Org.ft02 (n % 16)).2) ∧ Below w.heap.size w w' := by
  obtain ⟨r, hr⟩ : ∃ r, n % 16 = r := ⟨_, rfl⟩
  have hr16 : r < 16 := by omega
  have hrI : (n : Int) % 16 = (r : Int) := by omega
  have hr0 : (r : Int) < 16 := by omega
  rw [hr]
  obtain ⟨q0, q1⟩ := ft02_cells r hr16
  obtain ⟨a, ha⟩ : ∃ a, (Org.ft02 r).1 = a := ⟨_, rfl⟩
  obtain ⟨d, hd⟩ : ∃ d, (Org.ft02 r).2 = d := ⟨_, rfl⟩
  rw [ha] at q0 ⊢
  rw [hd] at q1 ⊢
  unfold ftV
  have hb := Blk.new (w.alloc (.cells #[.int .i64 0, .int .i64 0] 82)) 82 #[.int .i64 8, .int .i64 1, .int .i64 4, .int .i64 1, .int .i64 16, .int .i64 1, .int .i64 2, .int .i64 1, .int .i64 8, .int .i64 3, .int .i64 8, .int .i64 5, .int .i64 4, .int .i64 3, .int .i64 1, .int .i64 1, .int .i64 32, .int .i64 1, .int .i64 16, .int .i64 3, .int .i64 16, .int .i64 5, .int .i64 32, .int .i64 3, .int .i64 8, .int .i64 7, .int .i64 2, .int .i64 3, .int .i64 1, .int .i64 2, .int .i64 64, .int .i64 1]
  rw [World.size_alloc] at hb
  have hB2 : Below w.heap.size w (((w.alloc (.cells #[.int .i64 0, .int .i64 0] 82)).alloc (.cells #[.int .i64 8, .int .i64 1, .int .i64 4, .int .i64 1, .int .i64 16, .int .i64 1, .int .i64 2, .int .i64 1, .int .i64 8, .int .i64 3, .int .i64 8, .int .i64 5, .int .i64 4, .int .i64 3, .int .i64 1, .int .i64 1, .int .i64 32, .int .i64 1, .int .i64 16, .int .i64 3, .int .i64 16, .int .i64 5, .int .i64 32, .int .i64 3, .int .i64 8, .int .i64 7, .int .i64 2, .int .i64 3, .int .i64 1, .int .i64 2, .int .i64 64, .int .i64 1] 82))) := Ba (Ba (B0 w) _) _
  obtain ⟨w2, hw2⟩ : ∃ w2 : World, (w.alloc (.cells #[.int .i64 0, .int .i64 0] 82)).alloc (.cells #[.int .i64 8, .int .i64 1, .int .i64 4, .int .i64 1, .int .i64 16, .int .i64 1, .int .i64 2, .int .i64 1, .int .i64 8, .int .i64 3, .int .i64 8, .int .i64 5, .int .i64 4, .int .i64 3, .int .i64 1, .int .i64 1, .int .i64 32, .int .i64 1, .int .i64 16, .int .i64 3, .int .i64 16, .int .i64 5, .int .i64 32, .int .i64 3, .int .i64 8, .int .i64 7, .int .i64 2, .int .i64 3, .int .i64 1, .int .i64 2, .int .i64 64, .int .i64 1] 82) = w2 := ⟨_, rfl⟩
  rw [hw2] at hb hB2
  have c0 := (hb.cell (r * 2)).trans q0
  have c1 := (hb.cell (r * 2 + 1)).trans q1
  have hc2 : Blk w2 w.heap.size 82 #[.int .i64 0, .int .i64 0] := by rw [← hw2]; exact (Blk.new _ _ _).alloc _
  have HB2 := Lib.hid hB2
  have z0 := hc2.cell 0
  have z1 := hc2.cell 1
  have zf0 := hc2.frozen 0
  have zf1 := hc2.frozen 1
  simp only [List.getElem?_toArray, List.getElem?_cons_zero, List.getElem?_cons_succ] at z0 z1
  have HC2 := Lib.hid hc2
  clear hb q0 q1 ha hd hr hB2 hc2
  go_enter Tryz.func56, Tryz.ntmps56
  go_wp2_with fail
  have hc3 := (HC2.out.set_ 0 (.int .i64 a)).set_ 1 (.int .i64 d)
  have z2 := hc3.cell 0
  have z3 := hc3.cell 1
  simp at z2 z3
  refine bodyPost_ret (v := .agg #[.int .i64 (a : Int), .int .i64 (d : Int)]) (by simp [results, Tryz.f56, go_sem, z2, z3]) rfl ?_
  exact ⟨rfl, (HB2.out.setCell (p := ⟨w.heap.size, 0, none⟩) (Nat.le_refl _) _).setCell (p := ⟨w.heap.size, 1, none⟩) (Nat.le_refl _) _⟩
theorem ft18_cells (r : Nat) (hr : r < 6) : (#[.int .i64 8, .int .i64 1, .int .i64 4, .int .i64 1, .int .i64 16, .int .i64 1, .int .i64 8, .int .i64 3, .int .i64 2, .int .i64 1, .int .i64 8, .int .i64 5] : Array Value)[r * 2]? = some (.int .i64 ((Org.ft18 r).1 : Int)) ∧ (#[.int .i64 8, .int .i64 1, .int .i64 4, .int .i64 1, .int .i64 16, .int .i64 1, .int .i64 8, .int .i64 3, .int .i64 2, .int .i64 1, .int .i64 8, .int .i64 5] : Array Value)[r * 2 + 1]? = some (.int .i64 ((Org.ft18 r).2 : Int)) := by
  have h : r = 0 ∨ r = 1 ∨ r = 2 ∨ r = 3 ∨ r = 4 ∨ r = 5 := by omega
  rcases h with rfl | rfl | rfl | rfl | rfl | rfl <;> exact ⟨rfl, rfl⟩
set_option maxRecDepth 100000 in
set_option maxHeartbeats 2000000 in
theorem feet18_any (n : Nat) (hn : n < 256) (w : World) : Calls Tryz.prog 57 #[.int .u8 (n : Int)] w fun e w' => e = .returned (ftV (Org.ft18 (n % 6)).1 (Org.ft18 (n % 6)).2) ∧ Below w.heap.size w w' := by
  obtain ⟨r, hr⟩ : ∃ r, n % 6 = r := ⟨_, rfl⟩
  have hr16 : r < 6 := by omega
  have hrI : (n : Int) % 6 = (r : Int) := by omega
  have hr0 : (r : Int) < 6 := by omega
  rw [hr]
  obtain ⟨q0, q1⟩ := ft18_cells r hr16
  obtain ⟨a, ha⟩ : ∃ a, (Org.ft18 r).1 = a := ⟨_, rfl⟩
  obtain ⟨d, hd⟩ : ∃ d, (Org.ft18 r).2 = d := ⟨_, rfl⟩
  rw [ha] at q0 ⊢
  rw [hd] at q1 ⊢
  unfold ftV
  have hb := Blk.new (w.alloc (.cells #[.int .i64 0, .int .i64 0] 82)) 82 #[.int .i64 8, .int .i64 1, .int .i64 4, .int .i64 1, .int .i64 16, .int .i64 1, .int .i64 8, .int .i64 3, .int .i64 2, .int .i64 1, .int .i64 8, .int .i64 5]
  rw [World.size_alloc] at hb
  have hB2 : Below w.heap.size w (((w.alloc (.cells #[.int .i64 0, .int .i64 0] 82)).alloc (.cells #[.int .i64 8, .int .i64 1, .int .i64 4, .int .i64 1, .int .i64 16, .int .i64 1, .int .i64 8, .int .i64 3, .int .i64 2, .int .i64 1, .int .i64 8, .int .i64 5] 82))) := Ba (Ba (B0 w) _) _
  obtain ⟨w2, hw2⟩ : ∃ w2 : World, (w.alloc (.cells #[.int .i64 0, .int .i64 0] 82)).alloc (.cells #[.int .i64 8, .int .i64 1, .int .i64 4, .int .i64 1, .int .i64 16, .int .i64 1, .int .i64 8, .int .i64 3, .int .i64 2, .int .i64 1, .int .i64 8, .int .i64 5] 82) = w2 := ⟨_, rfl⟩
  rw [hw2] at hb hB2
  have c0 := (hb.cell (r * 2)).trans q0
  have c1 := (hb.cell (r * 2 + 1)).trans q1
  have hc2 : Blk w2 w.heap.size 82 #[.int .i64 0, .int .i64 0] := by rw [← hw2]; exact (Blk.new _ _ _).alloc _
  have HB2 := Lib.hid hB2
  have z0 := hc2.cell 0
  have z1 := hc2.cell 1
  have zf0 := hc2.frozen 0
  have zf1 := hc2.frozen 1
  simp only [List.getElem?_toArray, List.getElem?_cons_zero, List.getElem?_cons_succ] at z0 z1
  have HC2 := Lib.hid hc2
  clear hb q0 q1 ha hd hr hB2 hc2
  go_enter Tryz.func57, Tryz.ntmps57
  go_wp2_with fail
  have hc3 := (HC2.out.set_ 0 (.int .i64 a)).set_ 1 (.int .i64 d)
  have z2 := hc3.cell 0
  have z3 := hc3.cell 1
  simp at z2 z3
  refine bodyPost_ret (v := .agg #[.int .i64 (a : Int), .int .i64 (d : Int)]) (by simp [results, Tryz.f57, go_sem, z2, z3]) rfl ?_
  exact ⟨rfl, (HB2.out.setCell (p := ⟨w.heap.size, 0, none⟩) (Nat.le_refl _) _).setCell (p := ⟨w.heap.size, 1, none⟩) (Nat.le_refl _) _⟩
end Go.Proofs.YtnfpjcjlapljjaaGreatDoor
