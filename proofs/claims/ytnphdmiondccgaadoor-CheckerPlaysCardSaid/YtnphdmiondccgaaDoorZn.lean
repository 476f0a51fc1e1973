/- Walk over checker: members. -/
import Derived.Test.YtnphdmiondccgaaDoorZm
namespace Go.Proofs.YtnphdmiondccgaaDoor
open Go Go.RowKit Go.Shelf
open Pop
theorem OwnL.onB {base : Nat} {e : TypeId} {w w' : World} {v : Value} {l : List Int} (h : OwnL base e 1 IntC w v l) (hb : Below w.heap.size w w') : OwnL base e 1 IntC w' v l :=
  h.keep (R' := IntC) rfl (fun _ hx => hx.kept (only_of_below hb none) (by cases v.ownBlock with
    | none => exact .inl rfl
    | some g => exact .inr fun e => by cases e)) fun _ _ h => h
set_option maxRecDepth 100000 in
set_option maxHeartbeats 2000000 in
theorem cmembers_any (x : Nat) (hx : x < 2 ^ 128) (w : World) : Calls Tryd.prog 31 #[ntV x] w fun e w' => ∃ v, e = .returned v ∧ SlI (fun b => w.heap.size ≤ b ∧ b < w'.heap.size) w' v (memI x) ∧ Below w.heap.size w w' := by
  have HCH := Lib.hid (fun i hi W => chas_any x hx i hi W)
  unfold ntV at *
  obtain ⟨xl, hxl⟩ : ∃ y, Nt.lo x = y := ⟨_, rfl⟩
  obtain ⟨xh, hxh⟩ : ∃ y, Nt.hi x = y := ⟨_, rfl⟩
  rw [hxl, hxh] at HCH ⊢
  clear hxl hxh
  obtain ⟨w1, hw1⟩ : ∃ w1 : World, w.alloc (.cells #[.int .u64 (xl : Int), .int .u64 (xh : Int)] 87) = w1 := ⟨_, rfl⟩
  obtain ⟨b, hb⟩ : ∃ b, w.heap.size = b := ⟨_, rfl⟩
  have HC1 := Lib.hid (show Blk w1 b 87 #[.int .u64 (xl : Int), .int .u64 (xh : Int)] by rw [← hw1, ← hb]; exact Blk.new _ _ _)
  have HB1 := Lib.hid (show Below w.heap.size w w1 by rw [← hw1]; exact Ba (B0 w) _)
  have HW1 := Lib.hid hw1
  have HBB := Lib.hid hb
  clear hw1 hb
  go_enter Tryd.func31, Tryd.ntmps31
  go_upto_region 1 with fail
  rw [HW1.out, HBB.out]
  clear HW1
  go_wp2_with fail
  go_loopg [3, 4] 130 (fun gg s3 s4 wr => ∃ k : Nat, k ≤ 128 ∧ 128 - k ≤ gg ∧ s4 = .int .i64 k ∧ Aside (OwnL b 3 1 IntC wr s3 (memK x k)) ∧ Aside (Blk wr b 87 #[.int .u64 (xl : Int), .int .u64 (xh : Int)]) ∧ Aside (Below w.heap.size w wr))
  case atStart => exact ⟨0, by omega, by omega, rfl, (show OwnL _ _ _ _ _ _ _ from OwnL.nil), HC1.out, HB1.out⟩
  case round =>
    clear HC1 HB1
    obtain ⟨k, hk, hgg, rfl, HO, HC, HB⟩ := hrel
    replace HO : Hid (OwnL b 3 1 IntC wr u3 (memK x k)) := Lib.hid HO
    replace HC : Hid (Blk wr b 87 #[.int .u64 (xl : Int), .int .u64 (xh : Int)]) := Lib.hid HC
    replace HB : Hid (Below w.heap.size w wr) := Lib.hid HB
    obtain ⟨wo, rfl⟩ : ∃ wo : World, wo = wr := ⟨_, rfl⟩
    have c0 := HC.out.cell 0
    have c1 := HC.out.cell 1
    simp only [List.getElem?_toArray, List.getElem?_cons_zero, List.getElem?_cons_succ] at c0 c1
    by_cases hlt : k < 128
    · have hle : (k : Int) ≤ 127 := by omega
      have hst := memK_step x k
      have hln := memK_len x k
      have HH := Lib.hid (fun W => HCH.out k hlt W)
      cases ht : x.testBit k with
      | false =>
        rw [ht] at hst HH
        have HST := Lib.hid (show memK x (k + 1) = memK x k by simpa using hst)
        clear hst hln ht
        go_wp2_with (go_at_call 69; (with_reducible refine ((HH.out _).mono ?_)); rintro e w4 ⟨rfl, hb4⟩; have E0 := Lib.hid (OwnL.onB HO.out hb4); have E1 := Lib.hid (HC.out.below hb4 HC.out.lt); have E2 := Lib.hid (Bt HB.out hb4); clear hb4 c0 c1)
        go_roundg (128 - (k + 1))
        case measure => omega
        case rel => exact ⟨k + 1, by omega, by omega, by go_num, by rw [HST.out]; exact E0.out, E1.out, E2.out⟩
      | true =>
        rw [ht] at hst HH
        have HST := Lib.hid (show memK x (k + 1) = memK x k ++ [(k : Int)] by simpa using hst)
        obtain ⟨m, hm⟩ : ∃ m, (memK x k).length = m := ⟨_, rfl⟩
        have HM := Lib.hid hm
        rw [hm] at hln
        clear hst ht hm
        go_upto_region 6 with (go_at_call 69; (with_reducible refine ((HH.out _).mono ?_)); rintro e w4 ⟨rfl, hb4⟩; have E0 := Lib.hid (OwnL.onB HO.out hb4); have E1 := Lib.hid (HC.out.below hb4 HC.out.lt); have E2 := Lib.hid (Bt HB.out hb4); clear hb4 c0 c1)
        obtain ⟨cs, q1, q2, q3⟩ := id E0.out
        rw [HM.out] at q3
        have HQ1 := Lib.hid q1
        have HQ2 := Lib.hid q2
        have HQ3 := Lib.hid q3
        have HL := Lib.hid E0.out.lt
        have hbs : b < w4.heap.size := E1.out.lt
        clear q1 q2 q3
        go_wp2_with (at_builtin; refine wpList_appS elemIn (by omega) rfl _ _ rfl b _ m _ rfl (HQ3.out.alloc _) ⟨w4.heap.size, 0, none⟩ 1 [.int .i64 (k : Int)] rfl rfl (Flds.new w4 _ _) (by simp [Value.oneCell']) (by omega) (by omega) (by simp; omega) ?_; intro g cap w8 hown8 hg8 hgg; have HO8 := Lib.hid hown8; have HG8 := Lib.hid hg8; clear hown8 hg8 hgg)
        go_roundg (128 - (k + 1))
        case measure => omega
        case rel =>
          refine ⟨k + 1, by omega, by omega, by go_num, ?_, ((E1.out.alloc _).grown HG8.out fun e => own_ne HQ3.out E1.out (by decide) e.symm), (Ba E2.out _).grown HG8.out (by simp; have := E2.out.size; omega) fun b' e => by have := (HL.out b' e).1; have := HBB.out; omega⟩
          show OwnL _ _ _ _ _ _ _
          rw [HST.out]
          exact OwnL.snoc HQ1.out HQ2.out rfl rfl (fun _ _ h => h) (by rw [HM.out]; exact HO8.out)
    · obtain rfl : k = 128 := by omega
      have h128 := memK_128 x
      rw [h128] at HO
      have hln := memK_len x 128
      rw [h128] at hln
      clear h128 c0 c1
      go_wp2_with fail
      go_ret
      exact ⟨_, rfl, HO.out.sl (by omega) (fun b' h1 h2 _ => ⟨by have := HBB.out; omega, h2⟩), HB.out⟩
end Go.Proofs.YtnphdmiondccgaaDoor
