/- Walks over hitting: the number of bits, the lowest bit. Walks over hitting: the words of the sets, the first set that is missed, the error of a problem. -/
import Derived.Test.YthgjhfapnilfhaaDoorH0
import Derived.Test.YthgjhfapnilfhaaDoorCovP
import Derived.Shelf.Spec.TrailingZeros
namespace Go.Proofs.YthgjhfapnilfhaaDoor
open Go Go.RowKit
theorem run_pop8 (i : Nat) (hi : i < 256) (w : World) : (Instr.index 9 (.string Lib.pop8tab) (.int .u32 (i : Int))).run Tryd.prog w = .ok (.int .u8 ((Hit.pop i : Nat) : Int)) w := by
  rw [Lib.run_index_pop8tab w 9 .u32 i Tryd.underlying9 (by omega) (by omega), (Hit.pop8_pop i hi).1]
set_option maxRecDepth 100000 in
set_option maxHeartbeats 1000000 in
theorem ones_core (x n3 n2 n1 n0 i3 i2 i1 i0 : Nat) (b3 : n3 ≤ 8) (b2 : n2 ≤ 8) (b1 : n1 ≤ 8) (b0 : n0 ≤ 8) (e3 : (x : Int) / 16777216 = (i3 : Int)) (e2 : bits .and .u32 ((x : Int) / 65536) 255 = (i2 : Int)) (e1 : bits .and .u32 ((x : Int) / 256) 255 = (i1 : Int)) (e0 : bits .and .u32 (x : Int) 255 = (i0 : Int))
    (r3 : ∀ w, (Instr.index 9 (.string Lib.pop8tab) (.int .u32 (i3 : Int))).run Tryd.prog w = .ok (.int .u8 (n3 : Int)) w) (r2 : ∀ w, (Instr.index 9 (.string Lib.pop8tab) (.int .u32 (i2 : Int))).run Tryd.prog w = .ok (.int .u8 (n2 : Int)) w)
    (r1 : ∀ w, (Instr.index 9 (.string Lib.pop8tab) (.int .u32 (i1 : Int))).run Tryd.prog w = .ok (.int .u8 (n1 : Int)) w) (r0 : ∀ w, (Instr.index 9 (.string Lib.pop8tab) (.int .u32 (i0 : Int))).run Tryd.prog w = .ok (.int .u8 (n0 : Int)) w) (w : World) :
    Calls Tryd.prog 34 #[.int .u32 x] w fun e w' => e = .returned (.int .i64 ((n3 + n2 + n1 + n0 : Nat) : Int)) ∧ ∃ n, w' = w.drewN n := by
  go_enter Tryd.func34, Tryd.ntmps34
  simp only [List.append_eq, List.cons_append, List.nil_append]
  simp only [Lib.fold_pop8tab]
  go_wp2
  refine wp_region_quiet_lit (by kernel_rfl) (by kernel_rfl) ?_
  repeat (any_goals (first | go_big_quiet_step (fail) | quiet_step (fail)))
  refine wpQuiet_nil ?_
  rintro _ ⟨n, rfl⟩
  go_wp2
  go_ret
  exact ⟨by simp, n, rfl⟩
theorem ones_any (x : Nat) (hx : x < 4294967296) (w : World) :
    Calls Tryd.prog 34 #[.int .u32 x] w fun e w' => e = .returned (.int .i64 (Hit.pop x : Nat)) ∧ ∃ n, w' = w.drewN n := by
  have m : ∀ y : Nat, y < 4294967296 → bits .and .u32 (y : Int) 255 = ((y % 256 : Nat) : Int) := fun y hy => by
    rw [show (255 : Int) = ((255 : Nat) : Int) from rfl, Hit.u32_and y 255 hy (by decide), nat_mask8]
  have p2 := (Hit.pop8_pop (x / 65536 % 256) (by omega)).2
  have p1 := (Hit.pop8_pop (x / 256 % 256) (by omega)).2
  have p0 := (Hit.pop8_pop (x % 256) (by omega)).2
  rw [Hit.pop_split x hx]
  exact ones_core x _ _ _ _ (x / 16777216) (x / 65536 % 256) (x / 256 % 256) (x % 256) (Hit.pop8_pop _ (by omega)).2 p2 p1 p0 (by omega)
    (by rw [show (x : Int) / 65536 = ((x / 65536 : Nat) : Int) from by omega, m _ (by omega)]) (by rw [show (x : Int) / 256 = ((x / 256 : Nat) : Int) from by omega, m _ (by omega)]) (m x hx)
    (fun w => run_pop8 _ (by omega) w) (fun w => run_pop8 _ (by omega) w) (fun w => run_pop8 _ (by omega) w) (fun w => run_pop8 _ (by omega) w) w
/-- The table of TrailingZeros32 lies in its variable. -/
def Tab32 (w : World) : Prop := TabAt 0 Lib.deBruijn32tab w
theorem Tab32.below {w w' : World} (h : Tab32 w) (hb : Below w.heap.size w w') : Tab32 w' := fun j hj => (hb.cell (p := ⟨0, j, none⟩) (World.block_lt_of_cell? _ _ (h j hj))).trans (h j hj)
set_option maxHeartbeats 1000000 in
theorem tz32_core (x k idx : Nat) (w : World) (hx0 : ((x : Int) == 0) = false)
    (key : bits BinOp.and IntKind.u32 (x : Int) (-(x : Int) % 4294967296) * 125613361 % 4294967296 / 134217728 = (idx : Int))
    (hi : idx < 32) (hk : k < 32) (hcell : w.cell? ⟨0, idx, none⟩ = some (.int .u8 k)) :
    Calls Tryd.prog 74 #[.int .u32 x] w fun e w' => e = .returned (.int .i64 k) ∧ w = w' := by
  go_enter Tryd.func74, Tryd.ntmps74
  go_wp2_with (simp only [key])
  go_ret
  exact ⟨rfl, rfl⟩
theorem tz32_any (x : Nat) (h0 : x ≠ 0) (hx : x < 4294967296) (w : World) (hT : Tab32 w) :
    Calls Tryd.prog 74 #[.int .u32 x] w fun e w' => e = .returned (.int .i64 (Hit.tz x : Nat)) ∧ w = w' := by
  obtain ⟨hlow, hk⟩ := Hit.low_bit 32 x (by decide) h0 hx
  obtain ⟨hi, hd⟩ := Lib.deBruijn32_at (Hit.tz x) hk
  have hcell := hT _ (by exact hi)
  rw [hd] at hcell
  exact tz32_core x _ _ w (by simp; omega) (tz32_key x _ hx h0 hlow) hi hk hcell
set_option maxHeartbeats 1000000 in
theorem numbers_any (x : Nat) (hx : x < 4294967296) (w : World) (hT : Tab32 w) :
    Calls Tryd.prog 50 #[.int .u32 x] w fun e w' => ∃ A n c, e = .returned (.slice A n c) ∧ n = (Hit.members x).length ∧ Own0 w' w.heap.size 3 1 A n c (cellsV vN (Hit.members x)) ∧ Below w.heap.size w w' := by
  have hpl : (Hit.members x).length ≤ 64 := Nat.le_trans (List.length_filter_le _ _) (by simp)
  go_enter Tryd.func50, Tryd.ntmps50
  go_wp2
  go_loopg [0, 3] x (fun gg s0 s3 wr => ∃ (y : Nat) (dn : List Nat) (A : Option Addr) (n c : Nat), y ≤ gg ∧ y < 4294967296 ∧ s0 = .int .u32 y ∧ s3 = .slice A n c ∧ n + (Hit.members y).length ≤ 64 ∧ Aside (n = dn.length) ∧ Aside (Hit.members x = dn ++ Hit.members y) ∧ Aside (Own0 wr w.heap.size 3 1 A n c (cellsV vN dn)) ∧ Aside (Below w.heap.size w wr))
  case atStart => exact ⟨x, [], none, 0, 0, by omega, hx, rfl, rfl, by omega, rfl, rfl, Own0.nil, B0 w⟩
  case round =>
    obtain ⟨y, dn, A, n, c, hg, hy, rfl, rfl, hn, HN, HM, HO, HB⟩ := hrel
    by_cases h0 : y = 0
    · subst h0
      have e : Hit.members 0 = [] := by decide
      have h0' : ((0 : Int) != 0) = false := rfl
      rw [e, List.append_nil] at HM
      clear e hn
      go_wp2
      go_ret
      exact ⟨A, n, c, rfl, by rw [HM]; exact HN, by rw [HM]; exact HO, HB⟩
    · have h0' : ((y : Int) != 0) = true := by simp; omega
      have h1 : (1 : Int) ≤ y := by omega
      obtain ⟨hs, hlt⟩ := Hit.members_step 32 y (by decide) h0 hy
      rw [← Hit.tz_ctz 32 y (by decide) h0 hy] at hs
      have hand := Hit.u32_and y (y - 1) hy (by omega)
      rw [show ((y - 1 : Nat) : Int) = (y : Int) - 1 from by omega] at hand
      have hC : ∀ W, Below w.heap.size w W → Calls Tryd.prog 74 #[.int .u32 y] W fun e w' => e = .returned (.int .i64 (Hit.tz y : Nat)) ∧ W = w' := fun W hW => tz32_any y h0 hy W (hT.below hW)
      have hM : Hit.members x = (dn ++ [Hit.tz y]) ++ Hit.members (y &&& (y - 1)) := by rw [HM, hs]; simp
      have hnl : n + 1 + (Hit.members (y &&& (y - 1))).length ≤ 64 := by rw [hs] at hn; simp only [List.length_cons] at hn; omega
      have HC := Lib.hid hC
      have HM2 := Lib.hid hM
      have HNL := Lib.hid hnl
      have HLT := Lib.hid hlt
      have hn64 : n ≤ 64 := by omega
      generalize y &&& (y - 1) = z at *
      generalize Hit.tz y = q at *
      clear hs hC hM hnl hlt hn HM h0
      go_wp2_with (first
        | (go_at_call 74; refine (HC.out _ HB.out).mono ?_; rintro e w' ⟨rfl, rfl⟩)
        | (at_builtin; refine wpList_app0 elemI rfl _ _ rfl (Own0.alloc HO.out _) rfl wr.heap.size (.int .i64 (q : Int)) rfl (by simp) rfl (by omega) (by omega) (by have := HB.out.size; simp; omega) ?_; intro A' c' w2 q1 q2; have Q1 := Lib.hid q1; have Q2 := Lib.hid (Bg0 (Ba HB.out _) (Own0.alloc HO.out _) (Nat.le_refl _) q2); clear q1 q2))
      go_roundg z
      case measure => have := HLT.out; omega
      case rel => exact ⟨z, dn ++ [q], A', n + 1, c', by have := HLT.out; omega, by have := HLT.out; omega, by go_num, rfl, HNL.out, by have := HN.out; show n + 1 = (dn ++ [q]).length; simp; exact this, HM2.out, by rw [cellsV_snoc]; exact Q1.out, Q2.out⟩
end Go.Proofs.YthgjhfapnilfhaaDoor
namespace Go.Proofs.YthgjhfapnilfhaaDoor
open Go Go.RowKit
theorem findIdx_take (ws : List Nat) (p : Nat → Bool) (k : Nat) (h : ∀ j (hj : j < ws.length), j < k → p ws[j] = false) (hk : k < ws.length) (hp : p ws[k] = true) : ws.findIdx p = k := by
  rw [List.findIdx_eq hk]
  exact ⟨hp, fun j hj => h j (by omega) hj⟩
theorem missed1 (s x : Nat) (hs : s < 4294967296) (hx : x < 4294967296) (a : Addr) (w : World) (ha : w.cell? a = some (.int .u32 (x : Int))) :
    Calls Tryd.prog 97 #[.int .u32 (s : Int), .pointer (some a)] w fun e w' => e = .returned (.bool (s &&& x == 0)) ∧ w = w' := by
  have h := Hit.u32_and s x hs hx
  have e : (((s &&& x : Nat) : Int) == 0) = (s &&& x == 0) := by rw [Bool.eq_iff_iff]; simp
  generalize s &&& x = y at *
  go_enter Tryd.func97, Tryd.ntmps97
  go_wp2
  go_ret
  exact ⟨by rw [← e]; rfl, rfl⟩
/-- The first index at which p holds, or -1. -/
def idxF (p : Nat → Bool) (l : List Nat) : Int := if l.findIdx p = l.length then -1 else (l.findIdx p : Int)
theorem idxF_hit (l : List Nat) (p : Nat → Bool) (k : Nat) (h : ∀ j (hj : j < l.length), j < k → p l[j] = false) (hk : k < l.length) (hp : p l[k] = true) : idxF p l = k := by
  unfold idxF
  rw [findIdx_take l p k h hk hp, if_neg (by omega)]
theorem idxF_miss (l : List Nat) (p : Nat → Bool) (h : ∀ j (hj : j < l.length), p l[j] = false) : idxF p l = -1 := by
  unfold idxF
  rw [if_pos (List.findIdx_eq_length.2 fun x hx => by
    obtain ⟨j, hj, rfl⟩ := List.getElem_of_mem hx
    exact h j hj)]
set_option maxHeartbeats 400000 in
theorem indexFuncU_any (p : Nat → Bool) (v : Value) (l : List Nat) (g : Nat) (lb : Array Value) (eg : ∀ args w, (callFunc g args).run Tryd.prog w = .ok (.enter g args) w) (w : World) (F : Nat → Prop)
    (hr : SlU .u32 F w v l) (hp : PredU .u32 p g lb w l) :
    Calls Tryd.prog 96 #[v, .func (.func g) #[] lb] w fun e w' => e = .returned (.int .i64 (idxF p l)) ∧ w = w' := by
  obtain ⟨A, c, rfl, hlc, hl, hat⟩ := hr.open
  clear hr
  go_enter Tryd.func96, Tryd.ntmps96
  go_wp2
  go_loop [5, 8] (fun _ s8 => ∃ kk : Nat, kk ≤ l.length ∧ s8 = .int .i64 kk ∧ Aside (∀ j (hj : j < l.length), j < kk → p l[j] = false)) (fun _ s8 => l.length - (intOf s8).toNat)
  case atStart => exact ⟨0, Nat.zero_le _, rfl, fun j _ hj => absurd hj (Nat.not_lt_zero _)⟩
  case round =>
    obtain ⟨kk, hkk, rfl, A1⟩ := hrel
    by_cases hlt : kk < l.length
    · obtain ⟨ad, rfl, hb, hc⟩ := hat kk hlt
      have hcall := hp w l[kk] (List.getElem_mem hlt) (Below.refl _ _)
      clear hat hp
      cases hq : p l[kk] with
      | true =>
        rw [hq] at hcall
        have hf := idxF_hit l p kk A1.out hlt hq
        have HF := Lib.hid hf
        clear hf
        go_wp2_with (go_at_fn g; refine hcall.mono ?_; rintro e w' ⟨rfl, rfl⟩)
        go_ret
        exact ⟨by rw [HF.out]; rfl, rfl⟩
      | false =>
        rw [hq] at hcall
        go_wp2_with (go_at_fn g; refine hcall.mono ?_; rintro e w' ⟨rfl, rfl⟩)
        go_round
        case rel =>
          refine ⟨kk + 1, by omega, by go_num, (show Aside _ from fun j hj hjk => ?_)⟩
          by_cases e : j = kk
          · subst e
            exact hq
          · exact A1.out j hj (by omega)
        case measure => simp [intOf]; omega
    · have : kk = l.length := by omega
      subst this
      have hf := idxF_miss l p fun j hj => A1.out j hj hj
      have HF := Lib.hid hf
      clear hat hp hf
      go_wp2
      go_ret
      exact ⟨by rw [HF.out]; rfl, rfl⟩
/-- The first set that is missed, or -1. -/
def missF (ws : List Nat) (x : Nat) : Int := idxF (fun s => s &&& x == 0) ws
theorem missed_any (v : Value) (ws : List Nat) (hw : ∀ s ∈ ws, s < 4294967296) (x : Nat) (hx : x < 4294967296) (w : World) (F : Nat → Prop) (hF : ∀ b, F b → b < w.heap.size) (hr : SlU .u32 F w v ws) :
    Calls Tryd.prog 51 #[v, .int .u32 (x : Int)] w fun e w' => e = .returned (.int .i64 (missF ws x)) ∧ Below w.heap.size w w' := by
  have hC := fun (W : World) (hs : w.heap.size < W.heap.size) (hb : Below w.heap.size w W) (h0 : W.cell? ⟨w.heap.size, 0, none⟩ = some (.int .u32 (x : Int))) =>
    indexFuncU_any (fun s => s &&& x == 0) v ws 97 #[.pointer (some ⟨w.heap.size, 0, none⟩)] (enters_of Tryd.func97 (by kernel_rfl) rfl) W F
      (hr.keep (Agree.below hb hF)) (fun W' s hs' hb' => missed1 s x (hw s hs') hx _ W' ((hb'.cell (p := ⟨w.heap.size, 0, none⟩) (by simp; omega)).trans h0))
  have H := Lib.hid hC
  clear hC hr
  go_enter Tryd.func51, Tryd.ntmps51
  go_wp2_with (go_at_call 96; refine (H.out _ (by simp) (Ba (B0 _) _) (by simp)).mono ?_; rintro e w' ⟨rfl, rfl⟩)
  go_ret
  exact ⟨rfl, Ba (B0 _) _⟩
theorem missF_eq (ws : List Nat) (x : Nat) : missF ws x = if Hit.miss ws x = ws.length then -1 else (Hit.miss ws x : Int) := rfl
theorem missF_neg (ws : List Nat) (x : Nat) : (missF ws x < 0) ↔ Hit.hit ws x = true := by
  rw [missF_eq, ← Hit.miss_hit]
  split
  · rename_i h; simp [h]
  · rename_i h; first | (simp [h]; done) | (simp [h]; omega)
/-- The words of the sets of a problem, as a list of the call's own. -/
theorem setsOf_length (ws : List Nat) : (setsOf ws).length = ws.length := by simp [setsOf]
theorem setsOf_get (ws : List Nat) (i : Nat) (h : i < (setsOf ws).length) : (setsOf ws)[i] = Hit.ints (Hit.members (ws[i]'(by rw [← setsOf_length]; exact h))) := by simp [setsOf]
set_option maxHeartbeats 1000000 in
theorem words_any (n : Int) (vs : Value) (ws : List Nat) (hw : ∀ s ∈ ws, s < 4294967296) (hl : ws.length ≤ 1000) (w : World) (F : Nat → Prop) (hF : ∀ b, F b → b < w.heap.size) (hr : SlII F w vs (setsOf ws)) :
    Calls Tryd.prog 36 #[.agg #[.int .i64 n, vs]] w fun e w' => ∃ A m c, e = .returned (.slice A m c) ∧ m = ws.length ∧ Own0 w' w.heap.size 95 1 A m c (cellsV (vU .u32) ws) ∧ Below w.heap.size w w' := by
  have hr' := hr
  obtain ⟨As, cs, rfl, hlc, _, hat⟩ := hr.open
  rw [setsOf_length] at hlc ⊢
  clear hr
  go_enter Tryd.func36, Tryd.ntmps36
  go_wp2_with fail
  go_loopg [3, 9] ws.length (fun gg s3 s9 wr => ∃ (k : Nat) (A : Option Addr) (c : Nat), k ≤ ws.length ∧ ws.length - k ≤ gg ∧ s9 = .int .i64 k ∧ s3 = .slice A k c ∧ Aside (Own0 wr w.heap.size 95 1 A k c (cellsV (vU .u32) (ws.take k))) ∧ Aside (Below w.heap.size w wr))
  case atStart => exact ⟨0, none, 0, by omega, by omega, rfl, rfl, Own0.nil, Ba (B0 w) _⟩
  case round =>
    obtain ⟨k, A, c, hk, hg, rfl, rfl, HO, HB⟩ := hrel
    by_cases hlt : k < ws.length
    · have hki : decide ((k : Int) < ws.length) = true := decide_eq_true (by omega)
      obtain ⟨ad, u, rfl, hf, hc, hu⟩ := hat k (by rw [setsOf_length]; exact hlt)
      rw [setsOf_get] at hu
      have hc' := (HB.out.cell (p := ad.add k) (by rw [block_of_add]; exact hF _ hf)).trans hc
      have hm : ∀ x ∈ Hit.members ws[k], x < 32 := Hit.members_lt (n := 32) (hw _ (List.getElem_mem hlt))
      have he : Hit.word (Hit.members ws[k]) = ws[k] := Hit.word_members (Nat.lt_of_lt_of_le (hw _ (List.getElem_mem hlt)) (by decide))
      have hC : Calls Tryd.prog 62 #[u] wr fun e w' => e = .returned (.int .u32 ((ws[k] : Nat) : Int)) ∧ wr = w' := by
        have := word_any u (Hit.members ws[k]) hm wr F (hu.keep (Agree.below HB.out hF))
        rw [he] at this
        exact this
      have ht : ws.take (k + 1) = ws.take k ++ [ws[k]] := List.take_succ_eq_append_getElem hlt
      have HC := Lib.hid hC
      have HT := Lib.hid ht
      have HW := Lib.hid hw
      generalize ws[k] = q at *
      clear hat hu hc hm he hC ht hw hr'
      go_wp2_with (first
        | (go_at_call 62; refine HC.out.mono ?_; rintro e w' ⟨rfl, rfl⟩)
        | (at_builtin; refine wpList_app0 elemU rfl _ _ rfl (Own0.alloc HO.out _) rfl wr.heap.size (.int .u32 (q : Int)) rfl (by simp) rfl (by omega) (by omega) (by have := HB.out.size; simp; omega) ?_; intro A' c' w2 q1 q2; have Q1 := Lib.hid q1; have Q2 := Lib.hid (Bg0 (Ba HB.out _) (Own0.alloc HO.out _) (Nat.le_refl _) q2); clear q1 q2))
      go_roundg (ws.length - (k + 1))
      case measure => omega
      case rel => exact ⟨k + 1, A', c', by omega, by omega, by go_num, rfl, by rw [HT.out, cellsV_snoc]; exact Q1.out, Q2.out⟩
    · have hki : decide ((k : Int) < ws.length) = false := decide_eq_false (by omega)
      have : k = ws.length := by omega
      subst this
      clear hat hw hr'
      go_wp2
      go_ret
      exact ⟨A, _, c, rfl, rfl, by have := HO.out; rw [List.take_length] at this; exact this, HB.out⟩
end Go.Proofs.YthgjhfapnilfhaaDoor
