/- Walks over hitting: the words of the sets, the first set that is missed, the error of a problem. -/
import Derived.Test.YtiochodepgldpaaDoorH2
namespace Go.Proofs.YtiochodepgldpaaDoor
open Go Go.RowKit
theorem findIdx_take (ws : List Nat) (p : Nat → Bool) (k : Nat) (h : ∀ j (hj : j < ws.length), j < k → p ws[j] = false) (hk : k < ws.length) (hp : p ws[k] = true) : ws.findIdx p = k := by
  rw [List.findIdx_eq hk]
  exact ⟨hp, fun j hj => h j (by omega) hj⟩
theorem missed1 (s x : Nat) (hs : s < 4294967296) (hx : x < 4294967296) (a : Addr) (w : World) (ha : w.cell? a = some (.int .u32 (x : Int))) :
    Calls Tryd.prog 84 #[.int .u32 (s : Int), .pointer (some a)] w fun e w' => e = .returned (.bool (s &&& x == 0)) ∧ w = w' := by
  have h := Hit.u32_and s x hs hx
  have e : (((s &&& x : Nat) : Int) == 0) = (s &&& x == 0) := by rw [Bool.eq_iff_iff]; simp
  generalize s &&& x = y at *
  go_enter Tryd.func84, Tryd.ntmps84
  go_wp2
  go_ret
  exact ⟨by rw [← e]; rfl, rfl⟩
/-- The first index at which p holds, or -1. -/
def idxF (p : Nat → Bool) (l : List Nat) : Int := if l.findIdx p = l.length then -1 else (l.findIdx p : Int)
theorem idxF_hit (l : List Nat) (p : Nat → Bool) (k : Nat) (h : ∀ j (hj : j < l.length), j < k → p l[j] = false) (hk : k < l.length) (hp : p l[k] = true) : idxF p l = k := by
  unfold idxF
  rw [findIdx_take l p k h hk hp, if_neg (by omega)]
theorem idxF_miss (l : List Nat) (p : Nat → Bool) (h : ∀ j (hj : j < l.length), p l[j] = false) : idxF p l = -1 := by
  unfold idxF
  rw [if_pos (List.findIdx_eq_length.2 fun x hx => by
    obtain ⟨j, hj, rfl⟩ := List.getElem_of_mem hx
    exact h j hj)]
set_option maxHeartbeats 400000 in
theorem indexFuncU_any (p : Nat → Bool) (v : Value) (l : List Nat) (g : Nat) (lb : Array Value) (eg : ∀ args w, (callFunc g args).run Tryd.prog w = .ok (.enter g args) w) (w : World) (F : Nat → Prop)
    (hr : SlU .u32 F w v l) (hp : PredU .u32 p g lb w l) :
    Calls Tryd.prog 83 #[v, .func (.func g) #[] lb] w fun e w' => e = .returned (.int .i64 (idxF p l)) ∧ w = w' := by
  obtain ⟨A, c, rfl, hlc, hl, hat⟩ := hr.open
  clear hr
  go_enter Tryd.func83, Tryd.ntmps83
  go_wp2
  go_loop [5, 8] (fun _ s8 => ∃ kk : Nat, kk ≤ l.length ∧ s8 = .int .i64 kk ∧ Aside (∀ j (hj : j < l.length), j < kk → p l[j] = false)) (fun _ s8 => l.length - (intOf s8).toNat)
  case atStart => exact ⟨0, Nat.zero_le _, rfl, fun j _ hj => absurd hj (Nat.not_lt_zero _)⟩
  case round =>
    obtain ⟨kk, hkk, rfl, A1⟩ := hrel
    by_cases hlt : kk < l.length
    · obtain ⟨ad, rfl, hb, hc⟩ := hat kk hlt
      have hcall := hp w l[kk] (List.getElem_mem hlt) (Below.refl _ _)
      clear hat hp
      cases hq : p l[kk] with
      | true =>
        rw [hq] at hcall
        have hf := idxF_hit l p kk A1.out hlt hq
        have HF := Lib.hid hf
        clear hf
        go_wp2_with (go_at_fn g; refine hcall.mono ?_; rintro e w' ⟨rfl, rfl⟩)
        go_ret
        exact ⟨by rw [HF.out]; rfl, rfl⟩
      | false =>
        rw [hq] at hcall
        go_wp2_with (go_at_fn g; refine hcall.mono ?_; rintro e w' ⟨rfl, rfl⟩)
        go_round
        case rel =>
          refine ⟨kk + 1, by omega, by go_num, (show Aside _ from fun j hj hjk => ?_)⟩
          by_cases e : j = kk
          · subst e
            exact hq
          · exact A1.out j hj (by omega)
        case measure => simp [intOf]; omega
    · have : kk = l.length := by omega
      subst this
      have hf := idxF_miss l p fun j hj => A1.out j hj hj
      have HF := Lib.hid hf
      clear hat hp hf
      go_wp2
      go_ret
      exact ⟨by rw [HF.out]; rfl, rfl⟩
/-- The first set that is missed, or -1. -/
def missF (ws : List Nat) (x : Nat) : Int := idxF (fun s => s &&& x == 0) ws
theorem missed_any (v : Value) (ws : List Nat) (hw : ∀ s ∈ ws, s < 4294967296) (x : Nat) (hx : x < 4294967296) (w : World) (F : Nat → Prop) (hF : ∀ b, F b → b < w.heap.size) (hr : SlU .u32 F w v ws) :
    Calls Tryd.prog 55 #[v, .int .u32 (x : Int)] w fun e w' => e = .returned (.int .i64 (missF ws x)) ∧ Below w.heap.size w w' := by
  have hC := fun (W : World) (hs : w.heap.size < W.heap.size) (hb : Below w.heap.size w W) (h0 : W.cell? ⟨w.heap.size, 0, none⟩ = some (.int .u32 (x : Int))) =>
    indexFuncU_any (fun s => s &&& x == 0) v ws 84 #[.pointer (some ⟨w.heap.size, 0, none⟩)] (enters_of Tryd.func84 (by kernel_rfl) rfl) W F
      (hr.keep (Agree.below hb hF)) (fun W' s hs' hb' => missed1 s x (hw s hs') hx _ W' ((hb'.cell (p := ⟨w.heap.size, 0, none⟩) (by simp; omega)).trans h0))
  have H := Lib.hid hC
  clear hC hr
  go_enter Tryd.func55, Tryd.ntmps55
  go_wp2_with (go_at_call 83; refine (H.out _ (by simp) (Ba (B0 _) _) (by simp)).mono ?_; rintro e w' ⟨rfl, rfl⟩)
  go_ret
  exact ⟨rfl, Ba (B0 _) _⟩
theorem missF_eq (ws : List Nat) (x : Nat) : missF ws x = if Hit.miss ws x = ws.length then -1 else (Hit.miss ws x : Int) := rfl
theorem missF_neg (ws : List Nat) (x : Nat) : (missF ws x < 0) ↔ Hit.hit ws x = true := by
  rw [missF_eq, ← Hit.miss_hit]
  split
  · rename_i h; simp [h]
  · rename_i h; first | (simp [h]; done) | (simp [h]; omega)
/-- The words of the sets of a problem, as a list of the call's own. -/
theorem setsOf_length (ws : List Nat) : (setsOf ws).length = ws.length := by simp [setsOf]
theorem setsOf_get (ws : List Nat) (i : Nat) (h : i < (setsOf ws).length) : (setsOf ws)[i] = Hit.ints (Hit.members (ws[i]'(by rw [← setsOf_length]; exact h))) := by simp [setsOf]
set_option maxHeartbeats 1000000 in
theorem words_any (n : Int) (vs : Value) (ws : List Nat) (hw : ∀ s ∈ ws, s < 4294967296) (hl : ws.length ≤ 1000) (w : World) (F : Nat → Prop) (hF : ∀ b, F b → b < w.heap.size) (hr : SlII F w vs (setsOf ws)) :
    Calls Tryd.prog 35 #[.agg #[.int .i64 n, vs]] w fun e w' => ∃ A m c, e = .returned (.slice A m c) ∧ m = ws.length ∧ Own0 w' w.heap.size 83 1 A m c (cellsV (vU .u32) ws) ∧ Below w.heap.size w w' := by
  have hr' := hr
  obtain ⟨As, cs, rfl, hlc, _, hat⟩ := hr.open
  rw [setsOf_length] at hlc ⊢
  clear hr
  go_enter Tryd.func35, Tryd.ntmps35
  go_wp2_with fail
  go_loopg [3, 9] ws.length (fun gg s3 s9 wr => ∃ (k : Nat) (A : Option Addr) (c : Nat), k ≤ ws.length ∧ ws.length - k ≤ gg ∧ s9 = .int .i64 k ∧ s3 = .slice A k c ∧ Aside (Own0 wr w.heap.size 83 1 A k c (cellsV (vU .u32) (ws.take k))) ∧ Aside (Below w.heap.size w wr))
  case atStart => exact ⟨0, none, 0, by omega, by omega, rfl, rfl, Own0.nil, Ba (B0 w) _⟩
  case round =>
    obtain ⟨k, A, c, hk, hg, rfl, rfl, HO, HB⟩ := hrel
    by_cases hlt : k < ws.length
    · have hki : decide ((k : Int) < ws.length) = true := decide_eq_true (by omega)
      obtain ⟨ad, u, rfl, hf, hc, hu⟩ := hat k (by rw [setsOf_length]; exact hlt)
      rw [setsOf_get] at hu
      have hc' := (HB.out.cell (p := ad.add k) (by rw [block_of_add]; exact hF _ hf)).trans hc
      have hm : ∀ x ∈ Hit.members ws[k], x < 32 := Hit.members_lt (n := 32) (hw _ (List.getElem_mem hlt))
      have he : Hit.word (Hit.members ws[k]) = ws[k] := Hit.word_members (Nat.lt_of_lt_of_le (hw _ (List.getElem_mem hlt)) (by decide))
      have hC : Calls Tryd.prog 64 #[u] wr fun e w' => e = .returned (.int .u32 ((ws[k] : Nat) : Int)) ∧ wr = w' := by
        have := word_any u (Hit.members ws[k]) hm wr F (hu.keep (Agree.below HB.out hF))
        rw [he] at this
        exact this
      have ht : ws.take (k + 1) = ws.take k ++ [ws[k]] := List.take_succ_eq_append_getElem hlt
      have HC := Lib.hid hC
      have HT := Lib.hid ht
      have HW := Lib.hid hw
      generalize ws[k] = q at *
      clear hat hu hc hm he hC ht hw hr'
      go_wp2_with (first
        | (go_at_call 64; refine HC.out.mono ?_; rintro e w' ⟨rfl, rfl⟩)
        | (at_builtin; refine wpList_app0 elemU rfl _ _ rfl (Own0.alloc HO.out _) rfl wr.heap.size (.int .u32 (q : Int)) rfl (by simp) rfl (by omega) (by omega) (by have := HB.out.size; simp; omega) ?_; intro A' c' w2 q1 q2; have Q1 := Lib.hid q1; have Q2 := Lib.hid (Bg0 (Ba HB.out _) (Own0.alloc HO.out _) (Nat.le_refl _) q2); clear q1 q2))
      go_roundg (ws.length - (k + 1))
      case measure => omega
      case rel => exact ⟨k + 1, A', c', by omega, by omega, by go_num, rfl, by rw [HT.out, cellsV_snoc]; exact Q1.out, Q2.out⟩
    · have hki : decide ((k : Int) < ws.length) = false := decide_eq_false (by omega)
      have : k = ws.length := by omega
      subst this
      clear hat hw hr'
      go_wp2
      go_ret
      exact ⟨A, _, c, rfl, rfl, by have := HO.out; rw [List.take_length] at this; exact this, HB.out⟩
end Go.Proofs.YtiochodepgldpaaDoor
