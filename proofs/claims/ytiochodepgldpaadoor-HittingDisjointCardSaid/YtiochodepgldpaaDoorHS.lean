/- Walks over hitting: disjoint sets that are found one after another. -/
import Derived.Test.YtiochodepgldpaaDoorHQ
namespace Go.Proofs.YtiochodepgldpaaDoor
open Go Go.RowKit
theorem apartGo_cons (s : Nat) (r : List Nat) (i taken out used : Nat) : Hit.apartGo (s :: r) i taken out used = if s &&& taken = 0 ∧ Hit.andn s out &&& used = 0 then i :: Hit.apartGo r (i + 1) taken out (used ||| Hit.andn s out) else Hit.apartGo r (i + 1) taken out used := rfl
set_option maxHeartbeats 2000000 in
theorem apart_any (v : Value) (ws : List Nat) (hw : ∀ s ∈ ws, s < 4294967296) (hwl : ws.length ≤ 1000) (taken out : Nat) (ht : taken < 4294967296) (ho : out < 4294967296) (w : World) (F : Nat → Prop) (hF : ∀ b, F b → b < w.heap.size) (hr : SlU .u32 F w v ws) :
    Calls Tryd.prog 77 #[v, .int .u32 taken, .int .u32 out] w fun e w' => ∃ A n c, e = .returned (.slice A n c) ∧ n = (Hit.apart ws taken out).length ∧ Own0 w' w.heap.size 3 1 A n c (cellsV vN (Hit.apart ws taken out)) ∧ Below w.heap.size w w' := by
  obtain ⟨As, cs, rfl, hlc, hll, hat⟩ := hr.open
  clear hr
  go_enter Tryd.func77, Tryd.ntmps77
  go_wp2
  go_loopg [7, 8, 13] ws.length (fun gg s7 s8 s13 wr => ∃ (k : Nat) (A : Option Addr) (n c : Nat) (dn : List Nat) (used : Nat), k ≤ ws.length ∧ ws.length - k ≤ gg ∧ s13 = .int .i64 k ∧ s7 = .slice A n c ∧ s8 = .int .u32 used ∧ used < 4294967296 ∧ n ≤ k ∧ Aside (n = dn.length) ∧
    Aside (Hit.apart ws taken out = dn ++ Hit.apartGo (ws.drop k) k taken out used) ∧ Aside (Own0 wr w.heap.size 3 1 A n c (cellsV vN dn)) ∧ Aside (Below w.heap.size w wr))
  case atStart => exact ⟨0, none, 0, 0, [], 0, by omega, by omega, rfl, rfl, rfl, by omega, by omega, rfl, rfl, Own0.nil, B0 w⟩
  case round =>
    obtain ⟨k, A, n, c, dn, used, hk, hg, rfl, rfl, rfl, hu, hnk, HN, HD, HO, HB⟩ := hrel
    by_cases hlt : k < ws.length
    · have hki : decide ((k : Int) < ws.length) = true := decide_eq_true (by omega)
      obtain ⟨ad, rfl, hf, hc⟩ := hat k hlt
      have hc' := (HB.out.cell (p := ad.add k) (by rw [block_of_add]; exact hF _ hf)).trans hc
      have hs := hw _ (List.getElem_mem hlt)
      have hd : Hit.apart ws taken out = dn ++ Hit.apartGo (ws[k] :: ws.drop (k + 1)) k taken out used := by rw [HD.out, List.drop_eq_getElem_cons hlt]
      rw [apartGo_cons] at hd
      have h1 := Hit.u32_and ws[k] taken hs ht
      have h2 := Hit.u32_andn ws[k] out hs ho
      have ha : Hit.andn ws[k] out < 4294967296 := Hit.andn_lt (k := 32) hs
      have h3 := Hit.u32_and (Hit.andn ws[k] out) used ha hu
      have h4 := Hit.u32_or used (Hit.andn ws[k] out) hu ha
      have h5 : used ||| Hit.andn ws[k] out < 4294967296 := Hit.or_lt (k := 32) hu ha
      have HD2 := Lib.hid hd
      have H5 := Lib.hid h5
      generalize Hit.andn ws[k] out = z at *
      generalize used ||| z = u2 at *
      clear hat hd HD hw hs ha h5 hc
      by_cases q1 : ws[k] &&& taken = 0
      · rw [q1] at h1
        by_cases q2 : z &&& used = 0
        · rw [q2] at h3
          have hd3 : Hit.apart ws taken out = (dn ++ [k]) ++ Hit.apartGo (ws.drop (k + 1)) (k + 1) taken out u2 := by rw [HD2.out, if_pos ⟨q1, q2⟩]; simp
          have HD3 := Lib.hid hd3
          generalize ws[k] = s at *
          clear q1 q2 hd3 HD2
          go_wp2_with (at_builtin; refine wpList_app0 elemI rfl _ _ rfl (Own0.alloc HO.out _) rfl wr.heap.size (.int .i64 (k : Int)) rfl (by simp) rfl (by omega) (by omega) (by have := HB.out.size; simp; omega) ?_; intro A' c' w2 q1 q2; have Q1 := Lib.hid q1; have Q2 := Lib.hid (Bg0 (Ba HB.out _) (Own0.alloc HO.out _) (Nat.le_refl _) q2); clear q1 q2)
          go_roundg (ws.length - (k + 1))
          case measure => omega
          case rel => exact ⟨k + 1, A', n + 1, c', dn ++ [k], u2, by omega, by omega, by go_num, rfl, rfl, H5.out, by omega, by have := HN.out; show n + 1 = (dn ++ [k]).length; simp; exact this, HD3.out, by rw [cellsV_snoc]; exact Q1.out, Q2.out⟩
        · have q2' : (((z &&& used : Nat) : Int) == 0) = false := by simp; exact q2
          have hd3 : Hit.apart ws taken out = dn ++ Hit.apartGo (ws.drop (k + 1)) (k + 1) taken out used := by rw [HD2.out, if_neg (fun h => q2 h.2)]
          have HD3 := Lib.hid hd3
          generalize z &&& used = zz at *
          generalize ws[k] = s at *
          clear q1 q2 hd3 HD2
          go_wp2
          go_roundg (ws.length - (k + 1))
          case measure => omega
          case rel => exact ⟨k + 1, A, n, c, dn, used, by omega, by omega, by go_num, rfl, rfl, hu, by omega, HN.out, HD3.out, HO.out, HB.out⟩
      · have q1' : (((ws[k] &&& taken : Nat) : Int) == 0) = false := by simp; exact q1
        have hd3 : Hit.apart ws taken out = dn ++ Hit.apartGo (ws.drop (k + 1)) (k + 1) taken out used := by rw [HD2.out, if_neg (fun h => q1 h.1)]
        have HD3 := Lib.hid hd3
        generalize ws[k] &&& taken = zz at *
        generalize ws[k] = s at *
        clear q1 hd3 HD2
        go_wp2
        go_roundg (ws.length - (k + 1))
        case measure => omega
        case rel => exact ⟨k + 1, A, n, c, dn, used, by omega, by omega, by go_num, rfl, rfl, hu, by omega, HN.out, HD3.out, HO.out, HB.out⟩
    · have hki : decide ((k : Int) < ws.length) = false := decide_eq_false (by omega)
      have : k = ws.length := by omega
      subst this
      have he : Hit.apart ws taken out = dn := by rw [HD.out, List.drop_length]; simp [Hit.apartGo]
      have HE := Lib.hid he
      clear hat he hw
      go_wp2
      go_ret
      exact ⟨A, n, c, rfl, by rw [HE.out]; exact HN.out, by rw [HE.out]; exact HO.out, HB.out⟩
end Go.Proofs.YtiochodepgldpaaDoor
