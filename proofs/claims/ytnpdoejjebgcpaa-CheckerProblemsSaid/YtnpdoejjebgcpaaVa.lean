/- Walks over hitting: the verifier's leaf. -/
import Derived.Test.YtnpdoejjebgcpaaH6
import Derived.Deep.CutRange
namespace Go.Proofs.Ytnpdoejjebgcpaa
open Go Go.RowKit
set_option maxHeartbeats 1000000 in
theorem index_any (v : Value) (l : List Int) (x : Int) (w : World) (F : Nat → Prop) (hr : SlI F w v l) :
    Calls Try.prog 70 #[v, .int .i64 x] w fun e w' => (∃ r : Int, e = .returned (.int .i64 r) ∧ decide (0 ≤ r) = l.contains x) ∧ w = w' := by
  obtain ⟨A, c, rfl, _, hl, hat⟩ := hr.open
  clear hr
  go_enter Try.func70, Try.ntmps70
  go_wp2_with fail
  go_loopg [8] l.length (fun gg s wr => ∃ k : Nat, k ≤ l.length ∧ l.length - k ≤ gg ∧ s = .int .i64 k ∧ Aside (l.contains x = (l.drop k).contains x) ∧ wr = w)
  case atStart => exact ⟨0, by omega, by omega, rfl, rfl, rfl⟩
  case round =>
    obtain ⟨k, hk, hg, rfl, HC, rfl⟩ := hrel
    by_cases hlt : k < l.length
    · have hki : decide ((k : Int) < l.length) = true := decide_eq_true (by omega)
      have hk2 : (k : Int) < l.length := by omega
      obtain ⟨ad, rfl, hf, hc⟩ := hat k hlt
      have hd : l.contains x = ((x == l[k]) || (l.drop (k + 1)).contains x) := by rw [HC.out, List.drop_eq_getElem_cons hlt, List.contains_cons]
      generalize l[k] = y at *
      by_cases hxy : x = y
      · subst hxy
        have hd2 : l.contains x = true := by rw [hd]; simp
        have HD := Lib.hid hd2
        clear hd hd2 hat
        go_wp2
        go_ret
        exact ⟨⟨k, rfl, by rw [HD.out]; exact decide_eq_true (by omega)⟩, rfl⟩
      · have hxy' : (x == y) = false := by simpa using hxy
        rw [hxy', Bool.false_or] at hd
        have HD := Lib.hid hd
        clear hd hat hxy
        go_wp2
        go_roundg (l.length - (k + 1))
        case measure => omega
        case rel => exact ⟨k + 1, by omega, by omega, by go_num, HD.out, rfl⟩
    · have hki : decide ((k : Int) < l.length) = false := decide_eq_false (by omega)
      have : k = l.length := by omega
      subst this
      have hd : l.contains x = false := by rw [HC.out, List.drop_length]; rfl
      have HD := Lib.hid hd
      clear hat hd
      go_wp2
      go_ret
      exact ⟨⟨-1, rfl, by rw [HD.out]; rfl⟩, rfl⟩
set_option maxHeartbeats 1000000 in
theorem contains_any (v : Value) (l : List Int) (x : Int) (w : World) (F : Nat → Prop) (hr : SlI F w v l) :
    Calls Try.prog 49 #[v, .int .i64 x] w fun e w' => e = .returned (.bool (l.contains x)) ∧ w = w' := by
  have hI := index_any v l x w F hr
  obtain ⟨A, c, rfl, _⟩ := hr.open
  have HI := Lib.hid hI
  clear hI hr
  go_enter Try.func49, Try.ntmps49
  go_wp2_with (go_at_call 70; refine HI.out.mono ?_; rintro e w' ⟨⟨r, rfl, hd⟩, rfl⟩; have HD := Lib.hid hd; clear hd)
  go_ret
  exact ⟨by first | rfl | (rw [HD.out]; rfl), rfl⟩
theorem SlI.take {F : Nat → Prop} {w : World} {A : Option Addr} {c : Nat} {l : List Int} (h : SlI F w (.slice A l.length c) l) (k : Nat) (hk : k ≤ l.length) : SlI F w (.slice A k c) (l.take k) := by
  obtain ⟨A', c', hv, hc, hl, hat⟩ := h
  injection hv with e1 _ e3
  subst e1; subst e3
  have hlen : (l.take k).length = k := by simp; omega
  refine ⟨A, c, by rw [hlen], by omega, by omega, fun i hi => ?_⟩
  obtain ⟨ad, cs, q1, q2, q3, q4, q5⟩ := hat i (by omega)
  refine ⟨ad, cs, q1, q2, q3, ?_, q5⟩
  rw [List.getElem_take]; exact q4
theorem leafGo_cons (ws : List Nat) (size : Int) (len taken out : Nat) (prev : List Int) (i : Int) (r : List Int) (used : Nat) : Hit.leafGo ws size len taken out prev (i :: r) used =
    if i < 0 ∨ i ≥ ws.length ∨ Hit.wsI ws i &&& taken ≠ 0 ∨ prev.contains i = true then false
    else if Hit.andn (Hit.wsI ws i) out = 0 ∧ len = 1 then true
    else if Hit.andn (Hit.wsI ws i) out &&& used ≠ 0 then false
    else Hit.leafGo ws size len taken out (prev ++ [i]) r (used ||| Hit.andn (Hit.wsI ws i) out) := rfl
set_option maxRecDepth 100000 in
set_option maxHeartbeats 4000000 in
theorem leafV_any (vb : Nat) (vs vt vn vse vl : Value) (size : Int) (ws : List Nat) (hw : ∀ s ∈ ws, s < 4294967296) (l : List Int) (hll : l.length ≤ 1000000) (taken out : Nat) (ht : taken < 4294967296) (ho : out < 4294967296) (w : World) (F G : Nat → Prop)
    (hb : Blk w vb 111 #[vs, .int .i64 size, vt, vn, vse]) (hr : SlU .u32 F w vs ws) (hl : SlI G w vl l) :
    Calls Try.prog 68 #[.pointer (some ⟨vb, 0, none⟩), vl, .int .u32 taken, .int .u32 out] w fun e w' => e = .returned (.bool (Hit.leafP ws size l taken out)) ∧ ∃ k, w' = w.drewN k := by
  obtain ⟨As, cA, rfl, _, hls, hsat⟩ := hr.open
  obtain ⟨Al, cl, rfl, _, _, hlat⟩ := hl.open
  have k0 := hb.cell 0
  have k1 := hb.cell 1
  have hCon : ∀ (k : Nat), k ≤ l.length → ∀ x, Calls Try.prog 49 #[.slice Al k cl, .int .i64 x] w fun e w' => e = .returned (.bool ((l.take k).contains x)) ∧ w = w' := fun k hk x =>
    contains_any _ (l.take k) x w G (SlI.take hl k hk)
  have hO1 : ∀ W, Calls Try.prog 76 #[.int .u32 taken] W fun e w' => e = .returned (.int .i64 (Hit.pop taken : Nat)) ∧ ∃ n, w' = W.drewN n := fun W => ones_any taken ht W
  have hpl : Hit.pop taken ≤ 64 := Nat.le_trans (List.length_filter_le _ _) (by simp)
  have HCon := Lib.hid hCon
  have HO1 := Lib.hid hO1
  have HS := Lib.hid hsat
  have HW := Lib.hid hw
  clear hCon hO1 hsat hw hr hl hb
  go_enter Try.func68, Try.ntmps68
  go_wp2_with fail
  go_loopg [15, 9] l.length (fun gg s15 s9 wr => ∃ (k used : Nat), k ≤ l.length ∧ l.length - k ≤ gg ∧ s15 = .int .i64 k ∧ s9 = .int .u32 used ∧ used < 4294967296 ∧ Aside (Hit.leafGo ws size l.length taken out (l.take k) (l.drop k) used = Hit.leafP ws size l taken out) ∧ wr = w)
  case atStart => exact ⟨0, 0, by omega, by omega, rfl, rfl, by omega, rfl, rfl⟩
  case round =>
    obtain ⟨k, used, hk, hg, rfl, rfl, hu, HL, rfl⟩ := hrel
    by_cases hlt : k < l.length
    · have hki : decide ((k : Int) < l.length) = true := decide_eq_true (by omega)
      have hk2 : (k : Int) < l.length := by omega
      obtain ⟨ad, rfl, hf, hc⟩ := hlat k hlt
      have hgo := HL.out
      rw [List.drop_eq_getElem_cons hlt, leafGo_cons] at hgo
      have htake : l.take k ++ [l[k]] = l.take (k + 1) := by rw [List.take_succ_eq_append_getElem hlt]
      rw [htake] at hgo
      have hcc := HCon.out k hk l[k]
      generalize l[k] = i at *
      clear htake
      by_cases hi : i < 0 ∨ i ≥ ws.length
      · have hfin : Hit.leafP ws size l taken out = false := by rw [← hgo, if_pos (by rcases hi with h | h; exact .inl h; exact .inr (.inl h))]
        have HFIN := Lib.hid hfin
        have hq : decide (i < 0) = true ∨ (decide (i < 0) = false ∧ decide ((ws.length : Int) ≤ i) = true) := by simp only [decide_eq_true_eq, decide_eq_false_iff_not]; omega
        clear hgo hfin hcc hi hlat
        rcases hq with hq | ⟨hq1, hq2⟩
        all_goals
          go_wp2_with fail
          go_ret
          exact ⟨by rw [HFIN.out]; rfl, 0, rfl⟩
      · obtain ⟨ia, rfl⟩ := Int.eq_ofNat_of_zero_le (show 0 ≤ i by omega)
        have hia : ia < ws.length := by omega
        obtain ⟨adS, rfl, hfS, hcS⟩ := HS.out ia hia
        have hwd := HW.out _ (List.getElem_mem hia)
        have hwsI : Hit.wsI ws (ia : Int) = ws[ia] := by unfold Hit.wsI; rw [Int.toNat_natCast]; rw [List.getD_eq_getElem?_getD, List.getElem?_eq_getElem hia]; rfl
        rw [hwsI] at hgo
        generalize ws[ia] = wd at *
        have d1 : decide ((ia : Int) < 0) = false := decide_eq_false (by omega)
        have d2 : decide ((ws.length : Int) ≤ (ia : Int)) = false := decide_eq_false (by omega)
        have d2n : decide (ws.length ≤ ia) = false := decide_eq_false (by omega)
        have d3 : (ia : Int) < ws.length := by omega
        have hand := Hit.u32_and wd taken hwd ht
        have han := Hit.u32_andn wd out hwd ho
        have hz : Hit.andn wd out < 4294967296 := Hit.andn_lt (k := 32) hwd
        have hand2 := Hit.u32_and (Hit.andn wd out) used hz hu
        have hor := Hit.u32_or used (Hit.andn wd out) hu hz
        have hou : used ||| Hit.andn wd out < 4294967296 := Hit.or_lt (k := 32) hu hz
        obtain ⟨z, hze⟩ : ∃ z, Hit.andn wd out = z := ⟨_, rfl⟩
        rw [hze] at hgo han hz hand2 hor hou
        clear hze hwsI hi hlat
        by_cases hta : wd &&& taken = 0
        · rw [hta] at hand
          by_cases hcon : (l.take k).contains (ia : Int) = true
          · have hfin : Hit.leafP ws size l taken out = false := by rw [← hgo, if_pos (.inr (.inr (.inr hcon)))]
            have HFIN := Lib.hid hfin
            rw [hcon] at hcc
            have HCC := Lib.hid hcc
            clear hgo hfin hcc hta hcon hand2 hor
            go_wp2_with (go_at_call 49; (with_reducible refine (HCC.out.mono ?_)); rintro e w' ⟨rfl, rfl⟩)
            go_ret
            exact ⟨by rw [HFIN.out]; rfl, 0, rfl⟩
          · have hcf : (l.take k).contains (ia : Int) = false := by simpa using hcon
            rw [if_neg (by rw [hta, hcf]; simp; omega)] at hgo
            rw [hcf] at hcc
            have HCC := Lib.hid hcc
            clear hcc hta hcon hcf
            by_cases hone : z = 0 ∧ l.length = 1
            · rw [if_pos hone] at hgo
              have HFIN := Lib.hid hgo.symm
              obtain ⟨rfl, h1⟩ := hone
              have h1' : ((l.length : Int) == 1) = true := by simp [h1]
              clear hgo hand2 hor h1
              go_wp2_with (go_at_call 49; (with_reducible refine (HCC.out.mono ?_)); rintro e w' ⟨rfl, rfl⟩)
              go_ret
              exact ⟨by rw [HFIN.out]; rfl, 0, rfl⟩
            · rw [if_neg hone] at hgo
              have hq : ((z : Int) == 0) = false ∨ (((z : Int) == 0) = true ∧ ((l.length : Int) == 1) = false) := by
                by_cases h0 : z = 0
                · exact .inr ⟨by simp [h0], by simp; omega⟩
                · exact .inl (by simp; exact h0)
              clear hone
              by_cases hus : z &&& used = 0
              · rw [hus] at hand2
                rw [if_neg (by simpa using hus)] at hgo
                have HGO := Lib.hid hgo
                clear hgo hus
                rcases hq with hq | ⟨hq1, hq2⟩
                all_goals
                  go_wp2_with (go_at_call 49; (with_reducible refine (HCC.out.mono ?_)); rintro e w' ⟨rfl, rfl⟩)
                  go_roundg (l.length - (k + 1))
                  case measure => omega
                  case rel => exact ⟨k + 1, used ||| z, by omega, by omega, by go_num, rfl, hou, HGO.out, rfl⟩
              · have hu1 : (((z &&& used : Nat) : Int) != 0) = true := by simp; exact hus
                rw [if_pos (by simpa using hus)] at hgo
                have HFIN := Lib.hid hgo.symm
                generalize z &&& used = zz at *
                clear hgo hor
                rcases hq with hq | ⟨hq1, hq2⟩
                all_goals
                  go_wp2_with (go_at_call 49; (with_reducible refine (HCC.out.mono ?_)); rintro e w' ⟨rfl, rfl⟩)
                  go_ret
                  exact ⟨by rw [HFIN.out]; rfl, 0, rfl⟩
        · have hn1 : (((wd &&& taken : Nat) : Int) != 0) = true := by simp; exact hta
          have hfin : Hit.leafP ws size l taken out = false := by rw [← hgo, if_pos (.inr (.inr (.inl hta)))]
          have HFIN := Lib.hid hfin
          generalize wd &&& taken = zz at *
          clear hgo hfin hcc hta hand2 hor han
          go_wp2_with fail
          go_ret
          exact ⟨by rw [HFIN.out]; rfl, 0, rfl⟩
    · have hki : decide ((k : Int) < l.length) = false := decide_eq_false (by omega)
      have : k = l.length := by omega
      subst this
      have hfin : Hit.leafP ws size l taken out = decide ((l.length : Int) + Hit.pop taken ≥ size) := by rw [← HL.out, List.drop_length]; rfl
      have HFIN := Lib.hid hfin
      have hsum : IntKind.i64.wrap ((l.length : Int) + ((Hit.pop taken : Nat) : Int)) = (l.length : Int) + ((Hit.pop taken : Nat) : Int) := IntWalk.i64_in _ (by omega)
      clear hfin hlat
      generalize Hit.pop taken = pt at *
      go_wp2_with fail
      go_quiet ((go_at_call 76; exact Calls.quiet_of (HO1.out _)))
      go_wp2
      go_ret
      exact ⟨by rw [HFIN.out]; rfl, _, rfl⟩
end Go.Proofs.Ytnpdoejjebgcpaa
