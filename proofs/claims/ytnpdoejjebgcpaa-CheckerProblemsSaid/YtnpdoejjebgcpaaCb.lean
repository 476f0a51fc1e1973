/- Walks over checker: a leaf of a proof tree. -/
import Derived.Test.YtnpdoejjebgcpaaCa
import Derived.Test.YtnpdoejjebgcpaaRegion
namespace Go.Proofs.Ytnpdoejjebgcpaa
open Go Go.RowKit
open Go.Maps (Keyed)
/-- The map of what has been used. -/
def Seen (l : List Int) (mb : Nat) (w : World) : Prop := ∃ es, MapAt w mb es ∧ (∀ p ∈ es, ∃ i ∈ l, p = (.int .i64 i, .bool true)) ∧ ∀ i ∈ l, (.int .i64 i, .bool true) ∈ es
theorem keyKI : Keyed Try.prog 3 := Go.Maps.int_keyed Try.underlying3
theorem zeroB (w : World) : (zeroValue 4).run Try.prog w = .ok (.bool false) w := by kernel_rfl
theorem seen_look {l : List Int} {mb : Nat} {w : World} (h : Seen l mb w) (hl : ∀ i ∈ l, (Lit.int .i64 i).wf = true) (i : Int) (hi : (Lit.int .i64 i).wf = true) :
    (Instr.lookup 90 (.map (some mb)) (.int .i64 i) false).run Try.prog w = .ok (.bool (l.contains i)) w := by
  obtain ⟨es, h1, h2, h3⟩ := h
  have hk : ∀ p ∈ es, ∃ kl, keyOf Try.prog 3 p.1 = some kl := fun p hp => by
    obtain ⟨j, hj, rfl⟩ := h2 p hp
    exact ⟨_, Go.Maps.keyOf_int_mk Try.underlying3 (hl j hj)⟩
  rcases run_lookup_at false keyKI Try.underlying90 (zeroB w) h1 hk (Go.Maps.keyOf_int_mk Try.underlying3 hi) with ⟨q, q2⟩ | ⟨v, hv, q⟩
  · have : l.contains i = false := by
      cases hc : l.contains i with
      | false => rfl
      | true => exact absurd rfl (q2 _ (h3 i (by simpa using hc)))
    rw [this]; exact q
  · obtain ⟨j, hj, e⟩ := h2 _ hv
    have e1 : i = j := by have h0 := congrArg Prod.fst e; simpa using h0
    have e2 : v = .bool true := congrArg Prod.snd e
    subst e1
    rw [e2] at q
    have : l.contains i = true := by simpa using hj
    rw [this]; exact q
theorem seen_store {l : List Int} {mb : Nat} {w : World} (h : Seen l mb w) (hl : ∀ i ∈ l, (Lit.int .i64 i).wf = true) (i : Int) (hi : (Lit.int .i64 i).wf = true) :
    ∃ w', (Instr.mapUpdate 90 (.map (some mb)) (.int .i64 i) (.bool true)).run Try.prog w = .ok () w' ∧ Seen (l ++ [i]) mb w' ∧ w.grownBy w' (some mb) := by
  obtain ⟨es, h1, h2, h3⟩ := h
  have hk : ∀ p ∈ es, ∃ kl, keyOf Try.prog 3 p.1 = some kl := fun p hp => by
    obtain ⟨j, hj, rfl⟩ := h2 p hp
    exact ⟨_, Go.Maps.keyOf_int_mk Try.underlying3 (hl j hj)⟩
  obtain ⟨w', es', q1, q2, q3, q4, q5, q6⟩ := run_update_at keyKI Try.underlying90 h1 hk (val := .bool true) (Go.Maps.keyOf_int_mk Try.underlying3 hi)
  refine ⟨w', q1, ⟨es', q2, fun p hp => ?_, fun j hj => ?_⟩, q3⟩
  · rcases q4 p hp with rfl | hp
    · exact ⟨i, by simp, rfl⟩
    · obtain ⟨j, hj, rfl⟩ := h2 p hp
      exact ⟨j, by simp [hj], rfl⟩
  · rcases List.mem_append.1 hj with hj | hj
    · obtain ⟨v, hv⟩ := q6 _ (h3 j hj)
      rcases q4 _ hv with e | hp
      · have e2 : v = .bool true := congrArg Prod.snd e
        rw [e2] at hv
        exact hv
      · obtain ⟨j', _, e⟩ := h2 _ hp
        have e2 : v = .bool true := congrArg Prod.snd e
        rw [e2] at hv
        exact hv
    · simp only [List.mem_singleton] at hj
      subst hj
      exact q5
theorem Seen.lt {l : List Int} {mb : Nat} {w : World} (h : Seen l mb w) : mb < w.heap.size := by
  obtain ⟨es, h1, _⟩ := h
  exact h1.lt
theorem Seen.of_block {l : List Int} {mb : Nat} {w w' : World} (h : Seen l mb w) (e : w'.heap[mb]? = w.heap[mb]?) : Seen l mb w' := by
  obtain ⟨es, h1, h2⟩ := h
  exact ⟨es, h1.of_block e, h2⟩
theorem Seen.below {l : List Int} {mb : Nat} {w w' : World} (h : Seen l mb w) (hb : Below w.heap.size w w') : Seen l mb w' := h.of_block (hb.block mb h.lt)
theorem leafCGo_cons (ws : List Nat) (size cost : Int) (len taken out : Nat) (prev : List Int) (i : Int) (r : List Int) (used : Nat) : Hit.leafCGo ws size cost len taken out prev (i :: r) used =
    if i < 0 ∨ i > (ws.length : Int) - 1 ∨ prev.contains i = true then false
    else if Hit.wsI ws i &&& taken ≠ 0 ∨ Hit.andn (Hit.wsI ws i) out &&& used ≠ 0 then false
    else if Hit.andn (Hit.wsI ws i) out = 0 ∧ len = 1 then true
    else Hit.leafCGo ws size cost len taken out (prev ++ [i]) r (used ||| Hit.andn (Hit.wsI ws i) out) := rfl
theorem below_row {w w' : World} {B mb : Nat} {w0 : World} (h : Below B w0 w) (hB : B ≤ w.heap.size) (hg : w.grownBy w' (some mb)) (hm : B ≤ mb) : Below B w0 w' := h.grown hg hB fun k hk => by injection hk with hk; omega
theorem grown_row {a b c : World} {mb : Nat} (h : a.grownBy b (some mb)) (k : b.grownBy c (some mb)) : a.grownBy c (some mb) :=
  ⟨k.os.trans h.os, k.tape.trans h.tape, k.output.trans h.output, Nat.le_trans h.size k.size, fun i hi hne => (k.block i (Nat.lt_of_lt_of_le hi h.size) hne).trans (h.block i hi hne)⟩
theorem grown_of {a w : World} (h : Below a.heap.size a w) (mb : Nat) : a.grownBy w (some mb) := only_of_below h _
theorem cell_grownBy {a b : World} {mb g i : Nat} (h : a.grownBy b (some mb)) (hg : g < a.heap.size) (hne : g ≠ mb) : b.cell? ⟨g, i, none⟩ = a.cell? ⟨g, i, none⟩ :=
  World.cell?_of_block (w := a) (h.block g hg (by intro e; injection e with e; exact hne e))
theorem wf_small {i : Int} (h0 : 0 ≤ i) (h1 : i ≤ 1000000) : (Lit.int .i64 i).wf = true := by
  have := wf_wrap .i64 i
  rwa [IntWalk.i64_in _ (by omega)] at this
set_option maxRecDepth 100000 in
set_option maxHeartbeats 4000000 in
theorem leafC_any (n : Int) (vs vt vw : Value) (size cost pk ys no_ bd : Int) (ws : List Nat) (hw : ∀ s ∈ ws, s < 4294967296) (hwl : ws.length ≤ 1000) (l : List Int) (hll : l.length ≤ 1000000) (hco : 0 ≤ cost ∧ cost ≤ 1000000) (taken out : Nat) (ht : taken < 4294967296) (ho : out < 4294967296) (w : World) (F G : Nat → Prop) (hF : ∀ b, F b → b < w.heap.size) (hG : ∀ b, G b → b < w.heap.size)
    (hr : SlII F w vs (setsOf ws)) (hl : SlI G w vw l) :
    Calls Try.prog 65 #[.agg #[.int .i64 n, vs, .int .i64 size, vt], .agg #[.int .i64 pk, .int .i64 ys, .int .i64 no_, .int .i64 bd, vw], .agg #[.int .u64 taken, .int .u64 out, .int .i64 cost]] w fun e w' => e = .returned (.bool (Hit.leafCGo ws size cost l.length taken out [] l 0)) ∧ Below w.heap.size w w' := by
  obtain ⟨As, cs, rfl, _, hsl, hsat⟩ := hr.open
  obtain ⟨Al, cl, rfl, _, _, hlat⟩ := hl.open
  rw [setsOf_length] at *
  have one : ∀ ia (hi : ia < ws.length), ∃ (adS : Addr) (u : Value), As = some adS ∧ (∀ W, Below w.heap.size w W → W.cell? (adS.add ia) = some u) ∧ ∀ W, Below w.heap.size w W → Calls Try.prog 23 #[u] W fun e w' => e = .returned (.int .u64 (ws[ia] : Nat)) ∧ W = w' := by
    intro ia hi
    obtain ⟨adS, u, eS, hfS, hcS, hu⟩ := hsat ia (by rw [setsOf_length]; exact hi)
    rw [setsOf_get] at hu
    refine ⟨adS, u, eS, fun W hW => (hW.cell (p := adS.add ia) (by rw [block_of_add]; exact hF _ hfS)).trans hcS, fun W hW => ?_⟩
    have := word64_any u (Hit.members ws[ia]) (fun y hy => (Hit.mem_members.1 hy).1) W F (hu.keep (Agree.below hW hF))
    rw [Hit.word_members (Nat.lt_of_lt_of_le (hw _ (List.getElem_mem hi)) (by decide))] at this
    exact this
  have ONE := Lib.hid one
  have HLAT := Lib.hid hlat
  have HW := Lib.hid hw
  have HGw := Lib.hid hG
  clear one hr hl hsat hlat hw hF hG
  have hmm := @run_makeMap Try.prog
  go_enter Try.func65, Try.ntmps65
  go_upto_region 3 with fail
  obtain ⟨w1, hw1⟩ : ∃ w1 : World, ((((w.alloc (.cells #[.int .i64 n, .slice As ws.length cs, .int .i64 size, vt] 70)).alloc (.cells #[.int .i64 pk, .int .i64 ys, .int .i64 no_, .int .i64 bd, .slice Al l.length cl] 42)).alloc (.cells #[.int .u64 (taken : Int), .int .u64 (out : Int), .int .i64 cost] 104)).alloc (.map #[] 0)) = w1 := ⟨_, rfl⟩
  have e1 : w1.cell? ⟨w.heap.size, 1, none⟩ = some (.slice As ws.length cs) := by rw [← hw1]; simp [go_sem]
  have e2 : w1.cell? ⟨w.heap.size, 2, none⟩ = some (.int .i64 size) := by rw [← hw1]; simp [go_sem]
  have e3 : w1.cell? ⟨w.heap.size + 1, 4, none⟩ = some (.slice Al l.length cl) := by rw [← hw1]; simp [go_sem]
  have e4 : w1.cell? ⟨w.heap.size + 1 + 1, 0, none⟩ = some (.int .u64 taken) := by rw [← hw1]; simp [go_sem]
  have e5 : w1.cell? ⟨w.heap.size + 1 + 1, 1, none⟩ = some (.int .u64 out) := by rw [← hw1]; simp [go_sem]
  have e6 : w1.cell? ⟨w.heap.size + 1 + 1, 2, none⟩ = some (.int .i64 cost) := by rw [← hw1]; simp [go_sem]
  have hs1 : w.heap.size + 1 + 1 + 1 < w1.heap.size := by rw [← hw1]; simp
  have hB1 : Below w.heap.size w w1 := by rw [← hw1]; exact Ba (Ba (Ba (Ba (B0 w) _) _) _) _
  have hS1 : Seen [] (w.heap.size + 1 + 1 + 1) w1 := by
    rw [← hw1]
    refine ⟨[], ?_, fun p hp => absurd hp (by simp), fun i hi => absurd hi (by simp)⟩
    have := MapAt.made (((w.alloc (.cells #[.int .i64 n, .slice As ws.length cs, .int .i64 size, vt] 70)).alloc (.cells #[.int .i64 pk, .int .i64 ys, .int .i64 no_, .int .i64 bd, .slice Al l.length cl] 42)).alloc (.cells #[.int .u64 (taken : Int), .int .u64 (out : Int), .int .i64 cost] 104))
    simpa using this
  rw [hw1]
  clear hw1 hmm
  obtain ⟨mb, hmb⟩ : ∃ mb, w.heap.size + 1 + 1 + 1 = mb := ⟨_, rfl⟩
  rw [hmb] at hs1 hS1 ⊢
  have HB1 := Lib.hid hB1
  have HS1 := Lib.hid hS1
  have E1 := Lib.hid e1
  have E2 := Lib.hid e2
  have E4 := Lib.hid e4
  have E5 := Lib.hid e5
  have E6 := Lib.hid e6
  clear hB1 hS1 e1 e2 e4 e5 e6
  go_wp2_with fail
  have HE3 := Lib.hid e3
  clear e3
  go_loopg [7, 17] l.length (fun gg s7 s17 wr => ∃ (k used : Nat), k ≤ l.length ∧ l.length - k ≤ gg ∧ s17 = .int .i64 k ∧ s7 = .int .u64 used ∧ used < 4294967296 ∧ Aside (Hit.leafCGo ws size cost l.length taken out (l.take k) (l.drop k) used = Hit.leafCGo ws size cost l.length taken out [] l 0) ∧
    Aside (Seen (l.take k) mb wr) ∧ Aside (∀ i ∈ l.take k, 0 ≤ i ∧ i < ws.length) ∧ Aside (w1.grownBy wr (some mb)))
  case atStart => exact ⟨0, 0, by omega, by omega, rfl, rfl, by omega, rfl, HS1.out, fun i hi => absurd hi (by simp), World.grownBy.refl w1 _⟩
  case round =>
    obtain ⟨k, used, hk, hg, rfl, rfl, hu, HL, HS, HV, HG⟩ := hrel
    have hBw : Below w.heap.size w wr := below_row HB1.out HB1.out.size HG.out (by omega)
    have k1 := (cell_grownBy HG.out (g := w.heap.size) (i := 1) (by omega) (by omega)).trans E1.out
    have k2 := (cell_grownBy HG.out (g := w.heap.size) (i := 2) (by omega) (by omega)).trans E2.out
    have k3 := (cell_grownBy HG.out (g := w.heap.size + 1) (i := 4) (by omega) (by omega)).trans HE3.out
    have k4 := (cell_grownBy HG.out (g := w.heap.size + 1 + 1) (i := 0) (by omega) (by omega)).trans E4.out
    have k5 := (cell_grownBy HG.out (g := w.heap.size + 1 + 1) (i := 1) (by omega) (by omega)).trans E5.out
    have k6 := (cell_grownBy HG.out (g := w.heap.size + 1 + 1) (i := 2) (by omega) (by omega)).trans E6.out
    have HBw := Lib.hid hBw
    clear hBw
    by_cases hlt : k < l.length
    · have hki : decide ((k : Int) < l.length) = true := decide_eq_true (by omega)
      have hk2 : (k : Int) < l.length := by omega
      obtain ⟨ad, rfl, hf, hc⟩ := HLAT.out k hlt
      have hc' := (HBw.out.cell (p := ad.add k) (by rw [block_of_add]; exact HGw.out _ hf)).trans hc
      have hgo := HL.out
      rw [List.drop_eq_getElem_cons hlt, leafCGo_cons] at hgo
      have htake : l.take k ++ [l[k]] = l.take (k + 1) := by rw [List.take_succ_eq_append_getElem hlt]
      rw [htake] at hgo
      have hst := fun W (hW : Seen (l.take k) mb W) (h0 : 0 ≤ l[k]) (h1 : l[k] < ws.length) => seen_store hW (fun i hi => by have := HV.out i hi; exact wf_small this.1 (by omega)) l[k] (wf_small h0 (by omega))
      rw [htake] at hst
      have hlo := fun W (hW : Seen (l.take k) mb W) (h0 : 0 ≤ l[k]) (h1 : l[k] < ws.length) => seen_look hW (fun i hi => by have := HV.out i hi; exact wf_small this.1 (by omega)) l[k] (wf_small h0 (by omega))
      have hv2 : ∀ (h0 : 0 ≤ l[k]) (h1 : l[k] < ws.length), ∀ i ∈ l.take (k + 1), 0 ≤ i ∧ i < ws.length := fun h0 h1 i hi => by
        rw [← htake] at hi
        rcases List.mem_append.1 hi with hi | hi
        · exact HV.out i hi
        · simp only [List.mem_singleton] at hi; subst hi; exact ⟨h0, h1⟩
      generalize l[k] = i at *
      have hWi : Calls Try.prog 21 #[.int .i64 0, .int .i64 ((ws.length : Int) - 1), .slice (some ⟨wr.heap.size, 0, none⟩) 1 1] (wr.alloc (.cells #[.int .i64 i] 3)) fun e w' => e = .returned (.bool (withinB 0 ((ws.length : Int) - 1) [i])) ∧ Below (wr.alloc (.cells #[.int .i64 i] 3)).heap.size (wr.alloc (.cells #[.int .i64 i] 3)) w' :=
        within_any 0 _ _ [i] _ (fun b => b < (wr.alloc (.cells #[.int .i64 i] 3)).heap.size) (fun _ h => h) (SlI.one (by simp [go_sem]) (by simp))
      have HWI := Lib.hid hWi
      have HST := Lib.hid hst
      have HLO := Lib.hid hlo
      have HV2 := Lib.hid hv2
      clear hst hlo hv2 hWi htake hc hf
      by_cases hin : i < 0 ∨ i > (ws.length : Int) - 1
      · have hwf : withinB 0 ((ws.length : Int) - 1) [i] = false := by unfold withinB; simp; omega
        have hfin : Hit.leafCGo ws size cost l.length taken out [] l 0 = false := by rw [← hgo, if_pos (by rcases hin with h | h; exact .inl h; exact .inr (.inl h))]
        have HFIN := Lib.hid hfin
        rw [hwf] at HWI
        clear hwf hfin hgo hin
        go_wp2_with (go_at_call 21; (with_reducible refine (HWI.out.mono ?_)); rintro e w2 ⟨rfl, hb2⟩; have HB2 := Lib.hid (Bt (Ba HBw.out _) hb2); clear hb2)
        go_ret
        exact ⟨by rw [HFIN.out]; rfl, HB2.out⟩
      · have hwf : withinB 0 ((ws.length : Int) - 1) [i] = true := by unfold withinB; simp; omega
        rw [hwf] at HWI
        obtain ⟨ia, rfl⟩ := Int.eq_ofNat_of_zero_le (show 0 ≤ i by omega)
        have hia : ia < ws.length := by omega
        have hiaI : (ia : Int) < ws.length := by omega
        cases hcn : (l.take k).contains (ia : Int) with
        | true =>
          have hfin : Hit.leafCGo ws size cost l.length taken out [] l 0 = false := by rw [← hgo, if_pos (.inr (.inr hcn))]
          have HFIN := Lib.hid hfin
          rw [hcn] at HLO
          clear hwf hfin hgo hin hcn
          go_wp2_with (go_at_call 21; (with_reducible refine (HWI.out.mono ?_)); rintro e w2 ⟨rfl, hb2⟩; have HB2 := Lib.hid (Bt (Ba HBw.out _) hb2); have hlk := HLO.out w2 ((HS.out.below (Ba (B0 wr) _)).below hb2) (by omega) hiaI; clear hb2)
          go_ret
          exact ⟨by rw [HFIN.out]; rfl, HB2.out⟩
        | false =>
          have hwdl := HW.out _ (List.getElem_mem hia)
          obtain ⟨adS, u, rfl, hcS, hwd⟩ := ONE.out ia hia
          have hwsI : Hit.wsI ws (ia : Int) = ws[ia] := by unfold Hit.wsI; rw [Int.toNat_natCast]; rw [List.getD_eq_getElem?_getD, List.getElem?_eq_getElem hia]; rfl
          rw [hwsI, if_neg (by rw [hcn]; simp; omega)] at hgo
          rw [hcn] at HLO
          generalize ws[ia] = wd at *
          have HCS := Lib.hid hcS
          have HWD := Lib.hid hwd
          have hand := Hit.u64_and wd taken (by omega) (by omega)
          have han := Hit.u64_andn wd out (by omega) (by omega)
          have hz : Hit.andn wd out < 4294967296 := Hit.andn_lt (k := 32) hwdl
          have hand2 := Hit.u64_and (Hit.andn wd out) used (by omega) (by omega)
          have hor := Hit.u64_or used (Hit.andn wd out) (by omega) (by omega)
          have hou : used ||| Hit.andn wd out < 4294967296 := Hit.or_lt (k := 32) hu hz
          obtain ⟨z, hze⟩ : ∃ z, Hit.andn wd out = z := ⟨_, rfl⟩
          rw [hze] at hgo han hz hand2 hor hou
          clear hze hwsI hin hwf hcn hcS hwd
          by_cases hta : wd &&& taken = 0
          · rw [hta] at hand
            by_cases hus : z &&& used = 0
            · rw [hus] at hand2
              rw [if_neg (by rw [hta, hus]; simp)] at hgo
              by_cases hone : z = 0 ∧ l.length = 1
              · rw [if_pos hone] at hgo
                have HFIN := Lib.hid hgo.symm
                obtain ⟨rfl, h1⟩ := hone
                have h1' : ((l.length : Int) == 1) = true := by simp [h1]
                have hand3 : bits .and .u64 0 (used : Int) = 0 := by simpa using hand2
                clear hgo hor h1 hus hta hand2
                go_wp2_with (first
                  | (go_at_call 21; (with_reducible refine (HWI.out.mono ?_)); rintro e w2 ⟨rfl, hb2⟩; have hS2 := ((HS.out.below (Ba (B0 wr) _)).below hb2); have hlk := HLO.out w2 hS2 (by omega) hiaI; obtain ⟨w3, hup, hS3, hG3⟩ := HST.out w2 hS2 (by omega) hiaI; have hG13 := (grown_row HG.out (grown_row (grown_of (Bt (Ba (B0 wr) _) hb2) mb) hG3)); have hB3 := below_row HB1.out HB1.out.size hG13 (by omega); have m1 := (cell_grownBy hG13 (g := w.heap.size) (i := 1) (by omega) (by omega)).trans E1.out; have m3 := (cell_grownBy hG13 (g := w.heap.size + 1) (i := 4) (by omega) (by omega)).trans HE3.out; have m4 := (cell_grownBy hG13 (g := w.heap.size + 1 + 1) (i := 0) (by omega) (by omega)).trans E4.out; have m5 := (cell_grownBy hG13 (g := w.heap.size + 1 + 1) (i := 1) (by omega) (by omega)).trans E5.out; have mS := HCS.out w3 hB3; have HWD3 := Lib.hid (HWD.out w3 hB3); have HS3 := Lib.hid hS3; have HG3 := Lib.hid hG13; have HB3 := Lib.hid hB3; clear hb2 hS2 hS3 hG3 hG13 hB3)
                  | (go_at_call 23; (with_reducible refine (HWD3.out.mono ?_)); rintro e w4 ⟨rfl, rfl⟩))
                go_ret
                exact ⟨by rw [HFIN.out]; rfl, HB3.out⟩
              · rw [if_neg hone] at hgo
                have hq : ((z : Int) == 0) = false ∨ (((z : Int) == 0) = true ∧ ((l.length : Int) == 1) = false) := by
                  by_cases h0 : z = 0
                  · exact .inr ⟨by simp [h0], by simp; omega⟩
                  · exact .inl (by simp; exact h0)
                have HGO := Lib.hid hgo
                clear hone hgo hus hta
                rcases hq with hq | ⟨hq1, hq2⟩
                all_goals
                  go_wp2_with (first
                    | (go_at_call 21; (with_reducible refine (HWI.out.mono ?_)); rintro e w2 ⟨rfl, hb2⟩; have hS2 := ((HS.out.below (Ba (B0 wr) _)).below hb2); have hlk := HLO.out w2 hS2 (by omega) hiaI; obtain ⟨w3, hup, hS3, hG3⟩ := HST.out w2 hS2 (by omega) hiaI; have hG13 := (grown_row HG.out (grown_row (grown_of (Bt (Ba (B0 wr) _) hb2) mb) hG3)); have hB3 := below_row HB1.out HB1.out.size hG13 (by omega); have m1 := (cell_grownBy hG13 (g := w.heap.size) (i := 1) (by omega) (by omega)).trans E1.out; have m3 := (cell_grownBy hG13 (g := w.heap.size + 1) (i := 4) (by omega) (by omega)).trans HE3.out; have m4 := (cell_grownBy hG13 (g := w.heap.size + 1 + 1) (i := 0) (by omega) (by omega)).trans E4.out; have m5 := (cell_grownBy hG13 (g := w.heap.size + 1 + 1) (i := 1) (by omega) (by omega)).trans E5.out; have mS := HCS.out w3 hB3; have HWD3 := Lib.hid (HWD.out w3 hB3); have HS3 := Lib.hid hS3; have HG3 := Lib.hid hG13; have HB3 := Lib.hid hB3; clear hb2 hS2 hS3 hG3 hG13 hB3)
                    | (go_at_call 23; (with_reducible refine (HWD3.out.mono ?_)); rintro e w4 ⟨rfl, rfl⟩))
                  go_roundg (l.length - (k + 1))
                  case measure => omega
                  case rel => exact ⟨k + 1, used ||| z, by omega, by omega, by go_num, rfl, hou, HGO.out, HS3.out, HV2.out (by omega) hiaI, HG3.out⟩
            · have hu1 : (((z &&& used : Nat) : Int) != 0) = true := by simp; exact hus
              rw [if_pos (.inr hus)] at hgo
              have HFIN := Lib.hid hgo.symm
              generalize z &&& used = zz at *
              clear hgo hor hta hus
              go_wp2_with (first
                | (go_at_call 21; (with_reducible refine (HWI.out.mono ?_)); rintro e w2 ⟨rfl, hb2⟩; have hS2 := ((HS.out.below (Ba (B0 wr) _)).below hb2); have hlk := HLO.out w2 hS2 (by omega) hiaI; obtain ⟨w3, hup, hS3, hG3⟩ := HST.out w2 hS2 (by omega) hiaI; have hG13 := (grown_row HG.out (grown_row (grown_of (Bt (Ba (B0 wr) _) hb2) mb) hG3)); have hB3 := below_row HB1.out HB1.out.size hG13 (by omega); have m1 := (cell_grownBy hG13 (g := w.heap.size) (i := 1) (by omega) (by omega)).trans E1.out; have m3 := (cell_grownBy hG13 (g := w.heap.size + 1) (i := 4) (by omega) (by omega)).trans HE3.out; have m4 := (cell_grownBy hG13 (g := w.heap.size + 1 + 1) (i := 0) (by omega) (by omega)).trans E4.out; have m5 := (cell_grownBy hG13 (g := w.heap.size + 1 + 1) (i := 1) (by omega) (by omega)).trans E5.out; have mS := HCS.out w3 hB3; have HWD3 := Lib.hid (HWD.out w3 hB3); have HS3 := Lib.hid hS3; have HG3 := Lib.hid hG13; have HB3 := Lib.hid hB3; clear hb2 hS2 hS3 hG3 hG13 hB3)
                | (go_at_call 23; (with_reducible refine (HWD3.out.mono ?_)); rintro e w4 ⟨rfl, rfl⟩))
              go_ret
              exact ⟨by rw [HFIN.out]; rfl, HB3.out⟩
          · have hn1 : (((wd &&& taken : Nat) : Int) != 0) = true := by simp; exact hta
            rw [if_pos (.inl hta)] at hgo
            have HFIN := Lib.hid hgo.symm
            generalize wd &&& taken = zz at *
            clear hgo hor hta hand2
            go_wp2_with (first
              | (go_at_call 21; (with_reducible refine (HWI.out.mono ?_)); rintro e w2 ⟨rfl, hb2⟩; have hS2 := ((HS.out.below (Ba (B0 wr) _)).below hb2); have hlk := HLO.out w2 hS2 (by omega) hiaI; obtain ⟨w3, hup, hS3, hG3⟩ := HST.out w2 hS2 (by omega) hiaI; have hG13 := (grown_row HG.out (grown_row (grown_of (Bt (Ba (B0 wr) _) hb2) mb) hG3)); have hB3 := below_row HB1.out HB1.out.size hG13 (by omega); have m1 := (cell_grownBy hG13 (g := w.heap.size) (i := 1) (by omega) (by omega)).trans E1.out; have m3 := (cell_grownBy hG13 (g := w.heap.size + 1) (i := 4) (by omega) (by omega)).trans HE3.out; have m4 := (cell_grownBy hG13 (g := w.heap.size + 1 + 1) (i := 0) (by omega) (by omega)).trans E4.out; have m5 := (cell_grownBy hG13 (g := w.heap.size + 1 + 1) (i := 1) (by omega) (by omega)).trans E5.out; have mS := HCS.out w3 hB3; have HWD3 := Lib.hid (HWD.out w3 hB3); have HS3 := Lib.hid hS3; have HG3 := Lib.hid hG13; have HB3 := Lib.hid hB3; clear hb2 hS2 hS3 hG3 hG13 hB3)
              | (go_at_call 23; (with_reducible refine (HWD3.out.mono ?_)); rintro e w4 ⟨rfl, rfl⟩))
            go_ret
            exact ⟨by rw [HFIN.out]; rfl, HB3.out⟩
    · have hki : decide ((k : Int) < l.length) = false := decide_eq_false (by omega)
      have : k = l.length := by omega
      subst this
      have hl := HL.out
      rw [List.drop_length] at hl
      have hfin : Hit.leafCGo ws size cost l.length taken out [] l 0 = decide (size ≤ (l.length : Int) + cost) := by rw [← hl]; rfl
      have HFIN := Lib.hid hfin
      have hc1 := hco.1
      have hc2 := hco.2
      clear hl hfin hlt
      cases hq : decide (size ≤ (l.length : Int) + cost)
      all_goals
        rw [hq] at HFIN
        go_wp2_with fail
        go_ret
        exact ⟨by rw [HFIN.out]; rfl, HBw.out⟩
end Go.Proofs.Ytnpdoejjebgcpaa
