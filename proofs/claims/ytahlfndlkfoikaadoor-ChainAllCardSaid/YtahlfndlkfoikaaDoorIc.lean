/- Walks over slices at contacts: Repeat. -/
import Derived.Test.YtahlfndlkfoikaaDoorIa
import Derived.Test.YtahlfndlkfoikaaDoorSm
namespace Go.Proofs.YtahlfndlkfoikaaDoor
open Go Go.RowKit Go.Shelf
theorem bitsMul_any (n : Nat) (hn : n ≤ 1000000) (w : World) : Calls Tryd.prog 75 #[.int .u64 1, .int .u64 n] w fun e w' => e = .returned (.tuple #[.int .u64 0, .int .u64 n]) ∧ w' = w := by
  have h := Any.bits_Mul Tryd.lays212 1 n (by omega) (by omega) w
  have h1 : 1 * n / 18446744073709551616 = 0 := by omega
  have h2 : 1 * n % 18446744073709551616 = n := by omega
  rw [h1, h2] at h
  exact h
theorem run_copy_ct (w : World) (ty : TypeId) (b o dLen dCap : Nat) (a : Addr) (sLen sCap m : Nat) (cs : List Value) (hm : Nat.min sLen dLen = m) (hn : cs.length = m * 2)
    (hsrc : ∀ j v, cs[j]? = some v → w.cell? (a.add j) = some v) (hc : ∀ j, j < cs.length → (w.cell? ⟨b, o + j, none⟩).isSome = true) (hf : ∀ j, j < cs.length → w.frozen? ⟨b, o + j, none⟩ = false) (h1 : ∀ v ∈ cs, v.oneCell' = true) :
    (Builtin.copy_ #[38, 38] ty #[.slice (some ⟨b, o, none⟩) dLen dCap, .slice (some a) sLen sCap]).run Tryd.prog w = .ok (.int .i64 m) (w.setCells b o cs) := by
  have hl := run_loadCells_list (P := Tryd.prog) w a cs hsrc
  have hst := run_storeCells_cells (P := Tryd.prog) b o cs 0 w (by simpa using hc) (by simpa using hf) h1
  obtain ⟨i, hq, _, hi, _⟩ := info_parts infoCt
  rw [hn] at hl
  have hu : Tryd.prog.underlying 38 = some (.slice 36) := Tryd.underlying38
  simp [Builtin.copy_, run_underlying hu, Builtin.lenOf, Builtin.firstCells, sizeOf, typeInfo, hq, hi, hm, hl, hst]
  rfl
theorem run_copy_ct0 (w : World) (ty : TypeId) (d a : Option Addr) (dLen dCap sLen sCap : Nat) (hm : Nat.min sLen dLen = 0) :
    (Builtin.copy_ #[38, 38] ty #[.slice d dLen dCap, .slice a sLen sCap]).run Tryd.prog w = .ok (.int .i64 0) w := by
  have hl : ∀ (x : Addr), (loadCells x 0).run Tryd.prog w = .ok #[] w := fun x => by simpa using run_loadCells_list (P := Tryd.prog) w x [] (by simp)
  obtain ⟨i, hq, _, hi, _⟩ := info_parts infoCt
  have hu : Tryd.prog.underlying 38 = some (.slice 36) := Tryd.underlying38
  cases d <;> cases a <;> simp [Builtin.copy_, run_underlying hu, Builtin.lenOf, Builtin.firstCells, sizeOf, typeInfo, hq, hm, storeCells, hl] <;> rfl
theorem hmkCt (n : Nat) (hn : n ≤ 1000000) : ∃ cur : Array Value, cur.size = n * 2 ∧ ∀ W : World, (Instr.makeSlice 38 (.int .i64 (n : Int)) (.int .i64 (n : Int))).run Tryd.prog W = .ok (.slice (some ⟨W.heap.size, 0, none⟩) n n) (W.alloc (.cells cur 36)) := by
  obtain ⟨i, hi, hz, hs, hb⟩ := info_parts infoCt
  refine ⟨madeCells (Value.agg #[.int .i64 0, .int .i64 0]).cells (n * 2), by simp [madeCells], fun W => ?_⟩
  have := run_make_rowN (P := Tryd.prog) 38 36 i _ Tryd.underlying38 hi hz .i64 .i64 n n (Nat.le_refl _) (by rw [hb]; omega) (by omega) W
  rw [this, hs]
/-- The cells of many contacts (-1, 0). -/
def patV (j : Nat) : Value := if j % 2 = 0 then .int .i64 (-1) else .int .i64 0
def patL (n : Nat) : List Value := (List.range n).map patV
theorem patL_len (n : Nat) : (patL n).length = n := by simp [patL]
theorem patL_get {n j : Nat} (h : j < n) : (patL n)[j]? = some (patV j) := by simp [patL, h]
theorem patL_one (n : Nat) : ∀ v ∈ patL n, v.oneCell' = true := fun v hv => by
  obtain ⟨j, _, rfl⟩ := List.mem_map.1 hv
  unfold patV
  split <;> rfl
/-- The first m contacts of a row of n are (-1, 0). -/
structure RepSt (w W : World) (g n m : Nat) : Prop where
  old : w.heap.size ≤ g
  bel : Below w.heap.size w W
  all : ∀ j, j < n * 2 → (W.cell? ⟨g, j, none⟩).isSome = true
  fro : ∀ j, W.frozen? ⟨g, j, none⟩ = false
  pat : ∀ j, j < m * 2 → W.cell? ⟨g, j, none⟩ = some (patV j)
theorem RepSt.put {w W : World} {g n m q : Nat} (h : RepSt w W g n m) (hq : m + q ≤ n) : RepSt w (W.setCells g (m * 2) (patL (q * 2))) g n (m + q) := by
  have hin : ∀ j, j < (patL (q * 2)).length → (W.cell? ⟨g, m * 2 + j, none⟩).isSome = true := fun j hj => h.all _ (by rw [patL_len] at hj; omega)
  have hval : ∀ j, j < q * 2 → (W.setCells g (m * 2) (patL (q * 2))).cell? ⟨g, m * 2 + j, none⟩ = some (patV j) := fun j hj => by
    have hj2 : j < (patL (q * 2)).length := by rw [patL_len]; exact hj
    rw [World.cell?_setCells_in g (patL (q * 2)) (m * 2) W hin j hj2]
    have := patL_get hj
    rw [List.getElem?_eq_getElem hj2] at this
    exact this
  have hout : ∀ j, j < m * 2 ∨ m * 2 + q * 2 ≤ j → (W.setCells g (m * 2) (patL (q * 2))).cell? ⟨g, j, none⟩ = W.cell? ⟨g, j, none⟩ := fun j hj => World.cell?_setCells_out g (patL (q * 2)) (m * 2) W ⟨g, j, none⟩ fun _ _ => by rw [patL_len]; exact hj
  refine ⟨h.old, h.bel.grown (setCells_grown g _ _ W W (World.grownBy.refl W _)) h.bel.size (fun k e => by injection e with e; have := h.old; omega), fun j hj => ?_, fun j => by rw [World.frozen?_setCells]; exact h.fro j, fun j hj => ?_⟩
  · rcases Nat.lt_or_ge j (m * 2) with q1 | q1
    · rw [hout j (.inl q1)]; exact h.all j hj
    · rcases Nat.lt_or_ge j (m * 2 + q * 2) with q2 | q2
      · have := hval (j - m * 2) (by omega)
        rw [show m * 2 + (j - m * 2) = j by omega] at this
        rw [this]; rfl
      · rw [hout j (.inr q2)]; exact h.all j hj
  · rcases Nat.lt_or_ge j (m * 2) with q1 | q1
    · rw [hout j (.inl q1)]; exact h.pat j q1
    · have := hval (j - m * 2) (by omega)
      rw [show m * 2 + (j - m * 2) = j by omega] at this
      rw [this]
      unfold patV
      rw [show (j - m * 2) % 2 = j % 2 by omega]
theorem RepSt.drew {w W : World} {g n m : Nat} (h : RepSt w W g n m) : RepSt w W.drew g n m := ⟨h.old, h.bel.drew, h.all, h.fro, h.pat⟩
theorem RepSt.sl {w W : World} {g n c : Nat} (h : RepSt w W g n n) (hn : n ≤ 1000000) (hc : n ≤ c) : SlCt (fun b => b < W.heap.size) W (.slice (some ⟨g, 0, none⟩) n c) (List.replicate n ((-1, 0) : Cou.Ct)) := by
  refine ⟨some ⟨g, 0, none⟩, c, by rw [List.length_replicate], by rwa [List.length_replicate], by rw [List.length_replicate]; omega, fun i hi => ?_⟩
  rw [List.length_replicate] at hi
  have h0 := h.pat (i * 2) (by omega)
  have h1 := h.pat (i * 2 + 1) (by omega)
  have e0 : patV (i * 2) = .int .i64 (-1) := by unfold patV; rw [if_pos (by omega)]
  have e1 : patV (i * 2 + 1) = .int .i64 0 := by unfold patV; rw [if_neg (by omega)]
  rw [e0] at h0
  rw [e1] at h1
  refine ⟨⟨g, 0, none⟩, [.int .i64 (-1), .int .i64 0], rfl, (show (⟨g, i * 2, none⟩ : Addr).block < W.heap.size from World.block_lt_of_cell? _ _ h0), rfl, by rw [List.getElem_replicate]; rfl, ?_⟩
  have e : (⟨g, 0, none⟩ : Addr).add (i * 2) = ⟨g, i * 2, none⟩ := by
    unfold Addr.add
    split
    · rename_i w0; rw [w0]
    · simp
  rw [e]
  intro k u hu
  have hk : k = 0 ∨ k = 1 := by
    have := (List.getElem?_eq_some_iff.1 hu).1
    simp at this
    omega
  rcases hk with rfl | rfl
  · simp at hu
    subst hu
    simpa [Addr.add] using h0
  · simp at hu
    subst hu
    simpa [Addr.add] using h1
theorem RepSt.src {w W : World} {g n m : Nat} (h : RepSt w W g n m) (q : Nat) (hq : q ≤ m) : ∀ j v, (patL (q * 2))[j]? = some v → W.cell? ((⟨g, 0, none⟩ : Addr).add j) = some v := fun j v hv => by
  have hj : j < q * 2 := by
    have := (List.getElem?_eq_some_iff.1 hv).1
    rwa [patL_len] at this
  rw [patL_get hj] at hv
  have e : (⟨g, 0, none⟩ : Addr).add j = ⟨g, j, none⟩ := by
    unfold Addr.add
    split
    · rename_i w0; rw [w0]
    · simp
  rw [e, h.pat j (by omega)]
  exact hv
set_option maxRecDepth 100000 in
set_option maxHeartbeats 2000000 in
theorem repeat_any (n : Nat) (hn : n ≤ 100000) (g : Nat) (w : World) (hB : Blk w g 36 #[.int .i64 (-1), .int .i64 0]) :
    Calls Tryd.prog 59 #[.slice (some ⟨g, 0, none⟩) 1 1, .int .i64 n] w fun e w' => ∃ A c, e = .returned (.slice A n c) ∧ SlCt (fun b => b < w'.heap.size) w' (.slice A n c) (List.replicate n ((-1, 0) : Cou.Ct)) ∧ Below w.heap.size w w' := by
  have HM := Lib.hid (fun W => bitsMul_any n (by omega) W)
  obtain ⟨cur, hcs, hmk⟩ := hmkCt n (by omega)
  have d0 : decide ((n : Int) < 0) = false := decide_eq_false (by omega)
  have d1 : decide ((9223372036854775807 : Int) < (n : Int)) = false := decide_eq_false (by omega)
  have v1 : IntKind.u64.wrap (n : Int) = n := by rw [IntKind.wrap_u64]; omega
  have v2 : IntKind.i64.wrap (n : Int) = n := IntWalk.i64_in _ (by omega)
  obtain ⟨w2, hw2⟩ : ∃ w2 : World, w.alloc (.cells cur 36) = w2 := ⟨_, rfl⟩
  obtain ⟨g2, hg2⟩ : ∃ g2, w.heap.size = g2 := ⟨_, rfl⟩
  have K2 : Blk w2 g2 36 cur := by rw [← hw2, ← hg2]; exact Blk.new _ _ _
  have B2 : Below w.heap.size w w2 := by rw [← hw2]; exact Ba (B0 w) _
  have hmk2 := hmk w
  rw [hw2, hg2] at hmk2
  by_cases h0 : n = 0
  · subst h0
    have hmk0 : (Instr.makeSlice 38 (.int .i64 0) (.int .i64 0)).run Tryd.prog w = .ok (.slice (some ⟨g2, 0, none⟩) 0 0) w2 := hmk2
    have hcp1 : ∀ ty, (Builtin.copy_ #[38, 38] ty #[.slice (some ⟨g2, 0, none⟩) 0 0, .slice (some ⟨g, 0, none⟩) 1 1]).run Tryd.prog w2 = .ok (.int .i64 0) w2 := fun ty => run_copy_ct0 w2 ty _ _ 0 0 1 1 rfl
    have HB2 := Lib.hid B2
    clear hmk hmk2 hw2 hg2 K2 hcs B2 hB
    go_enter Tryd.func59, Tryd.ntmps59
    go_wp2_with (go_at_call 75; (with_reducible refine ((show Calls Tryd.prog 75 #[.int .u64 1, .int .u64 0] _ _ from HM.out _).mono ?_)); rintro e w' ⟨rfl, hw'⟩; rw [hw']; clear hw')
    go_loopg [8] 0 (fun gg s8 wr => s8 = .int .i64 0 ∧ wr = w2)
    case atStart => exact ⟨rfl, rfl⟩
    case round =>
      obtain ⟨rfl, rfl⟩ := hrel
      go_wp2
      go_ret
      exact ⟨_, _, rfl, ⟨_, _, rfl, Nat.le_refl _, by decide, fun i hi => absurd hi (by simp)⟩, HB2.out⟩
  · have hst : RepSt w w2 g2 n 0 := ⟨by omega, B2, fun j hj => by rw [K2.cell]; rw [Array.getElem?_eq_getElem (by rw [hcs]; exact hj)]; rfl, fun j => K2.frozen j, fun j hj => absurd hj (by omega)⟩
    have hst1 := hst.put (q := 1) (by omega)
    have hcp1 : ∀ ty, (Builtin.copy_ #[38, 38] ty #[.slice (some ⟨g2, 0, none⟩) n n, .slice (some ⟨g, 0, none⟩) 1 1]).run Tryd.prog w2 = .ok (.int .i64 1) (w2.setCells g2 0 (patL 2)) := fun ty =>
      run_copy_ct w2 ty g2 0 n n ⟨g, 0, none⟩ 1 1 1 (patL 2) (by show min 1 n = 1; omega) rfl (fun j v hv => by
        have hb := hB.below B2 hB.lt
        have e : (⟨g, 0, none⟩ : Addr).add j = ⟨g, j, none⟩ := by
          unfold Addr.add
          split
          · rename_i w0; rw [w0]
          · simp
        rw [e, hb.cell]
        have hj : j = 0 ∨ j = 1 := by
          have := (List.getElem?_eq_some_iff.1 hv).1
          rw [patL_len] at this
          omega
        rcases hj with rfl | rfl
        · exact hv
        · exact hv) (fun j hj => by rw [Nat.zero_add]; exact hst.all j (by rw [patL_len] at hj; omega)) (fun j _ => hst.fro _) (patL_one 2)
    rw [Nat.zero_mul, Nat.zero_add] at hst1
    obtain ⟨w3, hw3⟩ : ∃ w3 : World, w2.setCells g2 0 (patL 2) = w3 := ⟨_, rfl⟩
    have hst1' : RepSt w w3 g2 n 1 := by rw [← hw3]; exact hst1
    rw [hw3] at hcp1
    have HST := Lib.hid hst1'
    clear hmk hw2 hg2 K2 hcs B2 hB hst hst1 hst1' hw3
    go_enter Tryd.func59, Tryd.ntmps59
    go_wp2_with (go_at_call 75; (with_reducible refine ((HM.out _).mono ?_)); rintro e w' ⟨rfl, hw'⟩; rw [hw']; clear hw')
    clear hmk2 hcp1
    go_loopg [8] n (fun gg s8 wr => ∃ m : Nat, 1 ≤ m ∧ m ≤ n ∧ n - m ≤ gg ∧ s8 = .int .i64 m ∧ Aside (RepSt w wr g2 n m))
    case atStart => exact ⟨1, by omega, by omega, by omega, rfl, HST.out⟩
    case round =>
      obtain ⟨m, hm1, hm2, hgg, rfl, HS⟩ := hrel
      replace HS := Lib.hid HS
      by_cases hlt : m < n
      · have hltI : (m : Int) < n := by omega
        obtain ⟨q, hq⟩ : ∃ q, Nat.min m (n - m) = q := ⟨_, rfl⟩
        have hq1 : 1 ≤ q ∧ m + q ≤ n ∧ q ≤ m := by
          have : Nat.min m (n - m) = min m (n - m) := rfl
          omega
        have hcp : ∀ ty, (Builtin.copy_ #[38, 38] ty #[.slice (some ⟨g2, m * 2, none⟩) (n - m) (n - m), .slice (some ⟨g2, 0, none⟩) m n]).run Tryd.prog wr.drew = .ok (.int .i64 q) (wr.drew.setCells g2 (m * 2) (patL (q * 2))) := fun ty =>
          run_copy_ct wr.drew ty g2 (m * 2) (n - m) (n - m) ⟨g2, 0, none⟩ m n q (patL (q * 2)) hq (patL_len _) (HS.out.src q hq1.2.2) (fun j hj => HS.out.all _ (by rw [patL_len] at hj; omega)) (fun j _ => HS.out.fro _) (patL_one _)
        obtain ⟨mq, hmq⟩ : ∃ mq, m + q = mq := ⟨_, rfl⟩
        have e1 : (m : Int) + q = mq := by omega
        clear hq
        go_upto_region 9 with fail
        go_region
        all_goals
          go_wp2
          go_roundg (n - mq)
          case measure => omega
          case rel => exact ⟨mq, by omega, by omega, by omega, by go_num, (show Aside _ from by show RepSt _ _ _ _ _; rw [← hmq]; exact (HS.out.drew).put hq1.2.1)⟩
      · obtain rfl : m = n := by omega
        go_wp2
        go_ret
        exact ⟨_, _, rfl, HS.out.sl (by omega) (Nat.le_refl _), HS.out.bel⟩
end Go.Proofs.YtahlfndlkfoikaaDoor
