/- Walk over strconv: FormatUint at base 10. Walk over slices: the iterator Backward at limbs. Walk over integer: text. Walks over integer: quick, split, signed, Sign, Compare, Of: at numbers that are not negative. -/
import Derived.Test.YtnfpjcjlapljjaaGreatDoorBg
import Derived.Test.YtnfpjcjlapljjaaGreatDoorSf
import Derived.Lib.AppendIntMem
import Derived.Lib.ItoaMem
import Derived.RangeFuncFrom
import Derived.Shelf.RegionOpenPlain
import Derived.Lib.UnsafeStr
import Derived.Lib.Strings
import Derived.Lib.Slices
import Derived.Lib.MakeNoZero
namespace Go.Proofs.YtnfpjcjlapljjaaGreatDoor
open Go Go.RowKit Go.Shelf Go.Sort
/-- The library's table of powers lies in memory. -/
def TabP (w : World) : Prop := Lib.TabIs Tryz.prog w "internal/strconv.uint64pow10" .u64 Lib.pow10Tab
theorem globalIdx {P : Program} {w : World} {n : String} {cs : Array Value} (h : w.var? P n = some cs) : ∃ g, P.globalNamed n = some g ∧ g < w.heap.size := by
  unfold World.var? at h
  obtain ⟨g, hg, h⟩ := Option.bind_eq_some_iff.1 h
  refine ⟨g, hg, ?_⟩
  rcases Nat.lt_or_ge g w.heap.size with hlt | hge
  · exact hlt
  · rw [Array.getElem?_eq_none hge] at h; cases h
theorem tabIs_below {P : Program} {w w' : World} {n : String} {k : IntKind} {zs : List Int} (h : Lib.TabIs P w n k zs) (hb : Below w.heap.size w w') : Lib.TabIs P w' n k zs := by
  obtain ⟨g, hg, hl⟩ := globalIdx h
  unfold Lib.TabIs World.var? at h ⊢
  rw [hg] at h ⊢
  simp only [Option.bind_some] at h ⊢
  rw [hb.block g hl]; exact h
theorem TabP.below {w w' : World} (h : TabP w) (hb : Below w.heap.size w w') : TabP w' := tabIs_below h hb
/-- The decimal text of a number. -/
def decS (n : Nat) : ByteArray := ⟨(Lib.decDigits n).toArray⟩
theorem decS_list (n : Nat) : (decS n).data.toList = Lib.decDigits n := by unfold decS; simp
theorem decS_size (n : Nat) : (decS n).size = Lib.nDigits n := by
  rw [← Lib.decDigits_length]
  unfold decS
  simp [ByteArray.size]
set_option maxRecDepth 100000 in
set_option maxHeartbeats 4000000 in
theorem fmtUint_any (u : Nat) (hu64 : u < 18446744073709551616) (w : World) (hT : TabP w) :
    Calls Tryz.prog 94 #[.int .u64 u, .int .i64 10] w fun e w' => e = .returned (.string (decS u)) ∧ Below w.heap.size w w' := by
  have hBW : Below w.heap.size w w := B0 w
  by_cases hs : u < 100
  · have hsI : (u : Int) < 100 := by omega
    go_enter Tryz.func94, Tryz.ntmps94
    go_wp2_with (go_at_call 102; refine (Tryz.strconv_small u hs _).mono ?_; rintro e w' ⟨rfl, rfl⟩)
    go_ret
    exact ⟨rfl, hBW⟩
  · have hsI : ¬ (u : Int) < 100 := by omega
    have hu1 : 1 ≤ u := by omega
    have hnd20 : Lib.nDigits u ≤ 20 := Lib.nDigits_le20 u hu64
    have hal : Tryz.prog.arrayLen 202 = 24 := by kernel_rfl
    have hsl1 : ∀ W, (Instr.sliceAt 202 (.pointer (some ⟨w.heap.size, 0, none⟩)) none (some (.int .i64 (Lib.nDigits u : Int))) none).run Tryz.prog W = .ok (.slice (some ⟨w.heap.size, 0, none⟩) (Lib.nDigits u) 24) W := fun W => by
      rw [run_sliceAt_array_h W 202 ⟨w.heap.size, 0, none⟩ (by kernel_rfl) .i64 (Lib.nDigits u : Int) (by omega) (by rw [hal]; omega)]
      go_simp
    have hH0 := Lib.holds_zero0 w 202 (Lib.nDigits u) (by omega)
    have hfmt := Tryz.strconv_formatBase10 w.heap.size 0 24 u (Array.replicate (Lib.nDigits u) 0) (w.alloc (.cells Lib.zeros24 202)) hH0 (by rw [Array.size_replicate]; exact Lib.lt_pow_nDigits u) hu64 (by rw [Array.size_replicate]; omega)
    rw [Array.size_replicate] at hfmt
    have HH0 := Lib.hid hH0
    clear hH0 hal
    go_enter Tryz.func94, Tryz.ntmps94
    go_wp2_with (first
      | (go_at_call 103; refine (Tryz.strconv_numDigits u hu1 hu64 _ (tabIs_below hT (Ba (B0 w) _))).mono ?_; rintro e w' ⟨rfl, rfl⟩))
    go_at_call 104
    refine hfmt.mono ?_
    rintro e w' ⟨rfl, k, v', dk, rfl, hF⟩
    have hal : Tryz.prog.arrayLen 202 = 24 := by kernel_rfl
    have hcv : (convert 132 9 (.slice (some ⟨w.heap.size, 0, none⟩) (Lib.nDigits u) 24)).run Tryz.prog ((putRow (fun (b : UInt8) => Value.int .u8 (b.toNat : Int)) (w.alloc (.cells Lib.zeros24 202)) w.heap.size 0 dk).drewN k) = .ok (.string ⟨(Lib.decDigits u).toArray⟩) ((putRow (fun (b : UInt8) => Value.int .u8 (b.toNat : Int)) (w.alloc (.cells Lib.zeros24 202)) w.heap.size 0 dk).drewN k) := by
      have h := run_convert_bytes_back (P := Tryz.prog) ((putRow (fun (b : UInt8) => Value.int .u8 (b.toNat : Int)) (w.alloc (.cells Lib.zeros24 202)) w.heap.size 0 dk).drewN k) 132 9 5 ⟨w.heap.size, 0, none⟩ 24 (Lib.decDigits u) Tryz.underlying132 Tryz.underlying5 Tryz.underlying9 (fun j hj => by
        rw [Lib.row_is_numeral hF j hj, Lib.add_plain, World.cell?_drewN]
        exact cell?_putRow (fun (b : UInt8) => Value.int .u8 (b.toNat : Int)) _ w.heap.size 0 _ dk HH0.out (by rw [hF.size, Array.size_replicate]) j (by rw [hF.size]; rw [Lib.decDigits_length] at hj; exact hj))
      rw [Lib.decDigits_length] at h
      exact h
    clear hal
    go_wp2
    go_ret
    obtain ⟨os, eo⟩ := Lib.fin_at w (.cells Lib.zeros24 202) dk k 0
    refine ⟨rfl, ?_⟩
    show Below w.heap.size w ((putRow (fun (b : UInt8) => Value.int .u8 (b.toNat : Int)) (w.alloc (.cells Lib.zeros24 202)) w.heap.size 0 dk).drewN k)
    rw [eo]
    exact Lib.below_grow _ w (Nat.le_refl _) k os
theorem fmtU_any (u : Nat) (hu64 : u < 18446744073709551616) (w : World) (hT : TabP w) :
    Calls Tryz.prog 84 #[.int .u64 u, .int .i64 10] w fun e w' => e = .returned (.string (decS u)) ∧ Below w.heap.size w w' := by
  have HF := Lib.hid (fmtUint_any u hu64 w hT)
  generalize decS u = s at *
  clear hT
  go_enter Tryz.func84, Tryz.ntmps84
  go_wp2_with (go_at_call 94; (with_reducible refine (HF.out.mono ?_)); rintro e w2 ⟨rfl, hb2⟩; have HB2 := Lib.hid hb2; clear hb2)
  go_ret
  exact ⟨rfl, HB2.out⟩
end Go.Proofs.YtnfpjcjlapljjaaGreatDoor
namespace Go.Proofs.YtnfpjcjlapljjaaGreatDoor
open Go Go.RowKit Go.Shelf
attribute [local go_sem] Oper.semAt_some
/-- The places from the last to k. -/
def revF (n k : Nat) : List Nat := ((List.range n).reverse).take (n - k)
theorem revF_next {n k : Nat} (h : k < n) : revF n k = revF n (k + 1) ++ [k] := by
  unfold revF
  rw [show n - k = (n - (k + 1)) + 1 by omega, List.take_add_one, List.getElem?_eq_getElem (by simp; omega)]
  congr 1
  simp
  omega
theorem revF_end (n : Nat) : revF n n = [] := by unfold revF; simp
theorem revF_all (n : Nat) : revF n 0 = (List.range n).reverse := by
  unfold revF
  rw [Nat.sub_zero, List.take_of_length_le (by simp)]
theorem revF_len (n k : Nat) : (revF n k).length ≤ n := by unfold revF; simp
set_option maxRecDepth 100000 in
set_option maxHeartbeats 2000000 in
theorem back1_in (n : Nat) (hn : 1 ≤ n) (l Bm : Nat) (L : List Nat) (hLL : L.length ≤ 100000) (v : Value) (F : Nat → Prop) (J Jx : List Nat → World → Prop)
    (hY : ∀ pre (i : Nat) W, J pre W → pre.length < 1000000 → YieldAt Fence.wide (n - 1) Tryz.prog l #[.int .i64 (i : Int), .int .u64 (L.getD i 0 : Nat)] W fun e W' =>
      (e = .returned (.bool true) ∧ J (pre ++ [i]) W' ∧ Agree (fun k => k = Bm ∨ F k) W W') ∨ (e = .returned (.bool false) ∧ Jx (pre ++ [i]) W'))
    (W : World) (hv : SlU F W v L) (hc0 : W.cell? ⟨Bm, 0, none⟩ = some v) (h0 : J [] W) :
    CallsIn Fence.wide n Tryz.prog 93 #[.func (.yield l) #[] #[], .pointer (some ⟨Bm, 0, none⟩)] W fun e W' => (∃ u, e = .returned u) ∧
      ((∃ ys : List Nat, ys = (List.range L.length).reverse ∧ J ys W') ∨ (∃ pre : List Nat, True ∧ Jx pre W')) := by
  obtain ⟨A, c, rfl, hc, hlen, -⟩ := hv.open
  obtain ⟨m, hm⟩ : ∃ m, L.length = m := ⟨_, rfl⟩
  rw [hm] at hLL hc hlen ⊢
  have hv' := hv
  rw [hm] at hv' hc0
  refine callsIn_of_wp Tryz.func93 rfl trivial ?_ rfl
  simp only [Tryz.ntmps93, List.size_toArray, List.length_cons, List.length_nil, Nat.reduceAdd, Nat.reduceSub, Array.replicate_succ, Array.replicate_zero, List.push_toArray, List.append_toArray, List.nil_append, List.cons_append]
  clear hv
  have HM := Lib.hid hm
  clear hm
  gi_wp2
  gi_loopw [3] (fun p wr => ∃ (k : Nat), k ≤ m ∧ p = .int .i64 ((k : Int) - 1) ∧ J (revF m k) wr ∧ SlU F wr (.slice A m c) L ∧ wr.cell? ⟨Bm, 0, none⟩ = some (.slice A m c))
    (fun p wr => (intOf p + 1).toNat)
  case atStart => exact ⟨m, Nat.le_refl _, rfl, by rw [revF_end]; exact h0, hv', hc0⟩
  case round =>
    obtain ⟨k, hk, rfl, hJs, hS, hcr⟩ := hrel
    rcases Nat.eq_zero_or_pos k with rfl | hk0
    · have hneg : ¬ (0 : Int) ≤ ((0 : Nat) : Int) - 1 := by decide
      gi_wp2
      go_end0
      exact ⟨⟨_, rfl⟩, .inl (by rw [← revF_all]; exact hJs)⟩
    · obtain ⟨j, rfl⟩ : ∃ j, k = j + 1 := ⟨k - 1, by omega⟩
      have hj : j < L.length := by rw [HM.out]; omega
      obtain ⟨A', c', he, _, _, hat⟩ := hS.open
      obtain ⟨ad, rfl, hf, hcell⟩ := hat j hj
      injection he with he1 he2 he3
      subst he1 he3
      clear he2
      have hji : ((j + 1 : Nat) : Int) - 1 = (j : Int) := by omega
      rw [hji]
      have hjI : (j : Int) < m := by omega
      have hj0 : (0 : Int) ≤ (j : Int) := by omega
      have hpl : (revF m (j + 1)).length < 1000000 := by have := revF_len m (j + 1); omega
      obtain ⟨fn, tmps, assign, body, hy, hR⟩ := hY (revF m (j + 1)) j wr hJs hpl
      rw [Big.getD_get hj] at hy
      clear hat hji
      gi_wp2
      refine hR.mono ?_
      rintro e W3 (⟨rfl, hJ3, hk3⟩ | ⟨rfl, hJx3⟩)
      · gi_wp2
        go_roundw
        case rel => exact ⟨j, by omega, rfl, by rw [revF_next (by omega)]; exact hJ3, hS.keep (hk3.mono fun _ h => .inr h), (hk3.cell (p := ⟨Bm, 0, none⟩) (.inl rfl)).trans hcr⟩
        case measure => simp [intOf]
      · gi_wp2
        refine bodyPost_ret (results_none rfl _ _ _) rfl ?_
        first | exact ⟨⟨_, rfl⟩, .inr ⟨_, trivial, hJx3⟩⟩ | exact ⟨⟨_, rfl⟩, .inr ⟨_, hJx3⟩⟩
/-- The iterator that Backward hands back. -/
theorem back_stops (n : Nat) (hn : 1 ≤ n) (Bm : Nat) (L : List Nat) (hLL : L.length ≤ 100000) (v : Value) (F : Nat → Prop) (w : World) (hF : ∀ b, F b → b < w.heap.size) (hB : Bm < w.heap.size) (hv : SlU F w v L) (hc0 : w.cell? ⟨Bm, 0, none⟩ = some v) :
    SeqStopsK Fence.wide n Tryz.prog 93 #[.pointer (some ⟨Bm, 0, none⟩)] (fun i : Nat => #[Value.int .i64 (i : Int), .int .u64 (L.getD i 0 : Nat)]) (Agree fun k => k = Bm ∨ F k) (fun ys => ys = (List.range L.length).reverse) (fun _ => True) 1000000 w :=
  fun l J Jx W hW _ _ hY h0 =>
    (back1_in n hn l Bm L hLL v F J Jx hY W (hv.keep (Agree.below hW hF)) ((hW.cell (p := ⟨Bm, 0, none⟩) hB).trans hc0) h0).mono fun _ _ ⟨h1, h2⟩ => ⟨h1, h2⟩
set_option maxRecDepth 100000 in
theorem backward_any (A : Option Addr) (n c : Nat) (w : World) : Calls Tryz.prog 83 #[.slice A n c] w fun e w' => e = .returned (.func (.func 93) #[] #[.pointer (some ⟨w.heap.size, 0, none⟩)]) ∧ w' = w.alloc (.cells #[.slice A n c] 166) := by
  go_enter Tryz.func83, Tryz.ntmps83
  go_wp2
  go_ret
  exact ⟨rfl, rfl⟩
namespace Big
/-- What a limb adds to the text. -/
def piece (m : Nat) (L : List Nat) (x : Nat) : List UInt8 := (if x + 1 < m then List.replicate (9 - Lib.nDigits (L.getD x 0)) 48 else []) ++ Lib.decDigits (L.getD x 0)
def txt (m : Nat) (L : List Nat) (pre : List Nat) : List UInt8 := (pre.map (piece m L)).flatten
theorem txt_snoc (m : Nat) (L pre : List Nat) (x : Nat) : txt m L (pre ++ [x]) = txt m L pre ++ piece m L x := by
  unfold txt
  rw [List.map_append, List.flatten_append]
  simp
theorem getD_lt {L : List Nat} (h : ok L) (x : Nat) : L.getD x 0 < bs := by
  by_cases q : x < L.length
  · rw [getD_get q]; exact ok_get h q
  · rw [List.getD_eq_getElem?_getD, List.getElem?_eq_none (by omega)]; decide
theorem nd9 {x : Nat} (h : x < bs) : Lib.nDigits x ≤ 9 := (nDigits_lt 9 (by decide)).2 h
theorem piece_len {m : Nat} {L : List Nat} (h : ok L) (x : Nat) : (piece m L x).length ≤ 9 := by
  have := nd9 (getD_lt h x)
  unfold piece
  rw [List.length_append, Lib.decDigits_length]
  split
  · rw [List.length_replicate]; omega
  · rw [List.length_nil, Nat.zero_add]; exact this
theorem txt_len {m : Nat} {L : List Nat} (h : ok L) : ∀ pre : List Nat, (txt m L pre).length ≤ 9 * pre.length
  | [] => by simp [txt]
  | x :: r => by
    have h1 := txt_len h (m := m) r
    have h2 := piece_len h (m := m) x
    unfold txt at *
    rw [List.map_cons, List.flatten_cons, List.length_append, List.length_cons]
    omega
/-- The text of all limbs. -/
theorem txt_all {n : Nat} (hn : n ≠ 0) : ∀ d k, k + d + 1 = (lim n).length → txt (lim n).length (lim n) (revF (lim n).length k) = Lib.decDigits (n / bs ^ k)
  | 0, k, h => by
    have hk : k < (lim n).length := by omega
    rw [revF_next hk, show k + 1 = (lim n).length by omega, revF_end, List.nil_append]
    unfold txt piece
    simp only [List.map_cons, List.map_nil, List.flatten_cons, List.flatten_nil, List.append_nil]
    rw [if_neg (by omega), List.nil_append, getD_get hk]
    obtain ⟨_, h2⟩ := lim_get (n := n) (k := k) (x := (lim n)[k]) (List.getElem?_eq_getElem hk)
    have hz : n / bs ^ (k + 1) = 0 := by
      apply Classical.byContradiction
      intro q
      have := lim_len_iff.2 q
      omega
    rw [hz, Nat.zero_mul, Nat.zero_add] at h2
    rw [h2]
  | d + 1, k, h => by
    have hk : k < (lim n).length := by omega
    rw [revF_next hk, txt_snoc, txt_all hn d (k + 1) (by omega)]
    unfold piece
    rw [if_pos (by omega), getD_get hk]
    exact (dec_limb (List.getElem?_eq_getElem hk) (lim_len_iff.1 (by omega))).symm
end Big
end Go.Proofs.YtnfpjcjlapljjaaGreatDoor
namespace Go.Proofs.YtnfpjcjlapljjaaGreatDoor
open Go Go.RowKit Go.Shelf
attribute [local go_sem] Oper.semAt_some
/-- What lies between two rounds: the builder holds the text so far. -/
structure MTx (sb : Nat) (m : Nat) (L : List Nat) (u : Value) (w : World) (pre : List Nat) (W : World) : Prop where
  bld : Lib.IsBuilder 183 5 sb (sb + 1) (Lib.byteCells (Big.txt m L pre)) W
  bx : Blk W sb 166 #[u]
  im : Blk W (sb + 1 + 1) 166 #[u]
  bel : Below sb w W
theorem IsB_turn {B b K : Nat} {bs : List Value} {A W : World} {row : Option Nat} (h : Lib.IsBuilder 183 5 B b bs A) (hg : A.grownBy W row) (hr : ∀ r, row = some r → K ≤ r ∧ ∃ o : Obj, A.heap[r]? = some o ∧ o.isCells = false) : Lib.IsBuilder 183 5 B b bs W := by
  have one : ∀ p, Lib.BuilderAt 183 5 B b p bs A → Lib.BuilderAt 183 5 B b p bs W := fun p q => by
    obtain ⟨h1, v, h2, h3, h4⟩ := q
    refine ⟨h1, v, ?_, h3.kept hg ?_, h4⟩
    · rw [hg.block b (Array.getElem?_eq_some_iff.1 h2).1 fun e => ?_]
      · exact h2
      · obtain ⟨o, q1, q2⟩ := (hr b e.symm).2
        rw [h2] at q1
        injection q1 with q1
        subst q1
        cases q2
    · cases hv : v.ownBlock with
      | none => exact .inl rfl
      | some g =>
        refine .inr fun e => ?_
        obtain ⟨o, q1, q2⟩ := own_cells h3 g hv
        obtain ⟨o', q3, q4⟩ := (hr g e.symm).2
        rw [q1] at q3
        injection q3 with q3
        subst q3
        rw [q2] at q4; cases q4
  rcases h with h | h
  · exact .inl (one _ h)
  · exact .inr (one _ h)
theorem MTx.turn {sb K m : Nat} {L : List Nat} {u : Value} {w : World} (hB : sb ≤ K) (hBw : sb ≤ w.heap.size) : OwnFrom K (fun pre : List Nat => MTx sb m L u w pre) := fun pre A W row hs hg hr => by
  have hr' : ∀ r, row = some r → ∃ o : Obj, A.heap[r]? = some o ∧ o.isCells = false := fun r e => (hr r e).2
  exact ⟨IsB_turn hs.bld hg hr, hs.bx.grown hg (hs.bx.not_turned hr'), hs.im.grown hg (hs.im.not_turned hr'), hs.bel.grown hg (Nat.le_trans hBw hs.bel.size) fun k e => Nat.le_trans hB (hr k e).1⟩
theorem kf_freeze {K : Nat} {W : World} {g n : Nat} (hg : ∃ o : Obj, W.heap[g]? = some o ∧ o.isCells = true) : KeepsFrom K W (W.freeze ⟨g, 0, none⟩ n) :=
  ⟨by unfold World.freeze; split <;> simp, fun k o _ hk ho => by
    have hne : g ≠ k := fun e => by
      obtain ⟨o', h1, h2⟩ := hg
      rw [e, hk] at h1
      injection h1 with h1
      subst h1
      rw [ho] at h2; cases h2
    unfold World.freeze
    split
    · exact hk
    · simp [Array.getElem?_modify, hne, hk]⟩
set_option maxHeartbeats 1000000 in
set_option maxRecDepth 100000 in
theorem string_any (B b : Nat) (l : List UInt8) (w : World) (h : Lib.IsBuilder 183 5 B b (Lib.byteCells l) w) (h0 : l ≠ []) :
    Calls Tryz.prog 87 #[.pointer (some ⟨b, 0, none⟩)] w fun e w' => e = .returned (.string ⟨l.toArray⟩) ∧ Below B w w' ∧ ∀ K, KeepsFrom K w w' := by
  obtain ⟨p, hB, v, hbk, hown, hne⟩ : ∃ p, Lib.BuilderAt 183 5 B b p (Lib.byteCells l) w := by
    rcases h with h | h
    · exact ⟨_, h⟩
    · exact ⟨_, h⟩
  have hl0 : l.length ≠ 0 := by simpa using h0
  rw [Lib.byteCells_length] at hown
  obtain ⟨g, cap, cur, rfl, hbg, hg, hnc, hcm, hcs, htake⟩ : ∃ g cap cur, v = .slice (some ⟨g, 0, none⟩) l.length cap ∧ B ≤ g ∧ w.heap[g]? = some (.cells cur 5 (0, 0)) ∧ l.length ≤ cap ∧ cap ≤ maxLen ∧ cur.size = cap * 1 ∧ cur.toList.take (l.length * 1) = Lib.byteCells l := by
    rcases hown.2 with ⟨_, hz⟩ | ⟨g, cap, cur, hv, r⟩
    · exact absurd hz hl0
    · exact ⟨g, cap, cur, hv, r⟩
  have c1 : w.drew.cell? ⟨b, 1, none⟩ = some (.slice (some ⟨g, 0, none⟩) l.length cap) := by
    have : w.drew.heap[b]? = some (.cells #[p, .slice (some ⟨g, 0, none⟩) l.length cap] 183 (0, 0)) := hbk
    rw [Lib.cell_of_heap this]; rfl
  have hSD : (Builtin.unsafeSliceData_ #[132] 200 #[.slice (some ⟨g, 0, none⟩) l.length cap]).run Tryz.prog w.drew = .ok (.pointer (some ⟨g, 0, none⟩)) w.drew :=
    Lib.run_unsafeSliceData_row _ _ _ _ _ _ (by omega)
  have hUS : (Builtin.unsafeString_ #[200, 3] 9 #[.pointer (some ⟨g, 0, none⟩), .int .i64 l.length]).run Tryz.prog w.drew = .ok (.string ⟨l.toArray⟩) (w.drew.freeze ⟨g, 0, none⟩ l.length) := by
    refine Lib.run_unsafeString_row w.drew 200 3 9 5 Tryz.underlying200 (by kernel_rfl) g cur.size (by have hg' : w.drew.heap[g]? = some (.cells cur 5 (0, 0)) := hg; simp [World.shape?, hg']) l h0 (by omega) (by unfold maxLen at hcm; omega) ?_
    intro j x hx
    have := hown.cells (g := g) rfl j (.int .u8 x.toNat) (by simp [Lib.byteCells, hx])
    exact this
  have hkf : ∀ K, KeepsFrom K w (w.drew.freeze ⟨g, 0, none⟩ l.length) := fun K =>
    have q := kf_freeze (K := K) (W := w.drew) (g := g) (n := l.length) ⟨_, hg, rfl⟩
    ⟨q.size, q.same⟩
  have mixed : Tryz.prog.follows Departure.mixedOrders = true := by kernel_rfl
  go_enter Tryz.func87, Tryz.ntmps87
  go_wp2
  go_region_o
  all_goals (go_wp2; go_ret; exact ⟨rfl, Lib.below_freeze (Below.drew (Below.refl B w)) (p := ⟨g, 0, none⟩) hbg _, hkf⟩)
theorem IsB_below {B b : Nat} {bs : List Value} {A W : World} (h : Lib.IsBuilder 183 5 B b bs A) (hb : Below A.heap.size A W) : Lib.IsBuilder 183 5 B b bs W :=
  IsB_turn (K := 0) h (only_of_below hb none) fun _ e => by cases e
theorem repS (k : Nat) (x : UInt8) : Lib.repeatL [x] k = List.replicate k x := by
  induction k with
  | zero => rfl
  | succ k ih =>
    show x :: Lib.repeatL [x] k = _
    rw [ih, List.replicate_succ]
theorem strCells_eq (s : ByteArray) (l : List UInt8) (h : s.data.toList = l) : Lib.strCells s = Lib.byteCells l := by
  subst h
  rfl
theorem byteCells_app (a b : List UInt8) : Lib.byteCells a ++ Lib.byteCells b = Lib.byteCells (a ++ b) := by simp [Lib.byteCells]
set_option maxRecDepth 100000 in
set_option maxHeartbeats 1000000 in
theorem text_any (F : Nat → Prop) (v : Value) (n : Nat) (hlim : (Big.lim n).length ≤ 100000) (w : World) (hF : ∀ b, F b → b < w.heap.size) (hv : SlU F w v (Big.lim n)) (hT : TabP w) :
    Calls Tryz.prog 72 #[v] w fun e w' => e = .returned (.string (decS n)) ∧ Below w.heap.size w w' := by
  obtain ⟨A, c, rfl, hc, hlen, -⟩ := hv.open
  obtain ⟨m, hm⟩ : ∃ m, (Big.lim n).length = m := ⟨_, rfl⟩
  have hBW : Below w.heap.size w (w.alloc (.cells #[.slice A m c] 166)) := Ba (B0 w) _
  rw [hm] at hv hc hlen hlim ⊢
  by_cases hn0 : n = 0
  · subst hn0
    have hm0 : m = 0 := by rw [← hm, Big.lim_zero]; rfl
    subst hm0
    have e : decS 0 = ⟨#[48]⟩ := by
      unfold decS
      rw [Lib.decDigits, dif_pos (by decide)]
      rfl
    rw [e]
    clear hm hv e hT
    go_enter Tryz.func72, Tryz.ntmps72
    go_wp2
    go_ret
    exact ⟨rfl, hBW⟩
  · have hmpos : 0 < m := by rw [← hm]; exact Big.lim_len_pos hn0
    have hmI : ¬ (m : Int) = 0 := by omega
    refine (callsIn_wide (n := 8)).1 ?_
    refine callsIn_of_wp_marks Tryz.func72 rfl trivial ?_ rfl
    simp only [Tryz.ntmps72, List.size_toArray, List.length_cons, List.length_nil, Nat.reduceAdd, Nat.reduceSub, Array.replicate_succ, Array.replicate_zero, List.push_toArray, List.append_toArray, List.nil_append, List.cons_append]
    have HM := Lib.hid hm
    have hok := Big.lim_ok n
    have htx : Big.txt m (Big.lim n) ((List.range m).reverse) = Lib.decDigits n := by
      have := Big.txt_all hn0 (m - 1) 0 (by omega)
      rw [hm, revF_all, Nat.pow_zero, Nat.div_one] at this
      exact this
    obtain ⟨L, hL⟩ : ∃ L, Big.lim n = L := ⟨_, rfl⟩
    rw [hL] at hv hm hok htx
    have hdd : Lib.decDigits n ≠ [] := fun e => by
      have := congrArg List.length e
      rw [Lib.decDigits_length] at this
      have := Lib.nDigits_pos n
      simp at *
      omega
    obtain ⟨D, hD⟩ : ∃ D, Lib.decDigits n = D := ⟨_, rfl⟩
    have hDS : decS n = ⟨D.toArray⟩ := by unfold decS; rw [hD]
    rw [hD] at htx hdd
    rw [hDS]
    have HOK := Lib.hid hok
    have HTX := Lib.hid htx
    have HDD := Lib.hid hdd
    have HLM := Lib.hid hm
    have HV := Lib.hid hv
    clear hm hok htx hdd hL hD hDS HM hv
    gi_wp2_with (refine ⟨trivial, ?_⟩; refine (callsIn_wide.2 (backward_any A m c _)).mono ?_; rintro e w' ⟨rfl, rfl⟩)
    obtain ⟨W3, hW3⟩ : ∃ W3 : World, ((w.alloc (.cells #[.slice A m c] 166)).alloc (.cells #[.pointer none, .slice none 0 0] 183)).alloc (.cells #[.slice A m c] 166) = W3 := ⟨_, rfl⟩
    obtain ⟨sb, hsb⟩ : ∃ sb, w.heap.size = sb := ⟨_, rfl⟩
    have hB0 : Below w.heap.size w W3 := by rw [← hW3]; exact Ba (Ba (Ba (B0 w) _) _) _
    have hS3 : W3.heap.size = sb + 3 := by rw [← hW3, ← hsb]; simp [World.size_alloc]
    have K1 : Blk W3 sb 166 #[.slice A m c] := by
      have h := ((Blk.new w 166 #[.slice A m c]).alloc (.cells #[.pointer none, .slice none 0 0] 183)).alloc (.cells #[.slice A m c] 166)
      rw [hW3, hsb] at h
      exact h
    have K2 : Blk W3 (sb + 1) 183 #[.pointer none, .slice none 0 0] := by
      have h := (Blk.new (w.alloc (.cells #[.slice A m c] 166)) 183 #[.pointer none, .slice none 0 0]).alloc (.cells #[.slice A m c] 166)
      rw [World.size_alloc, hW3, hsb] at h
      exact h
    have K3 : Blk W3 (sb + 1 + 1) 166 #[.slice A m c] := by
      have h := Blk.new ((w.alloc (.cells #[.slice A m c] 166)).alloc (.cells #[.pointer none, .slice none 0 0] 183)) 166 #[.slice A m c]
      rw [World.size_alloc, World.size_alloc, hW3, hsb] at h
      exact h
    have c3 := K3.cell 0
    simp only [List.getElem?_toArray, List.getElem?_cons_zero] at c3
    rw [hsb] at hB0 hF
    have hkeep : SlU F W3 (.slice A m c) L := HV.out.keep (Agree.below hB0 hF)
    have hw0 : sb ≤ w.heap.size := Nat.le_of_eq hsb.symm
    have hI0 : MTx sb m L (.slice A m c) w [] W3 := ⟨.inl ⟨by omega, _, K2, World.ownsRow_nil _ _ _ _, by simp [Value.ownBlock]⟩, K1, K3, hB0⟩
    have hT3 : TabP W3 := hT.below (hsb ▸ hB0)
    rw [hW3, hsb]
    refine wpIn_rangeFunc_ownG rfl (by omega) (gf := 93) (lb := #[.pointer (some ⟨sb + 1 + 1, 0, none⟩)]) rfl trivial (enters_of Tryz.func93 (by kernel_rfl) rfl)
      (back_stops 7 (by omega) (sb + 1 + 1) L (by rw [HLM.out]; exact hlim) (.slice A m c) F W3 (fun b q => Nat.lt_of_lt_of_le (hF b q) (by omega)) (by omega) hkeep c3) (fun h k => Agree.trans h k)
      (fun W l o o' hl hh _ _ => Agree.grown (grownBy_putObj' W l o') fun b q => ⟨by have := (Array.getElem?_eq_some_iff.1 hh).1; rcases q with rfl | q; omega; have := hF b q; omega, fun e => by injection e with e; rcases q with q | q; omega; have := hF b q; omega⟩) (Below.refl _ _) (fun _ => rfl)
      (fun pre W => MTx sb m L (.slice A m c) w pre W)
      (fun _ _ _ => False) (MTx.turn (by omega) hw0) (fun _ _ _ _ _ hs _ _ => hs) hI0
      (fun i => { tmps := #[.slice A m c, .pointer (some ⟨sb, 0, none⟩), .string ⟨#[]⟩, .pointer (some ⟨sb + 1, 0, none⟩), .int .i64 (i : Int), .int .u64 (L.getD i 0 : Nat), undef, .slice A m c, .int .i64 (m : Int), .bool false, .slice A m c, .func (.func 93) #[] #[.pointer (some ⟨sb + 1 + 1, 0, none⟩)], .int .i64 (i : Int), .int .u64 (L.getD i 0 : Nat), undef, undef, undef, undef, undef, undef, undef, undef, undef, undef, undef, undef, undef, undef, undef], defers := [] }) ?assign ?body ?done ?stop
    case assign =>
      intro l x W K hK
      gi_wp2
      exact hK
    case body =>
      rintro l pre x W hI hlt
      have c1 := hI.bx.cell 0
      simp only [List.getElem?_toArray, List.getElem?_cons_zero] at c1
      have hyl := Big.getD_lt HOK.out x
      have hpc := Big.txt_snoc m L pre x
      have hpl := Big.txt_len HOK.out (m := m) pre
      have hTW : TabP W := hT.below (hsb ▸ hI.bel)
      have HI := Lib.hid hI
      unfold Big.piece at hpc
      obtain ⟨y, hy⟩ : ∃ y, L.getD x 0 = y := ⟨_, rfl⟩
      rw [hy] at hyl hpc ⊢
      have hnd := Big.nd9 hyl
      have H1 := Lib.hid (fmtU_any y (Nat.lt_trans hyl (by decide)) W hTW)
      obtain ⟨nd, hnn⟩ : ∃ nd, Lib.nDigits y = nd := ⟨_, rfl⟩
      have hsz : (decS y).size = nd := by rw [decS_size, hnn]
      have hsl := decS_list y
      rw [hnn] at hnd hpc
      obtain ⟨s2, hs2⟩ : ∃ s2, decS y = s2 := ⟨_, rfl⟩
      rw [hs2] at H1 hsz hsl
      have hlt' : pre.length < 1000000 := hlt
      have HPC := Lib.hid hpc
      have HSL := Lib.hid hsl
      have HSZ := Lib.hid hsz
      have HPL := Lib.hid hpl
      clear hI hpc hs2 hsl hnn hy hyl hpl hTW hlt
      by_cases hx : (x : Int) < (m : Int) - 1
      · have HR0 : ∀ W, Calls Tryz.prog 86 #[.string ⟨#[48]⟩, .int .i64 (9 - (nd : Int))] W fun e w' => e = .returned (.string ⟨(Lib.repeatL [48] (9 - nd)).toArray⟩) ∧ Below W.heap.size W w' := fun W => by
          have h := Tryz.strings_Repeat ⟨#[48]⟩ (9 - nd) W (by omega) (by show 1 * (9 - nd) ≤ _; omega)
          rw [show ((9 - nd : Nat) : Int) = 9 - (nd : Int) by omega] at h
          exact h
        have HR := Lib.hid HR0
        obtain ⟨s3, hs3⟩ : ∃ s3 : ByteArray, ⟨(Lib.repeatL [48] (9 - nd)).toArray⟩ = s3 := ⟨_, rfl⟩
        have hs3l : s3.data.toList = List.replicate (9 - nd) 48 := by rw [← hs3, repS]
        have hs3z : s3.size = 9 - nd := by
          rw [show s3.size = s3.data.toList.length by rw [Array.length_toList]; rfl, hs3l, List.length_replicate]
        rw [hs3] at HR
        have HL1 := Lib.hid (show (Lib.byteCells (Big.txt m L pre)).length + s3.size ≤ 140737488355328 by rw [Lib.byteCells_length, hs3z]; have := HPL.out; omega)
        have HL2 := Lib.hid (show (Lib.byteCells (Big.txt m L pre) ++ Lib.strCells s3).length + s2.size ≤ 140737488355328 by rw [List.length_append, Lib.byteCells_length, Lib.strCells_length, hs3z, HSZ.out]; have := HPL.out; omega)
        have HS3 := Lib.hid hs3l
        have hxn : x + 1 < m := by omega
        clear HR0 hs3 hs3l hs3z
        gi_wp2_with (first | (refine ⟨trivial, ?_⟩; (with_reducible refine CallsIn.mono (CallsIn.inRound l (callsIn_wide.2 H1.out)) ?_); rintro e W2 ⟨rfl, hb2⟩; have G2 := Lib.hid (show MTx sb m L (.slice A m c) w pre W2 from ⟨IsB_below HI.out.bld hb2, HI.out.bx.below hb2 HI.out.bx.lt, HI.out.im.below hb2 HI.out.im.lt, HI.out.bel.trans (hb2.mono (Nat.le_trans hw0 HI.out.bel.size))⟩); have GB2 := Lib.hid hb2; have c2 := G2.out.bx.cell 0; simp only [List.getElem?_toArray, List.getElem?_cons_zero] at c2; clear hb2 c1) | (refine ⟨trivial, ?_⟩; (with_reducible refine CallsIn.mono (CallsIn.inRound l (callsIn_wide.2 (HR.out _))) ?_); rintro e W3' ⟨rfl, hb3⟩; have G3 := Lib.hid (show MTx sb m L (.slice A m c) w pre W3' from ⟨IsB_below G2.out.bld hb3, G2.out.bx.below hb3 G2.out.bx.lt, G2.out.im.below hb3 G2.out.im.lt, G2.out.bel.trans (hb3.mono (Nat.le_trans hw0 G2.out.bel.size))⟩); have GB3 := Lib.hid hb3; clear hb3 c2))
        (refine ⟨trivial, ?_⟩; (with_reducible refine CallsIn.mono (CallsIn.inRound l (callsIn_wide.2 (write_any sb (sb + 1) _ s3 W3' G3.out.bld HL1.out (Nat.le_trans hw0 G3.out.bel.size)))) ?_); rintro e W4 ⟨rfl, ⟨h41, h42⟩, h43, h44⟩; have G4 := Lib.hid (show Lib.IsBuilder 183 5 sb (sb + 1) (Lib.byteCells (Big.txt m L pre) ++ Lib.strCells s3) W4 from Or.inr h41); have F4 := Lib.hid h42; have K4 := Lib.hid h43; have B4 := Lib.hid h44; clear h41 h42 h43 h44)
        gi_wp2_with (refine ⟨trivial, ?_⟩; (with_reducible refine CallsIn.mono (CallsIn.inRound l (callsIn_wide.2 (write_any sb (sb + 1) _ s2 W4 G4.out HL2.out (Nat.le_trans (Nat.le_trans hw0 G3.out.bel.size) F4.out.size)))) ?_); rintro e W5 ⟨rfl, ⟨h51, h52⟩, h53, h54⟩; have G5 := Lib.hid h51; have F5 := Lib.hid h52; have K5 := Lib.hid h53; have B5 := Lib.hid h54; clear h51 h52 h53 h54)
        have hq3 : sb ≤ W.heap.size := Nat.le_trans hw0 HI.out.bel.size
        have hq4 : sb ≤ W2.heap.size := Nat.le_trans hw0 G2.out.bel.size
        have hbe : Below sb W W5 := (((GB2.out.mono hq3).trans (GB3.out.mono hq4)).trans F4.out).trans F5.out
        have im5 := B5.out _ _ _ (B4.out _ _ _ G3.out.im (by decide) (by omega)) (by decide) (by omega)
        have bx5 := B5.out _ _ _ (B4.out _ _ _ G3.out.bx (by decide) (by omega)) (by decide) (by omega)
        refine ⟨((kf_below GB2.out).trans (kf_below GB3.out)).trans ((K4.out _ (by omega)).trans (K5.out _ (by omega))), fun k hk => ?_, ⟨.inr ?_, bx5, im5, HI.out.bel.trans hbe⟩⟩
        · rcases hk with rfl | hk
          · exact Eq.trans im5 (Eq.symm HI.out.im)
          · exact hbe.block k (hF k hk)
        · rw [HPC.out, if_pos hxn, ← byteCells_app, ← byteCells_app, ← strCells_eq s2 _ HSL.out, ← strCells_eq s3 _ HS3.out, ← List.append_assoc]
          exact G5.out
      · have HL0 := Lib.hid (show (Lib.byteCells (Big.txt m L pre)).length + s2.size ≤ 140737488355328 by rw [Lib.byteCells_length, HSZ.out]; have := HPL.out; omega)
        have hxn : ¬ x + 1 < m := by omega
        gi_wp2_with (first | (refine ⟨trivial, ?_⟩; (with_reducible refine CallsIn.mono (CallsIn.inRound l (callsIn_wide.2 H1.out)) ?_); rintro e W2 ⟨rfl, hb2⟩; have G2 := Lib.hid (show MTx sb m L (.slice A m c) w pre W2 from ⟨IsB_below HI.out.bld hb2, HI.out.bx.below hb2 HI.out.bx.lt, HI.out.im.below hb2 HI.out.im.lt, HI.out.bel.trans (hb2.mono (Nat.le_trans hw0 HI.out.bel.size))⟩); have GB2 := Lib.hid hb2; have c2 := G2.out.bx.cell 0; simp only [List.getElem?_toArray, List.getElem?_cons_zero] at c2; clear hb2 c1) | (refine ⟨trivial, ?_⟩; (with_reducible refine CallsIn.mono (CallsIn.inRound l (callsIn_wide.2 (write_any sb (sb + 1) _ s2 W2 G2.out.bld HL0.out (Nat.le_trans hw0 G2.out.bel.size)))) ?_); rintro e W5 ⟨rfl, ⟨h51, h52⟩, h53, h54⟩; have G5 := Lib.hid h51; have F5 := Lib.hid h52; have K5 := Lib.hid h53; have B5 := Lib.hid h54; clear h51 h52 h53 h54 c2))
        have hq3 : sb ≤ W.heap.size := Nat.le_trans hw0 HI.out.bel.size
        have hbe : Below sb W W5 := (GB2.out.mono hq3).trans F5.out
        have im5 := B5.out _ _ _ G2.out.im (by decide) (by omega)
        have bx5 := B5.out _ _ _ G2.out.bx (by decide) (by omega)
        refine ⟨(kf_below GB2.out).trans (K5.out _ (by omega)), fun k hk => ?_, ⟨.inr ?_, bx5, im5, HI.out.bel.trans hbe⟩⟩
        · rcases hk with rfl | hk
          · exact Eq.trans im5 (Eq.symm HI.out.im)
          · exact hbe.block k (hF k hk)
        · rw [HPC.out, if_neg hxn, List.nil_append, ← byteCells_app, ← strCells_eq s2 _ HSL.out]
          exact G5.out
    case done =>
      rintro D' ys W hD' hys hI hK
      subst hys
      have hbld := hI.bld
      rw [HLM.out, HTX.out] at hbld
      have HST := Lib.hid (string_any sb (sb + 1) D W hbld HDD.out)
      have HBE := Lib.hid hI.bel
      gi_wp2_with (refine ⟨trivial, ?_⟩; (with_reducible refine CallsIn.mono (callsIn_wide.2 HST.out) ?_); rintro e W6 ⟨rfl, hb6, hk6⟩)
      have hK6 := (hk6 D').same D' _ (Nat.le_refl _) hK rfl
      refine ⟨by simp, .inl ⟨_, _, rfl, run_takeDeferred hK6, ?_⟩⟩
      refine ⟨_, results_tmp rfl _ _ _, rfl, ?_⟩
      rw [hsb]
      exact (HBE.out.trans hb6).grown (grownBy_putObj' W6 D' (.deferred none)) (by have := HBE.out.size; have := hb6.size; omega) (fun k e => by injection e with e; omega)
    case stop =>
      rintro D c pre W _ _ h _
      exact h.elim
end Go.Proofs.YtnfpjcjlapljjaaGreatDoor
namespace Go.Proofs.YtnfpjcjlapljjaaGreatDoor
open Go Go.RowKit Go.Shelf
theorem pre_dec (n : Nat) : Lib.hasPrefix (Lib.decDigits n) [45] = false := by
  have hl := Lib.nDigits_pos n
  rw [← Lib.decDigits_length] at hl
  obtain ⟨b, r, e⟩ : ∃ b r, Lib.decDigits n = b :: r := by
    match h : Lib.decDigits n, hl with
    | b :: r, _ => exact ⟨b, r, rfl⟩
  have hb := Big.dec_digit n b (by rw [e]; exact List.mem_cons_self)
  rw [e]
  unfold Lib.hasPrefix
  simp only [List.isPrefixOf, Bool.and_eq_false_imp, beq_iff_eq]
  intro h
  subst h
  exact absurd hb.1 (by decide)
theorem cutD_any (n : Nat) (w : World) : Calls Tryz.prog 78 #[.string (decS n), .string ⟨#[45]⟩] w fun e w' => e = .returned (.tuple #[.string (decS n), .bool false]) ∧ w' = w := by
  refine (Tryz.strings_CutPrefix (decS n) ⟨#[45]⟩ w).mono ?_
  rintro e w' ⟨rfl, rfl⟩
  refine ⟨?_, rfl⟩
  have h : Lib.hasPrefix (decS n).data.toList (⟨#[45]⟩ : ByteArray).data.toList = false := by rw [decS_list]; exact pre_dec n
  unfold Lib.trimPrefix
  rw [h, if_neg (by simp), decS_list]
  rfl
theorem decS_digs (n : Nat) : Big.digs (decS n).data.toList := by rw [decS_list]; exact Big.dec_digit n
set_option maxRecDepth 100000 in
set_option maxHeartbeats 2000000 in
theorem quick_any (n d : Nat) (hd : d ≤ 18) (w : World) : Calls Tryz.prog 76 #[.string (decS n), .int .i64 (d : Int)] w fun e w' => e = .returned (.tuple #[.int .i64 (if Lib.nDigits n ≤ d then (n : Int) else 0), .bool (decide (Lib.nDigits n ≤ d))]) ∧ Below w.heap.size w w' := by
  have HCP := Lib.hid (fun W => cutD_any n W)
  have hDl := decS_list n
  have hDd := decS_digs n
  have hsz := decS_size n
  have hDv := Big.decV_dec n
  obtain ⟨D, hD⟩ : ∃ D, Lib.decDigits n = D := ⟨_, rfl⟩
  rw [hD] at hDv hDl
  rw [hDl] at hDd
  have hln : D.length = Lib.nDigits n := by rw [← hD, Lib.decDigits_length]
  obtain ⟨L, hL⟩ : ∃ L, Lib.nDigits n = L := ⟨_, rfl⟩
  rw [hL] at hsz hln ⊢
  obtain ⟨s, hs⟩ : ∃ s, decS n = s := ⟨_, rfl⟩
  rw [hs] at HCP hDl hsz ⊢
  have HDL := Lib.hid hDl
  have HDD := Lib.hid hDd
  have HLN := Lib.hid hln
  have HDV := Lib.hid hDv
  have HSZ := Lib.hid hsz
  have hBW : Below w.heap.size w w := B0 w
  by_cases hld : L ≤ d
  · have hldI : ¬ (d : Int) < L := by omega
    have hcv := conv_bytes w s
    obtain ⟨cp, hcp⟩ : ∃ cp, grownCap w s.size 0 5 = cp := ⟨_, rfl⟩
    rw [hcp, hsz] at hcv
    rw [if_pos hld, decide_eq_true hld]
    clear hD hDl hDd hln hDv hs hcp hL
    go_enter Tryz.func76, Tryz.ntmps76
    go_upto_region 6 with (go_at_call 78; (with_reducible refine ((HCP.out _).mono ?_)); rintro e w2 ⟨rfl, e2⟩; obtain rfl : w = w2 := e2.symm)
    obtain ⟨w2, hw2⟩ : ∃ w2, Lib.bytesWorld w 5 s = w2 := ⟨_, rfl⟩
    have hcell : ∀ k (hk : k < D.length), w2.cell? ⟨w.heap.size, k, none⟩ = some (.int .u8 (D[k].toNat : Int)) := fun k hk => by
      rw [← hw2, Lib.bytesWorld_cell w 5 s k (by rw [HSZ.out, ← HLN.out]; exact hk), HDL.out]
      congr 3
      rw [List.getD_eq_getElem?_getD, List.getElem?_eq_getElem hk]
      rfl
    have hb2 : Below w.heap.size w w2 := by rw [← hw2]; exact below_bw w _ s
    have HCE := Lib.hid hcell
    have HB2 := Lib.hid hb2
    rw [hw2]
    clear hw2 hcell hb2 hcv hBW hsz
    go_loopg [8, 23] (L + 1) (fun gg s8 s23 wr => ∃ k : Nat, k ≤ L ∧ L - k ≤ gg ∧ s23 = .int .i64 k ∧ s8 = .int .i64 (Big.decV (D.take k) : Nat) ∧ wr = w2)
    case atStart => exact ⟨0, by omega, by omega, rfl, rfl, rfl⟩
    case round =>
      obtain ⟨k, hk, hgk, rfl, rfl, rfl⟩ := hrel
      obtain ⟨w2, rfl⟩ : ∃ w2 : World, w2 = wr := ⟨_, rfl⟩
      obtain ⟨lv, hlv⟩ : ∃ lv, Big.decV (D.take k) = lv := ⟨_, rfl⟩
      have hdt : Big.digs (D.take k) := fun c hc => HDD.out c (List.mem_of_mem_take hc)
      have hlvl := Big.decV_lt hdt
      rw [hlv, List.length_take, HLN.out, Nat.min_eq_left hk] at hlvl
      have hp9 : 10 ^ k ≤ 10 ^ 18 := Nat.pow_le_pow_right (by decide) (by omega)
      have hlv9 : lv < 1000000000000000000 := Nat.lt_of_lt_of_le hlvl hp9
      rw [hlv]
      by_cases hkt : k < L
      · have hktI : (k : Int) < L := by omega
        have hp17 : 10 ^ k ≤ 10 ^ 17 := Nat.pow_le_pow_right (by decide) (by omega)
        have hlv17 : lv < 100000000000000000 := Nat.lt_of_lt_of_le hlvl hp17
        have hkc : k < D.length := by rw [HLN.out]; exact hkt
        have p1 := HCE.out k hkc
        have hdg := HDD.out D[k] (List.getElem_mem hkc)
        have hnx := Big.decV_take_next hkc
        rw [hlv] at hnx
        obtain ⟨cb, hcb⟩ : ∃ cb, D[k].toNat = cb := ⟨_, rfl⟩
        rw [hcb] at p1 hdg hnx
        have HNX := Lib.hid hnx
        have hd1 : (48 : Int) ≤ cb := by omega
        have hd2 : (cb : Int) ≤ 57 := by omega
        have hlvI : (lv : Int) < 100000000000000000 := by omega
        clear hlv hdt hlvl hp9 hp17 hlv9 hnx hcb hdg
        go_wp2_with fail
        go_roundg (L - (k + 1))
        case measure => omega
        case rel => exact ⟨k + 1, by omega, by omega, by go_num, by rw [HNX.out]; congr 1; omega, rfl⟩
      · obtain rfl : k = L := by omega
        have hktI : ¬ (k : Int) < k := by omega
        rw [List.take_of_length_le (by rw [HLN.out]; exact Nat.le_refl _), HDV.out] at hlv
        subst hlv
        clear hdt hlvl hp9
        go_wp2_with fail
        refine bodyPost_ret (v := .tuple #[.int .i64 n, .bool true]) (by simp [results, Tryz.f76, go_sem]) rfl ?_
        exact ⟨rfl, HB2.out⟩
  · have hldI : (d : Int) < L := by omega
    rw [if_neg hld, decide_eq_false hld]
    clear hD hDl hDd hln hDv hs hL
    go_enter Tryz.func76, Tryz.ntmps76
    go_wp2_with (go_at_call 78; (with_reducible refine ((HCP.out _).mono ?_)); rintro e w2 ⟨rfl, e2⟩; obtain rfl : w = w2 := e2.symm)
    refine bodyPost_ret (v := .tuple #[.int .i64 0, .bool false]) (by simp [results, Tryz.f76, go_sem]) rfl ?_
    exact ⟨rfl, hBW⟩
set_option maxRecDepth 100000 in
theorem split_any (n : Nat) (hn : Lib.nDigits n ≤ 100000) (w : World) : Calls Tryz.prog 71 #[.string (decS n)] w fun e w' => (∃ v, e = .returned (.tuple #[v, .bool false]) ∧ SlU (fun b => w.heap.size ≤ b ∧ b < w'.heap.size) w' v (Big.lim n)) ∧ Below w.heap.size w w' := by
  have HCP := Lib.hid (fun W => cutD_any n W)
  have HLO := Lib.hid (fun W => long_any (decS n) (decS_digs n) (by rw [decS_size]; exact hn) W)
  rw [decS_list, Big.decV_dec] at HLO
  obtain ⟨s, hs⟩ : ∃ s, decS n = s := ⟨_, rfl⟩
  rw [hs] at HCP HLO ⊢
  clear hs hn
  go_enter Tryz.func71, Tryz.ntmps71
  go_wp2_with (first | (go_at_call 78; (with_reducible refine ((HCP.out _).mono ?_)); rintro e w2 ⟨rfl, e2⟩; obtain rfl : w = w2 := e2.symm) | (go_at_call 82; (with_reducible refine ((HLO.out _).mono ?_)); rintro e w3 ⟨⟨v3, rfl, hv3⟩, hb3⟩; have HV3 := Lib.hid hv3; have HB3 := Lib.hid hb3; clear hv3 hb3))
  refine bodyPost_ret (v := .tuple #[v3, .bool false]) (by simp [results, Tryz.f71, go_sem]) rfl ?_
  exact ⟨⟨v3, rfl, HV3.out⟩, HB3.out⟩
set_option maxRecDepth 100000 in
theorem signed_any (F : Nat → Prop) (v : Value) (n : Nat) (hlim : (Big.lim n).length ≤ 100000) (w : World) (hF : ∀ b, F b → b < w.heap.size) (hv : SlU F w v (Big.lim n)) (hT : TabP w) :
    Calls Tryz.prog 74 #[v, .bool false] w fun e w' => e = .returned (.string (decS n)) ∧ Below w.heap.size w w' := by
  have HTX := Lib.hid (text_any F v n hlim w hF hv hT)
  obtain ⟨s, hs⟩ : ∃ s, decS n = s := ⟨_, rfl⟩
  rw [hs] at HTX ⊢
  clear hs hlim hF hv hT
  go_enter Tryz.func74, Tryz.ntmps74
  go_wp2_with (go_at_call 72; (with_reducible refine (HTX.out.mono ?_)); rintro e w3 ⟨rfl, hb3⟩; have HB3 := Lib.hid hb3; clear hb3)
  go_ret
  exact ⟨rfl, HB3.out⟩
end Go.Proofs.YtnfpjcjlapljjaaGreatDoor
