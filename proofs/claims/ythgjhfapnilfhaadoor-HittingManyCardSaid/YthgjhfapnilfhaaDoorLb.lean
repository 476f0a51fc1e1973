/- Walks over integer: the decimal text of an int; a listed table of integers. -/
import Derived.Test.YthgjhfapnilfhaaDoorSf
import Derived.Test.YthgjhfapnilfhaaDoorOpen
import Derived.Test.YthgjhfapnilfhaaDoorHM
import Derived.Lib.LaidTab
namespace Go.Proofs.YthgjhfapnilfhaaDoor
open Go Go.RowKit
theorem below_grow (w : World) (k : Nat) (os : Array Obj) : Below w.heap.size w (Sort.grow (w.drewN k) os) :=
  ⟨rfl, rfl, rfl, by rw [Sort.size_grow]; exact Nat.le_add_right _ _, fun i hi => Sort.heap_grow_old (w.drewN k) os hi⟩
theorem globalIdx {P : Program} {w : World} {n : String} {cs : Array Value} (h : w.var? P n = some cs) : ∃ g, P.globalNamed n = some g ∧ g < w.heap.size := by
  unfold World.var? at h
  obtain ⟨g, hg, h⟩ := Option.bind_eq_some_iff.1 h
  refine ⟨g, hg, ?_⟩
  rcases Nat.lt_or_ge g w.heap.size with hlt | hge
  · exact hlt
  · rw [Array.getElem?_eq_none hge] at h; cases h
theorem tabIs_below {P : Program} {w w' : World} {n : String} {k : IntKind} {zs : List Int} (h : Lib.TabIs P w n k zs) (hb : Below w.heap.size w w') : Lib.TabIs P w' n k zs := by
  obtain ⟨g, hg, hl⟩ := globalIdx h
  unfold Lib.TabIs World.var? at h ⊢
  rw [hg] at h ⊢
  simp only [Option.bind_some] at h ⊢
  rw [hb.block g hl]; exact h
theorem tabIs_of_laid {P : Program} {W : World} {k : IntKind} {L : List (String × DataW Unit)} {n : String} {vals : List Int} {g T te len : Nat} (h : laidMet P L W) (hm : (n, .agg (vals.map fun x => .lit (.int k x))) ∈ L) (hg : P.globalNamed n = some g) (hT : (P.globals[g]?).map (·.type) = some T)
    (ht : P.underlying T = some (.array len te)) (hte : P.underlying te = some (.int k)) (hc : P.cellsOf te = 1) (hl : P.cellsOf T = vals.length) : Lib.TabIs P W n k vals := by
  obtain ⟨ps, hps, _⟩ := h
  obtain ⟨g', t', cs, f, q, hg', ht', hv, hd⟩ := laid_mem hps hm
  obtain rfl := Option.some.inj (hg.symm.trans hg')
  obtain rfl := Option.some.inj (hT.symm.trans ht')
  have h1 := table_cells ht hte hc hd
  obtain ⟨_, _, _, _, hlen, _⟩ := DataW.trod_array ht hd
  unfold Lib.TabIs
  rw [hv]
  congr 1
  apply Array.toList_inj.1
  rw [List.toList_toArray]
  apply List.ext_getElem?
  intro j
  rcases Nat.lt_or_ge j vals.length with hj | hj
  · rw [h1 j hj]; simp [hj]
  · rw [List.getElem?_eq_none (by omega), List.getElem?_eq_none (by simpa using hj)]
/-- The table of Itoa. -/
def TabP (w : World) : Prop := Lib.TabIs Tryd.prog w "internal/strconv.uint64pow10" .u64 Lib.pow10Tab
theorem TabP.below {w w' : World} (h : TabP w) (hb : Below w.heap.size w w') : TabP w' := tabIs_below h hb
/-- The decimal text of a number. -/
def itoaS (n : Nat) : ByteArray := ⟨(Lib.itoa (n : Int)).toArray⟩
theorem itoa_any (n : Nat) (hn : n ≤ 1000000000) (w : World) (hT : TabP w) : Calls Tryd.prog 58 #[.int .i64 n] w fun e w' => e = .returned (.string (itoaS n)) ∧ Below w.heap.size w w' :=
  (Tryd.strconv_Itoa (n : Int) (by omega) (by omega) w hT).mono fun _ _ ⟨he, k, os, hw⟩ => ⟨he, by rw [hw]; exact below_grow w k os⟩
set_option maxHeartbeats 1000000 in
theorem of_any (n : Nat) (hn : n ≤ 1000000000) (w : World) (hT : TabP w) : Calls Tryd.prog 52 #[.int .i64 n] w fun e w' => e = .returned (.string (itoaS n)) ∧ Below w.heap.size w w' := by
  have HI := Lib.hid (itoa_any n hn w hT)
  generalize itoaS n = s at *
  clear hT
  go_enter Tryd.func52, Tryd.ntmps52
  go_wp2_with (go_at_call 58; (with_reducible refine (HI.out.mono ?_)); rintro e w' ⟨rfl, hb⟩; have HB := Lib.hid hb; clear hb)
  go_ret
  exact ⟨rfl, HB.out⟩
set_option maxHeartbeats 1000000 in
theorem ofR_any (n : Nat) (hn : n ≤ 1000000000) (w : World) (hT : TabP w) : Calls Tryd.prog 23 #[.int .i64 n] w fun e w' => e = .returned (.string (itoaS n)) ∧ Below w.heap.size w w' := by
  have HI := Lib.hid (itoa_any n hn w hT)
  generalize itoaS n = s at *
  clear hT
  go_enter Tryd.func23, Tryd.ntmps23
  go_wp2_with (go_at_call 58; (with_reducible refine (HI.out.mono ?_)); rintro e w' ⟨rfl, hb⟩; have HB := Lib.hid hb; clear hb)
  go_ret
  exact ⟨rfl, HB.out⟩
end Go.Proofs.YthgjhfapnilfhaaDoor
