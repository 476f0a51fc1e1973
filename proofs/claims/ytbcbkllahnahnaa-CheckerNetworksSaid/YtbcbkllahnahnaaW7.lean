/- Walks: the example of the statement's known. -/
import Derived.Test.YtbcbkllahnahnaaW5
namespace Go.Proofs.Ytbcbkllahnahnaa
open Go Go.RowKit

def netA : Net := ⟨[⟨1, 0, []⟩, ⟨1, 1, []⟩, ⟨3, 0, [0, 1]⟩], [2]⟩
def netB : Net := ⟨[⟨1, 0, []⟩, ⟨1, 1, []⟩, ⟨2, 0, [0]⟩, ⟨2, 0, [1]⟩, ⟨4, 0, [2, 3]⟩, ⟨2, 0, [4]⟩], [5]⟩

/-- A slice over a block that is known whole. -/
theorem Sl.of_blk {α : Type} {F : Nat → Prop} {k : Nat} {R : World → List Value → α → Prop} {w : World} {b : Nat} {t : TypeId} {l : List α} (cs : List (List Value)) (hb : w.heap[b]? = some (.cells cs.flatten.toArray t (0, 0))) (hF : F b) (hl : l.length ≤ 1000000)
    (hcl : cs.length = l.length) (hR : ∀ i (hi : i < l.length), ∃ c, cs[i]? = some c ∧ c.length = k ∧ R w c l[i]) (hk : cs.flatten.length = l.length * k) : Sl F k R w (.slice (some ⟨b, 0, none⟩) l.length l.length) l := by
  refine Sl.of_own (base := b) (e := t) (n := l.length) (xs := cs.flatten) ⟨hk, .inr ⟨b, l.length, cs.flatten.toArray, rfl, Nat.le_refl _, hb, Nat.le_refl _, by unfold maxLen; omega, by simpa using hk, ?_⟩⟩ rfl (by omega) rfl hcl hR (fun c h1 h2 h3 => by simp [Value.ownBlock] at h3; subst h3; exact hF)
  simp only [List.toList_toArray]
  rw [← hk, List.take_length]

theorem heap_push (w : World) (o : Obj) : (w.alloc o).heap = w.heap.push o := rfl
theorem ints_blk {F : Nat → Prop} {w : World} {b : Nat} (l : List Int) (hb : w.heap[b]? = some (.cells (l.map (Value.int .i64)).toArray 3 (0, 0))) (hF : F b) (hl : l.length ≤ 1000000) : SlI F w (.slice (some ⟨b, 0, none⟩) l.length l.length) l := by
  have hf : ∀ l : List Int, (l.map fun x => [Value.int .i64 x]).flatten = l.map (Value.int .i64) := fun l => by
    induction l with
    | nil => rfl
    | cons x l ih => simp only [List.map_cons, List.flatten_cons, ih]; rfl
  exact Sl.of_blk (l.map fun x => [.int .i64 x]) (by rw [hf]; exact hb) hF hl (by simp) (fun i hi => ⟨[.int .i64 l[i]], by simp [hi], rfl, rfl⟩) (by rw [hf]; simp)

theorem heap_alloc_at (w : World) (o : Obj) (b : Nat) (h : b = w.heap.size) : (w.alloc o).heap[b]? = some o := by subst h; exact heap_alloc_new w o
theorem netA_at {w W : World} (s : w.heap.size + 3 < W.heap.size) (h1 : W.heap[w.heap.size + 1]? = some (.cells #[.int .i64 0, .int .i64 1] 3 (0, 0)))
    (h2 : W.heap[w.heap.size + 1 + 1]? = some (.cells #[.int .i64 1, .int .i64 0, .slice none 0 0, .int .i64 1, .int .i64 1, .slice none 0 0, .int .i64 3, .int .i64 0, .slice (some ⟨w.heap.size + 1, 0, none⟩) 2 2] 38 (0, 0)))
    (h3 : W.heap[w.heap.size + 1 + 1 + 1]? = some (.cells #[.int .i64 2] 3 (0, 0))) : NetAt (New w.heap.size W.heap.size) W (.slice (some ⟨w.heap.size + 1 + 1, 0, none⟩) 3 3) (.slice (some ⟨w.heap.size + 1 + 1 + 1, 0, none⟩) 1 1) netA := by
  refine ⟨?_, ints_blk [2] h3 ⟨by omega, by omega⟩ (by decide)⟩
  refine Sl.of_blk (l := netA.gates) (t := 38) [[.int .i64 1, .int .i64 0, .slice none 0 0], [.int .i64 1, .int .i64 1, .slice none 0 0], [.int .i64 3, .int .i64 0, .slice (some ⟨w.heap.size + 1, 0, none⟩) 2 2]] h2 ⟨by omega, by omega⟩ (by decide) rfl (fun i hi => ?_) rfl
  have hi' : i < 3 := hi
  match i, hi' with
  | 0, _ => exact ⟨_, rfl, rfl, _, rfl, Sl.nil_⟩
  | 1, _ => exact ⟨_, rfl, rfl, _, rfl, Sl.nil_⟩
  | 2, _ => exact ⟨_, rfl, rfl, _, rfl, ints_blk [0, 1] h1 ⟨by omega, by omega⟩ (by decide)⟩
theorem netB_at {w W : World} (s : w.heap.size + 6 < W.heap.size) (h1 : W.heap[w.heap.size + 1]? = some (.cells #[.int .i64 0] 3 (0, 0))) (h2 : W.heap[w.heap.size + 1 + 1]? = some (.cells #[.int .i64 1] 3 (0, 0)))
    (h3 : W.heap[w.heap.size + 1 + 1 + 1]? = some (.cells #[.int .i64 2, .int .i64 3] 3 (0, 0))) (h4 : W.heap[w.heap.size + 1 + 1 + 1 + 1]? = some (.cells #[.int .i64 4] 3 (0, 0)))
    (h5 : W.heap[w.heap.size + 1 + 1 + 1 + 1 + 1]? = some (.cells #[.int .i64 1, .int .i64 0, .slice none 0 0, .int .i64 1, .int .i64 1, .slice none 0 0, .int .i64 2, .int .i64 0, .slice (some ⟨w.heap.size + 1, 0, none⟩) 1 1, .int .i64 2, .int .i64 0, .slice (some ⟨w.heap.size + 1 + 1, 0, none⟩) 1 1,
      .int .i64 4, .int .i64 0, .slice (some ⟨w.heap.size + 1 + 1 + 1, 0, none⟩) 2 2, .int .i64 2, .int .i64 0, .slice (some ⟨w.heap.size + 1 + 1 + 1 + 1, 0, none⟩) 1 1] 38 (0, 0)))
    (h6 : W.heap[w.heap.size + 1 + 1 + 1 + 1 + 1 + 1]? = some (.cells #[.int .i64 5] 3 (0, 0))) :
    NetAt (New w.heap.size W.heap.size) W (.slice (some ⟨w.heap.size + 1 + 1 + 1 + 1 + 1, 0, none⟩) 6 6) (.slice (some ⟨w.heap.size + 1 + 1 + 1 + 1 + 1 + 1, 0, none⟩) 1 1) netB := by
  refine ⟨?_, ints_blk [5] h6 ⟨by omega, by omega⟩ (by decide)⟩
  refine Sl.of_blk (l := netB.gates) (t := 38) [[.int .i64 1, .int .i64 0, .slice none 0 0], [.int .i64 1, .int .i64 1, .slice none 0 0], [.int .i64 2, .int .i64 0, .slice (some ⟨w.heap.size + 1, 0, none⟩) 1 1], [.int .i64 2, .int .i64 0, .slice (some ⟨w.heap.size + 1 + 1, 0, none⟩) 1 1],
    [.int .i64 4, .int .i64 0, .slice (some ⟨w.heap.size + 1 + 1 + 1, 0, none⟩) 2 2], [.int .i64 2, .int .i64 0, .slice (some ⟨w.heap.size + 1 + 1 + 1 + 1, 0, none⟩) 1 1]] h5 ⟨by omega, by omega⟩ (by decide) rfl (fun i hi => ?_) rfl
  have hi' : i < 6 := hi
  match i, hi' with
  | 0, _ => exact ⟨_, rfl, rfl, _, rfl, Sl.nil_⟩
  | 1, _ => exact ⟨_, rfl, rfl, _, rfl, Sl.nil_⟩
  | 2, _ => exact ⟨_, rfl, rfl, _, rfl, ints_blk [0] h1 ⟨by omega, by omega⟩ (by decide)⟩
  | 3, _ => exact ⟨_, rfl, rfl, _, rfl, ints_blk [1] h2 ⟨by omega, by omega⟩ (by decide)⟩
  | 4, _ => exact ⟨_, rfl, rfl, _, rfl, ints_blk [2, 3] h3 ⟨by omega, by omega⟩ (by decide)⟩
  | 5, _ => exact ⟨_, rfl, rfl, _, rfl, ints_blk [4] h4 ⟨by omega, by omega⟩ (by decide)⟩

set_option maxRecDepth 100000 in
set_option maxHeartbeats 1000000 in
theorem gatesA (w : World) : Calls Try.prog 10 #[.bool false] w fun e w' => ∃ vg vo, e = .returned (.agg #[vg, vo]) ∧ NetAt (New w.heap.size w'.heap.size) w' vg vo netA ∧ Below w.heap.size w w' := by
  go_enter Try.func10, Try.ntmps10
  go_wp2
  refine bodyPost_ret (v := .agg #[.slice (some ⟨w.heap.size + 1 + 1, 0, none⟩) 3 3, .slice (some ⟨w.heap.size + 1 + 1 + 1, 0, none⟩) 1 1]) (by simp [results, Try.results10, go_sem]) rfl ?_
  refine ⟨_, _, rfl, netA_at (by simp) ?_ ?_ ?_, Ba (Ba (Ba (Ba (B0 w) _) _) _) _⟩
  all_goals repeat (first | exact heap_alloc_at _ _ _ (by simp) | rw [Below.heap_alloc _ _ _ (by simp)])

set_option maxRecDepth 100000 in
set_option maxHeartbeats 1000000 in
theorem gatesB (w : World) : Calls Try.prog 10 #[.bool true] w fun e w' => ∃ vg vo, e = .returned (.agg #[vg, vo]) ∧ NetAt (New w.heap.size w'.heap.size) w' vg vo netB ∧ Below w.heap.size w w' := by
  go_enter Try.func10, Try.ntmps10
  go_wp2
  refine bodyPost_ret (v := .agg #[.slice (some ⟨w.heap.size + 1 + 1 + 1 + 1 + 1, 0, none⟩) 6 6, .slice (some ⟨w.heap.size + 1 + 1 + 1 + 1 + 1 + 1, 0, none⟩) 1 1]) (by simp [results, Try.results10, go_sem]) rfl ?_
  refine ⟨_, _, rfl, netB_at (by simp) ?_ ?_ ?_ ?_ ?_ ?_, Ba (Ba (Ba (Ba (Ba (Ba (Ba (B0 w) _) _) _) _) _) _) _⟩
  all_goals repeat (first | exact heap_alloc_at _ _ _ (by simp) | rw [Below.heap_alloc _ _ _ (by simp)])

theorem sameAB : sameF 2 netA netB = true := by decide +kernel
theorem sameAB1 : sameF 1 netA netB = false := by decide +kernel

set_option maxRecDepth 100000 in
set_option maxHeartbeats 1000000 in
theorem valid_none (b : Nat) (w : World) (hb : b < w.heap.size) (hc : w.cell? ⟨b, 0, none⟩ = some (.int .i64 0)) :
    Calls Try.prog 18 #[.agg #[.slice none 0 0, .slice none 0 0, .slice none 0 0, .int .i64 0, .slice (some ⟨b, 0, none⟩) 1 1]] w fun e w' => e = .returned (.bool true) ∧ Below w.heap.size w w' := by
  go_enter Try.func18, Try.ntmps18
  go_wp2_with fail
  refine wp_loop_rounds 1 ?_
  rw [rounds_succ]
  go_wp2_with fail
  go_ret
  exact ⟨rfl, Ba (B0 w) _⟩
end Go.Proofs.Ytbcbkllahnahnaa
