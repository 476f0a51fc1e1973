/- The statement CheckerProblems: for every input the call returns true, and the arguments read as they did. -/
import Derived.Test.YtnpdoejjebgcpaaQo
import Derived.Test.YtnpdoejjebgcpaaOpen
namespace Go.Proofs.Ytnpdoejjebgcpaa
open Go Go.RowKit Go.ChangeShapes Go.WideShapes
theorem own : ownKnob Try.prog.godebug = none := by kernel_rfl
theorem laidOut : laidOutB Try.prog = true := by kernel_rfl
theorem cells_int : Try.prog.cellsOf 3 = 1 := by kernel_rfl
theorem bytes_int : Try.prog.bytesOf 3 = 8 := by kernel_rfl
theorem cells_ints : Try.prog.cellsOf 26 = 1 := by kernel_rfl
theorem cells_set : Try.prog.cellsOf 40 = 2 := by kernel_rfl
theorem bytes_set : Try.prog.bytesOf 40 = 32 := by kernel_rfl
theorem cells_sets : Try.prog.cellsOf 34 = 1 := by kernel_rfl
theorem cells_problem : Try.prog.cellsOf 36 = 2 := by kernel_rfl
theorem agg_of_cells {v : Value} {t : TypeId} {P : Program} {W : World} {base : Nat} {fs : Array Field} (ht : P.underlying t = some (.struct fs)) (h : Value.okWide P W .any base t v) {l : List Value} (hl : v.cells.toList = l) : v = .agg l.toArray := by
  simp only [Value.okWide, ht] at h
  obtain ⟨cs, rfl, _⟩ := h
  subst hl
  rfl
theorem slice_of_cells {v : Value} {t e : TypeId} {P : Program} {W : World} {base : Nat} (ht : P.underlying t = some (.slice e)) (h : Value.okWide P W .any base t v) {u : Value} (hl : v.cells.toList = [u]) : v = u := by
  simp only [Value.okWide, ht] at h
  cases v <;> simp_all [Value.cells, Cell.okWide, Cell.ok]
theorem int_of_cells {v : Value} {t : TypeId} {k : IntKind} {P : Program} {W : World} {base : Nat} (ht : P.underlying t = some (.int k)) (h : Value.okWide P W .any base t v) {u : Value} (hl : v.cells.toList = [u]) : v = u := by
  simp only [Value.okWide, ht] at h
  cases v <;> simp_all [Value.cells, Cell.okWide, Cell.ok]
section
variable {H : Type} {enc : TypeId × Value → H} {w : World}
theorem opens_ints : Opens enc Try.prog w 26 1 (AnySl 1 IntC) := opens_slice Try.underlying26 cells_int (by rw [bytes_int]; decide) (by decide) ((opens_int Try.underlying3).mono fun cs y h => h.1)
set_option maxRecDepth 100000 in
theorem opens_set : Opens enc Try.prog w 40 2 (SetC fun b => b < w.heap.size) := fun n cs x h1 h2 => by
  obtain ⟨hl, hf⟩ := opens_struct Try.underlying40 h1 h2
  rw [cells_set] at hl
  match cs, hl with
  | [a, b], _ =>
    obtain ⟨l, v, hv, hs⟩ := hf 0 _ _ _ rfl opens_ints
    obtain ⟨k, hk, _⟩ := hf 1 _ _ _ rfl (opens_int Try.underlying3)
    simp [cells_int, cells_ints] at hk hv
    subst hk; subst hv
    exact ⟨rfl, (l, k), _, rfl, hs⟩
theorem opens_sets : Opens enc Try.prog w 34 1 (AnySl 2 (SetC fun b => b < w.heap.size)) := opens_slice Try.underlying34 cells_set (by rw [bytes_set]; decide) (by decide) opens_set
set_option maxRecDepth 100000 in
theorem opens_problem : Opens enc Try.prog w 36 2 (fun w cs (y : Int × List (List Int × Int)) => ∃ v, cs = [.int .i64 y.1, v] ∧ SlS (fun b => b < w.heap.size) w v y.2) := fun n cs x h1 h2 => by
  obtain ⟨hl, hf⟩ := opens_struct Try.underlying36 h1 h2
  rw [cells_problem] at hl
  match cs, hl with
  | [a, b], _ =>
    obtain ⟨k, hk, _⟩ := hf 0 _ _ _ rfl (opens_int Try.underlying3)
    obtain ⟨l, v, hv, hs⟩ := hf 1 _ _ _ rfl opens_sets
    simp [cells_int, cells_sets] at hk hv
    subst hk; subst hv
    exact ⟨rfl, (k, l), _, rfl, hs⟩
end
set_option maxRecDepth 100000 in
theorem problems_walk {H : Type} {enc : TypeId × Value → H} (W : World) (base : Nat) (args : Array Value) (ds : List (DataW H)) (p : List MemPlace)
    (hval : ∀ (j : Nat) t v, Try.f4.params[j]? = some t → args[j]? = some v → Value.okWide Try.prog W .any base t v)
    (hA : DataW.TrodAll enc Try.prog W 0 (fun _ => true) true Try.f4.params.toList args.toList ds p)
    (hw : ∀ (j : Nat) t d, Try.f4.params.toList[j]? = some t → ds[j]? = some d → ∀ m ∈ d.weights Try.prog t, m ≤ reachBytes) :
    Calls Try.prog 4 args W fun e W' => e = .returned (.bool true) ∧ Below W.heap.size W W' := by
  rw [Try.params4] at hA hval hw
  obtain ⟨v0, v1, v2, d0, d1, d2, p0, p1, p2, rfl, rfl, rfl, h0, h1, h2⟩ := trodAll_three hA
  obtain ⟨_, ⟨n, ls⟩, vs, e0, hs⟩ := opens_arg opens_problem h0 (hw 0 36 d0 rfl rfl)
  obtain ⟨_, l, vl, e1, hl⟩ := opens_arg opens_ints h1 (hw 1 26 d1 rfl rfl)
  obtain ⟨_, cost, e2, _⟩ := opens_arg (opens_int Try.underlying3) h2 (hw 2 3 d2 rfl rfl)
  have a0 := agg_of_cells Try.underlying36 (hval 0 36 v0 rfl rfl) e0
  have a1 := slice_of_cells Try.underlying26 (hval 1 26 v1 rfl rfl) e1
  have a2 := int_of_cells Try.underlying3 (hval 2 3 v2 rfl rfl) e2
  subst a0; subst a1; subst a2
  exact law_problems n cost vs v1 ls l W _ _ (fun b h => h) (fun b h => h) hs hl
set_option maxRecDepth 100000 in
theorem problems_lifted (os : Os) (started : os.Started) (H : Type) (enc : TypeId × Value → H) :
    ReturnsInHanded {} Try.checked os 4 .any (Rows.checkerProblemsSpec.pre6 enc Try.prog Try.f4 Rows.checkerProblemsRow.domain false) (Rows.checkerProblemsSpec.post enc Try.prog Try.f4 false true false false) :=
  law_lifted (C := Try.checked) own started (by kernel_rfl) Try.func4
    (ChangeSpec.witness6 (enc := enc) (C := Try.checked) false ⟨#[], #[.agg #[.int .i64 0, .slice none 0 0], .slice none 0 0, .int .i64 0], []⟩ 8 (by kernel_rfl) (by kernel_rfl) (by kernel_rfl) (by kernel_rfl))
    rfl (by kernel_rfl) Try.underlying4 laidOut
    (fun t ht => by
      have ht' : t ∈ [36, 26, 3] := ht
      simp only [List.mem_cons, List.not_mem_nil, or_false] at ht'
      rcases ht' with rfl | rfl | rfl
      all_goals exact ⟨by kernel_rfl, of_decide_eq_true (by kernel_rfl)⟩)
    (fun ds hds => by
      have hds' : ds.length = 3 := hds
      match ds, hds' with
      | [_, _, _], _ => rfl)
    problems_walk
theorem checkerProblems_holds : Rows.CheckerProblemsSaid :=
  OpenClaim.holds_of_wide 4 Try.f4 rfl rfl rfl rfl rfl rfl rfl ⟨rfl, rfl, rfl, rfl, rfl⟩ rfl rfl rfl rfl rfl (by kernel_rfl) Try.func4 (by kernel_rfl)
    (of_decide_eq_true (by kernel_rfl)) (by unfold Func.isWrapper; first | (rw [if_pos (by decide +kernel)]; kernel_rfl) | (rw [if_neg (by decide +kernel)]; exact ⟨rfl, rfl⟩))
    (fun os started H enc _ => problems_lifted os started H enc)
#print axioms checkerProblems_holds
end Go.Proofs.Ytnpdoejjebgcpaa
