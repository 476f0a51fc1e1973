/- The statement CheckerNetworks: for every input the call returns true, and the arguments read as they did. -/
import Derived.Test.YtbcbkllahnahnaaW12
import Derived.Test.YtbcbkllahnahnaaOpen
namespace Go.Proofs.Ytbcbkllahnahnaa
open Go Go.RowKit Go.ChangeShapes Go.WideShapes
theorem Try.own : ownKnob Try.prog.godebug = none := by kernel_rfl
theorem Try.laidOut : laidOutB Try.prog = true := by kernel_rfl
theorem c5_ : Try.prog.cellsOf 5 = 1 := by kernel_rfl
theorem b5_ : Try.prog.bytesOf 5 = 1 := by kernel_rfl
theorem c47_ : Try.prog.cellsOf 47 = 1 := by kernel_rfl
theorem c49_ : Try.prog.cellsOf 49 = 3 := by kernel_rfl
theorem b49_ : Try.prog.bytesOf 49 = 32 := by kernel_rfl
theorem c25_ : Try.prog.cellsOf 25 = 5 := by kernel_rfl
theorem c22_ : Try.prog.cellsOf 22 = 1 := by kernel_rfl
theorem c23_ : Try.prog.cellsOf 23 = 2 := by kernel_rfl
theorem c27_ : Try.prog.cellsOf 27 = 4 := by kernel_rfl
theorem c3_ : Try.prog.cellsOf 3 = 1 := by kernel_rfl
theorem c4_ : Try.prog.cellsOf 4 = 1 := by kernel_rfl

section
variable {H : Type} {enc : TypeId × Value → H} {w : World}
theorem opens_u8 : Opens enc Try.prog w 5 1 ByteC := (opens_int Try.underlying5).mono fun cs y ⟨h1, h2⟩ => ⟨h1, (bounds_u8 h2).1, (bounds_u8 h2).2⟩
theorem opens_bytes : Opens enc Try.prog w 47 1 (AnySl 1 ByteC) := opens_slice Try.underlying47 c5_ (by rw [b5_]; decide) (by decide) opens_u8
theorem opens_item : Opens enc Try.prog w 49 3 (ItemC fun b => b < w.heap.size) := fun n cs x h1 h2 => by
  obtain ⟨hl, hf⟩ := opens_struct Try.underlying49 h1 h2
  rw [c49_] at hl
  match cs, hl with
  | [a, b, c], _ =>
    obtain ⟨k, hk, k0, k1⟩ := hf 0 _ _ _ rfl opens_u8
    obtain ⟨g, hg, g0, g1⟩ := hf 1 _ _ _ rfl opens_u8
    obtain ⟨l, v, hv, hs⟩ := hf 2 _ _ _ rfl opens_bytes
    simp [c5_, c47_] at hk hg hv
    subst hk; subst hg; subst hv
    exact ⟨rfl, ⟨k, g, l⟩, _, rfl, k0, k1, g0, g1, hs⟩
theorem opens_items : Opens enc Try.prog w 22 1 (AnySl 3 (ItemC fun b => b < w.heap.size)) := opens_slice Try.underlying22 c49_ (by rw [b49_]; decide) (by decide) opens_item
theorem opens_two : Opens enc Try.prog w 23 2 (fun w cs (_ : Nat → Option Int) => ∃ x y : Int, cs = [.int .u8 x, .int .u8 y] ∧ (0 ≤ x ∧ x ≤ 255) ∧ (0 ≤ y ∧ y ≤ 255)) := by
  have := opens_array (enc := enc) (w := w) Try.underlying23 c5_ opens_u8
  rw [c23_] at this
  intro n cs x h1 h2
  obtain ⟨hl, f, hf⟩ := this n cs x h1 h2
  match cs, hl with
  | [a, b], _ =>
    obtain ⟨x, _, hx, x0, x1⟩ := hf 0 (by decide)
    obtain ⟨y, _, hy, y0, y1⟩ := hf 1 (by decide)
    simp at hx hy
    subst hx; subst hy
    exact ⟨rfl, f, x, y, rfl, ⟨x0, x1⟩, y0, y1⟩
theorem opens_nets : Opens enc Try.prog w 25 5 (fun w cs (y : List Gate × List Gate) => ∃ va vb o0 o1 both, cs = [va, vb, .int .u8 o0, .int .u8 o1, .bool both] ∧ (0 ≤ o0 ∧ o0 ≤ 255) ∧ (0 ≤ o1 ∧ o1 ≤ 255) ∧ SlT (fun b => b < w.heap.size) w va y.1 ∧ SlT (fun b => b < w.heap.size) w vb y.2) := fun n cs x h1 h2 => by
  obtain ⟨hl, hf⟩ := opens_struct Try.underlying25 h1 h2
  rw [c25_] at hl
  match cs, hl with
  | [a, b, c, d, e], _ =>
    obtain ⟨la, va, ha, sa⟩ := hf 0 _ _ _ rfl opens_items
    obtain ⟨lb, vb, hb, sb⟩ := hf 1 _ _ _ rfl opens_items
    obtain ⟨_, x, y, hc, hx, hy⟩ := hf 2 _ _ _ rfl opens_two
    obtain ⟨bo, hbo⟩ := hf 3 _ _ _ rfl (opens_bool Try.underlying4)
    simp [c22_, c23_, c4_, FlagC] at ha hb hc hbo
    obtain ⟨rfl, rfl⟩ := hc
    subst ha; subst hb; subst hbo
    exact ⟨rfl, ⟨la, lb⟩, _, _, x, y, bo, rfl, hx, hy, sa, sb⟩
theorem opens_bend : Opens enc Try.prog w 27 4 (fun _ cs (y : Int) => ∃ hw_ at_ sz, cs = [.int .u8 hw_, .int .u8 at_, .int .i64 y, .int .u8 sz] ∧ (0 ≤ hw_ ∧ hw_ ≤ 255) ∧ (0 ≤ at_ ∧ at_ ≤ 255)) := fun n cs x h1 h2 => by
  obtain ⟨hl, hf⟩ := opens_struct Try.underlying27 h1 h2
  rw [c27_] at hl
  match cs, hl with
  | [a, b, c, d], _ =>
    obtain ⟨k, hk, k0, k1⟩ := hf 0 _ _ _ rfl opens_u8
    obtain ⟨g, hg, g0, g1⟩ := hf 1 _ _ _ rfl opens_u8
    obtain ⟨y, hy, _⟩ := hf 2 _ _ _ rfl (opens_int Try.underlying3)
    obtain ⟨z, hz, _⟩ := hf 3 _ _ _ rfl opens_u8
    simp [c5_, c3_] at hk hg hy hz
    subst hk; subst hg; subst hy; subst hz
    exact ⟨rfl, y, k, g, z, rfl, ⟨k0, k1⟩, g0, g1⟩
end

theorem agg_of_cells {v : Value} {t : TypeId} {P : Program} {W : World} {base : Nat} {fs : Array Field} (ht : P.underlying t = some (.struct fs)) (h : Value.okWide P W .any base t v) {l : List Value} (hl : v.cells.toList = l) : v = .agg l.toArray := by
  simp only [Value.okWide, ht] at h
  obtain ⟨cs, rfl, _⟩ := h
  subst hl
  rfl

theorem nets_walk {H : Type} {enc : TypeId × Value → H} (W : World) (base : Nat) (args : Array Value) (ds : List (DataW H)) (p : List MemPlace)
    (hval : ∀ (j : Nat) t v, Try.f3.params[j]? = some t → args[j]? = some v → Value.okWide Try.prog W .any base t v)
    (hA : DataW.TrodAll enc Try.prog W 0 (fun _ => true) true Try.f3.params.toList args.toList ds p)
    (hw : ∀ (j : Nat) t d, Try.f3.params.toList[j]? = some t → ds[j]? = some d → ∀ m ∈ d.weights Try.prog t, m ≤ reachBytes) :
    Calls Try.prog 3 args W fun e W' => e = .returned (.bool true) ∧ Below W.heap.size W W' := by
  rw [Try.params3] at hA hval hw
  obtain ⟨v0, v1, d0, d1, p0, p1, rfl, rfl, rfl, h0, h1⟩ := trodAll_two hA
  obtain ⟨_, ⟨A, B⟩, va, vb, o0, o1, both, e0, ho0, ho1, sA, sB⟩ := opens_arg opens_nets h0 (hw 0 25 d0 rfl rfl)
  obtain ⟨_, by_, hw_, at_, sz, e1, hh, hat⟩ := opens_arg opens_bend h1 (hw 1 27 d1 rfl rfl)
  have a0 := agg_of_cells Try.underlying25 (hval 0 25 v0 rfl rfl) e0
  have a1 := agg_of_cells Try.underlying27 (hval 1 27 v1 rfl rfl) e1
  subst a0; subst a1
  exact law_any va vb A B o0 o1 hw_ at_ by_ sz both ho0 ho1 hh hat W _ (fun b h => h) sA sB

theorem nets_lifted (os : Os) (started : os.Started) (H : Type) (enc : TypeId × Value → H) :
    ReturnsInHanded {} Try.checked os 3 .any (Rows.checkerNetworksSpec.pre6 enc Try.prog Try.f3 Rows.checkerNetworksRow.domain false) (Rows.checkerNetworksSpec.post enc Try.prog Try.f3 false true false false) :=
  law_lifted (C := Try.checked) Try.own started (by kernel_rfl) Try.func3
    (ChangeSpec.witness6 (enc := enc) (C := Try.checked) false ⟨#[], #[.agg #[.slice none 0 0, .slice none 0 0, .int .u8 0, .int .u8 0, .bool false], .agg #[.int .u8 0, .int .u8 0, .int .i64 0, .int .u8 0]], []⟩ 8 (by kernel_rfl) (by kernel_rfl) (by kernel_rfl) (by kernel_rfl))
    rfl (by kernel_rfl) Try.underlying4 Try.laidOut
    (fun t ht => by
      have ht' : t ∈ [25, 27] := ht
      simp only [List.mem_cons, List.not_mem_nil, or_false] at ht'
      rcases ht' with rfl | rfl
      · exact ⟨by kernel_rfl, of_decide_eq_true (by kernel_rfl)⟩
      · exact ⟨by kernel_rfl, of_decide_eq_true (by kernel_rfl)⟩)
    (fun ds hds => by
      have hds' : ds.length = 2 := hds
      match ds, hds' with
      | [d0, d1], _ => rfl)
    nets_walk

theorem checkerNetworks_holds : Rows.CheckerNetworksSaid :=
  OpenClaim.holds_of_wide 3 Try.f3 rfl rfl rfl rfl rfl rfl rfl ⟨rfl, rfl, rfl, rfl, rfl⟩ rfl rfl rfl rfl rfl (by kernel_rfl) Try.func3 (by kernel_rfl)
    (of_decide_eq_true (by kernel_rfl)) (by unfold Func.isWrapper; first | (rw [if_pos (by decide +kernel)]; kernel_rfl) | (rw [if_neg (by decide +kernel)]; exact ⟨rfl, rfl⟩))
    (fun os started H enc _ => nets_lifted os started H enc)
#print axioms checkerNetworks_holds
end Go.Proofs.Ytbcbkllahnahnaa
