/- Words for the row of CheckerPlays: divisions and sets of notes that came in. -/
import Derived.Test.YtnphdmiondccgaaDoorZu
import Derived.Test.YtnphdmiondccgaaDoorOpen
import Derived.Test.YtnphdmiondccgaaDoorCards
import Derived.Test.YtnphdmiondccgaaDoorTie
namespace Go.Proofs.YtnphdmiondccgaaDoor
open Go Go.RowKit Go.ChangeShapes Go.WideShapes
theorem own : ownKnob Tryd.prog.godebug = none := by kernel_rfl
theorem laidOut : laidOutB Tryd.prog = true := by kernel_rfl
theorem cells_u8 : Tryd.prog.cellsOf 5 = 1 := by kernel_rfl
theorem cells_bool : Tryd.prog.cellsOf 4 = 1 := by kernel_rfl
theorem cells_int : Tryd.prog.cellsOf 3 = 1 := by kernel_rfl
theorem cells_u64 : Tryd.prog.cellsOf 68 = 1 := by kernel_rfl
theorem cells_string : Tryd.prog.cellsOf 9 = 1 := by kernel_rfl
theorem cells_cmp : Tryd.prog.cellsOf 82 = 2 := by kernel_rfl
theorem cells_nt : Tryd.prog.cellsOf 87 = 2 := by kernel_rfl
theorem bytes_nt : Tryd.prog.bytesOf 87 = 16 := by kernel_rfl
theorem cells_pl : Tryd.prog.cellsOf 43 = 4 := by kernel_rfl
theorem cells_stops : Tryd.prog.cellsOf 83 = 1 := by kernel_rfl
theorem bytes_stop : 0 < Tryd.prog.bytesOf 201 := of_decide_eq_true (by kernel_rfl)
theorem cells_stop : 0 < Tryd.prog.cellsOf 201 := of_decide_eq_true (by kernel_rfl)
theorem cells_dv : Tryd.prog.cellsOf 85 = 5 := by kernel_rfl
theorem bytes_dv : 0 < Tryd.prog.bytesOf 85 := of_decide_eq_true (by kernel_rfl)
theorem agg_of_cells {v : Value} {t : TypeId} {P : Program} {W : World} {base : Nat} {fs : Array Field} (ht : P.underlying t = some (.struct fs)) (h : Value.okWide P W .any base t v) {l : List Value} (hl : v.cells.toList = l) : v = .agg l.toArray := by
  simp only [Value.okWide, ht] at h
  obtain ⟨cs, rfl, _⟩ := h
  subst hl
  rfl
theorem slice_of_cells {v : Value} {t e : TypeId} {P : Program} {W : World} {base : Nat} (ht : P.underlying t = some (.slice e)) (h : Value.okWide P W .any base t v) {u : Value} (hl : v.cells.toList = [u]) : v = u := by
  simp only [Value.okWide, ht] at h
  cases v <;> simp_all [Value.cells, Cell.okWide, Cell.ok]
section
variable {H : Type} {enc : TypeId × Value → H} {w : World}
def U64C (_ : World) (cs : List Value) (x : Nat) : Prop := cs = [.int .u64 (x : Int)] ∧ x < 2 ^ 64
theorem opens_u64C : Opens enc Tryd.prog w 68 1 U64C := fun n cs x h1 h2 => by
  obtain ⟨q, y, hc, hy⟩ := opens_int Tryd.underlying68 n cs x h1 h2
  have hb : 0 ≤ y ∧ y ≤ 18446744073709551615 := bounds_u64 hy
  refine ⟨q, y.toNat, ?_, by omega⟩
  rw [hc, Int.toNat_of_nonneg hb.1]
theorem lo_mk (l h : Nat) (hl : l < 2 ^ 64) : Nt.lo (l + h * 2 ^ 64) = l := by unfold Nt.lo; omega
theorem hi_mk (l h : Nat) (hl : l < 2 ^ 64) : Nt.hi (l + h * 2 ^ 64) = h := by unfold Nt.hi; rw [Nat.shiftRight_eq_div_pow]; omega
def NtD (w : World) (cs : List Value) (x : Nat) : Prop := NtC w cs x ∧ x < 2 ^ 128
set_option maxRecDepth 100000 in
theorem opens_nt : Opens enc Tryd.prog w 87 2 NtD := fun n cs x h1 h2 => by
  obtain ⟨hl, hf⟩ := opens_struct Tryd.underlying87 h1 h2
  rw [cells_nt] at hl
  match cs, hl with
  | [a, b], _ =>
    obtain ⟨k, hk, hk2⟩ := hf 0 _ _ _ rfl opens_u64C
    obtain ⟨l, hl, hl2⟩ := hf 1 _ _ _ rfl opens_u64C
    simp [cells_u64] at hk hl
    subst hk; subst hl
    refine ⟨rfl, k + l * 2 ^ 64, ?_, by omega⟩
    unfold NtC
    rw [lo_mk k l hk2, hi_mk k l hk2]
theorem opens_nts : Opens enc Tryd.prog w 45 1 (AnySl 2 NtD) := opens_slice Tryd.underlying45 cells_nt (by rw [bytes_nt]; decide) (by decide) opens_nt
def CpsC (_ : World) (cs : List Value) (x : Int × Int) : Prop := cs = [.int .i64 x.1, .int .i64 x.2]
set_option maxRecDepth 100000 in
theorem opens_cmp : Opens enc Tryd.prog w 82 2 CpsC := fun n cs x h1 h2 => by
  obtain ⟨hl, hf⟩ := opens_struct Tryd.underlying82 h1 h2
  rw [cells_cmp] at hl
  match cs, hl with
  | [a, b], _ =>
    obtain ⟨k, hk, _⟩ := hf 0 _ _ _ rfl (opens_int Tryd.underlying3)
    obtain ⟨l, hl, _⟩ := hf 1 _ _ _ rfl (opens_int Tryd.underlying3)
    simp [cells_int] at hk hl
    subst hk; subst hl
    exact ⟨rfl, (k, l), rfl⟩
theorem opens_stop : Opens enc Tryd.prog w 201 (Tryd.prog.cellsOf 201) (fun _ _ (_ : Unit) => True) := fun _ _ _ h1 h2 => ⟨(opens_struct Tryd.underlying201 h1 h2).1, (), trivial⟩
theorem opens_stops : Opens enc Tryd.prog w 83 1 (fun _ cs (_ : Unit) => ∃ A n c, cs = [.slice A n c]) := fun n cs x h1 h2 => by
  obtain ⟨q, y, v, hv, A, c, hs, _⟩ := opens_slice Tryd.underlying83 rfl bytes_stop cells_stop opens_stop n cs x h1 h2
  exact ⟨q, (), A, _, c, by rw [hv, hs]⟩
set_option maxRecDepth 100000 in
theorem opens_dv : Opens enc Tryd.prog w 85 5 DvC := fun n cs x h1 h2 => by
  obtain ⟨hl, hf⟩ := opens_struct Tryd.underlying85 h1 h2
  rw [cells_dv] at hl
  match cs, hl with
  | [a, b, c, d, e], _ =>
    obtain ⟨s, hs, _⟩ := hf 0 _ _ _ rfl (opens_string Tryd.underlying9)
    obtain ⟨p, hp⟩ := hf 1 _ _ _ rfl (opens_bool Tryd.underlying4)
    obtain ⟨k, hk⟩ := hf 2 _ _ _ rfl opens_cmp
    obtain ⟨l, A, m, r, hl⟩ := hf 3 _ _ _ rfl opens_stops
    simp [cells_string, cells_bool, cells_cmp, cells_stops, FlagC, CpsC] at hs hp hk hl
    obtain ⟨hk1, hk2⟩ := hk
    subst hs; subst hp; subst hk1; subst hk2; subst hl
    exact ⟨rfl, ⟨p, k.1, k.2⟩, s, A, m, r, rfl⟩
theorem opens_dvs : Opens enc Tryd.prog w 44 1 (AnySl 5 DvC) := opens_slice Tryd.underlying44 cells_dv bytes_dv (by decide) opens_dv
set_option maxRecDepth 100000 in
theorem opens_pl : Opens enc Tryd.prog w 43 4 (fun _ cs (x : Int × Int × Int × Int) => cs = [.int .i64 x.1, .int .i64 x.2.1, .int .i64 x.2.2.1, .int .i64 x.2.2.2]) := fun n cs x h1 h2 => by
  obtain ⟨hl, hf⟩ := opens_struct Tryd.underlying43 h1 h2
  rw [cells_pl] at hl
  match cs, hl with
  | [a, b, c, d], _ =>
    obtain ⟨k, hk, _⟩ := hf 0 _ _ _ rfl (opens_int Tryd.underlying3)
    obtain ⟨l, hl, _⟩ := hf 1 _ _ _ rfl (opens_int Tryd.underlying3)
    obtain ⟨m, hm, _⟩ := hf 2 _ _ _ rfl (opens_int Tryd.underlying3)
    obtain ⟨q, hq, _⟩ := hf 3 _ _ _ rfl (opens_int Tryd.underlying3)
    simp [cells_int] at hk hl hm hq
    subst hk; subst hl; subst hm; subst hq
    exact ⟨rfl, (k, l, m, q), rfl⟩
end
theorem tab64_lt {w : World} (h : Tab64 w) : 0 < w.heap.size := World.block_lt_of_cell? _ _ (h 0 (by decide))
theorem nts_all {F : Nat → Prop} {w : World} {v : Value} {l : List Nat} (h : Sl F 2 NtD w v l) : SlK F w v l ∧ ∀ x ∈ l, x < 2 ^ 128 := by
  refine ⟨Sl.monoR h fun cs x hx => hx.1, fun s hs => ?_⟩
  obtain ⟨i, hi, rfl⟩ := List.getElem_of_mem hs
  obtain ⟨A, c, _, _, _, hat⟩ := h
  obtain ⟨_, _, _, _, _, hr, _⟩ := hat i hi
  exact hr.2
end Go.Proofs.YtnphdmiondccgaaDoor
