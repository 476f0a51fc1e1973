/- Words for the rows of the statements of couplers: bits of keys, a number, sets of notes that came in. -/
import Derived.Test.YtnkjhppjjklgfaaDoorKR0
import Derived.Test.YtnkjhppjjklgfaaDoorOb
namespace Go.Proofs.YtnkjhppjjklgfaaDoor
open Go Go.RowKit Go.ChangeShapes Go.WideShapes
theorem cells_u16 : Tryd.prog.cellsOf 61 = 1 := by kernel_rfl
theorem cells_u16s : Tryd.prog.cellsOf 62 = 3 := by kernel_rfl
theorem cells_u64 : Tryd.prog.cellsOf 32 = 1 := by kernel_rfl
theorem cells_nt : Tryd.prog.cellsOf 70 = 2 := by kernel_rfl
theorem bytes_nt : Tryd.prog.bytesOf 70 = 16 := by kernel_rfl
theorem agg_of_array {v : Value} {t e : TypeId} {len : Nat} {P : Program} {W : World} {base : Nat} (ht : P.underlying t = some (.array len e)) (h : Value.okWide P W .any base t v) {l : List Value} (hl : v.cells.toList = l) : v = .agg l.toArray := by
  simp only [Value.okWide, ht] at h
  obtain ⟨cs, rfl, _⟩ := h
  subst hl
  rfl
section
variable {H : Type} {enc : TypeId × Value → H} {w : World}
/-- A cell that is a number of 16 bits. -/
def U16C (_ : World) (cs : List Value) (x : Nat) : Prop := cs = [.int .u16 (x : Int)] ∧ x < 65536
theorem opens_u16C : Opens enc Tryd.prog w 61 1 U16C := fun n cs x h1 h2 => by
  obtain ⟨q, y, hc, hy⟩ := opens_int Tryd.underlying61 n cs x h1 h2
  have hb : 0 ≤ y ∧ y ≤ 65535 := bounds_u16 hy
  refine ⟨q, y.toNat, ?_, by omega⟩
  rw [hc, Int.toNat_of_nonneg hb.1]
def U64C (_ : World) (cs : List Value) (x : Nat) : Prop := cs = [.int .u64 (x : Int)] ∧ x < 2 ^ 64
theorem opens_u64C : Opens enc Tryd.prog w 32 1 U64C := fun n cs x h1 h2 => by
  obtain ⟨q, y, hc, hy⟩ := opens_int Tryd.underlying32 n cs x h1 h2
  have hb : 0 ≤ y ∧ y ≤ 18446744073709551615 := bounds_u64 hy
  refine ⟨q, y.toNat, ?_, by omega⟩
  rw [hc, Int.toNat_of_nonneg hb.1]
def BitsC (_ : World) (cs : List Value) (x : Nat × Nat × Nat) : Prop := cs = [.int .u16 (x.1 : Int), .int .u16 (x.2.1 : Int), .int .u16 (x.2.2 : Int)] ∧ x.1 < 65536 ∧ x.2.1 < 65536 ∧ x.2.2 < 65536
theorem opens_bits : Opens enc Tryd.prog w 62 3 BitsC := fun n cs x h1 h2 => by
  obtain ⟨hl, f, hf⟩ := opens_array Tryd.underlying62 cells_u16 opens_u16C n cs x h1 h2
  rw [cells_u16s] at hl
  match cs, hl with
  | [a, b, c], _ =>
    obtain ⟨k, _, hk, hk2⟩ := hf 0 (by decide)
    obtain ⟨l, _, hl, hl2⟩ := hf 1 (by decide)
    obtain ⟨m, _, hm, hm2⟩ := hf 2 (by decide)
    simp at hk hl hm
    subst hk; subst hl; subst hm
    exact ⟨rfl, (k, l, m), rfl, hk2, hl2, hm2⟩
theorem lo_mk (l h : Nat) (hl : l < 2 ^ 64) : Nt.lo (l + h * 2 ^ 64) = l := by unfold Nt.lo; omega
theorem hi_mk (l h : Nat) (hl : l < 2 ^ 64) : Nt.hi (l + h * 2 ^ 64) = h := by unfold Nt.hi; rw [Nat.shiftRight_eq_div_pow]; omega
def NtD (w : World) (cs : List Value) (x : Nat) : Prop := NtC w cs x ∧ x < 2 ^ 128
set_option maxRecDepth 100000 in
theorem opens_nt : Opens enc Tryd.prog w 70 2 NtD := fun n cs x h1 h2 => by
  obtain ⟨hl, hf⟩ := opens_struct Tryd.underlying70 h1 h2
  rw [cells_nt] at hl
  match cs, hl with
  | [a, b], _ =>
    obtain ⟨k, hk, hk2⟩ := hf 0 _ _ _ rfl opens_u64C
    obtain ⟨l, hl, hl2⟩ := hf 1 _ _ _ rfl opens_u64C
    simp [cells_u64] at hk hl
    subst hk; subst hl
    refine ⟨rfl, k + l * 2 ^ 64, ?_, by omega⟩
    unfold NtC
    rw [lo_mk k l hk2, hi_mk k l hk2]
theorem opens_keys : Opens enc Tryd.prog w 64 1 (AnySl 2 NtD) := opens_slice Tryd.underlying64 cells_nt (by rw [bytes_nt]; decide) (by decide) opens_nt
end
theorem nts_all {F : Nat → Prop} {w : World} {v : Value} {l : List Nat} (h : Sl F 2 NtD w v l) : SlK F w v l ∧ ∀ x ∈ l, x < 2 ^ 128 := by
  refine ⟨Sl.monoR h fun cs x hx => hx.1, fun s hs => ?_⟩
  obtain ⟨i, hi, rfl⟩ := List.getElem_of_mem hs
  obtain ⟨A, c, _, _, _, hat⟩ := h
  obtain ⟨_, _, _, _, _, hr, _⟩ := hat i hi
  exact hr.2
end Go.Proofs.YtnkjhppjjklgfaaDoor
