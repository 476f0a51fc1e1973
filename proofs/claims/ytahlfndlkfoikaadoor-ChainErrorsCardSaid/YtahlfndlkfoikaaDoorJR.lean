/- Words for the row of the statement of errors of chains: an action that came in. -/
import Derived.Test.YtahlfndlkfoikaaDoorFR0
namespace Go.Proofs.YtahlfndlkfoikaaDoor
open Go Go.RowKit Go.ChangeShapes Go.WideShapes
theorem cells_string : Tryd.prog.cellsOf 9 = 1 := by kernel_rfl
theorem cells_cmp : Tryd.prog.cellsOf 62 = 2 := by kernel_rfl
theorem bytes_cmp : Tryd.prog.bytesOf 62 = 16 := by kernel_rfl
theorem cells_cmps : Tryd.prog.cellsOf 29 = 1 := by kernel_rfl
theorem cells_cpl : Tryd.prog.cellsOf 46 = 5 := by kernel_rfl
theorem bytes_cpl : Tryd.prog.bytesOf 46 = 48 := by kernel_rfl
theorem cells_cpls : Tryd.prog.cellsOf 30 = 1 := by kernel_rfl
theorem cells_u64 : Tryd.prog.cellsOf 31 = 1 := by kernel_rfl
theorem cells_act : Tryd.prog.cellsOf 33 = 3 := by kernel_rfl
section
variable {H : Type} {enc : TypeId × Value → H} {w : World}
def U64C (_ : World) (cs : List Value) (x : Nat) : Prop := cs = [.int .u64 (x : Int)] ∧ x < 2 ^ 64
theorem opens_u64C : Opens enc Tryd.prog w 31 1 U64C := fun n cs x h1 h2 => by
  obtain ⟨q, y, hc, hy⟩ := opens_int Tryd.underlying31 n cs x h1 h2
  have hb : 0 ≤ y ∧ y ≤ 18446744073709551615 := bounds_u64 hy
  refine ⟨q, y.toNat, ?_, by omega⟩
  rw [hc, Int.toNat_of_nonneg hb.1]
set_option maxRecDepth 100000 in
theorem opens_cmp : Opens enc Tryd.prog w 62 2 CmpC := fun n cs x h1 h2 => by
  obtain ⟨hl, hf⟩ := opens_struct Tryd.underlying62 h1 h2
  rw [cells_cmp] at hl
  match cs, hl with
  | [a, b], _ =>
    obtain ⟨k, hk, _⟩ := hf 0 _ _ _ rfl (opens_int Tryd.underlying3)
    obtain ⟨l, hl, _⟩ := hf 1 _ _ _ rfl (opens_int Tryd.underlying3)
    simp [cells_int] at hk hl
    subst hk; subst hl
    exact ⟨rfl, (k, l), rfl⟩
theorem opens_cmps : Opens enc Tryd.prog w 29 1 (AnySl 2 CmpC) := opens_slice Tryd.underlying29 cells_cmp (by rw [bytes_cmp]; decide) (by decide) opens_cmp
set_option maxRecDepth 100000 in
theorem opens_cpl : Opens enc Tryd.prog w 46 5 CplC := fun n cs x h1 h2 => by
  obtain ⟨hl, hf⟩ := opens_struct Tryd.underlying46 h1 h2
  rw [cells_cpl] at hl
  match cs, hl with
  | [a, b, c, d, e], _ =>
    obtain ⟨s, hs, _⟩ := hf 0 _ _ _ rfl (opens_string Tryd.underlying9)
    obtain ⟨k, hk, _⟩ := hf 1 _ _ _ rfl (opens_int Tryd.underlying3)
    obtain ⟨l, hl, _⟩ := hf 2 _ _ _ rfl (opens_int Tryd.underlying3)
    obtain ⟨m, hm, _⟩ := hf 3 _ _ _ rfl (opens_int Tryd.underlying3)
    obtain ⟨q, hq⟩ := hf 4 _ _ _ rfl (opens_bool Tryd.underlying4)
    simp [cells_int, cells_string, cells_bool, FlagC] at hs hk hl hm hq
    subst hs; subst hk; subst hl; subst hm; subst hq
    exact ⟨rfl, ⟨s, k, l, m, q⟩, rfl⟩
theorem opens_cpls : Opens enc Tryd.prog w 30 1 (AnySl 5 CplC) := opens_slice Tryd.underlying30 cells_cpl (by rw [bytes_cpl]; decide) (by decide) opens_cpl
set_option maxRecDepth 100000 in
theorem opens_act : Opens enc Tryd.prog w 33 3 (fun w cs (a : Cou.Ac) => ∃ vd vc, cs = [vd, vc, .int .u64 (a.drawn : Int)] ∧ a.drawn < 2 ^ 64 ∧ AcAt (fun b => b < w.heap.size) w vd vc a) := fun n cs x h1 h2 => by
  obtain ⟨hl, hf⟩ := opens_struct Tryd.underlying33 h1 h2
  rw [cells_act] at hl
  match cs, hl with
  | [a, b, c], _ =>
    obtain ⟨dv, v, hv, hd⟩ := hf 0 _ _ _ rfl opens_cmps
    obtain ⟨cp, u, hu, hc⟩ := hf 1 _ _ _ rfl opens_cpls
    obtain ⟨dr, hr, hr2⟩ := hf 2 _ _ _ rfl opens_u64C
    simp [cells_cmps, cells_cpls, cells_u64] at hv hu hr
    subst hv; subst hu; subst hr
    exact ⟨rfl, ⟨dv, cp, dr⟩, _, _, rfl, hr2, ⟨fun _ h => h, hd, hc⟩⟩
end
end Go.Proofs.YtahlfndlkfoikaaDoor
