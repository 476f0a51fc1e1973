/- Words for the row of the statement of checks: an action that came in. -/
import Derived.Test.YtnkjhppjjklgfaaDoorSR
namespace Go.Proofs.YtnkjhppjjklgfaaDoor
open Go Go.RowKit Go.ChangeShapes Go.WideShapes
theorem cells_string : Tryd.prog.cellsOf 9 = 1 := by kernel_rfl
theorem cells_cmp : Tryd.prog.cellsOf 58 = 2 := by kernel_rfl
theorem bytes_cmp : Tryd.prog.bytesOf 58 = 16 := by kernel_rfl
theorem cells_cmps : Tryd.prog.cellsOf 30 = 1 := by kernel_rfl
theorem cells_cpl : Tryd.prog.cellsOf 72 = 5 := by kernel_rfl
theorem bytes_cpl : Tryd.prog.bytesOf 72 = 48 := by kernel_rfl
theorem cells_cpls : Tryd.prog.cellsOf 31 = 1 := by kernel_rfl
theorem cells_act : Tryd.prog.cellsOf 34 = 3 := by kernel_rfl
section
variable {H : Type} {enc : TypeId × Value → H} {w : World}
set_option maxRecDepth 100000 in
theorem opens_cmp : Opens enc Tryd.prog w 58 2 CmpC := fun n cs x h1 h2 => by
  obtain ⟨hl, hf⟩ := opens_struct Tryd.underlying58 h1 h2
  rw [cells_cmp] at hl
  match cs, hl with
  | [a, b], _ =>
    obtain ⟨k, hk, _⟩ := hf 0 _ _ _ rfl (opens_int Tryd.underlying3)
    obtain ⟨l, hl, _⟩ := hf 1 _ _ _ rfl (opens_int Tryd.underlying3)
    simp [cells_int] at hk hl
    subst hk; subst hl
    exact ⟨rfl, (k, l), rfl⟩
theorem opens_cmps : Opens enc Tryd.prog w 30 1 (AnySl 2 CmpC) := opens_slice Tryd.underlying30 cells_cmp (by rw [bytes_cmp]; decide) (by decide) opens_cmp
set_option maxRecDepth 100000 in
theorem opens_cpl : Opens enc Tryd.prog w 72 5 CplC := fun n cs x h1 h2 => by
  obtain ⟨hl, hf⟩ := opens_struct Tryd.underlying72 h1 h2
  rw [cells_cpl] at hl
  match cs, hl with
  | [a, b, c, d, e], _ =>
    obtain ⟨s, hs, _⟩ := hf 0 _ _ _ rfl (opens_string Tryd.underlying9)
    obtain ⟨k, hk, _⟩ := hf 1 _ _ _ rfl (opens_int Tryd.underlying3)
    obtain ⟨l, hl, _⟩ := hf 2 _ _ _ rfl (opens_int Tryd.underlying3)
    obtain ⟨m, hm, _⟩ := hf 3 _ _ _ rfl (opens_int Tryd.underlying3)
    obtain ⟨q, hq⟩ := hf 4 _ _ _ rfl (opens_bool Tryd.underlying4)
    simp [cells_int, cells_string, cells_bool, FlagC] at hs hk hl hm hq
    subst hs; subst hk; subst hl; subst hm; subst hq
    exact ⟨rfl, ⟨s, k, l, m, q⟩, rfl⟩
theorem opens_cpls : Opens enc Tryd.prog w 31 1 (AnySl 5 CplC) := opens_slice Tryd.underlying31 cells_cpl (by rw [bytes_cpl]; decide) (by decide) opens_cpl
set_option maxRecDepth 100000 in
theorem opens_act : Opens enc Tryd.prog w 34 3 (fun w cs (a : Cou.Ac) => ∃ vd vc, cs = [vd, vc, .int .u64 (a.drawn : Int)] ∧ a.drawn < 2 ^ 64 ∧ AcAt (fun b => b < w.heap.size) w vd vc a) := fun n cs x h1 h2 => by
  obtain ⟨hl, hf⟩ := opens_struct Tryd.underlying34 h1 h2
  rw [cells_act] at hl
  match cs, hl with
  | [a, b, c], _ =>
    obtain ⟨dv, v, hv, hd⟩ := hf 0 _ _ _ rfl opens_cmps
    obtain ⟨cp, u, hu, hc⟩ := hf 1 _ _ _ rfl opens_cpls
    obtain ⟨dr, hr, hr2⟩ := hf 2 _ _ _ rfl opens_u64C
    simp [cells_cmps, cells_cpls, cells_u64] at hv hu hr
    subst hv; subst hu; subst hr
    exact ⟨rfl, ⟨dv, cp, dr⟩, _, _, rfl, hr2, ⟨fun _ h => h, hd, hc⟩⟩
end
end Go.Proofs.YtnkjhppjjklgfaaDoor
