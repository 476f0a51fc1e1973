/- How elements of organs' slices lie. -/
import Derived.Test.YtnfpjcjlapljjaaGreatDoorDc
namespace Go.Proofs.YtnfpjcjlapljjaaGreatDoor
open Go Go.RowKit Go.Shelf
theorem infoSg : (Tryz.prog.info? 89).map (fun i => (i.zero, i.size, i.bytes)) = some (some (.agg #[.int .i64 0, .int .i64 0, .slice none 0 0]), 3, 40) := by kernel_rfl
theorem elemSg : ElemN Tryz.prog 90 89 3 40 := ⟨Tryz.underlying90, by
  obtain ⟨i, hi, hz, hs, hb⟩ := info_parts infoSg
  exact ⟨i, _, hi, hz, hs, hb, rfl⟩⟩
theorem infoSt : (Tryz.prog.info? 92).map (fun i => (i.zero, i.size, i.bytes)) = some (some (.agg #[.string ⟨#[]⟩, .int .i64 0, .int .i64 0, .slice none 0 0]), 4, 56) := by kernel_rfl
theorem elemSt : ElemN Tryz.prog 78 92 4 56 := ⟨Tryz.underlying78, by
  obtain ⟨i, hi, hz, hs, hb⟩ := info_parts infoSt
  exact ⟨i, _, hi, hz, hs, hb, rfl⟩⟩
theorem infoDv : (Tryz.prog.info? 80).map (fun i => (i.zero, i.size, i.bytes)) = some (some (.agg #[.string ⟨#[]⟩, .bool false, .int .i64 0, .int .i64 0, .slice none 0 0]), 5, 64) := by kernel_rfl
theorem elemDv : ElemN Tryz.prog 37 80 5 64 := ⟨Tryz.underlying37, by
  obtain ⟨i, hi, hz, hs, hb⟩ := info_parts infoDv
  exact ⟨i, _, hi, hz, hs, hb, rfl⟩⟩
theorem infoRk : (Tryz.prog.info? 84).map (fun i => (i.zero, i.size, i.bytes)) = some (some (.agg #[.string ⟨#[]⟩, .string ⟨#[]⟩, .int .i64 0, .int .i64 0, .int .i64 0, .slice none 0 0]), 6, 80) := by kernel_rfl
theorem elemRk : ElemN Tryz.prog 36 84 6 80 := ⟨Tryz.underlying36, by
  obtain ⟨i, hi, hz, hs, hb⟩ := info_parts infoRk
  exact ⟨i, _, hi, hz, hs, hb, rfl⟩⟩
theorem infoCpl : (Tryz.prog.info? 94).map (fun i => (i.zero, i.size, i.bytes)) = some (some (.agg #[.string ⟨#[]⟩, .int .i64 0, .int .i64 0, .int .i64 0, .bool false]), 5, 48) := by kernel_rfl
theorem elemCpl : ElemN Tryz.prog 38 94 5 48 := ⟨Tryz.underlying38, by
  obtain ⟨i, hi, hz, hs, hb⟩ := info_parts infoCpl
  exact ⟨i, _, hi, hz, hs, hb, rfl⟩⟩
theorem infoU64 : (Tryz.prog.info? 42).map (fun i => (i.zero, i.size, i.bytes)) = some (some (.int .u64 0), 1, 8) := by kernel_rfl
theorem elemU64 : ElemN Tryz.prog 41 42 1 8 := ⟨Tryz.underlying41, by
  obtain ⟨i, hi, hz, hs, hb⟩ := info_parts infoU64
  exact ⟨i, _, hi, hz, hs, hb, rfl⟩⟩
theorem infoNts : (Tryz.prog.info? 97).map (fun i => (i.zero, i.size, i.bytes)) = some (some (.agg #[.int .u64 0, .int .u64 0]), 2, 16) := by kernel_rfl
end Go.Proofs.YtnfpjcjlapljjaaGreatDoor
